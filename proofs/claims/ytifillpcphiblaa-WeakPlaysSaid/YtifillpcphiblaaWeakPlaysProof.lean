/-
  The call of WeakPlays returns true for every input, and leaves all that was in memory as it was.
  Conditions: none but those of the given row.
-/
import Derived.Test.YtifillpcphiblaaWPlays
import Derived.Test.YtifillpcphiblaaCfg
import Derived.Test.YtifillpcphiblaaRows
import Derived.ProofKit
import Derived.Deep.Grids
namespace Go.Proofs.Ytifillpcphiblaa
open Go Go.Proofs Go.RowKit Go.ChangeShapes Go.WideShapes Go.ChangeAt Go.Joins Go.Deep

theorem own : ownKnob Try.prog.godebug = none := by kernel_rfl
theorem laidB : laidOutB Try.prog = true := by kernel_rfl
theorem read_ints : Try.prog.readableRec 22 = true := by kernel_rfl
theorem row_ints : 22 < Try.prog.types.size := of_decide_eq_true (by kernel_rfl)
set_option maxRecDepth 100000 in
theorem open_ints_arg {H : Type} {enc : TypeId × Value → H} {W : World} {r : Reach} {b0 : Nat} {v : Value} {d : DataW H} {p : List MemPlace}
    (hv : Value.okWide Try.prog W r b0 22 v) (h : DataW.Trod enc Try.prog W 0 (fun _ => true) true 22 v d p) : ∃ xs, SlArg W v xs := by
  obtain ⟨a, len, cap, rfl⟩ := okWide_slice Try.underlying22 hv
  obtain ⟨fuel, hf⟩ := h
  obtain ⟨sv, xs, e, hs⟩ := open_sl hf
  have e' : [Value.slice a len cap] = [sv] := e
  cases e'
  exact ⟨xs, hs⟩

set_option maxRecDepth 100000 in
theorem weakPlays_lifted (os : Os) (started : os.Started) (H : Type) (enc : TypeId × Value → H) :
    ReturnsInHanded {} Try.checked os 9 .any (Rows.weakPlaysSpec.pre6 enc Try.prog Try.f9 Rows.weakPlaysRow.domain false) (Rows.weakPlaysSpec.post enc Try.prog Try.f9 false true false false) := by
  refine returnsInHanded_of_change (C := Try.checked) own started (by kernel_rfl) Try.func9
    (ChangeSpec.witness6 (enc := enc) (C := Try.checked) false ⟨#[], #[.slice none 0 0], []⟩ 8 (by kernel_rfl) (by kernel_rfl) (by kernel_rfl) (by kernel_rfl)) ?_
  intro W base args ds gs before hval0 hW hcnd _
  have hval : ∀ (j : Nat) t v, Try.f9.params[j]? = some t → args[j]? = some v → Value.okWide Try.prog W .any base t v := hval0
  have hW' := hW
  obtain ⟨p, q, hA0, hV, rfl, hfz, hnd⟩ := hW
  have hA : DataW.TrodAll enc Try.prog W 0 (fun _ => true) true Try.f9.params.toList args.toList ds p := hA0
  rw [Try.params9] at hA hval
  obtain ⟨v0, vs0, d0, ds0, p0, q0, hargs, rfl, rfl, h0, r0⟩ := trodAll_cons hA
  obtain ⟨rfl, rfl, rfl⟩ := trodAll_nil r0
  obtain rfl : args = #[v0] := by cases args; simp_all
  obtain ⟨rfl, rfl⟩ := trodVars_none hV
  obtain ⟨xs0, z0⟩ := open_ints_arg (hval 0 _ _ rfl rfl) h0
  clear hA0 hval0
  simp only [List.append_nil, List.nil_append] at hW'
  refine (lawWeakPlays (w := W) v0 xs0 z0).mono fun e W' ⟨he, hg⟩ => ?_
  subst he
  have hb : Below W.heap.size W W' := hg.below (Nat.le_refl _) (by simp)
  have hlt : ∀ x ∈ (p0 : List MemPlace), x.block < W.heap.size := fun x hx => hW'.lt x hx
  have hargs2 : DataW.TrodAll enc Try.prog W' 0 (fun b => decide (b < W.heap.size)) true [22] [v0] [d0] (p0) := by
    have := trodAll_cons_mk (Below.trod laidB read_ints row_ints h0 hb (fun x hx => hlt x (by simp [hx]))) trodAll_mk0
    simpa using this
  exact ⟨_, rfl, [d0], [], p0, [], p0, [], hW', trodAll_cons_mk (shut_bool Try.underlying4 _) trodAll_mk0, hargs2, rfl, hb.frame _, fun h => by cases h⟩

theorem weakPlays_holds : Rows.WeakPlaysSaid :=
  OpenClaim.holds_of_wide 9 Try.f9 rfl rfl rfl rfl rfl rfl rfl ⟨rfl, rfl, rfl, rfl, rfl⟩ rfl rfl rfl rfl rfl (by kernel_rfl) Try.func9 (by kernel_rfl)
    (of_decide_eq_true (by kernel_rfl)) (by unfold Func.isWrapper; first | (rw [if_pos (by decide +kernel)]; kernel_rfl) | (rw [if_neg (by decide +kernel)]; exact ⟨rfl, rfl⟩))
    (fun os started H enc _ => weakPlays_lifted os started H enc)
#print axioms weakPlays_holds
end Go.Proofs.Ytifillpcphiblaa
