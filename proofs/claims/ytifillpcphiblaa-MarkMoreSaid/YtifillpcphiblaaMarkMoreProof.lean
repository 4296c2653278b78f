/-
  The call of MarkMore returns true for every configuration, every list of objects to be made and all lists of numbers, and leaves all that was in memory as it was.
  Conditions: none but those of the given row.
-/
import Derived.Test.YtifillpcphiblaaLMore
import Derived.Test.YtifillpcphiblaaCfgMk
import Derived.Test.YtifillpcphiblaaRows
import Derived.ProofKit
import Derived.Deep.Grids
namespace Go.Proofs.Ytifillpcphiblaa
open Go Go.Proofs Go.RowKit Go.ChangeShapes Go.WideShapes Go.ChangeAt Go.Joins Go.Deep

theorem own : ownKnob Try.prog.godebug = none := by kernel_rfl
theorem laidB : laidOutB Try.prog = true := by kernel_rfl
theorem read_cfg : Try.prog.readableRec 24 = true := by kernel_rfl
theorem row_cfg : 24 < Try.prog.types.size := of_decide_eq_true (by kernel_rfl)
theorem read_ints : Try.prog.readableRec 22 = true := by kernel_rfl
theorem row_ints : 22 < Try.prog.types.size := of_decide_eq_true (by kernel_rfl)
theorem read_mks : Try.prog.readableRec 93 = true := by kernel_rfl
theorem row_mks : 93 < Try.prog.types.size := of_decide_eq_true (by kernel_rfl)
set_option maxRecDepth 100000 in
theorem open_ints_arg {H : Type} {enc : TypeId × Value → H} {W : World} {r : Reach} {b0 : Nat} {v : Value} {d : DataW H} {p : List MemPlace}
    (hv : Value.okWide Try.prog W r b0 22 v) (h : DataW.Trod enc Try.prog W 0 (fun _ => true) true 22 v d p) : ∃ xs, SlArg W v xs := by
  obtain ⟨a, len, cap, rfl⟩ := okWide_slice Try.underlying22 hv
  obtain ⟨fuel, hf⟩ := h
  obtain ⟨sv, xs, e, hs⟩ := open_sl hf
  have e' : [Value.slice a len cap] = [sv] := e
  cases e'
  exact ⟨xs, hs⟩

set_option maxRecDepth 100000 in
theorem markMore_lifted (os : Os) (started : os.Started) (H : Type) (enc : TypeId × Value → H) :
    ReturnsInHanded {} Try.checked os 13 .any (Rows.markMoreSpec.pre6 enc Try.prog Try.f13 Rows.markMoreRow.domain false) (Rows.markMoreSpec.post enc Try.prog Try.f13 false true false false) := by
  refine returnsInHanded_of_change (C := Try.checked) own started (by kernel_rfl) Try.func13
    (ChangeSpec.witness6 (enc := enc) (C := Try.checked) false ⟨#[], #[.agg #[.int .i64 0, .int .i64 0, .int .i64 0, .int .i64 0, .int .i64 0, .int .i64 0, .slice none 0 0], .slice none 0 0, .slice none 0 0, .slice none 0 0], []⟩ 8 (by kernel_rfl) (by kernel_rfl) (by kernel_rfl) (by kernel_rfl)) ?_
  intro W base args ds gs before hval0 hW hcnd _
  have hval : ∀ (j : Nat) t v, Try.f13.params[j]? = some t → args[j]? = some v → Value.okWide Try.prog W .any base t v := hval0
  have hW' := hW
  obtain ⟨p, q, hA0, hV, rfl, hfz, hnd⟩ := hW
  have hA : DataW.TrodAll enc Try.prog W 0 (fun _ => true) true Try.f13.params.toList args.toList ds p := hA0
  rw [Try.params13] at hA hval
  obtain ⟨v0, vs0, d0, ds0, p0, q0, hargs, rfl, rfl, h0, r0⟩ := trodAll_cons hA
  obtain ⟨v1, vs1, d1, ds1, p1, q1, rfl, rfl, rfl, h1, r1⟩ := trodAll_cons r0
  obtain ⟨v2, vs2, d2, ds2, p2, q2, rfl, rfl, rfl, h2, r2⟩ := trodAll_cons r1
  obtain ⟨v3, vs3, d3, ds3, p3, q3, rfl, rfl, rfl, h3, r3⟩ := trodAll_cons r2
  obtain ⟨rfl, rfl, rfl⟩ := trodAll_nil r3
  obtain rfl : args = #[v0, v1, v2, v3] := by cases args; simp_all
  obtain ⟨rfl, rfl⟩ := trodVars_none hV
  obtain ⟨x0, x1, x2, x3, x4, x5, sv, cls, rfl, hs⟩ := open_cfg (hval 0 _ _ rfl rfl) h0
  obtain ⟨ms, hms⟩ := open_makes_arg (hval 1 _ _ rfl rfl) h1
  obtain ⟨l2, hl2⟩ := open_ints_arg (hval 2 _ _ rfl rfl) h2
  obtain ⟨l3, hl3⟩ := open_ints_arg (hval 3 _ _ rfl rfl) h3
  clear hA0 hval0
  simp only [List.append_nil] at hW'
  refine (lawMarkMore x0 x1 x2 x3 x4 x5 sv v1 v2 v3 cls ms l2 l3 W hs hms hl2 hl3).mono fun e W' ⟨he, hg⟩ => ?_
  subst he
  have hb : Below W.heap.size W W' := hg.below (Nat.le_refl _) (by simp)
  have hlt : ∀ x ∈ p0 ++ (p1 ++ (p2 ++ p3)), x.block < W.heap.size := fun x hx => hW'.lt x hx
  have hargs2 : DataW.TrodAll enc Try.prog W' 0 (fun b => decide (b < W.heap.size)) true [24, 93, 22, 22] [.agg #[.int .i64 x0, .int .i64 x1, .int .i64 x2, .int .i64 x3, .int .i64 x4, .int .i64 x5, sv], v1, v2, v3] [d0, d1, d2, d3] (p0 ++ (p1 ++ (p2 ++ p3))) := by
    have := (trodAll_cons_mk (Below.trod laidB read_cfg row_cfg h0 hb (fun x hx => hlt x (by simp [hx]))) (trodAll_cons_mk (Below.trod laidB read_mks row_mks h1 hb (fun x hx => hlt x (by simp [hx]))) (trodAll_cons_mk (Below.trod laidB read_ints row_ints h2 hb (fun x hx => hlt x (by simp [hx]))) (trodAll_cons_mk (Below.trod laidB read_ints row_ints h3 hb (fun x hx => hlt x (by simp [hx]))) trodAll_mk0))))
    simpa using this
  exact ⟨_, rfl, [d0, d1, d2, d3], [], p0 ++ (p1 ++ (p2 ++ p3)), [], p0 ++ (p1 ++ (p2 ++ p3)), [], hW', trodAll_cons_mk (shut_bool Try.underlying4 _) trodAll_mk0, hargs2, rfl, hb.frame _, fun h => by cases h⟩

theorem markMore_holds : Rows.MarkMoreSaid :=
  OpenClaim.holds_of_wide 13 Try.f13 rfl rfl rfl rfl rfl rfl rfl ⟨rfl, rfl, rfl, rfl, rfl⟩ rfl rfl rfl rfl rfl (by kernel_rfl) Try.func13 (by kernel_rfl)
    (of_decide_eq_true (by kernel_rfl)) (by unfold Func.isWrapper; first | (rw [if_pos (by decide +kernel)]; kernel_rfl) | (rw [if_neg (by decide +kernel)]; exact ⟨rfl, rfl⟩))
    (fun os started H enc _ => markMore_lifted os started H enc)
#print axioms markMore_holds
end Go.Proofs.Ytifillpcphiblaa
