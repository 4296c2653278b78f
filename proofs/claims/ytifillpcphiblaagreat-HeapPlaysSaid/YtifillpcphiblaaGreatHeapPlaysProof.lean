/-
  The call of HeapPlays returns true for every configuration and every list of acts, and leaves all that was in memory as it was.
  Conditions: none but those of the given row.
-/
import Derived.Test.YtifillpcphiblaaGreatHPlaysLaw
import Derived.Test.YtifillpcphiblaaGreatRows
import Derived.ProofKit
namespace Go.Proofs.YtifillpcphiblaaGreat
open Go Go.Proofs Go.RowKit Go.ChangeShapes Go.WideShapes Go.ChangeAt

theorem own : ownKnob Tryz.prog.godebug = none := by kernel_rfl

theorem laidB : laidOutB Tryz.prog = true := by kernel_rfl
theorem read_cfg : Tryz.prog.readableRec 24 = true := by kernel_rfl
theorem row_cfg : 24 < Tryz.prog.types.size := of_decide_eq_true (by kernel_rfl)
theorem read_acts : Tryz.prog.readableRec 25 = true := by kernel_rfl
theorem row_acts : 25 < Tryz.prog.types.size := of_decide_eq_true (by kernel_rfl)

set_option maxRecDepth 100000 in
theorem heapPlays_lifted (os : Os) (started : os.Started) (H : Type) (enc : TypeId × Value → H) :
    ReturnsInHanded {} Tryz.checked os 3 .any (Rows.heapPlaysSpec.pre6 enc Tryz.prog Tryz.f3 Rows.heapPlaysRow.domain false) (Rows.heapPlaysSpec.post enc Tryz.prog Tryz.f3 false true false false) := by
  refine returnsInHanded_of_change (C := Tryz.checked) own started (by kernel_rfl) Tryz.func3
    (ChangeSpec.witness6 (enc := enc) (C := Tryz.checked) false ⟨#[], #[.agg #[.int .i64 0, .int .i64 0, .int .i64 0, .int .i64 0, .int .i64 0, .int .i64 0, .slice none 0 0], .slice none 0 0], []⟩ 8 (by kernel_rfl) (by kernel_rfl) (by kernel_rfl) (by kernel_rfl)) ?_
  intro W base args ds gs before hval0 hW hcnd _
  have hval : ∀ (j : Nat) t v, Tryz.f3.params[j]? = some t → args[j]? = some v → Value.okWide Tryz.prog W .any base t v := hval0
  have hW' := hW
  obtain ⟨p, q, hA0, hV, rfl, hfz, hnd⟩ := hW
  have hA : DataW.TrodAll enc Tryz.prog W 0 (fun _ => true) true Tryz.f3.params.toList args.toList ds p := hA0
  rw [Tryz.params3] at hA hval
  obtain ⟨v0, vs0, d0, ds0, p0, q0, hargs, rfl, rfl, h0, r0⟩ := trodAll_cons hA
  obtain ⟨v1, vs1, d1, ds1, p1, q1, rfl, rfl, rfl, h1, r1⟩ := trodAll_cons r0
  obtain ⟨rfl, rfl, rfl⟩ := trodAll_nil r1
  obtain rfl : args = #[v0, v1] := by cases args; simp_all
  obtain ⟨rfl, rfl⟩ := trodVars_none hV
  obtain ⟨x0, x1, x2, x3, x4, x5, sv, cls, rfl, hs⟩ := open_cfg (hval 0 _ _ rfl rfl) h0
  obtain ⟨acts, ha⟩ := open_acts_arg (hval 1 _ _ rfl rfl) h1
  clear hA0 hval0
  simp only [List.append_nil] at hW'
  refine (lawHeapPlays x0 x1 x2 x3 x4 x5 sv v1 cls acts W hs ha).mono fun e W' ⟨he, hg⟩ => ?_
  subst he
  have hb : Below W.heap.size W W' := hg.below (Nat.le_refl _) (by simp)
  have hlt : ∀ x ∈ p0 ++ p1, x.block < W.heap.size := fun x hx => hW'.lt x hx
  have hargs2 : DataW.TrodAll enc Tryz.prog W' 0 (fun b => decide (b < W.heap.size)) true [24, 25] [.agg #[.int .i64 x0, .int .i64 x1, .int .i64 x2, .int .i64 x3, .int .i64 x4, .int .i64 x5, sv], v1] [d0, d1] (p0 ++ p1) := by
    have := trodAll_cons_mk (Below.trod laidB read_cfg row_cfg h0 hb (fun x hx => hlt x (by simp [hx]))) (trodAll_cons_mk (Below.trod laidB read_acts row_acts h1 hb (fun x hx => hlt x (by simp [hx]))) trodAll_mk0)
    simpa using this
  exact ⟨_, rfl, [d0, d1], [], p0 ++ p1, [], p0 ++ p1, [], hW', trodAll_cons_mk (shut_bool Tryz.underlying4 _) trodAll_mk0, hargs2, rfl, hb.frame _, fun h => by cases h⟩

theorem heapPlays_holds : Rows.HeapPlaysSaid :=
  OpenClaim.holds_of_wide 3 Tryz.f3 rfl rfl rfl rfl rfl rfl rfl ⟨rfl, rfl, rfl, rfl, rfl⟩ rfl rfl rfl rfl rfl (by kernel_rfl) Tryz.func3 (by kernel_rfl)
    (of_decide_eq_true (by kernel_rfl)) (by unfold Func.isWrapper; first | (rw [if_pos (by decide +kernel)]; kernel_rfl) | (rw [if_neg (by decide +kernel)]; exact ⟨rfl, rfl⟩))
    (fun os started H enc _ => heapPlays_lifted os started H enc)
#print axioms heapPlays_holds
end Go.Proofs.YtifillpcphiblaaGreat
