/-
  The call of HeapFills returns true for every configuration and every size, and leaves all that was in memory as it was.
  Conditions: none but those of the given row.
-/
import Derived.Test.YtifillpcphiblaaHFills
import Derived.Test.YtifillpcphiblaaCfg
import Derived.Test.YtifillpcphiblaaRows
import Derived.ProofKit
namespace Go.Proofs.Ytifillpcphiblaa
open Go Go.Proofs Go.RowKit Go.ChangeShapes Go.WideShapes Go.ChangeAt

theorem own : ownKnob Try.prog.godebug = none := by kernel_rfl

theorem laidB : laidOutB Try.prog = true := by kernel_rfl
theorem read_cfg : Try.prog.readableRec 24 = true := by kernel_rfl
theorem row_cfg : 24 < Try.prog.types.size := of_decide_eq_true (by kernel_rfl)

set_option maxRecDepth 100000 in
theorem heapFills_lifted (os : Os) (started : os.Started) (H : Type) (enc : TypeId × Value → H) :
    ReturnsInHanded {} Try.checked os 11 .any (Rows.heapFillsSpec.pre6 enc Try.prog Try.f11 Rows.heapFillsRow.domain false) (Rows.heapFillsSpec.post enc Try.prog Try.f11 false true false false) := by
  refine returnsInHanded_of_change (C := Try.checked) own started (by kernel_rfl) Try.func11
    (ChangeSpec.witness6 (enc := enc) (C := Try.checked) false ⟨#[], #[.agg #[.int .i64 0, .int .i64 0, .int .i64 0, .int .i64 0, .int .i64 0, .int .i64 0, .slice none 0 0], .int .i64 0], []⟩ 8 (by kernel_rfl) (by kernel_rfl) (by kernel_rfl) (by kernel_rfl)) ?_
  intro W base args ds gs before hval0 hW hcnd _
  have hval : ∀ (j : Nat) t v, Try.f11.params[j]? = some t → args[j]? = some v → Value.okWide Try.prog W .any base t v := hval0
  have hW' := hW
  obtain ⟨p, q, hA0, hV, rfl, hfz, hnd⟩ := hW
  have hA : DataW.TrodAll enc Try.prog W 0 (fun _ => true) true Try.f11.params.toList args.toList ds p := hA0
  rw [Try.params11] at hA hval
  obtain ⟨v0, vs0, d0, ds0, p0, q0, hargs, rfl, rfl, h0, r0⟩ := trodAll_cons hA
  obtain ⟨v1, vs1, d1, ds1, p1, q1, rfl, rfl, rfl, h1, r1⟩ := trodAll_cons r0
  obtain ⟨rfl, rfl, rfl⟩ := trodAll_nil r1
  obtain rfl : args = #[v0, v1] := by cases args; simp_all
  obtain ⟨rfl, rfl⟩ := trodVars_none hV
  obtain ⟨x0, x1, x2, x3, x4, x5, sv, cls, rfl, hs⟩ := open_cfg (hval 0 _ _ rfl rfl) h0
  obtain ⟨a0, rfl, rfl, rfl, w0⟩ := open_int Try.underlying3 (hval 1 _ v1 rfl rfl) h1
  clear hA0 hval0
  simp only [List.append_nil] at hW'
  refine (lawHeapFills x0 x1 x2 x3 x4 x5 a0 sv cls W hs).mono fun e W' ⟨he, hg⟩ => ?_
  subst he
  have hb : Below W.heap.size W W' := hg.below (Nat.le_refl _) (by simp)
  have hlt : ∀ x ∈ p0, x.block < W.heap.size := fun x hx => hW'.lt x hx
  have hargs2 : DataW.TrodAll enc Try.prog W' 0 (fun b => decide (b < W.heap.size)) true [24, 3] [.agg #[.int .i64 x0, .int .i64 x1, .int .i64 x2, .int .i64 x3, .int .i64 x4, .int .i64 x5, sv], .int .i64 a0] [d0, .lit (.int .i64 a0)] p0 := by
    have := trodAll_cons_mk (Below.trod laidB read_cfg row_cfg h0 hb hlt) (trodAll_cons_mk (shut_int (enc := enc) (P := Try.prog) (w := W') (base := 0) (spare := fun b => decide (b < W.heap.size)) (held := true) Try.underlying3 w0) trodAll_mk0)
    simpa using this
  exact ⟨_, rfl, [d0, .lit (.int .i64 a0)], [], p0, [], p0, [], hW', trodAll_cons_mk (shut_bool Try.underlying4 _) trodAll_mk0, hargs2, rfl, hb.frame _, fun h => by cases h⟩

theorem heapFills_holds : Rows.HeapFillsSaid :=
  OpenClaim.holds_of_wide 11 Try.f11 rfl rfl rfl rfl rfl rfl rfl ⟨rfl, rfl, rfl, rfl, rfl⟩ rfl rfl rfl rfl rfl (by kernel_rfl) Try.func11 (by kernel_rfl)
    (of_decide_eq_true (by kernel_rfl)) (by unfold Func.isWrapper; first | (rw [if_pos (by decide +kernel)]; kernel_rfl) | (rw [if_neg (by decide +kernel)]; exact ⟨rfl, rfl⟩))
    (fun os started H enc _ => heapFills_lifted os started H enc)
#print axioms heapFills_holds
end Go.Proofs.Ytifillpcphiblaa
