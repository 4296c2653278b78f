
/-
  The call of CycleUses returns true for every configuration, every number of globals and every list of steps, and leaves all that was in memory as it was.
  Conditions: none but those of the given row.
-/
import Derived.Test.YtklnpooninbogaaGreatYCU
import Derived.Test.YtklnpooninbogaaGreatCycArg
namespace Go.Proofs.YtklnpooninbogaaGreat
open Go Go.Proofs Go.RowKit Go.ChangeShapes Go.WideShapes Go.ChangeAt Go.Joins Go.Deep

set_option maxRecDepth 100000 in
theorem cycleUses_lifted (os : Os) (started : os.Started) (H : Type) (enc : TypeId × Value → H) :
    ReturnsInHanded {} Tryz.checked os 3 .any (Rows.cycleUsesSpec.pre6 enc Tryz.prog Tryz.f3 Rows.cycleUsesRow.domain false) (Rows.cycleUsesSpec.post enc Tryz.prog Tryz.f3 false true false false) := by
  refine returnsInHanded_of_change (C := Tryz.checked) own started (by kernel_rfl) Tryz.func3
    (ChangeSpec.witness6 (enc := enc) (C := Tryz.checked) false ⟨#[], #[.agg #[.int .i64 0, .int .i64 0, .int .i64 0, .int .i64 0, .int .i64 0, .int .i64 0, .slice none 0 0], .int .u8 0, .slice none 0 0], []⟩ 8 (by kernel_rfl) (by kernel_rfl) (by kernel_rfl) (by kernel_rfl)) ?_
  intro W base args ds gs before hval0 hW hcnd _
  have hval : ∀ (j : Nat) t v, Tryz.f3.params[j]? = some t → args[j]? = some v → Value.okWide Tryz.prog W .any base t v := hval0
  have hW' := hW
  obtain ⟨p, q, hA0, hV, rfl, hfz, hnd⟩ := hW
  have hA : DataW.TrodAll enc Tryz.prog W 0 (fun _ => true) true Tryz.f3.params.toList args.toList ds p := hA0
  rw [Tryz.params3] at hA hval
  obtain ⟨v0, vs0, d0, ds0, p0, q0, hargs, rfl, rfl, h0, r0⟩ := trodAll_cons hA
  obtain ⟨v1, vs1, d1, ds1, p1, q1, rfl, rfl, rfl, h1, r1⟩ := trodAll_cons r0
  obtain ⟨v2, vs2, d2, ds2, p2, q2, rfl, rfl, rfl, h2, r2⟩ := trodAll_cons r1
  obtain ⟨rfl, rfl, rfl⟩ := trodAll_nil r2
  obtain rfl : args = #[v0, v1, v2] := by cases args; simp_all
  obtain ⟨rfl, rfl⟩ := trodVars_none hV
  obtain ⟨x0, x1, x2, x3, x4, x5, sv, cls, rfl, hs⟩ := open_cfg (hval 0 _ _ rfl rfl) h0
  obtain ⟨g0, rfl, rfl, rfl, w1⟩ := open_int Tryz.underlying5 (hval 1 5 v1 rfl rfl) h1
  have b1 : 0 ≤ g0 ∧ g0 ≤ 255 := bounds_u8 w1
  obtain ⟨gb, rfl⟩ := Int.eq_ofNat_of_zero_le b1.1
  obtain ⟨l, hl, hlx⟩ := open_ints_arg' (hval 2 _ _ rfl rfl) h2
  clear hA0 hval0
  simp only [List.append_nil] at hW'
  refine (lawCUses x0 x1 x2 x3 x4 x5 gb sv v2 cls l W hs hl (by omega) hlx).mono fun e W' ⟨he, hg⟩ => ?_
  subst he
  have hb : Below W.heap.size W W' := hg.below (Nat.le_refl _) (by simp)
  have hlt : ∀ x ∈ p0 ++ ([] ++ p2), x.block < W.heap.size := fun x hx => hW'.lt x (by simpa using hx)
  have hargs2 : DataW.TrodAll enc Tryz.prog W' 0 (fun b => decide (b < W.heap.size)) true [24, 5, 22] [.agg #[.int .i64 x0, .int .i64 x1, .int .i64 x2, .int .i64 x3, .int .i64 x4, .int .i64 x5, sv], .int .u8 gb, v2] [d0, .lit (.int .u8 gb), d2] (p0 ++ ([] ++ p2)) := by
    have := trodAll_cons_mk (Below.trod laidB read_cfg row_cfg h0 hb (fun x hx => hlt x (by simp [hx]))) (trodAll_cons_mk (shut_int (enc := enc) (P := Tryz.prog) (w := W') (base := 0) (spare := fun b => decide (b < W.heap.size)) (held := true) Tryz.underlying5 w1) (trodAll_cons_mk (Below.trod laidB read_ints row_ints h2 hb (fun x hx => hlt x (by simp [hx]))) trodAll_mk0))
    simpa using this
  exact ⟨_, rfl, [d0, .lit (.int .u8 gb), d2], [], p0 ++ ([] ++ p2), [], p0 ++ ([] ++ p2), [], hW', trodAll_cons_mk (shut_bool Tryz.underlying4 _) trodAll_mk0, hargs2, rfl, hb.frame _, fun h => by cases h⟩

theorem cycleUses_holds : Rows.CycleUsesSaid :=
  OpenClaim.holds_of_wide 3 Tryz.f3 rfl rfl rfl rfl rfl rfl rfl ⟨rfl, rfl, rfl, rfl, rfl⟩ rfl rfl rfl rfl rfl (by kernel_rfl) Tryz.func3 (by kernel_rfl)
    (of_decide_eq_true (by kernel_rfl)) (by unfold Func.isWrapper; first | (rw [if_pos (by decide +kernel)]; kernel_rfl) | (rw [if_neg (by decide +kernel)]; exact ⟨rfl, rfl⟩))
    (fun os started H enc _ => cycleUses_lifted os started H enc)
#print axioms cycleUses_holds
end Go.Proofs.YtklnpooninbogaaGreat
