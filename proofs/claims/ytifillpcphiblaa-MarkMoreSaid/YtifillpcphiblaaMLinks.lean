import Derived.Test.YtifillpcphiblaaPMark
import Derived.Test.YtifillpcphiblaaHCollects0
import Derived.Test.YtifillpcphiblaaDCell
import Derived.Deep.QuietTactic
import Derived.BigQuiet
namespace Go.Proofs.Ytifillpcphiblaa
open Go Go.Proofs Go.RowKit

/-- cell.Links. -/
def lkFT (k : Int) (n : Nat) : Value := if lkF k < lkT k n then .tuple #[.int .i64 (lkF k), .int .i64 (lkT k n)] else .tuple #[.int .i64 0, .int .i64 0]
theorem lkFT_of {k : Int} {n : Nat} {x y : Int} (h : (lkF k < lkT k n ∧ x = lkF k ∧ y = lkT k n) ∨ (¬ lkF k < lkT k n ∧ x = 0 ∧ y = 0)) : Value.tuple #[.int .i64 x, .int .i64 y] = lkFT k n := by
  unfold lkFT
  rcases h with ⟨h, rfl, rfl⟩ | ⟨h, rfl, rfl⟩
  · rw [if_pos h]
  · rw [if_neg h]
set_option maxRecDepth 100000 in
set_option maxHeartbeats 6400000 in
theorem cLinks (k : Int) (n : Nat) (a m : Int) (hd : Hd k n a m) (w : World) :
    Calls Try.prog 157 #[.agg #[.int .i64 k, .int .i64 n, .int .i64 a, .int .i64 m]] w fun e w' => e = .returned (lkFT k n) ∧ Fr [] w w' := by
  have B0 := Blk.new w [.int .i64 k, .int .i64 n, .int .i64 a, .int .i64 m] 40
  have hF : Fr [] w (w.alloc (.cells #[.int .i64 k, .int .i64 n, .int .i64 a, .int .i64 m] 40)) := (Fr.refl _ w).alloc _
  have HF := hid hF
  have HB := hid B0
  have HD := hid hd
  have c0 := B0.cell (i := 0) rfl
  have c1 := B0.cell (i := 1) rfl
  have c2 := B0.cell (i := 2) rfl
  have c3 := B0.cell (i := 3) rfl
  have k0 := hd.k0
  have k1 := hd.k1
  have s0 := hd.s0
  have s1 := hd.s1
  clear B0 hF hd
  rcases kinds k0 k1 with rfl | rfl | rfl | rfl | rfl | rfl | rfl | rfl | rfl | rfl | rfl
  · skip
    have e1 : lkF 0 = 0 := rfl
    have e2 : lkT 0 n = 0 := rfl
    have ix : ∀ w, (Instr.index 232 (.agg #[.int .i64 0, .int .i64 0, .int .i64 0, .int .i64 n, .int .i64 0, .int .i64 n, .int .i64 0, .int .i64 n, .int .i64 0, .int .i64 n, .int .i64 0, .int .i64 1, .int .i64 0, .int .i64 0, .int .i64 0, .int .i64 0, .int .i64 0, .int .i64 0, .int .i64 1, .int .i64 4, .int .i64 2, .int .i64 4]) (.int .i64 0)).run Try.prog w = .ok (.agg #[.int .i64 0, .int .i64 0]) w := fun _ => by kernel_rfl
    have ix0 : ∀ w, (Instr.index 232 (.agg #[.int .i64 0, .int .i64 0, .int .i64 0, .int .i64 0, .int .i64 0, .int .i64 0, .int .i64 0, .int .i64 0, .int .i64 0, .int .i64 0, .int .i64 0, .int .i64 1, .int .i64 0, .int .i64 0, .int .i64 0, .int .i64 0, .int .i64 0, .int .i64 0, .int .i64 1, .int .i64 4, .int .i64 2, .int .i64 4]) (.int .i64 0)).run Try.prog w = .ok (.agg #[.int .i64 0, .int .i64 0]) w := fun _ => by kernel_rfl
    go_enter Try.func157, Try.ntmps157
    go_wp2_with fail
    refine (cPack _ n a m _ HD.out.k0 HD.out.k1 HD.out.m0 HD.out.m1 HD.out.s0 HD.out.s1 HD.out.a0 HD.out.a1).mono ?_
    rintro e w1 ⟨rfl, hF1⟩
    have hB1 := HB.out.fr hF1 (by simp)
    have d0 := hB1.cell (i := 0) rfl
    have d1 := hB1.cell (i := 1) rfl
    have d2 := hB1.cell (i := 2) rfl
    have d3 := hB1.cell (i := 3) rfl
    have HF1 := hid (HF.out.trans hF1)
    have T6 := Blk.new w1 [.int .i64 0, .int .i64 0] 186
    have t60 := T6.cell (i := 0) rfl
    have t61 := T6.cell (i := 1) rfl
    have f1 := (hB1.alloc (.cells #[.int .i64 0, .int .i64 0] 186)).cell (i := 1) rfl
    clear hB1 c0 c1 c2 c3 hF1 T6
    go_wp2_with fail
    all_goals first
      | (go_quiet (fail); go_wp2_with fail)
      | skip
    all_goals
      refine bodyPost_ret (v := lkFT _ n) ?_ rfl ⟨rfl, by first | exact (HF1.out.alloc _).drewN _ | exact HF1.out⟩
      simp [results, Try.results157, go_sem]
      refine lkFT_of ?_
      rw [e1, e2]
      first
        | omega
        | (rename_i hA; simp only [h, if_true, if_false] at hA; omega)
        | (rename_i hA; rw [if_neg (by omega)] at hA; omega)
  · skip
    have e1 : lkF 1 = 0 := rfl
    have e2 : lkT 1 n = n := rfl
    have ix : ∀ w, (Instr.index 232 (.agg #[.int .i64 0, .int .i64 0, .int .i64 0, .int .i64 n, .int .i64 0, .int .i64 n, .int .i64 0, .int .i64 n, .int .i64 0, .int .i64 n, .int .i64 0, .int .i64 1, .int .i64 0, .int .i64 0, .int .i64 0, .int .i64 0, .int .i64 0, .int .i64 0, .int .i64 1, .int .i64 4, .int .i64 2, .int .i64 4]) (.int .i64 1)).run Try.prog w = .ok (.agg #[.int .i64 0, .int .i64 n]) w := fun _ => by kernel_rfl
    go_enter Try.func157, Try.ntmps157
    go_wp2_with fail
    refine (cPack _ n a m _ HD.out.k0 HD.out.k1 HD.out.m0 HD.out.m1 HD.out.s0 HD.out.s1 HD.out.a0 HD.out.a1).mono ?_
    rintro e w1 ⟨rfl, hF1⟩
    have hB1 := HB.out.fr hF1 (by simp)
    have d0 := hB1.cell (i := 0) rfl
    have d1 := hB1.cell (i := 1) rfl
    have d2 := hB1.cell (i := 2) rfl
    have d3 := hB1.cell (i := 3) rfl
    have HF1 := hid (HF.out.trans hF1)
    have T6 := Blk.new w1 [.int .i64 0, .int .i64 n] 186
    have t60 := T6.cell (i := 0) rfl
    have t61 := T6.cell (i := 1) rfl
    have f1 := (hB1.alloc (.cells #[.int .i64 0, .int .i64 n] 186)).cell (i := 1) rfl
    clear hB1 c0 c1 c2 c3 hF1 T6
    go_wp2_with fail
    all_goals first
      | (go_quiet (fail); go_wp2_with fail)
      | skip
    all_goals
      refine bodyPost_ret (v := lkFT _ n) ?_ rfl ⟨rfl, by first | exact (HF1.out.alloc _).drewN _ | exact HF1.out⟩
      simp [results, Try.results157, go_sem]
      refine lkFT_of ?_
      rw [e1, e2]
      first
        | omega
        | (rename_i hA; simp only [h, if_true, if_false] at hA; omega)
        | (rename_i hA; rw [if_neg (by omega)] at hA; omega)
  · skip
    have e1 : lkF 2 = 0 := rfl
    have e2 : lkT 2 n = n := rfl
    have ix : ∀ w, (Instr.index 232 (.agg #[.int .i64 0, .int .i64 0, .int .i64 0, .int .i64 n, .int .i64 0, .int .i64 n, .int .i64 0, .int .i64 n, .int .i64 0, .int .i64 n, .int .i64 0, .int .i64 1, .int .i64 0, .int .i64 0, .int .i64 0, .int .i64 0, .int .i64 0, .int .i64 0, .int .i64 1, .int .i64 4, .int .i64 2, .int .i64 4]) (.int .i64 2)).run Try.prog w = .ok (.agg #[.int .i64 0, .int .i64 n]) w := fun _ => by kernel_rfl
    go_enter Try.func157, Try.ntmps157
    go_wp2_with fail
    refine (cPack _ n a m _ HD.out.k0 HD.out.k1 HD.out.m0 HD.out.m1 HD.out.s0 HD.out.s1 HD.out.a0 HD.out.a1).mono ?_
    rintro e w1 ⟨rfl, hF1⟩
    have hB1 := HB.out.fr hF1 (by simp)
    have d0 := hB1.cell (i := 0) rfl
    have d1 := hB1.cell (i := 1) rfl
    have d2 := hB1.cell (i := 2) rfl
    have d3 := hB1.cell (i := 3) rfl
    have HF1 := hid (HF.out.trans hF1)
    have T6 := Blk.new w1 [.int .i64 0, .int .i64 n] 186
    have t60 := T6.cell (i := 0) rfl
    have t61 := T6.cell (i := 1) rfl
    have f1 := (hB1.alloc (.cells #[.int .i64 0, .int .i64 n] 186)).cell (i := 1) rfl
    clear hB1 c0 c1 c2 c3 hF1 T6
    go_wp2_with fail
    all_goals first
      | (go_quiet (fail); go_wp2_with fail)
      | skip
    all_goals
      refine bodyPost_ret (v := lkFT _ n) ?_ rfl ⟨rfl, by first | exact (HF1.out.alloc _).drewN _ | exact HF1.out⟩
      simp [results, Try.results157, go_sem]
      refine lkFT_of ?_
      rw [e1, e2]
      first
        | omega
        | (rename_i hA; simp only [h, if_true, if_false] at hA; omega)
        | (rename_i hA; rw [if_neg (by omega)] at hA; omega)
  · skip
    have e1 : lkF 3 = 0 := rfl
    have e2 : lkT 3 n = n := rfl
    have ix : ∀ w, (Instr.index 232 (.agg #[.int .i64 0, .int .i64 0, .int .i64 0, .int .i64 n, .int .i64 0, .int .i64 n, .int .i64 0, .int .i64 n, .int .i64 0, .int .i64 n, .int .i64 0, .int .i64 1, .int .i64 0, .int .i64 0, .int .i64 0, .int .i64 0, .int .i64 0, .int .i64 0, .int .i64 1, .int .i64 4, .int .i64 2, .int .i64 4]) (.int .i64 3)).run Try.prog w = .ok (.agg #[.int .i64 0, .int .i64 n]) w := fun _ => by kernel_rfl
    go_enter Try.func157, Try.ntmps157
    go_wp2_with fail
    refine (cPack _ n a m _ HD.out.k0 HD.out.k1 HD.out.m0 HD.out.m1 HD.out.s0 HD.out.s1 HD.out.a0 HD.out.a1).mono ?_
    rintro e w1 ⟨rfl, hF1⟩
    have hB1 := HB.out.fr hF1 (by simp)
    have d0 := hB1.cell (i := 0) rfl
    have d1 := hB1.cell (i := 1) rfl
    have d2 := hB1.cell (i := 2) rfl
    have d3 := hB1.cell (i := 3) rfl
    have HF1 := hid (HF.out.trans hF1)
    have T6 := Blk.new w1 [.int .i64 0, .int .i64 n] 186
    have t60 := T6.cell (i := 0) rfl
    have t61 := T6.cell (i := 1) rfl
    have f1 := (hB1.alloc (.cells #[.int .i64 0, .int .i64 n] 186)).cell (i := 1) rfl
    clear hB1 c0 c1 c2 c3 hF1 T6
    go_wp2_with fail
    all_goals first
      | (go_quiet (fail); go_wp2_with fail)
      | skip
    all_goals
      refine bodyPost_ret (v := lkFT _ n) ?_ rfl ⟨rfl, by first | exact (HF1.out.alloc _).drewN _ | exact HF1.out⟩
      simp [results, Try.results157, go_sem]
      refine lkFT_of ?_
      rw [e1, e2]
      first
        | omega
        | (rename_i hA; simp only [h, if_true, if_false] at hA; omega)
        | (rename_i hA; rw [if_neg (by omega)] at hA; omega)
  · skip
    have e1 : lkF 4 = 0 := rfl
    have e2 : lkT 4 n = n := rfl
    have ix : ∀ w, (Instr.index 232 (.agg #[.int .i64 0, .int .i64 0, .int .i64 0, .int .i64 n, .int .i64 0, .int .i64 n, .int .i64 0, .int .i64 n, .int .i64 0, .int .i64 n, .int .i64 0, .int .i64 1, .int .i64 0, .int .i64 0, .int .i64 0, .int .i64 0, .int .i64 0, .int .i64 0, .int .i64 1, .int .i64 4, .int .i64 2, .int .i64 4]) (.int .i64 4)).run Try.prog w = .ok (.agg #[.int .i64 0, .int .i64 n]) w := fun _ => by kernel_rfl
    go_enter Try.func157, Try.ntmps157
    go_wp2_with fail
    refine (cPack _ n a m _ HD.out.k0 HD.out.k1 HD.out.m0 HD.out.m1 HD.out.s0 HD.out.s1 HD.out.a0 HD.out.a1).mono ?_
    rintro e w1 ⟨rfl, hF1⟩
    have hB1 := HB.out.fr hF1 (by simp)
    have d0 := hB1.cell (i := 0) rfl
    have d1 := hB1.cell (i := 1) rfl
    have d2 := hB1.cell (i := 2) rfl
    have d3 := hB1.cell (i := 3) rfl
    have HF1 := hid (HF.out.trans hF1)
    have T6 := Blk.new w1 [.int .i64 0, .int .i64 n] 186
    have t60 := T6.cell (i := 0) rfl
    have t61 := T6.cell (i := 1) rfl
    have f1 := (hB1.alloc (.cells #[.int .i64 0, .int .i64 n] 186)).cell (i := 1) rfl
    clear hB1 c0 c1 c2 c3 hF1 T6
    go_wp2_with fail
    all_goals first
      | (go_quiet (fail); go_wp2_with fail)
      | skip
    all_goals
      refine bodyPost_ret (v := lkFT _ n) ?_ rfl ⟨rfl, by first | exact (HF1.out.alloc _).drewN _ | exact HF1.out⟩
      simp [results, Try.results157, go_sem]
      refine lkFT_of ?_
      rw [e1, e2]
      first
        | omega
        | (rename_i hA; simp only [h, if_true, if_false] at hA; omega)
        | (rename_i hA; rw [if_neg (by omega)] at hA; omega)
  · skip
    have e1 : lkF 5 = 0 := rfl
    have e2 : lkT 5 n = min 1 n := rfl
    have ix : ∀ w, (Instr.index 232 (.agg #[.int .i64 0, .int .i64 0, .int .i64 0, .int .i64 n, .int .i64 0, .int .i64 n, .int .i64 0, .int .i64 n, .int .i64 0, .int .i64 n, .int .i64 0, .int .i64 1, .int .i64 0, .int .i64 0, .int .i64 0, .int .i64 0, .int .i64 0, .int .i64 0, .int .i64 1, .int .i64 4, .int .i64 2, .int .i64 4]) (.int .i64 5)).run Try.prog w = .ok (.agg #[.int .i64 0, .int .i64 1]) w := fun _ => by kernel_rfl
    go_enter Try.func157, Try.ntmps157
    go_wp2_with fail
    refine (cPack _ n a m _ HD.out.k0 HD.out.k1 HD.out.m0 HD.out.m1 HD.out.s0 HD.out.s1 HD.out.a0 HD.out.a1).mono ?_
    rintro e w1 ⟨rfl, hF1⟩
    have hB1 := HB.out.fr hF1 (by simp)
    have d0 := hB1.cell (i := 0) rfl
    have d1 := hB1.cell (i := 1) rfl
    have d2 := hB1.cell (i := 2) rfl
    have d3 := hB1.cell (i := 3) rfl
    have HF1 := hid (HF.out.trans hF1)
    have T6 := Blk.new w1 [.int .i64 0, .int .i64 1] 186
    have t60 := T6.cell (i := 0) rfl
    have t61 := T6.cell (i := 1) rfl
    have f1 := (hB1.alloc (.cells #[.int .i64 0, .int .i64 1] 186)).cell (i := 1) rfl
    clear hB1 c0 c1 c2 c3 hF1 T6
    go_wp2_with fail
    all_goals first
      | (go_quiet (fail); go_wp2_with fail)
      | skip
    all_goals
      refine bodyPost_ret (v := lkFT _ n) ?_ rfl ⟨rfl, by first | exact (HF1.out.alloc _).drewN _ | exact HF1.out⟩
      simp [results, Try.results157, go_sem]
      refine lkFT_of ?_
      rw [e1, e2]
      first
        | omega
        | (rename_i hA; simp only [h, if_true, if_false] at hA; omega)
        | (rename_i hA; rw [if_neg (by omega)] at hA; omega)
  · skip
    have e1 : lkF 6 = 0 := rfl
    have e2 : lkT 6 n = 0 := rfl
    have ix : ∀ w, (Instr.index 232 (.agg #[.int .i64 0, .int .i64 0, .int .i64 0, .int .i64 n, .int .i64 0, .int .i64 n, .int .i64 0, .int .i64 n, .int .i64 0, .int .i64 n, .int .i64 0, .int .i64 1, .int .i64 0, .int .i64 0, .int .i64 0, .int .i64 0, .int .i64 0, .int .i64 0, .int .i64 1, .int .i64 4, .int .i64 2, .int .i64 4]) (.int .i64 6)).run Try.prog w = .ok (.agg #[.int .i64 0, .int .i64 0]) w := fun _ => by kernel_rfl
    go_enter Try.func157, Try.ntmps157
    go_wp2_with fail
    refine (cPack _ n a m _ HD.out.k0 HD.out.k1 HD.out.m0 HD.out.m1 HD.out.s0 HD.out.s1 HD.out.a0 HD.out.a1).mono ?_
    rintro e w1 ⟨rfl, hF1⟩
    have hB1 := HB.out.fr hF1 (by simp)
    have d0 := hB1.cell (i := 0) rfl
    have d1 := hB1.cell (i := 1) rfl
    have d2 := hB1.cell (i := 2) rfl
    have d3 := hB1.cell (i := 3) rfl
    have HF1 := hid (HF.out.trans hF1)
    have T6 := Blk.new w1 [.int .i64 0, .int .i64 0] 186
    have t60 := T6.cell (i := 0) rfl
    have t61 := T6.cell (i := 1) rfl
    have f1 := (hB1.alloc (.cells #[.int .i64 0, .int .i64 0] 186)).cell (i := 1) rfl
    clear hB1 c0 c1 c2 c3 hF1 T6
    go_wp2_with fail
    all_goals first
      | (go_quiet (fail); go_wp2_with fail)
      | skip
    all_goals
      refine bodyPost_ret (v := lkFT _ n) ?_ rfl ⟨rfl, by first | exact (HF1.out.alloc _).drewN _ | exact HF1.out⟩
      simp [results, Try.results157, go_sem]
      refine lkFT_of ?_
      rw [e1, e2]
      first
        | omega
        | (rename_i hA; simp only [h, if_true, if_false] at hA; omega)
        | (rename_i hA; rw [if_neg (by omega)] at hA; omega)
  · skip
    have e1 : lkF 7 = 0 := rfl
    have e2 : lkT 7 n = 0 := rfl
    have ix : ∀ w, (Instr.index 232 (.agg #[.int .i64 0, .int .i64 0, .int .i64 0, .int .i64 n, .int .i64 0, .int .i64 n, .int .i64 0, .int .i64 n, .int .i64 0, .int .i64 n, .int .i64 0, .int .i64 1, .int .i64 0, .int .i64 0, .int .i64 0, .int .i64 0, .int .i64 0, .int .i64 0, .int .i64 1, .int .i64 4, .int .i64 2, .int .i64 4]) (.int .i64 7)).run Try.prog w = .ok (.agg #[.int .i64 0, .int .i64 0]) w := fun _ => by kernel_rfl
    go_enter Try.func157, Try.ntmps157
    go_wp2_with fail
    refine (cPack _ n a m _ HD.out.k0 HD.out.k1 HD.out.m0 HD.out.m1 HD.out.s0 HD.out.s1 HD.out.a0 HD.out.a1).mono ?_
    rintro e w1 ⟨rfl, hF1⟩
    have hB1 := HB.out.fr hF1 (by simp)
    have d0 := hB1.cell (i := 0) rfl
    have d1 := hB1.cell (i := 1) rfl
    have d2 := hB1.cell (i := 2) rfl
    have d3 := hB1.cell (i := 3) rfl
    have HF1 := hid (HF.out.trans hF1)
    have T6 := Blk.new w1 [.int .i64 0, .int .i64 0] 186
    have t60 := T6.cell (i := 0) rfl
    have t61 := T6.cell (i := 1) rfl
    have f1 := (hB1.alloc (.cells #[.int .i64 0, .int .i64 0] 186)).cell (i := 1) rfl
    clear hB1 c0 c1 c2 c3 hF1 T6
    go_wp2_with fail
    all_goals first
      | (go_quiet (fail); go_wp2_with fail)
      | skip
    all_goals
      refine bodyPost_ret (v := lkFT _ n) ?_ rfl ⟨rfl, by first | exact (HF1.out.alloc _).drewN _ | exact HF1.out⟩
      simp [results, Try.results157, go_sem]
      refine lkFT_of ?_
      rw [e1, e2]
      first
        | omega
        | (rename_i hA; simp only [h, if_true, if_false] at hA; omega)
        | (rename_i hA; rw [if_neg (by omega)] at hA; omega)
  · skip
    have e1 : lkF 8 = 0 := rfl
    have e2 : lkT 8 n = 0 := rfl
    have ix : ∀ w, (Instr.index 232 (.agg #[.int .i64 0, .int .i64 0, .int .i64 0, .int .i64 n, .int .i64 0, .int .i64 n, .int .i64 0, .int .i64 n, .int .i64 0, .int .i64 n, .int .i64 0, .int .i64 1, .int .i64 0, .int .i64 0, .int .i64 0, .int .i64 0, .int .i64 0, .int .i64 0, .int .i64 1, .int .i64 4, .int .i64 2, .int .i64 4]) (.int .i64 8)).run Try.prog w = .ok (.agg #[.int .i64 0, .int .i64 0]) w := fun _ => by kernel_rfl
    go_enter Try.func157, Try.ntmps157
    go_wp2_with fail
    refine (cPack _ n a m _ HD.out.k0 HD.out.k1 HD.out.m0 HD.out.m1 HD.out.s0 HD.out.s1 HD.out.a0 HD.out.a1).mono ?_
    rintro e w1 ⟨rfl, hF1⟩
    have hB1 := HB.out.fr hF1 (by simp)
    have d0 := hB1.cell (i := 0) rfl
    have d1 := hB1.cell (i := 1) rfl
    have d2 := hB1.cell (i := 2) rfl
    have d3 := hB1.cell (i := 3) rfl
    have HF1 := hid (HF.out.trans hF1)
    have T6 := Blk.new w1 [.int .i64 0, .int .i64 0] 186
    have t60 := T6.cell (i := 0) rfl
    have t61 := T6.cell (i := 1) rfl
    have f1 := (hB1.alloc (.cells #[.int .i64 0, .int .i64 0] 186)).cell (i := 1) rfl
    clear hB1 c0 c1 c2 c3 hF1 T6
    go_wp2_with fail
    all_goals first
      | (go_quiet (fail); go_wp2_with fail)
      | skip
    all_goals
      refine bodyPost_ret (v := lkFT _ n) ?_ rfl ⟨rfl, by first | exact (HF1.out.alloc _).drewN _ | exact HF1.out⟩
      simp [results, Try.results157, go_sem]
      refine lkFT_of ?_
      rw [e1, e2]
      first
        | omega
        | (rename_i hA; simp only [h, if_true, if_false] at hA; omega)
        | (rename_i hA; rw [if_neg (by omega)] at hA; omega)
  · skip
    have e1 : lkF 9 = 1 := rfl
    have e2 : lkT 9 n = min 4 n := rfl
    have ix : ∀ w, (Instr.index 232 (.agg #[.int .i64 0, .int .i64 0, .int .i64 0, .int .i64 n, .int .i64 0, .int .i64 n, .int .i64 0, .int .i64 n, .int .i64 0, .int .i64 n, .int .i64 0, .int .i64 1, .int .i64 0, .int .i64 0, .int .i64 0, .int .i64 0, .int .i64 0, .int .i64 0, .int .i64 1, .int .i64 4, .int .i64 2, .int .i64 4]) (.int .i64 9)).run Try.prog w = .ok (.agg #[.int .i64 1, .int .i64 4]) w := fun _ => by kernel_rfl
    go_enter Try.func157, Try.ntmps157
    go_wp2_with fail
    refine (cPack _ n a m _ HD.out.k0 HD.out.k1 HD.out.m0 HD.out.m1 HD.out.s0 HD.out.s1 HD.out.a0 HD.out.a1).mono ?_
    rintro e w1 ⟨rfl, hF1⟩
    have hB1 := HB.out.fr hF1 (by simp)
    have d0 := hB1.cell (i := 0) rfl
    have d1 := hB1.cell (i := 1) rfl
    have d2 := hB1.cell (i := 2) rfl
    have d3 := hB1.cell (i := 3) rfl
    have HF1 := hid (HF.out.trans hF1)
    have T6 := Blk.new w1 [.int .i64 1, .int .i64 4] 186
    have t60 := T6.cell (i := 0) rfl
    have t61 := T6.cell (i := 1) rfl
    have f1 := (hB1.alloc (.cells #[.int .i64 1, .int .i64 4] 186)).cell (i := 1) rfl
    clear hB1 c0 c1 c2 c3 hF1 T6
    go_wp2_with fail
    all_goals first
      | (go_quiet (fail); go_wp2_with fail)
      | skip
    all_goals
      refine bodyPost_ret (v := lkFT _ n) ?_ rfl ⟨rfl, by first | exact (HF1.out.alloc _).drewN _ | exact HF1.out⟩
      simp [results, Try.results157, go_sem]
      refine lkFT_of ?_
      rw [e1, e2]
      first
        | omega
        | (rename_i hA; simp only [h, if_true, if_false] at hA; omega)
        | (rename_i hA; rw [if_neg (by omega)] at hA; omega)
  · skip
    have e1 : lkF 10 = 2 := rfl
    have e2 : lkT 10 n = min 4 n := rfl
    have ix : ∀ w, (Instr.index 232 (.agg #[.int .i64 0, .int .i64 0, .int .i64 0, .int .i64 n, .int .i64 0, .int .i64 n, .int .i64 0, .int .i64 n, .int .i64 0, .int .i64 n, .int .i64 0, .int .i64 1, .int .i64 0, .int .i64 0, .int .i64 0, .int .i64 0, .int .i64 0, .int .i64 0, .int .i64 1, .int .i64 4, .int .i64 2, .int .i64 4]) (.int .i64 10)).run Try.prog w = .ok (.agg #[.int .i64 2, .int .i64 4]) w := fun _ => by kernel_rfl
    go_enter Try.func157, Try.ntmps157
    go_wp2_with fail
    refine (cPack _ n a m _ HD.out.k0 HD.out.k1 HD.out.m0 HD.out.m1 HD.out.s0 HD.out.s1 HD.out.a0 HD.out.a1).mono ?_
    rintro e w1 ⟨rfl, hF1⟩
    have hB1 := HB.out.fr hF1 (by simp)
    have d0 := hB1.cell (i := 0) rfl
    have d1 := hB1.cell (i := 1) rfl
    have d2 := hB1.cell (i := 2) rfl
    have d3 := hB1.cell (i := 3) rfl
    have HF1 := hid (HF.out.trans hF1)
    have T6 := Blk.new w1 [.int .i64 2, .int .i64 4] 186
    have t60 := T6.cell (i := 0) rfl
    have t61 := T6.cell (i := 1) rfl
    have f1 := (hB1.alloc (.cells #[.int .i64 2, .int .i64 4] 186)).cell (i := 1) rfl
    clear hB1 c0 c1 c2 c3 hF1 T6
    go_wp2_with fail
    all_goals first
      | (go_quiet (fail); go_wp2_with fail)
      | skip
    all_goals
      refine bodyPost_ret (v := lkFT _ n) ?_ rfl ⟨rfl, by first | exact (HF1.out.alloc _).drewN _ | exact HF1.out⟩
      simp [results, Try.results157, go_sem]
      refine lkFT_of ?_
      rw [e1, e2]
      first
        | omega
        | (rename_i hA; simp only [h, if_true, if_false] at hA; omega)
        | (rename_i hA; rw [if_neg (by omega)] at hA; omega)
-- end of the kinds
end Go.Proofs.Ytifillpcphiblaa
