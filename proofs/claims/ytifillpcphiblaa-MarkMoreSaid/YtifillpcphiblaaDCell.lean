import Derived.Test.YtifillpcphiblaaPMark
import Derived.Deep.QuietTactic
import Derived.BigQuiet
namespace Go.Proofs.Ytifillpcphiblaa
open Go Go.Proofs Go.RowKit

/-! The document's cells (layer 4): Pack, Link. -/

theorem kinds {k : Int} (h0 : 0 ≤ k) (h1 : k ≤ 10) : k = 0 ∨ k = 1 ∨ k = 2 ∨ k = 3 ∨ k = 4 ∨ k = 5 ∨ k = 6 ∨ k = 7 ∨ k = 8 ∨ k = 9 ∨ k = 10 := by omega

def dPackErr (k n : Int) : Int := if k < 0 ∨ 10 < k then 6 else if n < 0 ∨ 31 < n then 1 else 0
set_option maxRecDepth 100000 in
set_option maxHeartbeats 3200000 in
theorem dPack (k n a m : Int) (hm : m = 0 ∨ m = 1) (a0 : 0 ≤ a) (a1 : a < 16777216) (w : World) :
    Calls Try.prog 109 #[.agg #[.int .i64 k, .int .i64 n, .int .i64 a, .int .i64 m]] w fun e w' => (∃ v, e = .returned (.tuple #[.int .i64 v, .int .i64 (dPackErr k n)])) ∧ Fr [] w w' := by
  have B0 := Blk.new w [.int .i64 k, .int .i64 n, .int .i64 a, .int .i64 m] 48
  have c0 := B0.cell (i := 0) rfl
  have c1 := B0.cell (i := 1) rfl
  have c2 := B0.cell (i := 2) rfl
  have c3 := B0.cell (i := 3) rfl
  have hF : Fr [] w (w.alloc (.cells #[.int .i64 k, .int .i64 n, .int .i64 a, .int .i64 m] 48)) := (Fr.refl _ w).alloc _
  have HF := hid hF
  have g3 : decide (a < 0) = false := by simp; omega
  have g4 : decide (16777215 < a) = false := by simp; omega
  have g5 : decide (m < 0) = false := by simp; omega
  have g6 : decide (1 < m) = false := by simp; omega
  clear B0 hF
  by_cases hk : k < 0 ∨ 10 < k
  · have hE : dPackErr k n = 6 := if_pos hk
    rw [hE]
    rcases hk with hk | hk
    · have g1 : decide (k < 0) = true := by simp; omega
      go_enter Try.func109, Try.ntmps109
      go_wp2_with fail
      refine bodyPost_ret (v := .tuple #[.int .i64 0, .int .i64 6]) (by simp [results, Try.results109, go_sem]) rfl ⟨⟨0, rfl⟩, HF.out⟩
    · have g1 : decide (k < 0) = false := by simp; omega
      have g2 : decide (10 < k) = true := by simp; omega
      go_enter Try.func109, Try.ntmps109
      go_wp2_with fail
      refine bodyPost_ret (v := .tuple #[.int .i64 0, .int .i64 6]) (by simp [results, Try.results109, go_sem]) rfl ⟨⟨0, rfl⟩, HF.out⟩
  · have g1 : decide (k < 0) = false := by simp; omega
    have g2 : decide (10 < k) = false := by simp; omega
    by_cases hn : n < 0 ∨ 31 < n
    · have hE : dPackErr k n = 1 := by unfold dPackErr; rw [if_neg hk, if_pos hn]
      rw [hE]
      rcases hn with hn | hn
      · have g7 : decide (n < 0) = true := by simp; omega
        go_enter Try.func109, Try.ntmps109
        go_wp2_with fail
        refine bodyPost_ret (v := .tuple #[.int .i64 0, .int .i64 1]) (by simp [results, Try.results109, go_sem]) rfl ⟨⟨0, rfl⟩, HF.out⟩
      · have g7 : decide (n < 0) = false := by simp; omega
        have g8 : decide (31 < n) = true := by simp; omega
        go_enter Try.func109, Try.ntmps109
        go_wp2_with fail
        refine bodyPost_ret (v := .tuple #[.int .i64 0, .int .i64 1]) (by simp [results, Try.results109, go_sem]) rfl ⟨⟨0, rfl⟩, HF.out⟩
    · have hE : dPackErr k n = 0 := by unfold dPackErr; rw [if_neg hk, if_neg hn]
      rw [hE]
      have g7 : decide (n < 0) = false := by simp; omega
      have g8 : decide (31 < n) = false := by simp; omega
      go_enter Try.func109, Try.ntmps109
      go_wp2_with fail
      refine bodyPost_ret (v := .tuple #[.int .i64 _, .int .i64 0]) (by simp [results, Try.results109, go_sem]; rfl) rfl ⟨⟨_, rfl⟩, HF.out⟩

def lkB (k : Int) (n : Nat) (j : Nat) : Bool := decide (lkF k ≤ j ∧ j < lkT k n)
set_option maxRecDepth 100000 in
set_option maxHeartbeats 3200000 in
theorem dLink (k : Int) (n : Nat) (a m : Int) (j : Nat) (hd : Hd k n a m) (w : World) :
    Calls Try.prog 62 #[.agg #[.int .i64 k, .int .i64 n, .int .i64 a, .int .i64 m], .int .i64 j] w fun e w' => e = .returned (.bool (lkB k n j)) ∧ Fr [] w w' := by
  have B0 := Blk.new w [.int .i64 k, .int .i64 n, .int .i64 a, .int .i64 m] 48
  have hF : Fr [] w (w.alloc (.cells #[.int .i64 k, .int .i64 n, .int .i64 a, .int .i64 m] 48)) := (Fr.refl _ w).alloc _
  have HF := hid hF
  have HB := hid B0
  obtain ⟨k0, k1, m0, m1, s0, s1, a0, a1⟩ := hd
  have hE : dPackErr k n = 0 := by unfold dPackErr; rw [if_neg (by omega), if_neg (by omega)]
  have c0 := B0.cell (i := 0) rfl
  have c1 := B0.cell (i := 1) rfl
  have gj : decide ((j : Int) < 0) = false := by simp
  clear B0 hF
  by_cases hj : j < n
  · have gn : decide ((n : Int) ≤ (j : Int)) = false := by simp; omega
    have HJ := hid hj
    clear hj
    rcases kinds k0 k1 with rfl | rfl | rfl | rfl | rfl | rfl | rfl | rfl | rfl | rfl | rfl
    all_goals
      go_enter Try.func62, Try.ntmps62
      go_wp2_with fail
      refine (dPack _ n a m (by omega) a0 (by omega) _).mono ?_
      rintro e w1 ⟨⟨v, rfl⟩, hF1⟩
      rw [hE]
      have hB1 := HB.out.fr hF1 (by simp)
      have d0 := hB1.cell (i := 0) rfl
      have d1 := hB1.cell (i := 1) rfl
      clear hB1 c0 c1
      go_wp2_with fail
    all_goals
      go_ret
      refine ⟨?_, HF.out.trans hF1⟩
      have hjn := HJ.out
      refine congrArg Ending.returned (congrArg Value.bool ?_)
      rw [Bool.eq_iff_iff]
      simp [lkB, lkF, lkT]
      try omega
  · have gn : decide ((n : Int) ≤ (j : Int)) = true := by simp; omega
    have hb : lkB k n j = false := by unfold lkB; have := lkT_le k n; simp; omega
    rw [hb]
    go_enter Try.func62, Try.ntmps62
    go_wp2_with fail
    refine (dPack k n a m (by omega) a0 (by omega) _).mono ?_
    rintro e w1 ⟨⟨v, rfl⟩, hF1⟩
    rw [hE]
    have hB1 := HB.out.fr hF1 (by simp)
    have d0 := hB1.cell (i := 0) rfl
    have d1 := hB1.cell (i := 1) rfl
    clear hB1 c0 c1
    go_wp2_with fail
    go_ret
    exact ⟨rfl, HF.out.trans hF1⟩
end Go.Proofs.Ytifillpcphiblaa
