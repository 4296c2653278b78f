
import Derived.Test.YtklnpooninbogaaGreatMHRows
import Derived.Laws.EntriesVeiled
import Derived.Test.YtklnpooninbogaaGreatMMHNew
import Derived.Deep.QuietTactic
import Derived.BigQuiet
namespace Go.Proofs.YtklnpooninbogaaGreat
open Go Go.Proofs Go.RowKit Go.Shelf
attribute [local go_sem] Oper.semAt_some
theorem hParity (L : HL) (s : HS) (w : World) (hH : HRep w L s) :
    Calls Tryz.prog 168 #[.pointer (some ⟨L.hb, 0, none⟩)] w fun e w' => e = .returned (.int .i64 s.parity) ∧ w = w' := by
  have c7 := hH.reads.2.2.2.2.2.2.2
  go_enter Tryz.func168, Tryz.ntmps168
  go_wp2_with fail
  go_ret
  exact ⟨rfl, rfl⟩
theorem SlArg.shape {w : World} {sv : Value} {l : List Int} (h : SlArg w sv l) : ∃ p cap, sv = .slice p l.length cap := by
  rcases h with ⟨e1, e2⟩ | ⟨p, cap, e1, e2⟩ | ⟨b, o, cap, e, _⟩
  · exact ⟨none, 0, by rw [e1, e2]; rfl⟩
  · exact ⟨some p, cap, by rw [e1, e2]; rfl⟩
  · exact ⟨_, cap, e⟩
theorem SlArg.at {w : World} {p : Option Addr} {cap : Nat} {l : List Int} (h : SlArg w (.slice p l.length cap) l) (hl : 0 < l.length) : ∃ b o, p = some ⟨b, o, none⟩ ∧ RdAt w b o (l.map (.int .i64)) := by
  rcases h with ⟨_, e2⟩ | ⟨_, _, _, e2⟩ | ⟨b, o, cap', e, hr, _⟩
  · rw [e2] at hl; simp at hl
  · rw [e2] at hl; simp at hl
  · cases e; exact ⟨b, o, rfl, hr⟩
theorem hGetV (L : HL) (s : HS) (p : Int) (k z a m : Int) (j v : Int) (w : World) (hH : HRep w L s) (p0 : 0 ≤ p) (p1 : p + 3 + z ≤ s.ws.length) (hp : gw s.ws p = packed k z a m) (hd : Hd k z a m) (j0 : 0 ≤ j) (j1 : j < z) (hv : gw s.ws (p + 3 + j) = v) :
    Calls Tryz.prog 59 #[.pointer (some ⟨L.hb, 0, none⟩), .int .i64 p, .int .i64 j] w fun e w' => e = .returned (.tuple #[.int .i64 v, .int .i64 0]) ∧ HRep w' L (s.tick 2) ∧ Fr [L.ab] w w' := by
  subst hv; exact hGet L s p k z a m j w hH p0 p1 hp hd j0 j1
def lkFT (k : Int) (n : Nat) : Value := if lkF k < lkT k n then .tuple #[.int .i64 (lkF k), .int .i64 (lkT k n)] else .tuple #[.int .i64 0, .int .i64 0]
theorem lkFT_of {k : Int} {n : Nat} {x y : Int} (h : (lkF k < lkT k n ∧ x = lkF k ∧ y = lkT k n) ∨ (¬ lkF k < lkT k n ∧ x = 0 ∧ y = 0)) : Value.tuple #[.int .i64 x, .int .i64 y] = lkFT k n := by
  unfold lkFT
  rcases h with ⟨h, rfl, rfl⟩ | ⟨h, rfl, rfl⟩
  · rw [if_pos h]
  · rw [if_neg h]
set_option maxRecDepth 100000 in
set_option maxHeartbeats 6400000 in
theorem cLinks (k : Int) (n : Nat) (a m : Int) (hd : Hd k n a m) (w : World) :
    Calls Tryz.prog 155 #[.agg #[.int .i64 k, .int .i64 n, .int .i64 a, .int .i64 m]] w fun e w' => e = .returned (lkFT k n) ∧ Fr [] w w' := by
  have B0 := Blk.new w [.int .i64 k, .int .i64 n, .int .i64 a, .int .i64 m] 60
  have hF : Fr [] w (w.alloc (.cells #[.int .i64 k, .int .i64 n, .int .i64 a, .int .i64 m] 60)) := (Fr.refl _ w).alloc _
  have HF := hid hF
  have HB := hid B0
  have HD := hid hd
  have c0 := B0.cell (i := 0) rfl
  have c1 := B0.cell (i := 1) rfl
  have c2 := B0.cell (i := 2) rfl
  have c3 := B0.cell (i := 3) rfl
  have k0 := hd.k0
  have k1 := hd.k1
  have s0 := hd.s0
  have s1 := hd.s1
  clear B0 hF hd
  rcases kinds k0 k1 with rfl | rfl | rfl | rfl | rfl | rfl | rfl | rfl | rfl | rfl | rfl
  · skip
    have e1 : lkF 0 = 0 := rfl
    have e2 : lkT 0 n = 0 := rfl
    have ix : ∀ w, (Instr.index 213 (.agg #[.int .i64 0, .int .i64 0, .int .i64 0, .int .i64 n, .int .i64 0, .int .i64 n, .int .i64 0, .int .i64 n, .int .i64 0, .int .i64 n, .int .i64 0, .int .i64 1, .int .i64 0, .int .i64 0, .int .i64 0, .int .i64 0, .int .i64 0, .int .i64 0, .int .i64 1, .int .i64 4, .int .i64 2, .int .i64 4]) (.int .i64 0)).run Tryz.prog w = .ok (.agg #[.int .i64 0, .int .i64 0]) w := fun _ => by kernel_rfl
    have ix0 : ∀ w, (Instr.index 213 (.agg #[.int .i64 0, .int .i64 0, .int .i64 0, .int .i64 0, .int .i64 0, .int .i64 0, .int .i64 0, .int .i64 0, .int .i64 0, .int .i64 0, .int .i64 0, .int .i64 1, .int .i64 0, .int .i64 0, .int .i64 0, .int .i64 0, .int .i64 0, .int .i64 0, .int .i64 1, .int .i64 4, .int .i64 2, .int .i64 4]) (.int .i64 0)).run Tryz.prog w = .ok (.agg #[.int .i64 0, .int .i64 0]) w := fun _ => by kernel_rfl
    go_enter Tryz.func155, Tryz.ntmps155
    go_wp2_with fail
    refine (cPack _ n a m _ HD.out.k0 HD.out.k1 HD.out.m0 HD.out.m1 HD.out.s0 HD.out.s1 HD.out.a0 HD.out.a1).mono ?_
    rintro e w1 ⟨rfl, hF1⟩
    have hB1 := HB.out.fr hF1 (by simp)
    have d0 := hB1.cell (i := 0) rfl
    have d1 := hB1.cell (i := 1) rfl
    have d2 := hB1.cell (i := 2) rfl
    have d3 := hB1.cell (i := 3) rfl
    have HF1 := hid (HF.out.trans hF1)
    have T6 := Blk.new w1 [.int .i64 0, .int .i64 0] 175
    have t60 := T6.cell (i := 0) rfl
    have t61 := T6.cell (i := 1) rfl
    have f1 := (hB1.alloc (.cells #[.int .i64 0, .int .i64 0] 175)).cell (i := 1) rfl
    clear hB1 c0 c1 c2 c3 hF1 T6
    go_wp2_with fail
    all_goals first
      | (go_quiet (fail); go_wp2_with fail)
      | skip
    all_goals
      refine bodyPost_ret (v := lkFT _ n) ?_ rfl ⟨rfl, by first | exact (HF1.out.alloc _).drewN _ | exact HF1.out⟩
      simp [results, Tryz.results155, go_sem]
      refine lkFT_of ?_
      rw [e1, e2]
      first
        | omega
        | (rename_i hA; simp only [h, if_true, if_false] at hA; omega)
        | (rename_i hA; rw [if_neg (by omega)] at hA; omega)
  · skip
    have e1 : lkF 1 = 0 := rfl
    have e2 : lkT 1 n = n := rfl
    have ix : ∀ w, (Instr.index 213 (.agg #[.int .i64 0, .int .i64 0, .int .i64 0, .int .i64 n, .int .i64 0, .int .i64 n, .int .i64 0, .int .i64 n, .int .i64 0, .int .i64 n, .int .i64 0, .int .i64 1, .int .i64 0, .int .i64 0, .int .i64 0, .int .i64 0, .int .i64 0, .int .i64 0, .int .i64 1, .int .i64 4, .int .i64 2, .int .i64 4]) (.int .i64 1)).run Tryz.prog w = .ok (.agg #[.int .i64 0, .int .i64 n]) w := fun _ => by kernel_rfl
    go_enter Tryz.func155, Tryz.ntmps155
    go_wp2_with fail
    refine (cPack _ n a m _ HD.out.k0 HD.out.k1 HD.out.m0 HD.out.m1 HD.out.s0 HD.out.s1 HD.out.a0 HD.out.a1).mono ?_
    rintro e w1 ⟨rfl, hF1⟩
    have hB1 := HB.out.fr hF1 (by simp)
    have d0 := hB1.cell (i := 0) rfl
    have d1 := hB1.cell (i := 1) rfl
    have d2 := hB1.cell (i := 2) rfl
    have d3 := hB1.cell (i := 3) rfl
    have HF1 := hid (HF.out.trans hF1)
    have T6 := Blk.new w1 [.int .i64 0, .int .i64 n] 175
    have t60 := T6.cell (i := 0) rfl
    have t61 := T6.cell (i := 1) rfl
    have f1 := (hB1.alloc (.cells #[.int .i64 0, .int .i64 n] 175)).cell (i := 1) rfl
    clear hB1 c0 c1 c2 c3 hF1 T6
    go_wp2_with fail
    all_goals first
      | (go_quiet (fail); go_wp2_with fail)
      | skip
    all_goals
      refine bodyPost_ret (v := lkFT _ n) ?_ rfl ⟨rfl, by first | exact (HF1.out.alloc _).drewN _ | exact HF1.out⟩
      simp [results, Tryz.results155, go_sem]
      refine lkFT_of ?_
      rw [e1, e2]
      first
        | omega
        | (rename_i hA; simp only [h, if_true, if_false] at hA; omega)
        | (rename_i hA; rw [if_neg (by omega)] at hA; omega)
  · skip
    have e1 : lkF 2 = 0 := rfl
    have e2 : lkT 2 n = n := rfl
    have ix : ∀ w, (Instr.index 213 (.agg #[.int .i64 0, .int .i64 0, .int .i64 0, .int .i64 n, .int .i64 0, .int .i64 n, .int .i64 0, .int .i64 n, .int .i64 0, .int .i64 n, .int .i64 0, .int .i64 1, .int .i64 0, .int .i64 0, .int .i64 0, .int .i64 0, .int .i64 0, .int .i64 0, .int .i64 1, .int .i64 4, .int .i64 2, .int .i64 4]) (.int .i64 2)).run Tryz.prog w = .ok (.agg #[.int .i64 0, .int .i64 n]) w := fun _ => by kernel_rfl
    go_enter Tryz.func155, Tryz.ntmps155
    go_wp2_with fail
    refine (cPack _ n a m _ HD.out.k0 HD.out.k1 HD.out.m0 HD.out.m1 HD.out.s0 HD.out.s1 HD.out.a0 HD.out.a1).mono ?_
    rintro e w1 ⟨rfl, hF1⟩
    have hB1 := HB.out.fr hF1 (by simp)
    have d0 := hB1.cell (i := 0) rfl
    have d1 := hB1.cell (i := 1) rfl
    have d2 := hB1.cell (i := 2) rfl
    have d3 := hB1.cell (i := 3) rfl
    have HF1 := hid (HF.out.trans hF1)
    have T6 := Blk.new w1 [.int .i64 0, .int .i64 n] 175
    have t60 := T6.cell (i := 0) rfl
    have t61 := T6.cell (i := 1) rfl
    have f1 := (hB1.alloc (.cells #[.int .i64 0, .int .i64 n] 175)).cell (i := 1) rfl
    clear hB1 c0 c1 c2 c3 hF1 T6
    go_wp2_with fail
    all_goals first
      | (go_quiet (fail); go_wp2_with fail)
      | skip
    all_goals
      refine bodyPost_ret (v := lkFT _ n) ?_ rfl ⟨rfl, by first | exact (HF1.out.alloc _).drewN _ | exact HF1.out⟩
      simp [results, Tryz.results155, go_sem]
      refine lkFT_of ?_
      rw [e1, e2]
      first
        | omega
        | (rename_i hA; simp only [h, if_true, if_false] at hA; omega)
        | (rename_i hA; rw [if_neg (by omega)] at hA; omega)
  · skip
    have e1 : lkF 3 = 0 := rfl
    have e2 : lkT 3 n = n := rfl
    have ix : ∀ w, (Instr.index 213 (.agg #[.int .i64 0, .int .i64 0, .int .i64 0, .int .i64 n, .int .i64 0, .int .i64 n, .int .i64 0, .int .i64 n, .int .i64 0, .int .i64 n, .int .i64 0, .int .i64 1, .int .i64 0, .int .i64 0, .int .i64 0, .int .i64 0, .int .i64 0, .int .i64 0, .int .i64 1, .int .i64 4, .int .i64 2, .int .i64 4]) (.int .i64 3)).run Tryz.prog w = .ok (.agg #[.int .i64 0, .int .i64 n]) w := fun _ => by kernel_rfl
    go_enter Tryz.func155, Tryz.ntmps155
    go_wp2_with fail
    refine (cPack _ n a m _ HD.out.k0 HD.out.k1 HD.out.m0 HD.out.m1 HD.out.s0 HD.out.s1 HD.out.a0 HD.out.a1).mono ?_
    rintro e w1 ⟨rfl, hF1⟩
    have hB1 := HB.out.fr hF1 (by simp)
    have d0 := hB1.cell (i := 0) rfl
    have d1 := hB1.cell (i := 1) rfl
    have d2 := hB1.cell (i := 2) rfl
    have d3 := hB1.cell (i := 3) rfl
    have HF1 := hid (HF.out.trans hF1)
    have T6 := Blk.new w1 [.int .i64 0, .int .i64 n] 175
    have t60 := T6.cell (i := 0) rfl
    have t61 := T6.cell (i := 1) rfl
    have f1 := (hB1.alloc (.cells #[.int .i64 0, .int .i64 n] 175)).cell (i := 1) rfl
    clear hB1 c0 c1 c2 c3 hF1 T6
    go_wp2_with fail
    all_goals first
      | (go_quiet (fail); go_wp2_with fail)
      | skip
    all_goals
      refine bodyPost_ret (v := lkFT _ n) ?_ rfl ⟨rfl, by first | exact (HF1.out.alloc _).drewN _ | exact HF1.out⟩
      simp [results, Tryz.results155, go_sem]
      refine lkFT_of ?_
      rw [e1, e2]
      first
        | omega
        | (rename_i hA; simp only [h, if_true, if_false] at hA; omega)
        | (rename_i hA; rw [if_neg (by omega)] at hA; omega)
  · skip
    have e1 : lkF 4 = 0 := rfl
    have e2 : lkT 4 n = n := rfl
    have ix : ∀ w, (Instr.index 213 (.agg #[.int .i64 0, .int .i64 0, .int .i64 0, .int .i64 n, .int .i64 0, .int .i64 n, .int .i64 0, .int .i64 n, .int .i64 0, .int .i64 n, .int .i64 0, .int .i64 1, .int .i64 0, .int .i64 0, .int .i64 0, .int .i64 0, .int .i64 0, .int .i64 0, .int .i64 1, .int .i64 4, .int .i64 2, .int .i64 4]) (.int .i64 4)).run Tryz.prog w = .ok (.agg #[.int .i64 0, .int .i64 n]) w := fun _ => by kernel_rfl
    go_enter Tryz.func155, Tryz.ntmps155
    go_wp2_with fail
    refine (cPack _ n a m _ HD.out.k0 HD.out.k1 HD.out.m0 HD.out.m1 HD.out.s0 HD.out.s1 HD.out.a0 HD.out.a1).mono ?_
    rintro e w1 ⟨rfl, hF1⟩
    have hB1 := HB.out.fr hF1 (by simp)
    have d0 := hB1.cell (i := 0) rfl
    have d1 := hB1.cell (i := 1) rfl
    have d2 := hB1.cell (i := 2) rfl
    have d3 := hB1.cell (i := 3) rfl
    have HF1 := hid (HF.out.trans hF1)
    have T6 := Blk.new w1 [.int .i64 0, .int .i64 n] 175
    have t60 := T6.cell (i := 0) rfl
    have t61 := T6.cell (i := 1) rfl
    have f1 := (hB1.alloc (.cells #[.int .i64 0, .int .i64 n] 175)).cell (i := 1) rfl
    clear hB1 c0 c1 c2 c3 hF1 T6
    go_wp2_with fail
    all_goals first
      | (go_quiet (fail); go_wp2_with fail)
      | skip
    all_goals
      refine bodyPost_ret (v := lkFT _ n) ?_ rfl ⟨rfl, by first | exact (HF1.out.alloc _).drewN _ | exact HF1.out⟩
      simp [results, Tryz.results155, go_sem]
      refine lkFT_of ?_
      rw [e1, e2]
      first
        | omega
        | (rename_i hA; simp only [h, if_true, if_false] at hA; omega)
        | (rename_i hA; rw [if_neg (by omega)] at hA; omega)
  · skip
    have e1 : lkF 5 = 0 := rfl
    have e2 : lkT 5 n = min 1 n := rfl
    have ix : ∀ w, (Instr.index 213 (.agg #[.int .i64 0, .int .i64 0, .int .i64 0, .int .i64 n, .int .i64 0, .int .i64 n, .int .i64 0, .int .i64 n, .int .i64 0, .int .i64 n, .int .i64 0, .int .i64 1, .int .i64 0, .int .i64 0, .int .i64 0, .int .i64 0, .int .i64 0, .int .i64 0, .int .i64 1, .int .i64 4, .int .i64 2, .int .i64 4]) (.int .i64 5)).run Tryz.prog w = .ok (.agg #[.int .i64 0, .int .i64 1]) w := fun _ => by kernel_rfl
    go_enter Tryz.func155, Tryz.ntmps155
    go_wp2_with fail
    refine (cPack _ n a m _ HD.out.k0 HD.out.k1 HD.out.m0 HD.out.m1 HD.out.s0 HD.out.s1 HD.out.a0 HD.out.a1).mono ?_
    rintro e w1 ⟨rfl, hF1⟩
    have hB1 := HB.out.fr hF1 (by simp)
    have d0 := hB1.cell (i := 0) rfl
    have d1 := hB1.cell (i := 1) rfl
    have d2 := hB1.cell (i := 2) rfl
    have d3 := hB1.cell (i := 3) rfl
    have HF1 := hid (HF.out.trans hF1)
    have T6 := Blk.new w1 [.int .i64 0, .int .i64 1] 175
    have t60 := T6.cell (i := 0) rfl
    have t61 := T6.cell (i := 1) rfl
    have f1 := (hB1.alloc (.cells #[.int .i64 0, .int .i64 1] 175)).cell (i := 1) rfl
    clear hB1 c0 c1 c2 c3 hF1 T6
    go_wp2_with fail
    all_goals first
      | (go_quiet (fail); go_wp2_with fail)
      | skip
    all_goals
      refine bodyPost_ret (v := lkFT _ n) ?_ rfl ⟨rfl, by first | exact (HF1.out.alloc _).drewN _ | exact HF1.out⟩
      simp [results, Tryz.results155, go_sem]
      refine lkFT_of ?_
      rw [e1, e2]
      first
        | omega
        | (rename_i hA; simp only [h, if_true, if_false] at hA; omega)
        | (rename_i hA; rw [if_neg (by omega)] at hA; omega)
  · skip
    have e1 : lkF 6 = 0 := rfl
    have e2 : lkT 6 n = 0 := rfl
    have ix : ∀ w, (Instr.index 213 (.agg #[.int .i64 0, .int .i64 0, .int .i64 0, .int .i64 n, .int .i64 0, .int .i64 n, .int .i64 0, .int .i64 n, .int .i64 0, .int .i64 n, .int .i64 0, .int .i64 1, .int .i64 0, .int .i64 0, .int .i64 0, .int .i64 0, .int .i64 0, .int .i64 0, .int .i64 1, .int .i64 4, .int .i64 2, .int .i64 4]) (.int .i64 6)).run Tryz.prog w = .ok (.agg #[.int .i64 0, .int .i64 0]) w := fun _ => by kernel_rfl
    go_enter Tryz.func155, Tryz.ntmps155
    go_wp2_with fail
    refine (cPack _ n a m _ HD.out.k0 HD.out.k1 HD.out.m0 HD.out.m1 HD.out.s0 HD.out.s1 HD.out.a0 HD.out.a1).mono ?_
    rintro e w1 ⟨rfl, hF1⟩
    have hB1 := HB.out.fr hF1 (by simp)
    have d0 := hB1.cell (i := 0) rfl
    have d1 := hB1.cell (i := 1) rfl
    have d2 := hB1.cell (i := 2) rfl
    have d3 := hB1.cell (i := 3) rfl
    have HF1 := hid (HF.out.trans hF1)
    have T6 := Blk.new w1 [.int .i64 0, .int .i64 0] 175
    have t60 := T6.cell (i := 0) rfl
    have t61 := T6.cell (i := 1) rfl
    have f1 := (hB1.alloc (.cells #[.int .i64 0, .int .i64 0] 175)).cell (i := 1) rfl
    clear hB1 c0 c1 c2 c3 hF1 T6
    go_wp2_with fail
    all_goals first
      | (go_quiet (fail); go_wp2_with fail)
      | skip
    all_goals
      refine bodyPost_ret (v := lkFT _ n) ?_ rfl ⟨rfl, by first | exact (HF1.out.alloc _).drewN _ | exact HF1.out⟩
      simp [results, Tryz.results155, go_sem]
      refine lkFT_of ?_
      rw [e1, e2]
      first
        | omega
        | (rename_i hA; simp only [h, if_true, if_false] at hA; omega)
        | (rename_i hA; rw [if_neg (by omega)] at hA; omega)
  · skip
    have e1 : lkF 7 = 0 := rfl
    have e2 : lkT 7 n = 0 := rfl
    have ix : ∀ w, (Instr.index 213 (.agg #[.int .i64 0, .int .i64 0, .int .i64 0, .int .i64 n, .int .i64 0, .int .i64 n, .int .i64 0, .int .i64 n, .int .i64 0, .int .i64 n, .int .i64 0, .int .i64 1, .int .i64 0, .int .i64 0, .int .i64 0, .int .i64 0, .int .i64 0, .int .i64 0, .int .i64 1, .int .i64 4, .int .i64 2, .int .i64 4]) (.int .i64 7)).run Tryz.prog w = .ok (.agg #[.int .i64 0, .int .i64 0]) w := fun _ => by kernel_rfl
    go_enter Tryz.func155, Tryz.ntmps155
    go_wp2_with fail
    refine (cPack _ n a m _ HD.out.k0 HD.out.k1 HD.out.m0 HD.out.m1 HD.out.s0 HD.out.s1 HD.out.a0 HD.out.a1).mono ?_
    rintro e w1 ⟨rfl, hF1⟩
    have hB1 := HB.out.fr hF1 (by simp)
    have d0 := hB1.cell (i := 0) rfl
    have d1 := hB1.cell (i := 1) rfl
    have d2 := hB1.cell (i := 2) rfl
    have d3 := hB1.cell (i := 3) rfl
    have HF1 := hid (HF.out.trans hF1)
    have T6 := Blk.new w1 [.int .i64 0, .int .i64 0] 175
    have t60 := T6.cell (i := 0) rfl
    have t61 := T6.cell (i := 1) rfl
    have f1 := (hB1.alloc (.cells #[.int .i64 0, .int .i64 0] 175)).cell (i := 1) rfl
    clear hB1 c0 c1 c2 c3 hF1 T6
    go_wp2_with fail
    all_goals first
      | (go_quiet (fail); go_wp2_with fail)
      | skip
    all_goals
      refine bodyPost_ret (v := lkFT _ n) ?_ rfl ⟨rfl, by first | exact (HF1.out.alloc _).drewN _ | exact HF1.out⟩
      simp [results, Tryz.results155, go_sem]
      refine lkFT_of ?_
      rw [e1, e2]
      first
        | omega
        | (rename_i hA; simp only [h, if_true, if_false] at hA; omega)
        | (rename_i hA; rw [if_neg (by omega)] at hA; omega)
  · skip
    have e1 : lkF 8 = 0 := rfl
    have e2 : lkT 8 n = 0 := rfl
    have ix : ∀ w, (Instr.index 213 (.agg #[.int .i64 0, .int .i64 0, .int .i64 0, .int .i64 n, .int .i64 0, .int .i64 n, .int .i64 0, .int .i64 n, .int .i64 0, .int .i64 n, .int .i64 0, .int .i64 1, .int .i64 0, .int .i64 0, .int .i64 0, .int .i64 0, .int .i64 0, .int .i64 0, .int .i64 1, .int .i64 4, .int .i64 2, .int .i64 4]) (.int .i64 8)).run Tryz.prog w = .ok (.agg #[.int .i64 0, .int .i64 0]) w := fun _ => by kernel_rfl
    go_enter Tryz.func155, Tryz.ntmps155
    go_wp2_with fail
    refine (cPack _ n a m _ HD.out.k0 HD.out.k1 HD.out.m0 HD.out.m1 HD.out.s0 HD.out.s1 HD.out.a0 HD.out.a1).mono ?_
    rintro e w1 ⟨rfl, hF1⟩
    have hB1 := HB.out.fr hF1 (by simp)
    have d0 := hB1.cell (i := 0) rfl
    have d1 := hB1.cell (i := 1) rfl
    have d2 := hB1.cell (i := 2) rfl
    have d3 := hB1.cell (i := 3) rfl
    have HF1 := hid (HF.out.trans hF1)
    have T6 := Blk.new w1 [.int .i64 0, .int .i64 0] 175
    have t60 := T6.cell (i := 0) rfl
    have t61 := T6.cell (i := 1) rfl
    have f1 := (hB1.alloc (.cells #[.int .i64 0, .int .i64 0] 175)).cell (i := 1) rfl
    clear hB1 c0 c1 c2 c3 hF1 T6
    go_wp2_with fail
    all_goals first
      | (go_quiet (fail); go_wp2_with fail)
      | skip
    all_goals
      refine bodyPost_ret (v := lkFT _ n) ?_ rfl ⟨rfl, by first | exact (HF1.out.alloc _).drewN _ | exact HF1.out⟩
      simp [results, Tryz.results155, go_sem]
      refine lkFT_of ?_
      rw [e1, e2]
      first
        | omega
        | (rename_i hA; simp only [h, if_true, if_false] at hA; omega)
        | (rename_i hA; rw [if_neg (by omega)] at hA; omega)
  · skip
    have e1 : lkF 9 = 1 := rfl
    have e2 : lkT 9 n = min 4 n := rfl
    have ix : ∀ w, (Instr.index 213 (.agg #[.int .i64 0, .int .i64 0, .int .i64 0, .int .i64 n, .int .i64 0, .int .i64 n, .int .i64 0, .int .i64 n, .int .i64 0, .int .i64 n, .int .i64 0, .int .i64 1, .int .i64 0, .int .i64 0, .int .i64 0, .int .i64 0, .int .i64 0, .int .i64 0, .int .i64 1, .int .i64 4, .int .i64 2, .int .i64 4]) (.int .i64 9)).run Tryz.prog w = .ok (.agg #[.int .i64 1, .int .i64 4]) w := fun _ => by kernel_rfl
    go_enter Tryz.func155, Tryz.ntmps155
    go_wp2_with fail
    refine (cPack _ n a m _ HD.out.k0 HD.out.k1 HD.out.m0 HD.out.m1 HD.out.s0 HD.out.s1 HD.out.a0 HD.out.a1).mono ?_
    rintro e w1 ⟨rfl, hF1⟩
    have hB1 := HB.out.fr hF1 (by simp)
    have d0 := hB1.cell (i := 0) rfl
    have d1 := hB1.cell (i := 1) rfl
    have d2 := hB1.cell (i := 2) rfl
    have d3 := hB1.cell (i := 3) rfl
    have HF1 := hid (HF.out.trans hF1)
    have T6 := Blk.new w1 [.int .i64 1, .int .i64 4] 175
    have t60 := T6.cell (i := 0) rfl
    have t61 := T6.cell (i := 1) rfl
    have f1 := (hB1.alloc (.cells #[.int .i64 1, .int .i64 4] 175)).cell (i := 1) rfl
    clear hB1 c0 c1 c2 c3 hF1 T6
    go_wp2_with fail
    all_goals first
      | (go_quiet (fail); go_wp2_with fail)
      | skip
    all_goals
      refine bodyPost_ret (v := lkFT _ n) ?_ rfl ⟨rfl, by first | exact (HF1.out.alloc _).drewN _ | exact HF1.out⟩
      simp [results, Tryz.results155, go_sem]
      refine lkFT_of ?_
      rw [e1, e2]
      first
        | omega
        | (rename_i hA; simp only [h, if_true, if_false] at hA; omega)
        | (rename_i hA; rw [if_neg (by omega)] at hA; omega)
  · skip
    have e1 : lkF 10 = 2 := rfl
    have e2 : lkT 10 n = min 4 n := rfl
    have ix : ∀ w, (Instr.index 213 (.agg #[.int .i64 0, .int .i64 0, .int .i64 0, .int .i64 n, .int .i64 0, .int .i64 n, .int .i64 0, .int .i64 n, .int .i64 0, .int .i64 n, .int .i64 0, .int .i64 1, .int .i64 0, .int .i64 0, .int .i64 0, .int .i64 0, .int .i64 0, .int .i64 0, .int .i64 1, .int .i64 4, .int .i64 2, .int .i64 4]) (.int .i64 10)).run Tryz.prog w = .ok (.agg #[.int .i64 2, .int .i64 4]) w := fun _ => by kernel_rfl
    go_enter Tryz.func155, Tryz.ntmps155
    go_wp2_with fail
    refine (cPack _ n a m _ HD.out.k0 HD.out.k1 HD.out.m0 HD.out.m1 HD.out.s0 HD.out.s1 HD.out.a0 HD.out.a1).mono ?_
    rintro e w1 ⟨rfl, hF1⟩
    have hB1 := HB.out.fr hF1 (by simp)
    have d0 := hB1.cell (i := 0) rfl
    have d1 := hB1.cell (i := 1) rfl
    have d2 := hB1.cell (i := 2) rfl
    have d3 := hB1.cell (i := 3) rfl
    have HF1 := hid (HF.out.trans hF1)
    have T6 := Blk.new w1 [.int .i64 2, .int .i64 4] 175
    have t60 := T6.cell (i := 0) rfl
    have t61 := T6.cell (i := 1) rfl
    have f1 := (hB1.alloc (.cells #[.int .i64 2, .int .i64 4] 175)).cell (i := 1) rfl
    clear hB1 c0 c1 c2 c3 hF1 T6
    go_wp2_with fail
    all_goals first
      | (go_quiet (fail); go_wp2_with fail)
      | skip
    all_goals
      refine bodyPost_ret (v := lkFT _ n) ?_ rfl ⟨rfl, by first | exact (HF1.out.alloc _).drewN _ | exact HF1.out⟩
      simp [results, Tryz.results155, go_sem]
      refine lkFT_of ?_
      rw [e1, e2]
      first
        | omega
        | (rename_i hA; simp only [h, if_true, if_false] at hA; omega)
        | (rename_i hA; rw [if_neg (by omega)] at hA; omega)
-- end of the kinds
def MBlk (w : World) (mb : Nat) (L : HL) (a : Int) (nx : Nat) : Prop := Blk w mb [.pointer (some ⟨L.hb, 0, none⟩), .int .i64 a, .int .i64 nx] 177
structure MSt (s s' : HS) (A A' : Rg) (obs : List Ob) : Prop where
  sta : Sta s s'
  mono : ∀ o ∈ obs, Mkd A o → Mkd A' o
  wd : ∀ o ∈ obs, ∀ j, j < o.n → s'.wd o j = s.wd o j
  white : ∀ q, (A' q).W = (A q).W
  lf : (A' none).F.length ≤ (A none).F.length
theorem MSt.refl (s : HS) (A : Rg) (obs : List Ob) : MSt s s A A obs := ⟨Sta.refl s, fun _ _ h => h, fun _ _ _ _ => rfl, fun _ => rfl, Nat.le_refl _⟩
theorem up_white (A : Rg) (q : Option Nat) (F G B : List Int) (q' : Option Nat) : (A.up q ⟨(A q).W, F, G, B⟩ q').W = (A q').W := by
  by_cases e : q' = q
  · subst e; rw [Rg.up_same]
  · rw [Rg.up_ne A e]
theorem up_lf (A : Rg) (q : Option Nat) (W F G B : List Int) (h : F.length ≤ (A q).F.length) : (A.up q ⟨W, F, G, B⟩ none).F.length ≤ (A none).F.length := by
  by_cases e : none = q
  · subst e; rw [Rg.up_same]; exact h
  · rw [Rg.up_ne A e]; exact Nat.le_refl _
theorem MSt.trans {s s' s'' : HS} {A A' A'' : Rg} {obs : List Ob} (h : MSt s s' A A' obs) (k : MSt s' s'' A' A'' obs) : MSt s s'' A A'' obs :=
  ⟨h.sta.trans k.sta, fun o ho hm => k.mono o ho (h.mono o ho hm), fun o ho j hj => (k.wd o ho j hj).trans (h.wd o ho j hj), fun q => (k.white q).trans (h.white q), Nat.le_trans k.lf h.lf⟩
theorem MSt.tick (s : HS) (A : Rg) (obs : List Ob) (n : Int) : MSt s (s.tick n) A A obs := ⟨Sta.tick s n, fun _ _ h => h, fun _ _ _ _ => rfl, fun _ => rfl, Nat.le_refl _⟩
structure MSu (n : Int) (s s' : HS) (A A' : Rg) (obs : List Ob) : Prop extends MSt s s' A A' obs where
  u : s.u ≤ s'.u ∧ s'.u ≤ s.u + n
theorem MSu.refl (s : HS) (A : Rg) (obs : List Ob) : MSu 0 s s A A obs := ⟨MSt.refl s A obs, by omega⟩
theorem MSu.trans {m n : Int} {s s' s'' : HS} {A A' A'' : Rg} {obs : List Ob} (h : MSu m s s' A A' obs) (k : MSu n s' s'' A' A'' obs) : MSu (m + n) s s'' A A'' obs := ⟨h.toMSt.trans k.toMSt, by have := h.u; have := k.u; omega⟩
theorem MSu.tick (s : HS) (A : Rg) (obs : List Ob) (n : Nat) : MSu n s (s.tick n) A A obs := ⟨MSt.tick s A obs n, by simp only [HS.tick]; omega⟩
theorem MSu.le {m n : Int} {s s' : HS} {A A' : Rg} {obs : List Ob} (h : MSu m s s' A A' obs) (hmn : m ≤ n) : MSu n s s' A A' obs := ⟨h.toMSt, by have := h.u; omega⟩
def ShadePost (un : Int) (L : HL) (s : HS) (A : Rg) (z : Int → Int) (obs : List Ob) (g : MG) (a : Int) (nx U : Nat) (p : Int) (w : World) (e : Ending) (w' : World) : Prop :=
  e = .returned (.int .i64 0) ∧ Fr L.fp w w' ∧ ∃ s' A', HRep w' L s' ∧ MI s' A' z obs g a nx U ∧ MSu un s s' A A' obs ∧ (∀ o ∈ obs, o.p = p → Mkd A' o)
theorem hShadeOb (L : HL) (s : HS) (A : Rg) (z : Int → Int) (obs : List Ob) (g : MG) (a : Int) (nx U : Nat) (o : Ob) (w : World) (hH : HRep w L s) (h : MI s A z obs g a nx U) (ho : o ∈ obs) (hS : g.S o.p) :
    Calls Tryz.prog 126 #[.pointer (some ⟨L.hb, 0, none⟩), .int .i64 o.p] w fun e w' => ∃ b, e = .returned (.tuple #[.bool b, .int .i64 0]) ∧ Fr L.fp w w' ∧ ∃ s' A', HRep w' L s' ∧ MI s' A' z obs g a nx U ∧ MSu 14 s s' A A' obs ∧ (∀ o' ∈ obs, o'.p = o.p → Mkd A' o') := by
  rcases h.mh.inn o ho with ⟨hF, hin⟩ | ⟨hm, hin⟩
  · obtain ⟨F1, F2, hF'⟩ := List.append_of_mem hF
    refine (hShadeAny L s A z o.q o.p o.k o.n o.a (1 - s.parity) F1 F2 w hH h.mh.hi hF' hin.head hin.hd (h.mh.hd ho _ h.mh.par) (by have := h.mh.par; omega) hin.ring).mono ?_
    rintro e w' ⟨rfl, ⟨s', hH', hs⟩, hFr⟩
    obtain ⟨m1, m2, m3⟩ := h.shade ho hF' hs hS
    exact ⟨true, rfl, hFr, s', _, hH', m1, ⟨⟨hs.st, fun o' ho' hm => (m2 o' ho').2 (.inl hm), m3, up_white A _ _ _ _, up_lf A _ _ _ _ _ (by rw [hF']; simp)⟩, hs.u⟩, fun o' ho' e => (m2 o' ho').2 (.inr (h.mh.one ho' ho e))⟩
  · have hb := hin.bound h.mh.hi
    simp only [Ob.wm] at hb
    refine (hShadeNo L s o.p o.k o.n o.a w hH (by omega) (by omega) hin.head hin.hd).mono ?_
    rintro e w' ⟨rfl, hH', hFr⟩
    exact ⟨false, rfl, hFr.here (by intro x hx; rw [List.mem_singleton.1 hx]; simp [HL.fp]), _, A, hH', h.tick 1, (MSu.tick s A obs 1).le (by decide), fun o' ho' e => by have := h.mh.one ho' ho e; subst this; exact hm⟩
set_option maxRecDepth 100000 in
set_option maxHeartbeats 3200000 in
theorem mShade (L : HL) (s : HS) (A : Rg) (z : Int → Int) (obs : List Ob) (g : MG) (a a2 : Int) (nx nx2 U mb : Nat) (p : Int) (w : World) (hH : HRep w L s) (hM : MBlk w mb L a2 nx2) (h : MI s A z obs g a nx U) (hp : p = 0 ∨ ∃ o ∈ obs, o.p = p ∧ g.S o.p) :
    Calls Tryz.prog 93 #[.pointer (some ⟨mb, 0, none⟩), .int .i64 p] w (ShadePost 14 L s A z obs g a nx U p w) := by
  rcases hp with rfl | ⟨o, ho, rfl, hS⟩
  · go_enter Tryz.func93, Tryz.ntmps93
    go_wp2_with fail
    go_ret
    refine ⟨rfl, Fr.refl _ w, s, A, hH, h, (MSu.refl s A obs).le (by decide), fun o ho e => ?_⟩
    obtain ⟨m, hm⟩ := h.mh.any ho
    have := hm.bound h.mh.hi
    simp only [Ob.wm] at this
    omega
  · have m0 := hM.cell (i := 0) rfl
    have hb : 1 ≤ o.p := by
      obtain ⟨m, hm⟩ := h.mh.any ho
      exact (hm.bound h.mh.hi).1
    have hne : ¬ o.p = 0 := by omega
    go_enter Tryz.func93, Tryz.ntmps93
    go_wp2_with fail
    refine (hShadeOb L s A z obs g a nx U o w hH h ho hS).mono ?_
    rintro e w1 ⟨b, rfl, hF, s', A', hH', hm, hst, hmk⟩
    go_wp2_with fail
    go_ret
    exact ⟨rfl, hF, s', A', hH', hm, hst, hmk⟩
theorem MI.get {s : HS} {A : Rg} {z : Int → Int} {obs : List Ob} {g : MG} {a : Int} {nx U : Nat} (h : MI s A z obs g a nx U) {o : Ob} (ho : o ∈ obs) : ∃ m, gw s.ws o.p = packed o.k o.n o.a m ∧ Hd o.k o.n o.a m ∧ 1 ≤ o.p ∧ o.p + 3 + o.n ≤ s.ws.length := by
  obtain ⟨m, hm⟩ := h.mh.any ho
  exact ⟨m, hm.head, hm.hd, hm.bound h.mh.hi⟩
set_option maxRecDepth 100000 in
set_option maxHeartbeats 3200000 in
theorem mLink (L : HL) (s : HS) (A : Rg) (z : Int → Int) (obs : List Ob) (g : MG) (a a2 : Int) (nx nx2 U mb : Nat) (o : Ob) (j : Nat) (w : World) (hH : HRep w L s) (hM : MBlk w mb L a2 nx2) (hmb : mb ∉ L.fp) (h : MI s A z obs g a nx U) (ho : o ∈ obs) (hS : g.S o.p) (hj : Lk o j) :
    Calls Tryz.prog 123 #[.pointer (some ⟨mb, 0, none⟩), .int .i64 o.p, .int .i64 j] w (ShadePost 16 L s A z obs g a nx U (s.wd o j) w) := by
  obtain ⟨m, e1, e2, e3, e4⟩ := h.get ho
  have m0 := hM.cell (i := 0) rfl
  go_enter Tryz.func123, Tryz.ntmps123
  go_wp2_with fail
  refine (hGetV L s o.p o.k o.n o.a m j (s.wd o j) w hH (by omega) e4 e1 e2 (by omega) (by have := hj.lt; omega) rfl).mono ?_
  rintro e w1 ⟨rfl, hH1, hF1⟩
  go_wp2_with fail
  have hM1 : MBlk w1 mb L a2 nx2 := Blk.fr hM hF1 (by intro hc; exact hmb (by rw [List.mem_singleton.1 hc]; simp [HL.fp]))
  refine (mShade L _ A z obs g a a2 nx nx2 U mb (s.wd o j) w1 hH1 hM1 (h.tick _) ?_).mono ?_
  · rcases h.wd o ho j hj with h0 | ⟨o', ho', e⟩
    · exact .inl h0
    · exact .inr ⟨o', ho', e, h.cS o ho hS j hj o' ho' e⟩
  rintro e w2 ⟨rfl, hF2, s', A', hH', hm, hst, hmk⟩
  go_wp2_with fail
  go_ret
  exact ⟨rfl, (hF1.here (by intro x hx; rw [List.mem_singleton.1 hx]; simp [HL.fp])).trans hF2, s', A', hH', hm, ((MSu.tick s A obs _).trans hst).le (by decide), hmk⟩
theorem ab_fp {L : HL} : ∀ x ∈ [L.ab], x ∈ L.fp := by intro x hx; rw [List.mem_singleton.1 hx]; simp [HL.fp]
theorem MBlk.fr {w w' : World} {mb : Nat} {L : HL} {a : Int} {nx : Nat} {S : List Nat} (h : MBlk w mb L a nx) (hF : Fr S w w') (hm : mb ∉ S) : MBlk w' mb L a nx := Blk.fr h hF hm
def lkFT3 (k : Int) (n : Nat) : Value := if lkF k < lkT k n then .tuple #[.int .i64 (lkF k), .int .i64 (lkT k n), .int .i64 0] else .tuple #[.int .i64 0, .int .i64 0, .int .i64 0]
theorem lkFT_cases (k : Int) (n : Nat) : ∃ f t : Nat, lkFT k n = .tuple #[.int .i64 f, .int .i64 t] ∧ lkFT3 k n = .tuple #[.int .i64 f, .int .i64 t, .int .i64 0] ∧ ((f = lkF k ∧ t = lkT k n ∧ lkF k < lkT k n) ∨ (f = 0 ∧ t = 0 ∧ ¬ lkF k < lkT k n)) := by
  by_cases h : lkF k < lkT k n
  · exact ⟨lkF k, lkT k n, by rw [lkFT, if_pos h], by rw [lkFT3, if_pos h], .inl ⟨rfl, rfl, h⟩⟩
  · exact ⟨0, 0, by rw [lkFT, if_neg h]; rfl, by rw [lkFT3, if_neg h]; rfl, .inr ⟨rfl, rfl, h⟩⟩
set_option maxRecDepth 100000 in
set_option maxHeartbeats 3200000 in
theorem mLinks (L : HL) (s : HS) (A : Rg) (z : Int → Int) (obs : List Ob) (g : MG) (a a2 : Int) (nx nx2 U mb : Nat) (o : Ob) (w : World) (hH : HRep w L s) (hM : MBlk w mb L a2 nx2) (_hmb : mb ∉ L.fp) (h : MI s A z obs g a nx U) (ho : o ∈ obs) :
    Calls Tryz.prog 122 #[.pointer (some ⟨mb, 0, none⟩), .int .i64 o.p] w fun e w' => e = .returned (lkFT3 o.k o.n) ∧ HRep w' L (s.tick 1) ∧ Fr [L.ab] w w' := by
  obtain ⟨m, e1, e2, e3, e4⟩ := h.get ho
  have m0 := hM.cell (i := 0) rfl
  obtain ⟨f, t, h1, h2, -⟩ := lkFT_cases o.k o.n
  rw [h2]
  have HE2 := hid e2
  go_enter Tryz.func122, Tryz.ntmps122
  go_wp2_with fail
  refine (hCell L s o.p o.k o.n o.a m w hH (by omega) (by omega) e1 e2).mono ?_
  rintro e w1 ⟨rfl, hH1, hF1⟩
  have HH1 := hid hH1
  have HF1 := hid hF1
  have B0 := Blk.new w1 [.int .i64 o.k, .int .i64 o.n, .int .i64 o.a, .int .i64 m] 60
  have b0 := B0.cell (i := 0) rfl
  have b1 := B0.cell (i := 1) rfl
  have b2 := B0.cell (i := 2) rfl
  have b3 := B0.cell (i := 3) rfl
  clear hH1 hF1 B0
  go_wp2_with fail
  refine (cLinks o.k o.n o.a m HE2.out _).mono ?_
  rintro e w2 ⟨rfl, hF2⟩
  rw [h1]
  have HF2 := hid hF2
  clear hF2 b0 b1 b2 b3
  go_wp2_with fail
  refine bodyPost_ret (v := .tuple #[.int .i64 f, .int .i64 t, .int .i64 0]) (by simp [results, Tryz.results122, go_sem]) rfl ⟨rfl, HH1.out.fr (S := []) (((Fr.refl _ w1).alloc _).trans HF2.out) (by simp), HF1.out.trans ((((Fr.refl [] w1).alloc _).trans HF2.out).here (by simp))⟩
def OpenPost (L : HL) (s : HS) (A : Rg) (z : Int → Int) (obs : List Ob) (g : MG) (a : Int) (nx U mb : Nat) (w : World) (e : Ending) (w' : World) : Prop :=
  Fr (mb :: L.fp) w w' ∧ ((∃ o ∈ obs, o.p = a ∧ a ≠ 0 ∧ max o.f nx < o.t ∧ e = .returned (.tuple #[.int .i64 (max o.f nx : Nat), .bool true]) ∧ HRep w' L (s.tick 1) ∧ MBlk w' mb L a nx) ∨
    ∃ s', e = .returned (.tuple #[.int .i64 0, .bool false]) ∧ HRep w' L s' ∧ MBlk w' mb L 0 0 ∧ MI s' A z obs g 0 0 U ∧ MSu 1 s s' A A obs ∧ (a = 0 → s' = s ∧ w' = w))
theorem MI.atOb {s : HS} {A : Rg} {z : Int → Int} {obs : List Ob} {g : MG} {a : Int} {nx U : Nat} (h : MI s A z obs g a nx U) (a0 : a ≠ 0) : ∃ o ∈ obs, o.p = a ∧ o.p ∈ (A o.q).B := by
  obtain ⟨r, h1, _⟩ := h.u
  rcases h1 with ⟨h1, _⟩ | ⟨o, ho, e, hb, _⟩
  · exact absurd h1 a0
  · exact ⟨o, ho, e, hb⟩
set_option maxRecDepth 100000 in
set_option maxHeartbeats 3200000 in
theorem mOpen (L : HL) (s : HS) (A : Rg) (z : Int → Int) (obs : List Ob) (g : MG) (a : Int) (nx U mb : Nat) (w : World) (hH : HRep w L s) (hM : MBlk w mb L a nx) (hmb : mb ∉ L.all) (h : MI s A z obs g a nx U) (hnx : a = 0 → nx = 0) :
    Calls Tryz.prog 165 #[.pointer (some ⟨mb, 0, none⟩)] w (OpenPost L s A z obs g a nx U mb w) := by
  have m0 := hM.cell (i := 0) rfl
  have m1 := hM.cell (i := 1) rfl
  have m2 := hM.cell (i := 2) rfl
  have hmf : mb ∉ L.fp := fun hc => hmb (by simp [HL.all, hc])
  by_cases a0 : a = 0
  · obtain rfl := hnx a0
    subst a0
    go_enter Tryz.func165, Tryz.ntmps165
    go_wp2_with fail
    refine bodyPost_ret (v := .tuple #[.int .i64 0, .bool false]) (by simp [results, Tryz.results165, go_sem]) rfl ⟨Fr.refl _ w, .inr ⟨s, rfl, hH, hM, h, (MSu.refl s A obs).le (by decide), fun _ => ⟨rfl, rfl⟩⟩⟩
  · obtain ⟨o, ho, hp, hb⟩ := h.atOb a0
    obtain ⟨f, t, h1, h2, h3⟩ := lkFT_cases o.k o.n
    subst hp
    have hft : max f nx < t ↔ max o.f nx < o.t := by unfold Ob.f Ob.t; omega
    have hfk : max f nx < t → max f nx = max o.f nx := by unfold Ob.f; omega
    have HFT := hid hft
    have HFK := hid hfk
    have H3 := hid h3
    have HNX := hid hnx
    have HB := hid hb
    have H := hid h
    have HA0 : ¬ o.p = 0 := a0
    clear hft hfk h3 hnx hb a0
    go_enter Tryz.func165, Tryz.ntmps165
    go_wp2_with fail
    refine (mLinks L s A z obs g o.p o.p nx nx U mb o w hH hM hmf h ho).mono ?_
    rintro e w1 ⟨rfl, hH1, hF1⟩
    rw [h2]
    have hM1 := hM.fr hF1 (fun hc => hmf (ab_fp _ hc))
    have d1 := hM1.cell (i := 1) rfl
    have d2 := hM1.cell (i := 2) rfl
    have z1 := hM1.frozen 1
    have z2 := hM1.frozen 2
    have HF1 := hid hF1
    have HM1 := hid hM1
    have HH1 := hid hH1
    clear hF1 hM1 hH1 m0 m1 m2
    have hyes : ∀ k : Nat, max f nx = k → k < t → OpenPost L s A z obs g o.p nx U mb w (.returned (.tuple #[.int .i64 k, .bool true])) w1 := fun k hk hkt =>
      ⟨(HF1.out.here ab_fp).here (by intro x hx; exact List.mem_cons_of_mem _ hx), .inl ⟨o, ho, rfl, HA0, HFT.out.1 (by omega), by rw [← HFK.out (by omega), hk], HH1.out, HM1.out⟩⟩
    have hno : ¬ max f nx < t → OpenPost L s A z obs g o.p nx U mb w (.returned (.tuple #[.int .i64 0, .bool false])) ((w1.setCell ⟨mb, 1, none⟩ (.int .i64 0)).setCell ⟨mb, 2, none⟩ (.int .i64 0)) := fun hk => by
      have hF2 : Fr [mb] w1 ((w1.setCell ⟨mb, 1, none⟩ (.int .i64 0)).setCell ⟨mb, 2, none⟩ (.int .i64 0)) := ((Fr.refl _ w1).set (by simp) _).set (by simp) _
      refine ⟨((HF1.out.here ab_fp).here (by intro x hx; exact List.mem_cons_of_mem _ hx)).trans (hF2.here (by simp)), .inr ⟨s.tick 1, rfl, HH1.out.fr hF2 (by intro x hx hc; rw [List.mem_singleton.1 hx] at hc; exact hmb hc), ?_, (H.out.close ho rfl HA0 (fun hc => hk (HFT.out.2 hc))).tick 1, MSu.tick s A obs 1, fun h0 => absurd h0 HA0⟩⟩
      exact (Blk.set HM1.out 1 (.int .i64 0)).set 2 (.int .i64 0)
    have HY := hid hyes
    have HN := hid hno
    clear hyes hno
    go_wp2_with fail
    · rename_i hA
      rw [if_pos h] at hA
      exact bodyPost_ret (v := .tuple #[.int .i64 nx, .bool true]) (by simp [results, Tryz.results165, go_sem]) rfl (HY.out nx (by omega) (by omega))
    · rename_i hA
      rw [if_neg h] at hA
      exact bodyPost_ret (v := .tuple #[.int .i64 f, .bool true]) (by simp [results, Tryz.results165, go_sem]) rfl (HY.out f (by omega) (by omega))
    · rename_i hA
      rw [if_pos h] at hA
      exact bodyPost_ret (v := .tuple #[.int .i64 0, .bool false]) (by simp [results, Tryz.results165, go_sem]) rfl (HN.out (by omega))
    · rename_i hA
      rw [if_neg h] at hA
      exact bodyPost_ret (v := .tuple #[.int .i64 0, .bool false]) (by simp [results, Tryz.results165, go_sem]) rfl (HN.out (by omega))
def UnitPost (L : HL) (s : HS) (A : Rg) (z : Int → Int) (obs : List Ob) (g : MG) (U mb : Nat) (w : World) (e : Ending) (w' : World) : Prop :=
  Fr (mb :: L.fp) w w' ∧ ∃ b s' A' a' nx', e = .returned (.bool b) ∧ HRep w' L s' ∧ MBlk w' mb L a' nx' ∧ (a' = 0 → nx' = 0) ∧ MSu 18 s s' A A' obs ∧
    ((b = true ∧ 1 ≤ U ∧ MI s' A' z obs g a' nx' (U - 1)) ∨ (b = false ∧ a' = 0 ∧ NoG A' ∧ MI s' A' z obs g 0 0 U))
set_option maxRecDepth 100000 in
set_option maxHeartbeats 3200000 in
theorem mUnit (L : HL) (s : HS) (A : Rg) (z : Int → Int) (obs : List Ob) (g : MG) (a : Int) (nx U mb : Nat) (w : World) (hH : HRep w L s) (hM : MBlk w mb L a nx) (hmb : mb ∉ L.all) (h : MI s A z obs g a nx U) (hnx : a = 0 → nx = 0) :
    Calls Tryz.prog 144 #[.pointer (some ⟨mb, 0, none⟩)] w (UnitPost L s A z obs g U mb w) := by
  have hmf : mb ∉ L.fp := fun hc => hmb (by simp [HL.all, hc])
  have H := hid h
  have HNX := hid hnx
  have HMF := hid hmf
  clear hnx hmf h
  go_enter Tryz.func144, Tryz.ntmps144
  go_wp2_with fail
  refine (mOpen L s A z obs g a nx U mb w hH hM hmb H.out HNX.out).mono ?_
  rintro e w1 ⟨hF1, ⟨o, ho, rfl, a0, hk, rfl, hH1, hM1⟩ | ⟨s1, rfl, hH1, hM1, hI1, hst1, -⟩⟩
  · have d1 := hM1.cell (i := 1) rfl
    have HF1 := hid hF1
    have HM1 := hid hM1
    have HH1 := hid hH1
    have HK := hid hk
    have hS : g.S o.p := by
      obtain ⟨o', ho', e, hb⟩ := H.out.atOb a0
      have := H.out.mh.one ho' ho e
      subst this
      exact H.out.mS _ ho (.inr hb)
    obtain ⟨K, hKe⟩ : ∃ K, K = max o.f nx := ⟨_, rfl⟩
    have HKe := hid hKe
    have hjK : Lk o K := ⟨by rw [hKe]; omega, by rw [hKe]; exact hk⟩
    have hKl : K < 40 := by
      have h1 := hjK.lt
      obtain ⟨m, hm⟩ := H.out.mh.any ho
      have := hm.hd.s1
      simp only [Ob.wm] at this
      omega
    rw [← hKe]
    clear hF1 hM1 hH1 hk hKe
    go_wp2_with fail
    refine (mLink L _ A z obs g o.p o.p nx nx U mb o K w1 HH1.out HM1.out HMF.out (H.out.tick 1) ho hS hjK).mono ?_
    rintro e w2 ⟨rfl, hF2, s2, A2, hH2, hI2, hst2, hmk2⟩
    have hM2 := HM1.out.fr hF2 HMF.out
    have z2 := hM2.frozen 2
    have d2 := hM2.cell (i := 2) rfl
    have hadv := hI2.adv ho rfl a0 (by rw [← HKe.out]; exact hjK.2) (fun o' ho' e => hmk2 o' ho' (by
      rw [e, hst2.wd o ho _ (by rw [← HKe.out]; exact hjK.lt)]
      show _ = HS.wd s o K
      rw [HKe.out]; rfl))
    rw [← HKe.out] at hadv
    have w0 : wrap64 ((K : Int) + 1) = ((K + 1 : Nat) : Int) := by unfold wrap64; omega
    have HM2 := hid hM2
    have HADV := hid hadv
    have HF2 := hid hF2
    clear hM2 hadv hF2
    go_wp2_with fail
    go_ret
    have hF3 : Fr [mb] w2 (w2.setCell ⟨mb, 2, none⟩ (.int .i64 (K + 1))) := (Fr.refl _ w2).set (by simp) _
    refine ⟨(HF1.out.trans (HF2.out.here (by intro x hx; exact List.mem_cons_of_mem _ hx))).trans (hF3.here (by simp)), true, s2, A2, o.p, K + 1, rfl, hH2.fr hF3 (by intro x hx hc; rw [List.mem_singleton.1 hx] at hc; exact hmb hc), ?_, fun h0 => absurd h0 a0, ((MSu.tick s A obs 1).trans hst2).le (by decide), .inl ⟨rfl, HADV.out.1, HADV.out.2⟩⟩
    exact Blk.set HM2.out 2 (.int .i64 (K + 1))
  · have d0 := hM1.cell (i := 0) rfl
    have HF1 := hid hF1
    have HM1 := hid hM1
    have HI1 := hid hI1
    have HST1 := hid hst1
    clear hF1 hM1 hI1 hst1
    go_wp2_with fail
    refine (hNextRows L s1 A z w1 hH1 HI1.out.mh.hi).mono ?_
    rintro e w2 ⟨hF2, ⟨rfl, hH2, hno⟩ | ⟨q, G, c, hG, -, rfl, hH2⟩⟩
    · have hM2 := HM1.out.fr hF2 (fun hc => HMF.out (ab_fp _ hc))
      have HF2 := hid hF2
      have HM2 := hid hM2
      have HNO := hid hno
      clear hF2 hM2 hno
      go_wp2_with fail
      go_ret
      exact ⟨HF1.out.trans ((HF2.out.here ab_fp).here (by intro x hx; exact List.mem_cons_of_mem _ hx)), false, s1, A, 0, 0, rfl, hH2, HM2.out, fun _ => rfl, HST1.out.le (by decide), .inr ⟨rfl, rfl, HNO.out, HI1.out⟩⟩
    · have hM2 := HM1.out.fr hF2 (fun hc => HMF.out (ab_fp _ hc))
      have e0 := hM2.cell (i := 0) rfl
      have hI2 := HI1.out.tick 1
      obtain ⟨o, ho, hq, hp⟩ := hI2.mh.rows q c (.inr (.inl (by rw [hG]; simp)))
      obtain ⟨m, hm⟩ := hI2.mh.any ho
      have hb := hm.bound hI2.mh.hi
      have hlow := hm.low hI2.mh.hi
      have hhead := hm.head
      have hhd := hm.hd
      have hring := hm.ring
      simp only [Ob.wm, Ob.word] at hb hlow hhead hhd hring
      subst hp
      subst hq
      have HF2 := hid hF2
      have HM2 := hid hM2
      have HG := hid hG
      have HI2 := hid hI2
      have HLOW := hid hlow
      have HHEAD := hid hhead
      have HHD := hid hhd
      have HRING := hid hring
      clear hF2 hM2 hG hI2 hlow hhead hhd hring hm
      go_wp2_with fail
      refine (hDoneAny L (s1.tick 1) A z o.q o.p o.p o.k o.n o.a m G w2 hH2 HI2.out.mh.hi HG.out (by omega) (by omega) HLOW.out HHEAD.out HHD.out HRING.out).mono ?_
      rintro e w3 ⟨rfl, ⟨s3, hH3, hD⟩, hF3⟩
      have hM3 := HM2.out.fr hF3 HMF.out
      have y1 := hM3.cell (i := 1) rfl
      have y2 := hM3.cell (i := 2) rfl
      have z1 := hM3.frozen 1
      have z2 := hM3.frozen 2
      have hdn := HI2.out.done HG.out hD
      have hst3 : MSu 14 (s1.tick 1) s3 A (A.up o.q ⟨(A o.q).W, (A o.q).F, G, o.p :: (A o.q).B⟩) obs := by
        obtain ⟨m1, m2, m3, -⟩ := HI2.out.mh.done HG.out hD
        exact ⟨⟨hD.st, fun o' ho' hm => (m3 o' ho').2 hm, fun o' ho' j _ => m2 o' ho' j, up_white A _ _ _ _, up_lf A _ _ _ _ _ (Nat.le_refl _)⟩, hD.u⟩
      have HM3 := hid hM3
      have HDN := hid hdn
      have HST3 := hid hst3
      have HF3 := hid hF3
      have hp0 : o.p ≠ 0 := by omega
      have HP0 := hid hp0
      clear hM3 hdn hst3 hF3 hp0 hD e0
      go_wp2_with fail
      go_ret
      have hF4 : Fr [mb] w3 ((w3.setCell ⟨mb, 1, none⟩ (.int .i64 o.p)).setCell ⟨mb, 2, none⟩ (.int .i64 0)) := ((Fr.refl _ w3).set (by simp) _).set (by simp) _
      have hin : ∀ x ∈ L.fp, x ∈ mb :: L.fp := fun x hx => List.mem_cons_of_mem _ hx
      refine ⟨((HF1.out.trans ((HF2.out.here ab_fp).here hin)).trans (HF3.out.here hin)).trans (hF4.here (by simp)), true, s3, _, o.p, 0, rfl, hH3.fr hF4 (by intro x hx hc; rw [List.mem_singleton.1 hx] at hc; exact hmb hc), ?_, fun _ => rfl, (HST1.out.trans ((MSu.tick s1 A obs 1).trans HST3.out)).le (by decide), .inl ⟨rfl, HDN.out.1, HDN.out.2⟩⟩
      exact (Blk.set HM3.out 1 (.int .i64 o.p)).set 2 (.int .i64 0)
structure MW (w : World) (L : HL) (mb : Nat) (s : HS) (A : Rg) (z : Int → Int) (obs : List Ob) (g : MG) (a : Int) (nx U : Nat) : Prop where
  hr : HRep w L s
  m : MBlk w mb L a nx
  i : MI s A z obs g a nx U
  z0 : a = 0 → nx = 0
set_option maxRecDepth 100000 in
set_option maxHeartbeats 3200000 in
theorem mDo (L : HL) (s : HS) (A : Rg) (z : Int → Int) (obs : List Ob) (g : MG) (a : Int) (nx U mb bm bd d : Nat) (w : World) (h : MW w L mb s A z obs g a nx U) (hmb : mb ∉ L.all) (hbm : Blk w bm [.pointer (some ⟨mb, 0, none⟩)] 89) (hbd : Blk w bd [.int .i64 d] 3)
    (hbdL : bd ∉ L.all ∧ bd ≠ mb ∧ bd ≠ bm) (hd : d ≤ 65536) :
    Calls Tryz.prog 143 #[.pointer (some ⟨bm, 0, none⟩), .pointer (some ⟨bd, 0, none⟩)] w fun e w' => Fr (bd :: mb :: L.fp) w w' ∧ ∃ b s' A' a' nx', e = .returned (.bool b) ∧ HRep w' L s' ∧ MBlk w' mb L a' nx' ∧ (a' = 0 → nx' = 0) ∧ MSu 18 s s' A A' obs ∧ Blk w' bd [.int .i64 (if b then d + 1 else d : Nat)] 3 ∧
      ((b = true ∧ 1 ≤ U ∧ MI s' A' z obs g a' nx' (U - 1)) ∨ (b = false ∧ a' = 0 ∧ NoG A' ∧ MI s' A' z obs g 0 0 U)) := by
  have m0 := hbm.cell (i := 0) rfl
  have hbf : bd ∉ L.fp := fun hc => hbdL.1 (by simp [HL.all, hc])
  have HBF := hid hbf
  have HBL := hid hbdL
  have HBD := hid hbd
  have H := hid h
  clear hbf hbdL hbd h
  go_enter Tryz.func143, Tryz.ntmps143
  go_wp2_with fail
  refine (mUnit L s A z obs g a nx U mb w H.out.hr H.out.m hmb H.out.i H.out.z0).mono ?_
  rintro e w1 ⟨hF1, b, s1, A1, a1, nx1, rfl, hH1, hM1, hz1, hst1, hres⟩
  have hbd1 := HBD.out.fr hF1 (by intro hc; rcases List.mem_cons.1 hc with h | h; (· exact HBL.out.2.1 h); (· exact HBF.out h))
  have HH1 := hid hH1
  have HM1 := hid hM1
  have HZ1 := hid hz1
  have HST := hid hst1
  have HRES := hid hres
  have HBD1 := hid hbd1
  have HF1 := hid hF1
  have c0 := hbd1.cell (i := 0) rfl
  have f0 := hbd1.frozen 0
  clear hH1 hM1 hz1 hst1 hres hbd1 hF1
  have hin : ∀ x ∈ mb :: L.fp, x ∈ bd :: mb :: L.fp := fun x hx => List.mem_cons_of_mem _ hx
  cases b with
  | false =>
    go_wp2_with fail
    go_ret
    exact ⟨HF1.out.here hin, false, s1, A1, a1, nx1, rfl, HH1.out, HM1.out, HZ1.out, HST.out, HBD1.out, by simpa using HRES.out⟩
  | true =>
    have w0 : wrap64 ((d : Int) + 1) = ((d + 1 : Nat) : Int) := by unfold wrap64; omega
    go_wp2_with fail
    go_ret
    have hF2 : Fr [bd] w1 (w1.setCell ⟨bd, 0, none⟩ (.int .i64 (d + 1))) := (Fr.refl _ w1).set (by simp) _
    refine ⟨(HF1.out.here hin).trans (hF2.here (by simp)), true, s1, A1, a1, nx1, rfl, HH1.out.fr hF2 (by intro x hx hc; rw [List.mem_singleton.1 hx] at hc; exact HBL.out.1 hc), HM1.out.fr hF2 (by intro hc; exact HBL.out.2.1 (List.mem_singleton.1 hc).symm), HZ1.out, HST.out, ?_, by simpa using HRES.out⟩
    exact HBD1.out.set 0 (.int .i64 (d + 1))
def WorkPost (L : HL) (s : HS) (A : Rg) (z : Int → Int) (obs : List Ob) (g : MG) (U mb : Nat) (n : Int) (w : World) (e : Ending) (w' : World) : Prop :=
  Fr (mb :: L.fp) w w' ∧ ∃ (d : Nat) (s' : HS) (A' : Rg) (a' : Int) (nx' : Nat), e = .returned (.int .i64 d) ∧ (d : Int) ≤ max n 0 ∧ d ≤ U ∧ MW w' L mb s' A' z obs g a' nx' (U - d) ∧ MSu (18 * d + 18) s s' A A' obs ∧
    ((d : Int) < n → a' = 0 ∧ NoG A')
set_option maxRecDepth 100000 in
set_option maxHeartbeats 3200000 in
theorem mWork (L : HL) (s : HS) (A : Rg) (z : Int → Int) (obs : List Ob) (g : MG) (a : Int) (nx U mb : Nat) (n : Int) (w : World) (h : MW w L mb s A z obs g a nx U) (hmb : mb ∉ L.all) (hU : U ≤ 60000) :
    Calls Tryz.prog 112 #[.pointer (some ⟨mb, 0, none⟩), .int .i64 n] w (WorkPost L s A z obs g U mb n w) := by
  have hmw : mb < w.heap.size := h.m.lt
  have hall : ∀ x ∈ L.all, x < w.heap.size := fun x hx => all_lt h.hr hx
  have B1 := (Blk.new w [.pointer (some ⟨mb, 0, none⟩)] 89).alloc (.cells #[.int .i64 0] 3)
  have B2 := Blk.new (w.alloc (.cells #[.pointer (some ⟨mb, 0, none⟩)] 89)) [.int .i64 0] 3
  have hsz : (w.alloc (.cells #[.pointer (some ⟨mb, 0, none⟩)] 89)).heap.size = w.heap.size + 1 := by simp
  rw [hsz] at B2
  have hF0 : Fr [] w ((w.alloc (.cells #[.pointer (some ⟨mb, 0, none⟩)] 89)).alloc (.cells #[.int .i64 0] 3)) := ((Fr.refl _ w).alloc _).alloc _
  have h0 : MW ((w.alloc (.cells #[.pointer (some ⟨mb, 0, none⟩)] 89)).alloc (.cells #[.int .i64 0] 3)) L mb s A z obs g a nx (U - 0) := ⟨h.hr.fr hF0 (by simp), h.m.fr hF0 (by simp), h.i, h.z0⟩
  have hbd : w.heap.size + 1 ∉ L.all ∧ w.heap.size + 1 ≠ mb ∧ w.heap.size + 1 ≠ w.heap.size := ⟨fun hc => by have := hall _ hc; omega, by omega, by omega⟩
  have HB1 := hid B1
  have HB2 := hid B2
  have HF0 := hid hF0
  have H0 := hid h0
  have HBD := hid hbd
  have HHR := hid h.hr
  have HHM := hid h.m
  have HHI := hid h.i
  clear B1 B2 hF0 h0 hbd h hall hsz
  by_cases hneg : n < 0
  · go_enter Tryz.func112, Tryz.ntmps112
    go_wp2_with fail
    go_loopw [10] (fun i wr => i = .int .i64 0 ∧ wr = ((w.alloc (.cells #[.pointer (some ⟨mb, 0, none⟩)] 89)).alloc (.cells #[.int .i64 0] 3))) (fun _ _ => 0)
    case atStart => exact ⟨rfl, rfl⟩
    case round =>
      obtain ⟨rfl, rfl⟩ := hrel
      have c0 := HB2.out.cell (i := 0) rfl
      go_wp2_with fail
      go_ret
      exact ⟨HF0.out.here (by simp), 0, s, A, a, nx, rfl, by omega, Nat.zero_le _, H0.out, (MSu.refl s A obs).le (by decide), fun h0 => by omega⟩
  · obtain ⟨N, rfl⟩ := Int.eq_ofNat_of_zero_le (show 0 ≤ n by omega)
    clear hneg
    go_enter Tryz.func112, Tryz.ntmps112
    go_wp2_with fail
    go_loopw [10] (fun i wr => ∃ (k : Nat) (s' : HS) (A' : Rg) (a' : Int) (nx' : Nat), k ≤ N ∧ k ≤ U ∧ i = .int .i64 k ∧ MW wr L mb s' A' z obs g a' nx' (U - k) ∧ MSu (18 * k) s s' A A' obs ∧ Blk wr w.heap.size [.pointer (some ⟨mb, 0, none⟩)] 89 ∧ Blk wr (w.heap.size + 1) [.int .i64 k] 3 ∧ Fr (mb :: L.fp) w wr) (fun i _ => N - (intOf i).toNat)
    case atStart => exact ⟨0, s, A, a, nx, Nat.zero_le _, Nat.zero_le _, rfl, H0.out, MSu.refl s A obs, HB1.out, HB2.out, HF0.out.here (by simp)⟩
    case round =>
      obtain ⟨k, s', A', a', nx', hkN, hkU, rfl, hw, hst, hb1, hb2, hF⟩ := hrel
      have c0 := hb2.cell (i := 0) rfl
      have HW := hid hw
      have HST := hid hst
      have Hb1 := hid hb1
      have Hb2 := hid hb2
      have HF := hid hF
      clear hw hst hb1 hb2 hF
      by_cases hlt : (k : Int) < (N : Int)
      · go_wp2_with fail
        refine (mDo L s' A' z obs g a' nx' (U - k) mb w.heap.size (w.heap.size + 1) k wr HW.out hmb Hb1.out Hb2.out HBD.out (by omega)).mono ?_
        rintro e w2 ⟨hF2, b, s2, A2, a2, nx2, rfl, hH2, hM2, hz2, hst2, hb2, hres⟩
        have hb1' := Hb1.out.fr hF2 (by
          intro hc
          rcases List.mem_cons.1 hc with h | h
          · exact HBD.out.2.2 h.symm
          · rcases List.mem_cons.1 h with h | h
            · omega
            · have := all_lt HHR.out (b := w.heap.size) (by simp [HL.all, h]); omega)
        have hF2' : Fr (mb :: L.fp) w w2 := HF.out.step hF2 (fun x hx => by
          rcases List.mem_cons.1 hx with h | h
          · exact .inr (by omega)
          · exact .inl h)
        have HF2 := hid hF2'
        have HH2 := hid hH2
        have HM2 := hid hM2
        have HZ2 := hid hz2
        have HST2 := hid (hst2)
        have HRES := hid hres
        have HB1' := hid hb1'
        have HB2' := hid hb2
        have c2 := hb2.cell (i := 0) rfl
        clear hF2 hF2' hH2 hM2 hz2 hst2 hres hb1' hb2 c0
        cases b with
        | true =>
          go_wp2_with fail
          go_roundw
          case rel =>
            obtain ⟨-, h1, h2⟩ : true = true ∧ 1 ≤ U - k ∧ MI s2 A2 z obs g a2 nx2 (U - k - 1) := by
              rcases HRES.out with h | h
              · exact ⟨rfl, h.2⟩
              · simp at h
            refine ⟨k + 1, s2, A2, a2, nx2, by omega, by omega, by go_num, ⟨HH2.out, HM2.out, by rw [show U - (k + 1) = U - k - 1 by omega]; exact h2, HZ2.out⟩, (HST.out.trans HST2.out).le (by omega), HB1'.out, HB2'.out, HF2.out⟩
          case measure => simp [intOf]; omega
        | false =>
          go_wp2_with fail
          go_ret
          obtain ⟨-, h1, h2, h3⟩ : false = false ∧ a2 = 0 ∧ NoG A2 ∧ MI s2 A2 z obs g 0 0 (U - k) := by
            rcases HRES.out with h | h
            · simp at h
            · exact ⟨rfl, h.2⟩
          have h4 := HZ2.out h1
          subst h1
          subst h4
          exact ⟨HF2.out, k, s2, A2, 0, 0, rfl, by omega, hkU, ⟨HH2.out, HM2.out, h3, fun _ => rfl⟩, HST.out.trans HST2.out, fun _ => ⟨rfl, h2⟩⟩
      · go_wp2_with fail
        go_ret
        exact ⟨HF.out, k, s', A', a', nx', rfl, by omega, hkU, HW.out, HST.out.le (by omega), fun h0 => by omega⟩
set_option maxRecDepth 100000 in
theorem mkNew (hb : Nat) (w : World) :
    Calls Tryz.prog 68 #[.pointer (some ⟨hb, 0, none⟩)] w fun e w' => e = .returned (.pointer (some ⟨w.heap.size, 0, none⟩)) ∧ Blk w' w.heap.size [.pointer (some ⟨hb, 0, none⟩), .int .i64 0, .int .i64 0] 177 ∧ Fr [] w w' ∧ w'.heap.size = w.heap.size + 1 := by
  go_enter Tryz.func68, Tryz.ntmps68
  go_wp2_with fail
  go_ret
  exact ⟨rfl, Blk.new _ _ _, (Fr.refl _ w).alloc _, by simp⟩
structure TS where
  row : Int
  first : Int
  last : Int
  walk : Int
  ahead : Int
  walking : Bool
def TS.cells (t : TS) (hb : Nat) (sh : Value) : List Value := [.pointer (some ⟨hb, 0, none⟩), sh, .int .i64 t.row, .int .i64 t.first, .int .i64 t.last, .int .i64 t.walk, .int .i64 t.ahead, .bool t.walking]
def TRep (w : World) (tb hb : Nat) (sh : Value) (t : TS) : Prop := Blk w tb (t.cells hb sh) 151
theorem TRep.fr {S : List Nat} {w w' : World} {tb hb : Nat} {sh : Value} {t : TS} (h : TRep w tb hb sh t) (hf : Fr S w w') (hS : tb ∉ S) : TRep w' tb hb sh t := Blk.fr h hf hS
theorem TRep.reads {w : World} {tb hb : Nat} {sh : Value} {t : TS} (h : TRep w tb hb sh t) :
    w.cell? ⟨tb, 0, none⟩ = some (.pointer (some ⟨hb, 0, none⟩)) ∧ w.cell? ⟨tb, 1, none⟩ = some sh ∧ w.cell? ⟨tb, 2, none⟩ = some (.int .i64 t.row) ∧ w.cell? ⟨tb, 3, none⟩ = some (.int .i64 t.first) ∧ w.cell? ⟨tb, 4, none⟩ = some (.int .i64 t.last) ∧ w.cell? ⟨tb, 5, none⟩ = some (.int .i64 t.walk) ∧ w.cell? ⟨tb, 6, none⟩ = some (.int .i64 t.ahead) ∧ w.cell? ⟨tb, 7, none⟩ = some (.bool t.walking) :=
  ⟨Blk.cell h rfl, Blk.cell h rfl, Blk.cell h rfl, Blk.cell h rfl, Blk.cell h rfl, Blk.cell h rfl, Blk.cell h rfl, Blk.cell h rfl⟩
structure Ob.Lies (o : Ob) (s : HS) : Prop where
  p0 : 1 ≤ o.p
  p1 : o.p + 3 + o.n ≤ s.ws.length
  head : gw s.ws o.p = packed o.k o.n o.a o.m
  hd : Hd o.k o.n o.a o.m
theorem Ob.In.lies {o : Ob} {s : HS} {A : Rg} {z : Int → Int} (h : o.In s A z) (hI : HI s A z) : o.Lies s := ⟨(h.bound hI).1, (h.bound hI).2, h.head, h.hd⟩
theorem Ob.Lies.tick {o : Ob} {s : HS} (h : o.Lies s) (n : Int) : o.Lies (s.tick n) := ⟨h.p0, h.p1, h.head, h.hd⟩
theorem tWord (L : HL) (s : HS) (tb : Nat) (sh : Value) (t : TS) (o : Ob) (j : Nat) (w : World) (hH : HRep w L s) (hT : TRep w tb L.hb sh t) (ho : o.Lies s) (hj : j < o.n) :
    Calls Tryz.prog 120 #[.pointer (some ⟨tb, 0, none⟩), .int .i64 o.p, .int .i64 j] w fun e w' => e = .returned (.int .i64 (s.wd o j)) ∧ HRep w' L (s.tick 2) ∧ Fr [L.ab] w w' := by
  have c0 := hT.reads.1
  have h0 := ho.p0
  have hd := ho.hd
  go_enter Tryz.func120, Tryz.ntmps120
  go_wp2_with fail
  refine (hGet L s o.p o.k o.n o.a o.m j _ hH (by omega) ho.p1 ho.head ho.hd (by omega) (by omega)).mono ?_
  rintro e w1 ⟨rfl, hH1, hF1⟩
  clear c0
  go_wp2_with fail
  go_ret
  exact ⟨rfl, hH1, hF1⟩
theorem hParityQ (L : HL) (s : HS) (pr : Int) (hpr : s.parity = pr) (w : World) (hH : HRep w L s) :
    Calls Tryz.prog 168 #[.pointer (some ⟨L.hb, 0, none⟩)] w fun e w' => e = .returned (.int .i64 pr) ∧ w' = w := by
  subst hpr
  refine (hParity L s w hH).mono ?_
  rintro e w' ⟨rfl, rfl⟩
  exact ⟨rfl, rfl⟩
set_option maxHeartbeats 1600000 in
theorem tMarked (L : HL) (s : HS) (tb : Nat) (sh : Value) (t : TS) (o : Ob) (pr : Int) (w : World) (hH : HRep w L s) (hT : TRep w tb L.hb sh t) (htb : tb ∉ L.all) (ho : o.Lies s) (hpr : s.parity = pr) :
    Calls Tryz.prog 145 #[.pointer (some ⟨tb, 0, none⟩), .int .i64 o.p] w fun e w' => e = .returned (.bool (o.m == pr)) ∧ HRep w' L (s.tick 1) ∧ Fr [L.ab] w w' := by
  have c0 := hT.reads.1
  have h0 := ho.p0
  have h1 := ho.p1
  have hnab : tb ∉ [L.ab] := fun hc => htb (by simp at hc; subst hc; simp [HL.all, HL.fp])
  have HPR := hid hpr
  clear hpr
  go_enter Tryz.func145, Tryz.ntmps145
  go_wp2_with fail
  refine (hCell L s o.p o.k o.n o.a o.m _ hH (by omega) (by omega) ho.head ho.hd).mono ?_
  rintro e w1 ⟨rfl, hH1, hF1⟩
  have C1 := Blk.new w1 [.int .i64 o.k, .int .i64 o.n, .int .i64 o.a, .int .i64 o.m] 60
  have hH1' := hH1.alloc (.cells #[.int .i64 o.k, .int .i64 o.n, .int .i64 o.a, .int .i64 o.m] 60)
  have hT1 : TRep (w1.alloc (.cells #[.int .i64 o.k, .int .i64 o.n, .int .i64 o.a, .int .i64 o.m] 60)) tb L.hb sh t := Blk.alloc (hT.fr hF1 hnab) _
  have d3 := C1.cell (i := 3) rfl
  have q0 := hT1.reads.1
  have hF1' : Fr [L.ab] w (w1.alloc (.cells #[.int .i64 o.k, .int .i64 o.n, .int .i64 o.a, .int .i64 o.m] 60)) := hF1.alloc _
  obtain ⟨W1, hW1⟩ : ∃ W1, W1 = w1.alloc (.cells #[.int .i64 o.k, .int .i64 o.n, .int .i64 o.a, .int .i64 o.m] 60) := ⟨_, rfl⟩
  rw [← hW1] at d3 q0 hH1' hF1'
  clear c0 C1
  go_wp2_with fail
  rw [← hW1]
  clear hW1
  go_quiet ((go_at_call 168; exact Calls.quiet_of_same (hParityQ L (s.tick 1) pr HPR.out _ (hH1'.drewN _))))
  go_wp2_with fail
  go_ret
  exact ⟨rfl, hH1'.drewN nq, hF1'.drewN nq⟩
def TS.added (t : TS) (p : Int) : TS := { t with row := p, ahead := if t.walking = true ∧ t.ahead = 0 then p else t.ahead }
set_option maxHeartbeats 3200000 in
theorem tAdd (L : HL) (s : HS) (tb : Nat) (sh : Value) (t : TS) (o : Ob) (w : World) (hH : HRep w L s) (hT : TRep w tb L.hb sh t) (htb : tb ∉ L.all) (ho : o.Lies s) (hk : o.k = 9) (hn : o.n = 4) :
    Calls Tryz.prog 85 #[.pointer (some ⟨tb, 0, none⟩), .int .i64 o.p] w fun e w' => e = .returned (.int .i64 0) ∧ HRep w' L ((s.tick 1).put (o.p + 3 + 3) t.row 2) ∧ TRep w' tb L.hb sh (t.added o.p) ∧ Fr [L.ab, L.wb, tb] w w' := by
  have c0 := hT.reads.1
  have h0 := ho.p0
  have h1 := ho.p1
  have hnab : tb ∉ [L.ab] := fun hc => htb (by simp at hc; subst hc; simp [HL.all, HL.fp])
  have hnaw : tb ∉ [L.ab, L.wb] := fun hc => htb (by simp at hc; rcases hc with rfl | rfl <;> simp [HL.all, HL.fp])
  obtain ⟨q, p, k, n, a, m⟩ := o
  simp only at hk hn
  subst hk
  subst hn
  have hhead := ho.head
  have hhd := ho.hd
  simp only at hhead hhd h0 h1
  have HH := hid hhead
  clear ho hhead
  go_enter Tryz.func85, Tryz.ntmps85
  go_wp2_with fail
  refine (hCell L s p 9 4 a m _ hH (by omega) (by omega) HH.out hhd).mono ?_
  rintro e w1 ⟨rfl, hH1, hF1⟩
  have C1 := Blk.new w1 [.int .i64 9, .int .i64 4, .int .i64 a, .int .i64 m] 60
  have hH1' := hH1.alloc (.cells #[.int .i64 9, .int .i64 4, .int .i64 a, .int .i64 m] 60)
  have hT1 : TRep (w1.alloc (.cells #[.int .i64 9, .int .i64 4, .int .i64 a, .int .i64 m] 60)) tb L.hb sh t := Blk.alloc (hT.fr hF1 hnab) _
  have d0 := C1.cell (i := 0) rfl
  have d1 := C1.cell (i := 1) rfl
  have q0 := hT1.reads.1
  have q2 := hT1.reads.2.2.1
  have hF1' : Fr [L.ab] w (w1.alloc (.cells #[.int .i64 9, .int .i64 4, .int .i64 a, .int .i64 m] 60)) := hF1.alloc _
  obtain ⟨W1, hW1⟩ : ∃ W1, W1 = w1.alloc (.cells #[.int .i64 9, .int .i64 4, .int .i64 a, .int .i64 m] 60) := ⟨_, rfl⟩
  rw [← hW1] at d0 d1 q0 q2 hH1' hF1' hT1
  clear c0 C1 hT
  go_wp2_with fail
  rw [← hW1]
  clear hW1
  go_region_with ((go_at_call 79; refine (hSet L (s.tick 1) p 9 4 a m 3 t.row _ hH1'.drew (by omega) h1 HH.out hhd (by omega) (by omega)).mono ?_; rintro e w2 ⟨rfl, hH2, hF2⟩))
  all_goals
    have hT2 := (show TRep W1.drew tb L.hb sh t from Blk.drew hT1).fr hF2 hnaw
    have g2 := hT2.reads.2.2.1
    have f2 := Blk.frozen hT2 2
    have hT3 : TRep (w2.setCell ⟨tb, 2, none⟩ (.int .i64 p)) tb L.hb sh { t with row := p } := by
      have := Blk.set hT2 2 (.int .i64 p)
      simpa [TRep, TS.cells] using this
    have hH3 := hH2.other (a := ⟨tb, 2, none⟩) htb (.int .i64 p)
    have hF3 : Fr [L.ab, L.wb, tb] w (w2.setCell ⟨tb, 2, none⟩ (.int .i64 p)) := (((hF1'.drew).here (by simp)).trans (hF2.here (by simp))).set (by simp) _
    have g6 := hT2.reads.2.2.2.2.2.2.1
    have g7 := hT2.reads.2.2.2.2.2.2.2
    have f6 := Blk.frozen hT2 6
    have HT3 := hid hT3
    clear d0 d1 q0 q2 hT2
    cases hw : t.walking with
    | false =>
      rw [hw] at g7
      have HW := hid hw
      clear hw
      go_wp2_with fail
      go_ret
      refine ⟨rfl, hH3, ?_, hF3⟩
      have := HT3.out
      simpa [TRep, TS.cells, TS.added, HW.out] using this
    | true =>
      rw [hw] at g7
      have HW := hid hw
      clear hw
      by_cases ha : t.ahead = 0
      · rw [ha] at g6
        have HA := hid ha
        clear ha
        go_wp2_with fail
        go_ret
        refine ⟨rfl, hH3.other (a := ⟨tb, 6, none⟩) htb _, ?_, hF3.set (by simp) _⟩
        have := Blk.set HT3.out 6 (.int .i64 p)
        simpa [TRep, TS.cells, TS.added, HW.out, HA.out] using this
      · have HA := hid ha
        go_wp2_with fail
        go_ret
        refine ⟨rfl, hH3, ?_, hF3⟩
        have := HT3.out
        simpa [TRep, TS.cells, TS.added, HW.out, HA.out] using this
theorem tBegin (L : HL) (tb : Nat) (sh : Value) (t : TS) (w : World) (hT : TRep w tb L.hb sh t) :
    Calls Tryz.prog 116 #[.pointer (some ⟨tb, 0, none⟩)] w fun e w' => e = .returned (.tuple #[]) ∧ TRep w' tb L.hb sh { t with walk := t.row, ahead := 0, walking := true } ∧ Fr [tb] w w' := by
  obtain ⟨-, -, c2, -, -, c5, c6, c7⟩ := hT.reads
  have y5 := Blk.frozen hT 5
  have y6 := Blk.frozen hT 6
  have y7 := Blk.frozen hT 7
  go_enter Tryz.func116, Tryz.ntmps116
  go_wp2_with fail
  go_end0
  refine ⟨rfl, ?_, (((Fr.refl _ w).set (by simp) _).set (by simp) _).set (by simp) _⟩
  have := ((Blk.set hT 5 (.int .i64 t.row)).set 6 (.int .i64 0)).set 7 (.bool true)
  simpa [TRep, TS.cells] using this
def TS.buried (t : TS) (p : Int) : TS := { t with row := if t.ahead = 0 then t.walk else t.row, first := if t.first = 0 then p else t.first, last := p }
def zsK (s : HS) (p : Int) : Nat → HS
  | 0 => s
  | 1 => s.put (p + 3 + 0) 0 2
  | 2 => (s.put (p + 3 + 0) 0 2).put (p + 3 + 1) 0 2
  | _ => ((s.put (p + 3 + 0) 0 2).put (p + 3 + 1) 0 2).put (p + 3 + 3) 0 2
set_option maxRecDepth 100000 in
set_option maxHeartbeats 6400000 in
theorem tBury (L : HL) (s : HS) (A : Rg) (z : Int → Int) (tb : Nat) (sh : Value) (t : TS) (o : Ob) (w : World) (hH : HRep w L s) (hI : HI s A z) (hT : TRep w tb L.hb sh t) (htb : tb ∉ L.all) (ho : o.In s A z) (hk : o.k = 9) (hn : o.n = 4)
    (hna : t.ahead ≠ 0 → o.p ≠ t.ahead) (hah : t.ahead = 0 ∨ ∃ oa : Ob, oa.In s A z ∧ oa.n = 4 ∧ oa.p = t.ahead) (hla : t.first = 0 ∨ ∃ ol : Ob, ol.In s A z ∧ ol.n = 4 ∧ ol.p = t.last ∧ ol.p ≠ o.p ∧ ol.p ≠ 0) :
    Calls Tryz.prog 146 #[.pointer (some ⟨tb, 0, none⟩), .int .i64 o.p, .int .i64 o.a] w fun e w' => e = .returned (.tuple #[]) ∧ (∃ s', HRep w' L s' ∧ BurU 12 s s' A z o t.ahead t.walk t.first t.last) ∧ TRep w' tb L.hb sh (t.buried o.p) ∧ Fr (tb :: L.fp) w w' := by
  have bo := ho.bound hI
  have ohd := ho.hd
  rw [hk, hn] at ohd
  have hd9 : Hd 9 4 o.a o.m := ohd
  have hd10 : Hd 10 4 o.a o.m := ⟨by decide, by decide, hd9.m0, hd9.m1, hd9.s0, hd9.s1, hd9.a0, hd9.a1⟩
  have hfpa : ∀ x ∈ L.fp, x ∈ L.all := fun x hx => by simp only [HL.all, List.mem_cons]; exact .inr (.inr hx)
  have hnaw : tb ∉ [L.ab, L.wb] := fun hc => htb (hfpa _ (fpaw L _ hc))
  have hfpw : ∀ x ∈ [L.ab, L.wb], x ∈ tb :: L.fp := fun x hx => List.mem_cons_of_mem _ (fpaw L x hx)
  obtain ⟨-, -, c2, c3, c4, c5, c6, -⟩ := hT.reads
  have c0 := hT.reads.1
  have y2 := Blk.frozen hT 2
  have b1 := bo.1
  have b2 := bo.2
  rw [hn] at b2
  go_enter Tryz.func146, Tryz.ntmps146
  by_cases ha : t.ahead = 0
  · have HA := hid ha
    have c6' : w.cell? ⟨tb, 6, none⟩ = some (.int .i64 0) := by rw [c6]; exact congrArg (fun x => some (Value.int .i64 x)) ha
    have hB1 : Bu1 s s A z o t.ahead t.walk := by rw [ha]; exact Bu1.none hI o t.walk
    have hT1 : TRep (w.setCell ⟨tb, 2, none⟩ (.int .i64 t.walk)) tb L.hb sh { t with row := t.walk } := by
      have := Blk.set hT 2 (.int .i64 t.walk)
      simpa [TRep, TS.cells] using this
    have hH1 := hH.other (a := ⟨tb, 2, none⟩) htb (.int .i64 t.walk)
    have hF1 : Fr (tb :: L.fp) w (w.setCell ⟨tb, 2, none⟩ (.int .i64 t.walk)) := (Fr.refl _ w).set (by simp) _
    obtain ⟨s1, hs1⟩ : ∃ s1, s1 = s := ⟨_, rfl⟩
    have HU1 : Hid (s.u ≤ s1.u ∧ s1.u ≤ s.u + 2) := hid (by rw [hs1]; omega)
    rw [← hs1] at hH1
    have hB1' : Bu1 s s1 A z o t.ahead t.walk := by rw [hs1]; exact hB1
    replace hB1 := hB1'
    have hst1 := hB1.st.len
    have hL1 := ((hB1.oth o ho).1.lies hB1.hi).head
    rw [hk, hn] at hL1
    have HL1 := hid hL1
    clear ha c6 hs1 hB1' hL1
    go_wp2_with fail
    refine (hBecome L s1 o.p 9 4 o.a o.m 10 o.a _ hH1 (by omega) (by rw [hst1]; omega) HL1.out hd9 hd10).mono ?_
    rintro e w2 ⟨rfl, hH2, hF2⟩
    have hT2 := hT1.fr hF2 hnaw
    have hF2' : Fr (tb :: L.fp) w w2 := hF1.trans (hF2.here hfpw)
    obtain ⟨⟨x1, x2, x3, x4⟩, y2, y3, y4, hB0, hBl⟩ := Bur.of hB1 ho hn hna (by rw [hn]; exact hd10)
    have z2 := x2.lies y2
    have z3 := x3.lies y3
    have z4 := x4.lies y4
    rw [hn] at x2 x3 x4 y2 y3 y4 z2 z3 z4 hB0 hBl
    have HB := hid (And.intro hB0 hBl)
    have Z2 := hid z2
    have Z3 := hid z3
    have Z4 := hid z4
    have hlit := Blk.new w2 [.int .i64 0, .int .i64 1, .int .i64 3] 3
    have hH2' := hH2.alloc (.cells #[.int .i64 0, .int .i64 1, .int .i64 3] 3)
    have hT2' : TRep (w2.alloc (.cells #[.int .i64 0, .int .i64 1, .int .i64 3] 3)) tb L.hb sh _ := Blk.alloc hT2 _
    have hF2a : Fr (tb :: L.fp) w (w2.alloc (.cells #[.int .i64 0, .int .i64 1, .int .i64 3] 3)) := hF2'.alloc _
    have hnl := new_apart hH2
    have hnt : w2.heap.size ≠ tb := fun e => by have := Blk.lt hT2; omega
    clear x1 x2 x3 x4 y2 y3 y4 z2 z3 z4 hB0 hBl hH2 hT2 hF2 hF2'
    go_wp2_with fail
    go_loopw [42] (fun i wr => ∃ k : Nat, k ≤ 3 ∧ i = .int .i64 k ∧ HRep wr L (zsK (s1.put o.p (packed 10 4 o.a o.m) 2) o.p k) ∧ TRep wr tb L.hb sh { t with row := t.walk } ∧ Blk wr w2.heap.size [.int .i64 0, .int .i64 1, .int .i64 3] 3 ∧ Fr (tb :: L.fp) w wr) (fun i _ => 3 - (intOf i).toNat)
    case atStart => exact ⟨0, by omega, rfl, hH2', hT2', hlit, hF2a⟩
    case round =>
      obtain ⟨k, hk3, rfl, hH3, hT3, hl3, hF3⟩ := hrel
      clear hH2' hT2' hlit hF2a
      have hfpl : ∀ x ∈ [L.ab, L.wb], x ∈ tb :: L.fp := hfpw
      have hnl2 : w2.heap.size ∉ [L.ab, L.wb] := fun hc => hnl (hfpa _ (fpaw L _ hc))
      have g0 := hT3.reads.1
      rcases (by omega : k = 0 ∨ k = 1 ∨ k = 2 ∨ k = 3) with rfl | rfl | rfl | rfl
      · have e0 := hl3.cell (i := 0) rfl
        go_wp2_with fail
        refine (hSet L _ o.p 10 4 o.a o.m 0 0 _ hH3 (by omega) Z2.out.p1 Z2.out.head Z2.out.hd (by omega) (by omega)).mono ?_
        rintro e w4 ⟨rfl, hH4, hF4⟩
        clear e0 g0
        go_wp2_with fail
        go_roundw
        case rel => exact ⟨1, by omega, by go_num, hH4, hT3.fr hF4 hnaw, hl3.fr hF4 hnl2, hF3.trans (hF4.here hfpl)⟩
        case measure => simp [intOf]
      · have e1 := hl3.cell (i := 1) rfl
        go_wp2_with fail
        refine (hSet L _ o.p 10 4 o.a o.m 1 0 _ hH3 (by omega) Z3.out.p1 Z3.out.head Z3.out.hd (by omega) (by omega)).mono ?_
        rintro e w4 ⟨rfl, hH4, hF4⟩
        clear e1 g0
        go_wp2_with fail
        go_roundw
        case rel => exact ⟨2, by omega, by go_num, hH4, hT3.fr hF4 hnaw, hl3.fr hF4 hnl2, hF3.trans (hF4.here hfpl)⟩
        case measure => simp [intOf]
      · have e2 := hl3.cell (i := 2) rfl
        go_wp2_with fail
        refine (hSet L _ o.p 10 4 o.a o.m 3 0 _ hH3 (by omega) Z4.out.p1 Z4.out.head Z4.out.hd (by omega) (by omega)).mono ?_
        rintro e w4 ⟨rfl, hH4, hF4⟩
        clear e2 g0
        go_wp2_with fail
        go_roundw
        case rel => exact ⟨3, by omega, by go_num, hH4, hT3.fr hF4 hnaw, hl3.fr hF4 hnl2, hF3.trans (hF4.here hfpl)⟩
        case measure => simp [intOf]
      · obtain ⟨hB0, hBl⟩ := HB.out
        have g3 := hT3.reads.2.2.2.1
        have g4 := hT3.reads.2.2.2.2.1
        have y3 := Blk.frozen hT3 3
        have y4 := Blk.frozen hT3 4
        by_cases hf0 : t.first = 0
        · have g3' : wr.cell? ⟨tb, 3, none⟩ = some (.int .i64 0) := by rw [g3]; exact congrArg (fun x => some (Value.int .i64 x)) hf0
          have HF0 := hid hf0
          clear g3 hf0
          go_wp2_with fail
          go_end0
          refine ⟨rfl, ⟨_, (hH3.other (a := ⟨tb, 3, none⟩) htb _).other (a := ⟨tb, 4, none⟩) htb _, ⟨by rw [HF0.out]; exact hB0 _, by have := HU1.out; simp only [zsK, HS.put]; omega⟩⟩, ?_, (hF3.set (by simp) _).set (by simp) _⟩
          have := (Blk.set hT3 3 (.int .i64 o.p)).set 4 (.int .i64 o.p)
          simpa [TRep, TS.cells, TS.buried, HA.out, HF0.out] using this
        · obtain ⟨ol, l1, l2, l3, l4, l5⟩ := hla.resolve_left hf0
          have hbl := hBl ol l1 l2 l4 l5 t.first hf0
          have b5 := ((hB0 0).oth ol l1 l4).1.lies (hB0 0).hi
          have HF0 := hid hf0
          have HBL := hid hbl
          have B5 := hid b5
          have hh5 := b5.head
          have hd5 := b5.hd
          have hp5 := b5.p1
          have hp50 := b5.p0
          rw [l2] at hh5 hd5 hp5
          rw [← l3] at g4
          have HH5 := hid hh5
          have HL2 := hid l2
          have HL3 := hid l3
          have hfne : (t.first == 0) = false := by simpa using hf0
          clear hbl b5 hf0 hh5 hB0 hBl l2 l3
          go_wp2_with fail
          refine wp_region_still_tail 9 (by kernel_rfl) (by kernel_rfl) ?_
          simp only [List.take_succ_cons, List.take_zero, List.drop_succ_cons, List.drop_zero]
          change wpStill _ _ wr.drew (fun a' => wpList _ _ _ _ a' wr.drew) _ _
          repeat still_step
          refine wpStill_nil ?_
          go_wp2_with fail
          refine (hSet L _ ol.p ol.k 4 ol.a ol.m 3 o.p _ hH3.drew (by omega) hp5 HH5.out hd5 (by omega) (by omega)).mono ?_
          rintro e w4 ⟨rfl, hH4, hF4⟩
          all_goals
            have hT4 := (show TRep wr.drew tb L.hb sh { t with row := t.walk } from Blk.drew hT3).fr hF4 hnaw
            have f4 := hT4.reads.2.2.2.2.1
            have y4' := Blk.frozen hT4 4
            clear g0 g3 g4 y3 y4
            go_wp2_with fail
            go_end0
            refine ⟨rfl, ⟨_, hH4.other (a := ⟨tb, 4, none⟩) htb _, ⟨by rw [← HL3.out]; exact HBL.out, by have := HU1.out; simp only [zsK, HS.put]; omega⟩⟩, ?_, ((hF3.drew).trans (hF4.here hfpl)).set (by simp) _⟩
            have := Blk.set hT4 4 (.int .i64 o.p)
            simpa [TRep, TS.cells, TS.buried, HA.out, HF0.out] using this
  · obtain ⟨oa, a1, a2, a3⟩ := hah.resolve_left ha
    have bA := a1.lies hI
    have hA0 := bA.p0
    have hB1 : Bu1 s (s.put (oa.p + 3 + (3 : Nat)) t.walk 2) A z o t.ahead t.walk := by rw [← a3]; exact Bu1.some hI o t.walk a1 a2 (by omega)
    have hh5 := bA.head
    have hd5 := bA.hd
    have hp5 := bA.p1
    rw [a2] at hh5 hd5 hp5
    have c6' : w.cell? ⟨tb, 6, none⟩ = some (.int .i64 oa.p) := by rw [c6]; exact congrArg (fun x => some (Value.int .i64 x)) a3.symm
    have HH5 := hid hh5
    have HA := hid ha
    have HA3 := hid a3
    have hane : ¬ oa.p = 0 := by omega
    clear c6 hh5 ha a3 bA
    go_wp2_with fail
    refine wp_region_still_tail 12 (by kernel_rfl) (by kernel_rfl) ?_
    simp only [List.take_succ_cons, List.take_zero, List.drop_succ_cons, List.drop_zero]
    change wpStill _ _ w.drew (fun a' => wpList _ _ _ _ a' w.drew) _ _
    repeat still_step
    refine wpStill_nil ?_
    go_wp2_with fail
    refine (hSet L s oa.p oa.k 4 oa.a oa.m 3 t.walk _ hH.drew (by omega) hp5 HH5.out hd5 (by omega) (by omega)).mono ?_
    rintro e w1 ⟨rfl, hH1, hF1a⟩
    all_goals
      have hT1 := (show TRep w.drew tb L.hb sh t from Blk.drew hT).fr hF1a hnaw
      have hF1 : Fr (tb :: L.fp) w w1 := ((Fr.refl _ w).drew).trans (hF1a.here hfpw)
      obtain ⟨s1, hs1⟩ : ∃ s1, s1 = s.put (oa.p + 3 + 3) t.walk 2 := ⟨_, rfl⟩
      have HU1 : Hid (s.u ≤ s1.u ∧ s1.u ≤ s.u + 2) := hid (by rw [hs1]; simp only [HS.put]; omega)
      rw [← hs1] at hH1
      have hB1' : Bu1 s s1 A z o t.ahead t.walk := by rw [hs1]; exact hB1
      have hst1 := hB1'.st.len
      have hL1 := ((hB1'.oth o ho).1.lies hB1'.hi).head
      rw [hk, hn] at hL1
      have HL1 := hid hL1
      have g0' := hT1.reads.1
      clear hs1 hB1 hL1 hF1a c0 c2 c3 c4 c5 c6' y2
      replace hB1 := hB1'
      clear hB1'
      go_wp2_with fail
      refine (hBecome L s1 o.p 9 4 o.a o.m 10 o.a _ hH1 (by omega) (by rw [hst1]; omega) HL1.out hd9 hd10).mono ?_
      rintro e w2 ⟨rfl, hH2, hF2⟩
      have hT2 := hT1.fr hF2 hnaw
      have hF2' : Fr (tb :: L.fp) w w2 := hF1.trans (hF2.here hfpw)
      obtain ⟨⟨x1, x2, x3, x4⟩, y2, y3, y4, hB0, hBl⟩ := Bur.of hB1 ho hn hna (by rw [hn]; exact hd10)
      have z2 := x2.lies y2
      have z3 := x3.lies y3
      have z4 := x4.lies y4
      rw [hn] at x2 x3 x4 y2 y3 y4 z2 z3 z4 hB0 hBl
      have HB := hid (And.intro hB0 hBl)
      have Z2 := hid z2
      have Z3 := hid z3
      have Z4 := hid z4
      have hlit := Blk.new w2 [.int .i64 0, .int .i64 1, .int .i64 3] 3
      have hH2' := hH2.alloc (.cells #[.int .i64 0, .int .i64 1, .int .i64 3] 3)
      have hT2' : TRep (w2.alloc (.cells #[.int .i64 0, .int .i64 1, .int .i64 3] 3)) tb L.hb sh _ := Blk.alloc hT2 _
      have hF2a : Fr (tb :: L.fp) w (w2.alloc (.cells #[.int .i64 0, .int .i64 1, .int .i64 3] 3)) := hF2'.alloc _
      have hnl := new_apart hH2
      have hnt : w2.heap.size ≠ tb := fun e => by have := Blk.lt hT2; omega
      clear x1 x2 x3 x4 y2 y3 y4 z2 z3 z4 hB0 hBl hH2 hT2 hF2 hF2'
      go_wp2_with fail
      go_loopw [42] (fun i wr => ∃ k : Nat, k ≤ 3 ∧ i = .int .i64 k ∧ HRep wr L (zsK (s1.put o.p (packed 10 4 o.a o.m) 2) o.p k) ∧ TRep wr tb L.hb sh t ∧ Blk wr w2.heap.size [.int .i64 0, .int .i64 1, .int .i64 3] 3 ∧ Fr (tb :: L.fp) w wr) (fun i _ => 3 - (intOf i).toNat)
      case atStart => exact ⟨0, by omega, rfl, hH2', hT2', hlit, hF2a⟩
      case round =>
        obtain ⟨k, hk3, rfl, hH3, hT3, hl3, hF3⟩ := hrel
        clear hH2' hT2' hlit hF2a
        have hfpl : ∀ x ∈ [L.ab, L.wb], x ∈ tb :: L.fp := hfpw
        have hnl2 : w2.heap.size ∉ [L.ab, L.wb] := fun hc => hnl (hfpa _ (fpaw L _ hc))
        have g0 := hT3.reads.1
        rcases (by omega : k = 0 ∨ k = 1 ∨ k = 2 ∨ k = 3) with rfl | rfl | rfl | rfl
        · have e0 := hl3.cell (i := 0) rfl
          go_wp2_with fail
          refine (hSet L _ o.p 10 4 o.a o.m 0 0 _ hH3 (by omega) Z2.out.p1 Z2.out.head Z2.out.hd (by omega) (by omega)).mono ?_
          rintro e w4 ⟨rfl, hH4, hF4⟩
          clear e0 g0
          go_wp2_with fail
          go_roundw
          case rel => exact ⟨1, by omega, by go_num, hH4, hT3.fr hF4 hnaw, hl3.fr hF4 hnl2, hF3.trans (hF4.here hfpl)⟩
          case measure => simp [intOf]
        · have e1 := hl3.cell (i := 1) rfl
          go_wp2_with fail
          refine (hSet L _ o.p 10 4 o.a o.m 1 0 _ hH3 (by omega) Z3.out.p1 Z3.out.head Z3.out.hd (by omega) (by omega)).mono ?_
          rintro e w4 ⟨rfl, hH4, hF4⟩
          clear e1 g0
          go_wp2_with fail
          go_roundw
          case rel => exact ⟨2, by omega, by go_num, hH4, hT3.fr hF4 hnaw, hl3.fr hF4 hnl2, hF3.trans (hF4.here hfpl)⟩
          case measure => simp [intOf]
        · have e2 := hl3.cell (i := 2) rfl
          go_wp2_with fail
          refine (hSet L _ o.p 10 4 o.a o.m 3 0 _ hH3 (by omega) Z4.out.p1 Z4.out.head Z4.out.hd (by omega) (by omega)).mono ?_
          rintro e w4 ⟨rfl, hH4, hF4⟩
          clear e2 g0
          go_wp2_with fail
          go_roundw
          case rel => exact ⟨3, by omega, by go_num, hH4, hT3.fr hF4 hnaw, hl3.fr hF4 hnl2, hF3.trans (hF4.here hfpl)⟩
          case measure => simp [intOf]
        · obtain ⟨hB0, hBl⟩ := HB.out
          have g3 := hT3.reads.2.2.2.1
          have g4 := hT3.reads.2.2.2.2.1
          have y3 := Blk.frozen hT3 3
          have y4 := Blk.frozen hT3 4
          by_cases hf0 : t.first = 0
          · have g3' : wr.cell? ⟨tb, 3, none⟩ = some (.int .i64 0) := by rw [g3]; exact congrArg (fun x => some (Value.int .i64 x)) hf0
            have HF0 := hid hf0
            clear g3 hf0
            go_wp2_with fail
            go_end0
            refine ⟨rfl, ⟨_, (hH3.other (a := ⟨tb, 3, none⟩) htb _).other (a := ⟨tb, 4, none⟩) htb _, ⟨by rw [HF0.out]; exact hB0 _, by have := HU1.out; simp only [zsK, HS.put]; omega⟩⟩, ?_, (hF3.set (by simp) _).set (by simp) _⟩
            have := (Blk.set hT3 3 (.int .i64 o.p)).set 4 (.int .i64 o.p)
            simpa [TRep, TS.cells, TS.buried, HA.out, HF0.out] using this
          · obtain ⟨ol, l1, l2, l3, l4, l5⟩ := hla.resolve_left hf0
            have hbl := hBl ol l1 l2 l4 l5 t.first hf0
            have b5 := ((hB0 0).oth ol l1 l4).1.lies (hB0 0).hi
            have HF0 := hid hf0
            have HBL := hid hbl
            have B5 := hid b5
            have hh5 := b5.head
            have hd5 := b5.hd
            have hp5 := b5.p1
            have hp50 := b5.p0
            rw [l2] at hh5 hd5 hp5
            rw [← l3] at g4
            have HH5 := hid hh5
            have HL2 := hid l2
            have HL3 := hid l3
            have hfne : (t.first == 0) = false := by simpa using hf0
            clear hbl b5 hf0 hh5 hB0 hBl l2 l3
            go_wp2_with fail
            refine wp_region_still_tail 9 (by kernel_rfl) (by kernel_rfl) ?_
            simp only [List.take_succ_cons, List.take_zero, List.drop_succ_cons, List.drop_zero]
            change wpStill _ _ wr.drew (fun a' => wpList _ _ _ _ a' wr.drew) _ _
            repeat still_step
            refine wpStill_nil ?_
            go_wp2_with fail
            refine (hSet L _ ol.p ol.k 4 ol.a ol.m 3 o.p _ hH3.drew (by omega) hp5 HH5.out hd5 (by omega) (by omega)).mono ?_
            rintro e w4 ⟨rfl, hH4, hF4⟩
            all_goals
              have hT4 := (show TRep wr.drew tb L.hb sh t from Blk.drew hT3).fr hF4 hnaw
              have f4 := hT4.reads.2.2.2.2.1
              have y4' := Blk.frozen hT4 4
              clear g0 g3 g4 y3 y4
              go_wp2_with fail
              go_end0
              refine ⟨rfl, ⟨_, hH4.other (a := ⟨tb, 4, none⟩) htb _, ⟨by rw [← HL3.out]; exact HBL.out, by have := HU1.out; simp only [zsK, HS.put]; omega⟩⟩, ?_, ((hF3.drew).trans (hF4.here hfpl)).set (by simp) _⟩
              have := Blk.set hT4 4 (.int .i64 o.p)
              simpa [TRep, TS.cells, TS.buried, HA.out, HF0.out] using this
theorem Ob.In.tick {o : Ob} {s : HS} {A : Rg} {z : Int → Int} (h : o.In s A z) (n : Int) : o.In (s.tick n) A z := ⟨h.mem, h.room, h.head, h.hd, h.ring⟩
theorem Ob.In.untick {o : Ob} {s : HS} {A : Rg} {z : Int → Int} {n : Int} (h : o.In (s.tick n) A z) : o.In s A z := ⟨h.mem, h.room, h.head, h.hd, h.ring⟩
theorem Bur.untick {s s' : HS} {A : Rg} {z : Int → Int} {o : Ob} {ahead walk first last n : Int} (h : Bur (s.tick n) s' A z o ahead walk first last) : Bur s s' A z o ahead walk first last :=
  ⟨h.hi, ⟨h.st.cls, h.st.parity, h.st.edge, h.st.top, h.st.x, h.st.len⟩, h.ob, h.w0, h.w1, h.w2, h.w3, fun o' h' hne => h.oth o' (h'.tick n) hne⟩
theorem tStep0 (L : HL) (tb : Nat) (sh : Value) (t : TS) (w : World) (hT : TRep w tb L.hb sh t) (h0 : t.walk = 0) :
    Calls Tryz.prog 113 #[.pointer (some ⟨tb, 0, none⟩)] w fun e w' => e = .returned (.tuple #[.int .i64 0, .bool false, .bool false]) ∧ TRep w' tb L.hb sh { t with walking := false } ∧ Fr [tb] w w' := by
  obtain ⟨-, -, -, -, -, c5, -, c7⟩ := hT.reads
  rw [h0] at c5
  have y7 := Blk.frozen hT 7
  have H0 := hid h0
  clear h0
  go_enter Tryz.func113, Tryz.ntmps113
  go_wp2_with fail
  go_ret3
  refine ⟨rfl, ?_, (Fr.refl _ w).set (by simp) _⟩
  have := Blk.set hT 7 (.bool false)
  simpa [TRep, TS.cells] using this
set_option maxRecDepth 100000 in
set_option maxHeartbeats 3200000 in
theorem tStepKeep (L : HL) (s : HS) (tb : Nat) (sh : Value) (t : TS) (o ko : Ob) (nx : Int) (w : World) (hH : HRep w L s) (hT : TRep w tb L.hb sh t) (htb : tb ∉ L.all) (ho : o.Lies s) (hn : 4 ≤ o.n) (hw : t.walk = o.p) (hk : ko.Lies s) (hkp : s.wd o 0 = ko.p) (hnx : s.wd o 3 = nx) (hm : ko.m = s.parity) :
    Calls Tryz.prog 113 #[.pointer (some ⟨tb, 0, none⟩)] w fun e w' => e = .returned (.tuple #[.int .i64 o.a, .bool false, .bool true]) ∧ HRep w' L (s.tick 6) ∧ TRep w' tb L.hb sh { t with walk := nx, ahead := o.p } ∧ Fr [L.ab, tb] w w' := by
  obtain ⟨c0, -, -, -, -, c5, c6, -⟩ := hT.reads
  rw [hw] at c5
  have h0 := ho.p0
  have h1 := ho.p1
  have hne : ¬ o.p = 0 := by omega
  have hpab : tb ∉ [L.ab] := fun hc => htb (by simp at hc; subst hc; simp [HL.all, HL.fp])
  have HW := hid hw
  have HK := hid hkp
  have HN := hid hnx
  have HM := hid hm
  clear hw hkp hnx hm
  go_enter Tryz.func113, Tryz.ntmps113
  go_wp2_with fail
  refine (hCell L s o.p o.k o.n o.a o.m _ hH (by omega) (by omega) ho.head ho.hd).mono ?_
  rintro e w1 ⟨rfl, hH1, hF1⟩
  have C1 := Blk.new w1 [.int .i64 o.k, .int .i64 o.n, .int .i64 o.a, .int .i64 o.m] 60
  have hH1' := hH1.alloc (.cells #[.int .i64 o.k, .int .i64 o.n, .int .i64 o.a, .int .i64 o.m] 60)
  have hT1 : TRep (w1.alloc (.cells #[.int .i64 o.k, .int .i64 o.n, .int .i64 o.a, .int .i64 o.m] 60)) tb L.hb sh t := Blk.alloc (hT.fr hF1 hpab) _
  have hF1' : Fr [L.ab, tb] w (w1.alloc (.cells #[.int .i64 o.k, .int .i64 o.n, .int .i64 o.a, .int .i64 o.m] 60)) := (hF1.here (by simp)).alloc _
  have hn1 := new_apart hH1
  have hcb : w1.heap.size ∉ [L.ab] := fun hc => hn1 (by simp at hc; rw [hc]; simp [HL.all, HL.fp])
  have hct : w1.heap.size ≠ tb := fun e => by have := Blk.lt (hT.fr hF1 hpab); omega
  clear c0 c5 c6
  go_wp2_with fail
  refine (tWord L (s.tick 1) tb sh t o 3 _ hH1' hT1 (ho.tick 1) (by omega)).mono ?_
  rintro e w2 ⟨rfl, hH2, hF2⟩
  rw [show (s.tick 1).wd o 3 = nx from HN.out]
  have hT2 := hT1.fr hF2 hpab
  have C2 := C1.fr hF2 hcb
  have g5 := hT2.reads.2.2.2.2.2.1
  have y5 := Blk.frozen hT2 5
  have hT3 : TRep (w2.setCell ⟨tb, 5, none⟩ (.int .i64 nx)) tb L.hb sh { t with walk := nx } := by
    have := Blk.set hT2 5 (.int .i64 nx)
    simpa [TRep, TS.cells] using this
  have hH3 := hH2.other (a := ⟨tb, 5, none⟩) htb (.int .i64 nx)
  have C3 := C2.other (a := ⟨tb, 5, none⟩) hct (.int .i64 nx)
  have hF3 : Fr [L.ab, tb] w (w2.setCell ⟨tb, 5, none⟩ (.int .i64 nx)) := (hF1'.trans (hF2.here (by simp))).set (by simp) _
  go_wp2_with fail
  refine (tWord L ((s.tick 1).tick 2) tb sh _ o 0 _ hH3 hT3 ((ho.tick 1).tick 2) (by omega)).mono ?_
  rintro e w4 ⟨rfl, hH4, hF4⟩
  rw [show ((s.tick 1).tick 2).wd o 0 = ko.p from HK.out]
  have hT4 := hT3.fr hF4 hpab
  have C4 := C3.fr hF4 hcb
  clear g5 y5
  go_wp2_with fail
  refine (tMarked L (((s.tick 1).tick 2).tick 2) tb sh _ ko s.parity _ hH4 hT4 htb (((hk.tick 1).tick 2).tick 2) rfl).mono ?_
  rintro e w5 ⟨rfl, hH5, hF5⟩
  have hT5 := hT4.fr hF5 hpab
  have C5 := C4.fr hF5 hcb
  rw [show (ko.m == s.parity) = true by rw [HM.out]; simp]
  have g6 := hT5.reads.2.2.2.2.2.2.1
  have y6 := Blk.frozen hT5 6
  have d2 := (C5.other (a := ⟨tb, 6, none⟩) hct (.int .i64 o.p)).cell (i := 2) rfl
  go_wp2_with fail
  go_ret3
  refine ⟨rfl, ?_, ?_, ?_⟩
  · exact (hH5.other (a := ⟨tb, 6, none⟩) htb _).cast (by simp [HS.tick, Int.add_assoc])
  · have := Blk.set hT5 6 (.int .i64 o.p)
    simpa [TRep, TS.cells] using this
  · exact ((hF3.trans (hF4.here (by simp))).trans (hF5.here (by simp))).set (by simp) _
set_option maxRecDepth 100000 in
set_option maxHeartbeats 3200000 in
theorem tStepBury (L : HL) (s : HS) (A : Rg) (z : Int → Int) (tb : Nat) (sh : Value) (t : TS) (o ko : Ob) (nx : Int) (w : World) (hH : HRep w L s) (hI : HI s A z) (hT : TRep w tb L.hb sh t) (htb : tb ∉ L.all) (hoI : o.In s A z) (hk9 : o.k = 9) (hn4 : o.n = 4) (hw : t.walk = o.p) (hk : ko.Lies s) (hkp : s.wd o 0 = ko.p) (hnx : s.wd o 3 = nx) (hm : ko.m ≠ s.parity)
    (hna : t.ahead ≠ 0 → o.p ≠ t.ahead) (hah : t.ahead = 0 ∨ ∃ oa : Ob, oa.In s A z ∧ oa.n = 4 ∧ oa.p = t.ahead) (hla : t.first = 0 ∨ ∃ ol : Ob, ol.In s A z ∧ ol.n = 4 ∧ ol.p = t.last ∧ ol.p ≠ o.p ∧ ol.p ≠ 0) :
    Calls Tryz.prog 113 #[.pointer (some ⟨tb, 0, none⟩)] w fun e w' => e = .returned (.tuple #[.int .i64 o.a, .bool true, .bool true]) ∧ (∃ s', HRep w' L s' ∧ BurU 18 s s' A z o t.ahead nx t.first t.last) ∧ TRep w' tb L.hb sh (({ t with walk := nx } : TS).buried o.p) ∧ Fr (tb :: L.fp) w w' := by
  obtain ⟨c0, -, -, -, -, c5, c6, -⟩ := hT.reads
  rw [hw] at c5
  have ho := hoI.lies hI
  have h0 := ho.p0
  have h1 := ho.p1
  have hne : ¬ o.p = 0 := by omega
  have hfpa : ∀ x ∈ L.fp, x ∈ L.all := fun x hx => by simp only [HL.all, List.mem_cons]; exact .inr (.inr hx)
  have hpab : tb ∉ [L.ab] := fun hc => htb (by simp at hc; subst hc; simp [HL.all, HL.fp])
  have hab1 : ∀ x ∈ [L.ab], x ∈ tb :: L.fp := fun x hx => List.mem_cons_of_mem _ (fpab L x hx)
  have HW := hid hw
  have HK := hid hkp
  have HN := hid hnx
  have hmb : (ko.m == s.parity) = false := by simpa using hm
  have HMB := hid hmb
  have hon : 3 < o.n := by omega
  have hon0 : 0 < o.n := by omega
  have HA := hid (And.intro hk9 (And.intro hn4 (And.intro hna (And.intro hah hla))))
  clear hw hkp hnx hm hmb hk9 hn4 hna hah hla
  go_enter Tryz.func113, Tryz.ntmps113
  go_wp2_with fail
  refine (hCell L s o.p o.k o.n o.a o.m _ hH (by omega) (by omega) ho.head ho.hd).mono ?_
  rintro e w1 ⟨rfl, hH1, hF1⟩
  have C1 := Blk.new w1 [.int .i64 o.k, .int .i64 o.n, .int .i64 o.a, .int .i64 o.m] 60
  have hH1' := hH1.alloc (.cells #[.int .i64 o.k, .int .i64 o.n, .int .i64 o.a, .int .i64 o.m] 60)
  have hT1 : TRep (w1.alloc (.cells #[.int .i64 o.k, .int .i64 o.n, .int .i64 o.a, .int .i64 o.m] 60)) tb L.hb sh t := Blk.alloc (hT.fr hF1 hpab) _
  have hF1' : Fr (tb :: L.fp) w (w1.alloc (.cells #[.int .i64 o.k, .int .i64 o.n, .int .i64 o.a, .int .i64 o.m] 60)) := (hF1.here hab1).alloc _
  have hn1 := new_apart hH1
  have hcb : w1.heap.size ∉ [L.ab] := fun hc => hn1 (by simp at hc; rw [hc]; simp [HL.all, HL.fp])
  have hct : w1.heap.size ≠ tb := fun e => by have := Blk.lt (hT.fr hF1 hpab); omega
  have hcf : w1.heap.size ∉ tb :: L.fp := fun hc => by
    rcases List.mem_cons.1 hc with h | h
    · exact hct h
    · exact hn1 (hfpa _ h)
  clear c0 c5 c6
  go_wp2_with fail
  refine (tWord L (s.tick 1) tb sh t o 3 _ hH1' hT1 (ho.tick 1) hon).mono ?_
  rintro e w2 ⟨rfl, hH2, hF2⟩
  rw [show (s.tick 1).wd o 3 = nx from HN.out]
  have hT2 := hT1.fr hF2 hpab
  have C2 := C1.fr hF2 hcb
  have g5 := hT2.reads.2.2.2.2.2.1
  have y5 := Blk.frozen hT2 5
  have hT3 : TRep (w2.setCell ⟨tb, 5, none⟩ (.int .i64 nx)) tb L.hb sh { t with walk := nx } := by
    have := Blk.set hT2 5 (.int .i64 nx)
    simpa [TRep, TS.cells] using this
  have hH3 := hH2.other (a := ⟨tb, 5, none⟩) htb (.int .i64 nx)
  have C3 := C2.other (a := ⟨tb, 5, none⟩) hct (.int .i64 nx)
  have hF3 : Fr (tb :: L.fp) w (w2.setCell ⟨tb, 5, none⟩ (.int .i64 nx)) := (hF1'.trans (hF2.here hab1)).set (by simp) _
  go_wp2_with fail
  refine (tWord L ((s.tick 1).tick 2) tb sh _ o 0 _ hH3 hT3 ((ho.tick 1).tick 2) hon0).mono ?_
  rintro e w4 ⟨rfl, hH4, hF4⟩
  rw [show ((s.tick 1).tick 2).wd o 0 = ko.p from HK.out]
  have hT4 := hT3.fr hF4 hpab
  have C4 := C3.fr hF4 hcb
  clear g5 y5
  go_wp2_with fail
  refine (tMarked L (((s.tick 1).tick 2).tick 2) tb sh _ ko s.parity _ hH4 hT4 htb (((hk.tick 1).tick 2).tick 2) rfl).mono ?_
  rintro e w5 ⟨rfl, hH5, hF5⟩
  have hT5 := hT4.fr hF5 hpab
  have C5 := C4.fr hF5 hcb
  rw [HMB.out]
  have d2 := C5.cell (i := 2) rfl
  have hH5' : HRep w5 L (s.tick 6) := hH5.cast (by simp [HS.tick, Int.add_assoc])
  obtain ⟨hk9, hn4, hna, hah, hla⟩ := HA.out
  have key := tBury L (s.tick 6) A z tb sh { t with walk := nx } o w5 hH5' (hI.tick 6) hT5 htb (hoI.tick 6) hk9 hn4 hna (hah.imp id (fun ⟨oa, a1, a2⟩ => ⟨oa, a1.tick 6, a2⟩)) (hla.imp id (fun ⟨ol, a1, a2⟩ => ⟨ol, a1.tick 6, a2⟩))
  clear hk9 hn4 hna hah hla
  have KEY := hid key
  clear key
  go_wp2_with fail
  refine KEY.out.mono ?_
  rintro e w6 ⟨rfl, ⟨s', hH6, hB6⟩, hT6, hF6⟩
  have d2' := (C5.fr hF6 hcf).cell (i := 2) rfl
  clear d2
  go_wp2_with fail
  go_ret3
  exact ⟨rfl, ⟨s', hH6, hB6.toBur.untick, by have := hB6.u; simp only [HS.tick] at this; omega⟩, hT6, ((hF3.trans (hF4.here hab1)).trans (hF5.here hab1)).trans hF6⟩
end Go.Proofs.YtklnpooninbogaaGreat
