import Derived.Test.YtifillpcphiblaaGreatMDoDoc
namespace Go.Proofs.YtifillpcphiblaaGreat
open Go Go.Proofs Go.RowKit

/-! law06.HeapPlays: a call, of the program's heap and of the document's, its callee's contract given. -/

set_option maxRecDepth 100000 in
set_option maxHeartbeats 6400000 in
theorem lawDo0 (hb mb : Nat) (o a b n wd p : Int) (w : World) (Q : Int → Int → World → Prop)
    (hPk : ∀ w1, Fr [] w w1 → Calls Tryz.prog 20 #[.pointer (some ⟨mb, 0, none⟩), .int .i64 o] w1 fun e w2 => e = .returned (.int .i64 p) ∧ Fr [] w1 w2)
    (hC : ∀ w1, Fr [] w w1 → Calls Tryz.prog 12 #[.pointer (some ⟨hb, 0, none⟩), .int .i64 a, .int .i64 b, .int .i64 n] w1 fun e w2 => ∃ v0 er, e = .returned (.tuple #[.int .i64 v0, .int .i64 er]) ∧ Q v0 er w2 ∧ Kp w w1 w2) :
    Calls Tryz.prog 9 #[.pointer (some ⟨hb, 0, none⟩), .pointer (some ⟨mb, 0, none⟩), actV 0 o a b n wd] w (fun e w' => ∃ v0 er, PostB w (Q v0 er) (tldV 0 v0 er false) e w') := by
  have X := ((Blk.new w [.int .i64 0, .int .i64 o, .int .i64 a, .int .i64 b, .int .i64 n, .int .i64 wd] 36).alloc (.cells #[.int .i64 0, .int .i64 0, .int .i64 0, .bool false] 38)).alloc (.cells #[.int .i64 0, .int .i64 0, .int .i64 0, .bool false] 38)
  have R := (Blk.new (w.alloc (.cells #[.int .i64 0, .int .i64 o, .int .i64 a, .int .i64 b, .int .i64 n, .int .i64 wd] 36)) [.int .i64 0, .int .i64 0, .int .i64 0, .bool false] 38).alloc (.cells #[.int .i64 0, .int .i64 0, .int .i64 0, .bool false] 38)
  have T := Blk.new ((w.alloc (.cells #[.int .i64 0, .int .i64 o, .int .i64 a, .int .i64 b, .int .i64 n, .int .i64 wd] 36)).alloc (.cells #[.int .i64 0, .int .i64 0, .int .i64 0, .bool false] 38)) [.int .i64 0, .int .i64 0, .int .i64 0, .bool false] 38
  rw [show (w.alloc (.cells #[.int .i64 0, .int .i64 o, .int .i64 a, .int .i64 b, .int .i64 n, .int .i64 wd] 36)).heap.size = w.heap.size + 1 by simp] at R
  rw [show ((w.alloc (.cells #[.int .i64 0, .int .i64 o, .int .i64 a, .int .i64 b, .int .i64 n, .int .i64 wd] 36)).alloc (.cells #[.int .i64 0, .int .i64 0, .int .i64 0, .bool false] 38)).heap.size = w.heap.size + 2 by simp] at T
  have hF : Fr [] w (((w.alloc (.cells #[.int .i64 0, .int .i64 o, .int .i64 a, .int .i64 b, .int .i64 n, .int .i64 wd] 36)).alloc (.cells #[.int .i64 0, .int .i64 0, .int .i64 0, .bool false] 38)).alloc (.cells #[.int .i64 0, .int .i64 0, .int .i64 0, .bool false] 38)) := (((Fr.refl _ w).alloc _).alloc _).alloc _
  obtain ⟨wa, hwa⟩ : ∃ wa, wa = (((w.alloc (.cells #[.int .i64 0, .int .i64 o, .int .i64 a, .int .i64 b, .int .i64 n, .int .i64 wd] 36)).alloc (.cells #[.int .i64 0, .int .i64 0, .int .i64 0, .bool false] 38)).alloc (.cells #[.int .i64 0, .int .i64 0, .int .i64 0, .bool false] 38)) := ⟨_, rfl⟩
  have HWA := hid hwa
  rw [← hwa] at X R T hF
  have x1 := X.cell (i := 1) rfl
  have HX := hid X
  have HR := hid R
  have HT := hid T
  have HF := hid hF
  have HPK := hid hPk
  have HC := hid hC
  clear X R T hF hPk hC hwa
  unfold actV
  go_enter Tryz.func9, Tryz.ntmps9
  go_upto_region 2 with fail
  rw [← HWA.out]
  go_wp2_with fail
  refine (HPK.out wa HF.out).mono ?_
  rintro e w1 ⟨rfl, hF1⟩
  have hX1 := HX.out.fr hF1 (by simp)
  have hR1 := HR.out.fr hF1 (by simp)
  have hT1 := HT.out.fr hF1 (by simp)
  have x0 := hX1.cell (i := 0) rfl
  have x2 := hX1.cell (i := 2) rfl
  have x3 := hX1.cell (i := 3) rfl
  have x4 := hX1.cell (i := 4) rfl
  have x5 := hX1.cell (i := 5) rfl
  have HR1 := hid hR1
  have HT1 := hid hT1
  have HF1 := hid (HF.out.trans hF1)
  clear hX1 hR1 hT1 hF1 x1
  go_wp2_with fail
  refine (HC.out w1 HF1.out).mono ?_
  rintro e w2 ⟨v0, er, rfl, hQ, hK⟩
  have hR2 := hK _ _ (by omega) HR1.out
  have hT2 := hK _ _ (by omega) HT1.out
  have c0 := hT2.cell (i := 0) rfl
  have z0 := hT2.frozen 0
  have c1 := hT2.cell (i := 1) rfl
  have z1 := hT2.frozen 1
  have c2 := hT2.cell (i := 2) rfl
  have z2 := hT2.frozen 2
  have c3 := hT2.cell (i := 3) rfl
  have z3 := hT2.frozen 3
  have r0 := hR2.cell (i := 0) rfl
  have y0 := hR2.frozen 0
  have r1 := hR2.cell (i := 1) rfl
  have y1 := hR2.frozen 1
  have r2 := hR2.cell (i := 2) rfl
  have y2 := hR2.frozen 2
  have r3 := hR2.cell (i := 3) rfl
  have y3 := hR2.frozen 3
  have hFz : Fr [w.heap.size + 1, w.heap.size + 2] w2 (((((((w2).setCell ⟨w.heap.size + 2, 1, none⟩ (.int .i64 v0)).setCell ⟨w.heap.size + 2, 2, none⟩ (.int .i64 er)).setCell ⟨w.heap.size + 1, 0, none⟩ (.int .i64 0)).setCell ⟨w.heap.size + 1, 1, none⟩ (.int .i64 v0)).setCell ⟨w.heap.size + 1, 2, none⟩ (.int .i64 er)).setCell ⟨w.heap.size + 1, 3, none⟩ (.bool false)) := ((((((Fr.refl [w.heap.size + 1, w.heap.size + 2] w2).set (p := ⟨w.heap.size + 2, 1, none⟩) (by simp) (.int .i64 v0)).set (p := ⟨w.heap.size + 2, 2, none⟩) (by simp) (.int .i64 er)).set (p := ⟨w.heap.size + 1, 0, none⟩) (by simp) (.int .i64 0)).set (p := ⟨w.heap.size + 1, 1, none⟩) (by simp) (.int .i64 v0)).set (p := ⟨w.heap.size + 1, 2, none⟩) (by simp) (.int .i64 er)).set (p := ⟨w.heap.size + 1, 3, none⟩) (by simp) (.bool false)
  have hRz := ((((((hR2).other (a := ⟨w.heap.size + 2, 1, none⟩) (by simp) (.int .i64 v0)).other (a := ⟨w.heap.size + 2, 2, none⟩) (by simp) (.int .i64 er)).set 0 (.int .i64 0)).set 1 (.int .i64 v0)).set 2 (.int .i64 er)).set 3 (.bool false)
  simp only [List.set_cons_zero, List.set_cons_succ] at hRz
  have HQ := hid hQ
  have HFZ := hid hFz
  have HRZ := hid hRz
  have HR2 := hid hR2
  have HT2 := hid hT2
  clear hQ hK hR2 hT2 hFz hRz x0 x2 x3 x4 x5
  go_wp2_with fail
  refine bodyPost_ret (v := tldV 0 v0 er false) ?_ rfl ⟨v0, er, rfl, w2, HQ.out, _, HFZ.out, fun x hx => ?_⟩
  · have k0 := HRZ.out.cell (i := 0) rfl
    have k1 := HRZ.out.cell (i := 1) rfl
    have k2 := HRZ.out.cell (i := 2) rfl
    have k3 := HRZ.out.cell (i := 3) rfl
    simp [results, Tryz.results9, go_sem, k0, k1, k2, k3, tldV]
  · simp only [List.mem_cons, List.mem_nil_iff, or_false] at hx
    rcases hx with rfl | rfl
    · exact ⟨by omega, _, HR2.out⟩
    · exact ⟨by omega, _, HT2.out⟩

set_option maxRecDepth 100000 in
set_option maxHeartbeats 6400000 in
theorem lawDo1 (hb mb : Nat) (o a b n wd p v0 er : Int) (w : World) (Q : World → Prop)
    (hPk : ∀ w1, Fr [] w w1 → Calls Tryz.prog 20 #[.pointer (some ⟨mb, 0, none⟩), .int .i64 o] w1 fun e w2 => e = .returned (.int .i64 p) ∧ Fr [] w1 w2)
    (hC : ∀ w1, Fr [] w w1 → Calls Tryz.prog 21 #[.pointer (some ⟨hb, 0, none⟩), .int .i64 p, .int .i64 n] w1 fun e w2 => e = .returned (.tuple #[.int .i64 v0, .int .i64 er]) ∧ Q w2 ∧ Kp w w1 w2) :
    Calls Tryz.prog 9 #[.pointer (some ⟨hb, 0, none⟩), .pointer (some ⟨mb, 0, none⟩), actV 1 o a b n wd] w (PostB w Q (tldV v0 0 er false)) := by
  have X := ((Blk.new w [.int .i64 1, .int .i64 o, .int .i64 a, .int .i64 b, .int .i64 n, .int .i64 wd] 36).alloc (.cells #[.int .i64 0, .int .i64 0, .int .i64 0, .bool false] 38)).alloc (.cells #[.int .i64 0, .int .i64 0, .int .i64 0, .bool false] 38)
  have R := (Blk.new (w.alloc (.cells #[.int .i64 1, .int .i64 o, .int .i64 a, .int .i64 b, .int .i64 n, .int .i64 wd] 36)) [.int .i64 0, .int .i64 0, .int .i64 0, .bool false] 38).alloc (.cells #[.int .i64 0, .int .i64 0, .int .i64 0, .bool false] 38)
  have T := Blk.new ((w.alloc (.cells #[.int .i64 1, .int .i64 o, .int .i64 a, .int .i64 b, .int .i64 n, .int .i64 wd] 36)).alloc (.cells #[.int .i64 0, .int .i64 0, .int .i64 0, .bool false] 38)) [.int .i64 0, .int .i64 0, .int .i64 0, .bool false] 38
  rw [show (w.alloc (.cells #[.int .i64 1, .int .i64 o, .int .i64 a, .int .i64 b, .int .i64 n, .int .i64 wd] 36)).heap.size = w.heap.size + 1 by simp] at R
  rw [show ((w.alloc (.cells #[.int .i64 1, .int .i64 o, .int .i64 a, .int .i64 b, .int .i64 n, .int .i64 wd] 36)).alloc (.cells #[.int .i64 0, .int .i64 0, .int .i64 0, .bool false] 38)).heap.size = w.heap.size + 2 by simp] at T
  have hF : Fr [] w (((w.alloc (.cells #[.int .i64 1, .int .i64 o, .int .i64 a, .int .i64 b, .int .i64 n, .int .i64 wd] 36)).alloc (.cells #[.int .i64 0, .int .i64 0, .int .i64 0, .bool false] 38)).alloc (.cells #[.int .i64 0, .int .i64 0, .int .i64 0, .bool false] 38)) := (((Fr.refl _ w).alloc _).alloc _).alloc _
  obtain ⟨wa, hwa⟩ : ∃ wa, wa = (((w.alloc (.cells #[.int .i64 1, .int .i64 o, .int .i64 a, .int .i64 b, .int .i64 n, .int .i64 wd] 36)).alloc (.cells #[.int .i64 0, .int .i64 0, .int .i64 0, .bool false] 38)).alloc (.cells #[.int .i64 0, .int .i64 0, .int .i64 0, .bool false] 38)) := ⟨_, rfl⟩
  have HWA := hid hwa
  rw [← hwa] at X R T hF
  have x1 := X.cell (i := 1) rfl
  have HX := hid X
  have HR := hid R
  have HT := hid T
  have HF := hid hF
  have HPK := hid hPk
  have HC := hid hC
  clear X R T hF hPk hC hwa
  unfold actV
  go_enter Tryz.func9, Tryz.ntmps9
  go_upto_region 2 with fail
  rw [← HWA.out]
  go_wp2_with fail
  refine (HPK.out wa HF.out).mono ?_
  rintro e w1 ⟨rfl, hF1⟩
  have hX1 := HX.out.fr hF1 (by simp)
  have hR1 := HR.out.fr hF1 (by simp)
  have hT1 := HT.out.fr hF1 (by simp)
  have x0 := hX1.cell (i := 0) rfl
  have x2 := hX1.cell (i := 2) rfl
  have x3 := hX1.cell (i := 3) rfl
  have x4 := hX1.cell (i := 4) rfl
  have x5 := hX1.cell (i := 5) rfl
  have HR1 := hid hR1
  have HT1 := hid hT1
  have HF1 := hid (HF.out.trans hF1)
  clear hX1 hR1 hT1 hF1 x1
  go_wp2_with fail
  refine (HC.out w1 HF1.out).mono ?_
  rintro e w2 ⟨rfl, hQ, hK⟩
  have hR2 := hK _ _ (by omega) HR1.out
  have hT2 := hK _ _ (by omega) HT1.out
  have c0 := hT2.cell (i := 0) rfl
  have z0 := hT2.frozen 0
  have c1 := hT2.cell (i := 1) rfl
  have z1 := hT2.frozen 1
  have c2 := hT2.cell (i := 2) rfl
  have z2 := hT2.frozen 2
  have c3 := hT2.cell (i := 3) rfl
  have z3 := hT2.frozen 3
  have r0 := hR2.cell (i := 0) rfl
  have y0 := hR2.frozen 0
  have r1 := hR2.cell (i := 1) rfl
  have y1 := hR2.frozen 1
  have r2 := hR2.cell (i := 2) rfl
  have y2 := hR2.frozen 2
  have r3 := hR2.cell (i := 3) rfl
  have y3 := hR2.frozen 3
  have hFz : Fr [w.heap.size + 1, w.heap.size + 2] w2 (((((((w2).setCell ⟨w.heap.size + 2, 0, none⟩ (.int .i64 v0)).setCell ⟨w.heap.size + 2, 2, none⟩ (.int .i64 er)).setCell ⟨w.heap.size + 1, 0, none⟩ (.int .i64 v0)).setCell ⟨w.heap.size + 1, 1, none⟩ (.int .i64 0)).setCell ⟨w.heap.size + 1, 2, none⟩ (.int .i64 er)).setCell ⟨w.heap.size + 1, 3, none⟩ (.bool false)) := ((((((Fr.refl [w.heap.size + 1, w.heap.size + 2] w2).set (p := ⟨w.heap.size + 2, 0, none⟩) (by simp) (.int .i64 v0)).set (p := ⟨w.heap.size + 2, 2, none⟩) (by simp) (.int .i64 er)).set (p := ⟨w.heap.size + 1, 0, none⟩) (by simp) (.int .i64 v0)).set (p := ⟨w.heap.size + 1, 1, none⟩) (by simp) (.int .i64 0)).set (p := ⟨w.heap.size + 1, 2, none⟩) (by simp) (.int .i64 er)).set (p := ⟨w.heap.size + 1, 3, none⟩) (by simp) (.bool false)
  have hRz := ((((((hR2).other (a := ⟨w.heap.size + 2, 0, none⟩) (by simp) (.int .i64 v0)).other (a := ⟨w.heap.size + 2, 2, none⟩) (by simp) (.int .i64 er)).set 0 (.int .i64 v0)).set 1 (.int .i64 0)).set 2 (.int .i64 er)).set 3 (.bool false)
  simp only [List.set_cons_zero, List.set_cons_succ] at hRz
  have HQ := hid hQ
  have HFZ := hid hFz
  have HRZ := hid hRz
  have HR2 := hid hR2
  have HT2 := hid hT2
  clear hQ hK hR2 hT2 hFz hRz x0 x2 x3 x4 x5
  go_wp2_with fail
  refine bodyPost_ret (v := tldV v0 0 er false) ?_ rfl ⟨rfl, w2, HQ.out, _, HFZ.out, fun x hx => ?_⟩
  · have k0 := HRZ.out.cell (i := 0) rfl
    have k1 := HRZ.out.cell (i := 1) rfl
    have k2 := HRZ.out.cell (i := 2) rfl
    have k3 := HRZ.out.cell (i := 3) rfl
    simp [results, Tryz.results9, go_sem, k0, k1, k2, k3, tldV]
  · simp only [List.mem_cons, List.mem_nil_iff, or_false] at hx
    rcases hx with rfl | rfl
    · exact ⟨by omega, _, HR2.out⟩
    · exact ⟨by omega, _, HT2.out⟩

set_option maxRecDepth 100000 in
set_option maxHeartbeats 6400000 in
theorem lawDo2 (hb mb : Nat) (o a b n wd p er : Int) (w : World) (Q : World → Prop)
    (hPk : ∀ w1, Fr [] w w1 → Calls Tryz.prog 20 #[.pointer (some ⟨mb, 0, none⟩), .int .i64 o] w1 fun e w2 => e = .returned (.int .i64 p) ∧ Fr [] w1 w2)
    (hC : ∀ w1, Fr [] w w1 → Calls Tryz.prog 22 #[.pointer (some ⟨hb, 0, none⟩), .int .i64 p, .int .i64 n, .int .i64 wd] w1 fun e w2 => e = .returned (.int .i64 er) ∧ Q w2 ∧ Kp w w1 w2) :
    Calls Tryz.prog 9 #[.pointer (some ⟨hb, 0, none⟩), .pointer (some ⟨mb, 0, none⟩), actV 2 o a b n wd] w (PostB w Q (tldV 0 0 er false)) := by
  have X := ((Blk.new w [.int .i64 2, .int .i64 o, .int .i64 a, .int .i64 b, .int .i64 n, .int .i64 wd] 36).alloc (.cells #[.int .i64 0, .int .i64 0, .int .i64 0, .bool false] 38)).alloc (.cells #[.int .i64 0, .int .i64 0, .int .i64 0, .bool false] 38)
  have R := (Blk.new (w.alloc (.cells #[.int .i64 2, .int .i64 o, .int .i64 a, .int .i64 b, .int .i64 n, .int .i64 wd] 36)) [.int .i64 0, .int .i64 0, .int .i64 0, .bool false] 38).alloc (.cells #[.int .i64 0, .int .i64 0, .int .i64 0, .bool false] 38)
  have T := Blk.new ((w.alloc (.cells #[.int .i64 2, .int .i64 o, .int .i64 a, .int .i64 b, .int .i64 n, .int .i64 wd] 36)).alloc (.cells #[.int .i64 0, .int .i64 0, .int .i64 0, .bool false] 38)) [.int .i64 0, .int .i64 0, .int .i64 0, .bool false] 38
  rw [show (w.alloc (.cells #[.int .i64 2, .int .i64 o, .int .i64 a, .int .i64 b, .int .i64 n, .int .i64 wd] 36)).heap.size = w.heap.size + 1 by simp] at R
  rw [show ((w.alloc (.cells #[.int .i64 2, .int .i64 o, .int .i64 a, .int .i64 b, .int .i64 n, .int .i64 wd] 36)).alloc (.cells #[.int .i64 0, .int .i64 0, .int .i64 0, .bool false] 38)).heap.size = w.heap.size + 2 by simp] at T
  have hF : Fr [] w (((w.alloc (.cells #[.int .i64 2, .int .i64 o, .int .i64 a, .int .i64 b, .int .i64 n, .int .i64 wd] 36)).alloc (.cells #[.int .i64 0, .int .i64 0, .int .i64 0, .bool false] 38)).alloc (.cells #[.int .i64 0, .int .i64 0, .int .i64 0, .bool false] 38)) := (((Fr.refl _ w).alloc _).alloc _).alloc _
  obtain ⟨wa, hwa⟩ : ∃ wa, wa = (((w.alloc (.cells #[.int .i64 2, .int .i64 o, .int .i64 a, .int .i64 b, .int .i64 n, .int .i64 wd] 36)).alloc (.cells #[.int .i64 0, .int .i64 0, .int .i64 0, .bool false] 38)).alloc (.cells #[.int .i64 0, .int .i64 0, .int .i64 0, .bool false] 38)) := ⟨_, rfl⟩
  have HWA := hid hwa
  rw [← hwa] at X R T hF
  have x1 := X.cell (i := 1) rfl
  have HX := hid X
  have HR := hid R
  have HT := hid T
  have HF := hid hF
  have HPK := hid hPk
  have HC := hid hC
  clear X R T hF hPk hC hwa
  unfold actV
  go_enter Tryz.func9, Tryz.ntmps9
  go_upto_region 2 with fail
  rw [← HWA.out]
  go_wp2_with fail
  refine (HPK.out wa HF.out).mono ?_
  rintro e w1 ⟨rfl, hF1⟩
  have hX1 := HX.out.fr hF1 (by simp)
  have hR1 := HR.out.fr hF1 (by simp)
  have hT1 := HT.out.fr hF1 (by simp)
  have x0 := hX1.cell (i := 0) rfl
  have x2 := hX1.cell (i := 2) rfl
  have x3 := hX1.cell (i := 3) rfl
  have x4 := hX1.cell (i := 4) rfl
  have x5 := hX1.cell (i := 5) rfl
  have HR1 := hid hR1
  have HT1 := hid hT1
  have HF1 := hid (HF.out.trans hF1)
  clear hX1 hR1 hT1 hF1 x1
  go_wp2_with fail
  refine (HC.out w1 HF1.out).mono ?_
  rintro e w2 ⟨rfl, hQ, hK⟩
  have hR2 := hK _ _ (by omega) HR1.out
  have hT2 := hK _ _ (by omega) HT1.out
  have c0 := hT2.cell (i := 0) rfl
  have z0 := hT2.frozen 0
  have c1 := hT2.cell (i := 1) rfl
  have z1 := hT2.frozen 1
  have c2 := hT2.cell (i := 2) rfl
  have z2 := hT2.frozen 2
  have c3 := hT2.cell (i := 3) rfl
  have z3 := hT2.frozen 3
  have r0 := hR2.cell (i := 0) rfl
  have y0 := hR2.frozen 0
  have r1 := hR2.cell (i := 1) rfl
  have y1 := hR2.frozen 1
  have r2 := hR2.cell (i := 2) rfl
  have y2 := hR2.frozen 2
  have r3 := hR2.cell (i := 3) rfl
  have y3 := hR2.frozen 3
  have hFz : Fr [w.heap.size + 1, w.heap.size + 2] w2 ((((((w2).setCell ⟨w.heap.size + 2, 2, none⟩ (.int .i64 er)).setCell ⟨w.heap.size + 1, 0, none⟩ (.int .i64 0)).setCell ⟨w.heap.size + 1, 1, none⟩ (.int .i64 0)).setCell ⟨w.heap.size + 1, 2, none⟩ (.int .i64 er)).setCell ⟨w.heap.size + 1, 3, none⟩ (.bool false)) := (((((Fr.refl [w.heap.size + 1, w.heap.size + 2] w2).set (p := ⟨w.heap.size + 2, 2, none⟩) (by simp) (.int .i64 er)).set (p := ⟨w.heap.size + 1, 0, none⟩) (by simp) (.int .i64 0)).set (p := ⟨w.heap.size + 1, 1, none⟩) (by simp) (.int .i64 0)).set (p := ⟨w.heap.size + 1, 2, none⟩) (by simp) (.int .i64 er)).set (p := ⟨w.heap.size + 1, 3, none⟩) (by simp) (.bool false)
  have hRz := (((((hR2).other (a := ⟨w.heap.size + 2, 2, none⟩) (by simp) (.int .i64 er)).set 0 (.int .i64 0)).set 1 (.int .i64 0)).set 2 (.int .i64 er)).set 3 (.bool false)
  simp only [List.set_cons_zero, List.set_cons_succ] at hRz
  have HQ := hid hQ
  have HFZ := hid hFz
  have HRZ := hid hRz
  have HR2 := hid hR2
  have HT2 := hid hT2
  clear hQ hK hR2 hT2 hFz hRz x0 x2 x3 x4 x5
  go_wp2_with fail
  refine bodyPost_ret (v := tldV 0 0 er false) ?_ rfl ⟨rfl, w2, HQ.out, _, HFZ.out, fun x hx => ?_⟩
  · have k0 := HRZ.out.cell (i := 0) rfl
    have k1 := HRZ.out.cell (i := 1) rfl
    have k2 := HRZ.out.cell (i := 2) rfl
    have k3 := HRZ.out.cell (i := 3) rfl
    simp [results, Tryz.results9, go_sem, k0, k1, k2, k3, tldV]
  · simp only [List.mem_cons, List.mem_nil_iff, or_false] at hx
    rcases hx with rfl | rfl
    · exact ⟨by omega, _, HR2.out⟩
    · exact ⟨by omega, _, HT2.out⟩

set_option maxRecDepth 100000 in
set_option maxHeartbeats 6400000 in
theorem lawDo3 (hb mb : Nat) (o a b n wd p er : Int) (w : World) (Q : World → Prop)
    (hPk : ∀ w1, Fr [] w w1 → Calls Tryz.prog 20 #[.pointer (some ⟨mb, 0, none⟩), .int .i64 o] w1 fun e w2 => e = .returned (.int .i64 p) ∧ Fr [] w1 w2)
    (hC : ∀ w1, Fr [] w w1 → Calls Tryz.prog 23 #[.pointer (some ⟨hb, 0, none⟩), .int .i64 p, .int .i64 a, .int .i64 b] w1 fun e w2 => e = .returned (.int .i64 er) ∧ Q w2 ∧ Kp w w1 w2) :
    Calls Tryz.prog 9 #[.pointer (some ⟨hb, 0, none⟩), .pointer (some ⟨mb, 0, none⟩), actV 3 o a b n wd] w (PostB w Q (tldV 0 0 er false)) := by
  have X := ((Blk.new w [.int .i64 3, .int .i64 o, .int .i64 a, .int .i64 b, .int .i64 n, .int .i64 wd] 36).alloc (.cells #[.int .i64 0, .int .i64 0, .int .i64 0, .bool false] 38)).alloc (.cells #[.int .i64 0, .int .i64 0, .int .i64 0, .bool false] 38)
  have R := (Blk.new (w.alloc (.cells #[.int .i64 3, .int .i64 o, .int .i64 a, .int .i64 b, .int .i64 n, .int .i64 wd] 36)) [.int .i64 0, .int .i64 0, .int .i64 0, .bool false] 38).alloc (.cells #[.int .i64 0, .int .i64 0, .int .i64 0, .bool false] 38)
  have T := Blk.new ((w.alloc (.cells #[.int .i64 3, .int .i64 o, .int .i64 a, .int .i64 b, .int .i64 n, .int .i64 wd] 36)).alloc (.cells #[.int .i64 0, .int .i64 0, .int .i64 0, .bool false] 38)) [.int .i64 0, .int .i64 0, .int .i64 0, .bool false] 38
  rw [show (w.alloc (.cells #[.int .i64 3, .int .i64 o, .int .i64 a, .int .i64 b, .int .i64 n, .int .i64 wd] 36)).heap.size = w.heap.size + 1 by simp] at R
  rw [show ((w.alloc (.cells #[.int .i64 3, .int .i64 o, .int .i64 a, .int .i64 b, .int .i64 n, .int .i64 wd] 36)).alloc (.cells #[.int .i64 0, .int .i64 0, .int .i64 0, .bool false] 38)).heap.size = w.heap.size + 2 by simp] at T
  have hF : Fr [] w (((w.alloc (.cells #[.int .i64 3, .int .i64 o, .int .i64 a, .int .i64 b, .int .i64 n, .int .i64 wd] 36)).alloc (.cells #[.int .i64 0, .int .i64 0, .int .i64 0, .bool false] 38)).alloc (.cells #[.int .i64 0, .int .i64 0, .int .i64 0, .bool false] 38)) := (((Fr.refl _ w).alloc _).alloc _).alloc _
  obtain ⟨wa, hwa⟩ : ∃ wa, wa = (((w.alloc (.cells #[.int .i64 3, .int .i64 o, .int .i64 a, .int .i64 b, .int .i64 n, .int .i64 wd] 36)).alloc (.cells #[.int .i64 0, .int .i64 0, .int .i64 0, .bool false] 38)).alloc (.cells #[.int .i64 0, .int .i64 0, .int .i64 0, .bool false] 38)) := ⟨_, rfl⟩
  have HWA := hid hwa
  rw [← hwa] at X R T hF
  have x1 := X.cell (i := 1) rfl
  have HX := hid X
  have HR := hid R
  have HT := hid T
  have HF := hid hF
  have HPK := hid hPk
  have HC := hid hC
  clear X R T hF hPk hC hwa
  unfold actV
  go_enter Tryz.func9, Tryz.ntmps9
  go_upto_region 2 with fail
  rw [← HWA.out]
  go_wp2_with fail
  refine (HPK.out wa HF.out).mono ?_
  rintro e w1 ⟨rfl, hF1⟩
  have hX1 := HX.out.fr hF1 (by simp)
  have hR1 := HR.out.fr hF1 (by simp)
  have hT1 := HT.out.fr hF1 (by simp)
  have x0 := hX1.cell (i := 0) rfl
  have x2 := hX1.cell (i := 2) rfl
  have x3 := hX1.cell (i := 3) rfl
  have x4 := hX1.cell (i := 4) rfl
  have x5 := hX1.cell (i := 5) rfl
  have HR1 := hid hR1
  have HT1 := hid hT1
  have HF1 := hid (HF.out.trans hF1)
  clear hX1 hR1 hT1 hF1 x1
  go_wp2_with fail
  refine (HC.out w1 HF1.out).mono ?_
  rintro e w2 ⟨rfl, hQ, hK⟩
  have hR2 := hK _ _ (by omega) HR1.out
  have hT2 := hK _ _ (by omega) HT1.out
  have c0 := hT2.cell (i := 0) rfl
  have z0 := hT2.frozen 0
  have c1 := hT2.cell (i := 1) rfl
  have z1 := hT2.frozen 1
  have c2 := hT2.cell (i := 2) rfl
  have z2 := hT2.frozen 2
  have c3 := hT2.cell (i := 3) rfl
  have z3 := hT2.frozen 3
  have r0 := hR2.cell (i := 0) rfl
  have y0 := hR2.frozen 0
  have r1 := hR2.cell (i := 1) rfl
  have y1 := hR2.frozen 1
  have r2 := hR2.cell (i := 2) rfl
  have y2 := hR2.frozen 2
  have r3 := hR2.cell (i := 3) rfl
  have y3 := hR2.frozen 3
  have hFz : Fr [w.heap.size + 1, w.heap.size + 2] w2 ((((((w2).setCell ⟨w.heap.size + 2, 2, none⟩ (.int .i64 er)).setCell ⟨w.heap.size + 1, 0, none⟩ (.int .i64 0)).setCell ⟨w.heap.size + 1, 1, none⟩ (.int .i64 0)).setCell ⟨w.heap.size + 1, 2, none⟩ (.int .i64 er)).setCell ⟨w.heap.size + 1, 3, none⟩ (.bool false)) := (((((Fr.refl [w.heap.size + 1, w.heap.size + 2] w2).set (p := ⟨w.heap.size + 2, 2, none⟩) (by simp) (.int .i64 er)).set (p := ⟨w.heap.size + 1, 0, none⟩) (by simp) (.int .i64 0)).set (p := ⟨w.heap.size + 1, 1, none⟩) (by simp) (.int .i64 0)).set (p := ⟨w.heap.size + 1, 2, none⟩) (by simp) (.int .i64 er)).set (p := ⟨w.heap.size + 1, 3, none⟩) (by simp) (.bool false)
  have hRz := (((((hR2).other (a := ⟨w.heap.size + 2, 2, none⟩) (by simp) (.int .i64 er)).set 0 (.int .i64 0)).set 1 (.int .i64 0)).set 2 (.int .i64 er)).set 3 (.bool false)
  simp only [List.set_cons_zero, List.set_cons_succ] at hRz
  have HQ := hid hQ
  have HFZ := hid hFz
  have HRZ := hid hRz
  have HR2 := hid hR2
  have HT2 := hid hT2
  clear hQ hK hR2 hT2 hFz hRz x0 x2 x3 x4 x5
  go_wp2_with fail
  refine bodyPost_ret (v := tldV 0 0 er false) ?_ rfl ⟨rfl, w2, HQ.out, _, HFZ.out, fun x hx => ?_⟩
  · have k0 := HRZ.out.cell (i := 0) rfl
    have k1 := HRZ.out.cell (i := 1) rfl
    have k2 := HRZ.out.cell (i := 2) rfl
    have k3 := HRZ.out.cell (i := 3) rfl
    simp [results, Tryz.results9, go_sem, k0, k1, k2, k3, tldV]
  · simp only [List.mem_cons, List.mem_nil_iff, or_false] at hx
    rcases hx with rfl | rfl
    · exact ⟨by omega, _, HR2.out⟩
    · exact ⟨by omega, _, HT2.out⟩

set_option maxRecDepth 100000 in
set_option maxHeartbeats 6400000 in
theorem lawDo4 (hb mb : Nat) (o a b n wd p er : Int) (is : Bool) (w : World) (Q : World → Prop)
    (hPk : ∀ w1, Fr [] w w1 → Calls Tryz.prog 20 #[.pointer (some ⟨mb, 0, none⟩), .int .i64 o] w1 fun e w2 => e = .returned (.int .i64 p) ∧ Fr [] w1 w2)
    (hC : ∀ w1, Fr [] w w1 → Calls Tryz.prog 24 #[.pointer (some ⟨hb, 0, none⟩), .int .i64 p] w1 fun e w2 => e = .returned (.tuple #[.bool is, .int .i64 er]) ∧ Q w2 ∧ Kp w w1 w2) :
    Calls Tryz.prog 9 #[.pointer (some ⟨hb, 0, none⟩), .pointer (some ⟨mb, 0, none⟩), actV 4 o a b n wd] w (PostB w Q (tldV 0 0 er is)) := by
  have X := ((Blk.new w [.int .i64 4, .int .i64 o, .int .i64 a, .int .i64 b, .int .i64 n, .int .i64 wd] 36).alloc (.cells #[.int .i64 0, .int .i64 0, .int .i64 0, .bool false] 38)).alloc (.cells #[.int .i64 0, .int .i64 0, .int .i64 0, .bool false] 38)
  have R := (Blk.new (w.alloc (.cells #[.int .i64 4, .int .i64 o, .int .i64 a, .int .i64 b, .int .i64 n, .int .i64 wd] 36)) [.int .i64 0, .int .i64 0, .int .i64 0, .bool false] 38).alloc (.cells #[.int .i64 0, .int .i64 0, .int .i64 0, .bool false] 38)
  have T := Blk.new ((w.alloc (.cells #[.int .i64 4, .int .i64 o, .int .i64 a, .int .i64 b, .int .i64 n, .int .i64 wd] 36)).alloc (.cells #[.int .i64 0, .int .i64 0, .int .i64 0, .bool false] 38)) [.int .i64 0, .int .i64 0, .int .i64 0, .bool false] 38
  rw [show (w.alloc (.cells #[.int .i64 4, .int .i64 o, .int .i64 a, .int .i64 b, .int .i64 n, .int .i64 wd] 36)).heap.size = w.heap.size + 1 by simp] at R
  rw [show ((w.alloc (.cells #[.int .i64 4, .int .i64 o, .int .i64 a, .int .i64 b, .int .i64 n, .int .i64 wd] 36)).alloc (.cells #[.int .i64 0, .int .i64 0, .int .i64 0, .bool false] 38)).heap.size = w.heap.size + 2 by simp] at T
  have hF : Fr [] w (((w.alloc (.cells #[.int .i64 4, .int .i64 o, .int .i64 a, .int .i64 b, .int .i64 n, .int .i64 wd] 36)).alloc (.cells #[.int .i64 0, .int .i64 0, .int .i64 0, .bool false] 38)).alloc (.cells #[.int .i64 0, .int .i64 0, .int .i64 0, .bool false] 38)) := (((Fr.refl _ w).alloc _).alloc _).alloc _
  obtain ⟨wa, hwa⟩ : ∃ wa, wa = (((w.alloc (.cells #[.int .i64 4, .int .i64 o, .int .i64 a, .int .i64 b, .int .i64 n, .int .i64 wd] 36)).alloc (.cells #[.int .i64 0, .int .i64 0, .int .i64 0, .bool false] 38)).alloc (.cells #[.int .i64 0, .int .i64 0, .int .i64 0, .bool false] 38)) := ⟨_, rfl⟩
  have HWA := hid hwa
  rw [← hwa] at X R T hF
  have x1 := X.cell (i := 1) rfl
  have HX := hid X
  have HR := hid R
  have HT := hid T
  have HF := hid hF
  have HPK := hid hPk
  have HC := hid hC
  clear X R T hF hPk hC hwa
  unfold actV
  go_enter Tryz.func9, Tryz.ntmps9
  go_upto_region 2 with fail
  rw [← HWA.out]
  go_wp2_with fail
  refine (HPK.out wa HF.out).mono ?_
  rintro e w1 ⟨rfl, hF1⟩
  have hX1 := HX.out.fr hF1 (by simp)
  have hR1 := HR.out.fr hF1 (by simp)
  have hT1 := HT.out.fr hF1 (by simp)
  have x0 := hX1.cell (i := 0) rfl
  have x2 := hX1.cell (i := 2) rfl
  have x3 := hX1.cell (i := 3) rfl
  have x4 := hX1.cell (i := 4) rfl
  have x5 := hX1.cell (i := 5) rfl
  have HR1 := hid hR1
  have HT1 := hid hT1
  have HF1 := hid (HF.out.trans hF1)
  clear hX1 hR1 hT1 hF1 x1
  go_wp2_with fail
  refine (HC.out w1 HF1.out).mono ?_
  rintro e w2 ⟨rfl, hQ, hK⟩
  have hR2 := hK _ _ (by omega) HR1.out
  have hT2 := hK _ _ (by omega) HT1.out
  have c0 := hT2.cell (i := 0) rfl
  have z0 := hT2.frozen 0
  have c1 := hT2.cell (i := 1) rfl
  have z1 := hT2.frozen 1
  have c2 := hT2.cell (i := 2) rfl
  have z2 := hT2.frozen 2
  have c3 := hT2.cell (i := 3) rfl
  have z3 := hT2.frozen 3
  have r0 := hR2.cell (i := 0) rfl
  have y0 := hR2.frozen 0
  have r1 := hR2.cell (i := 1) rfl
  have y1 := hR2.frozen 1
  have r2 := hR2.cell (i := 2) rfl
  have y2 := hR2.frozen 2
  have r3 := hR2.cell (i := 3) rfl
  have y3 := hR2.frozen 3
  have hFz : Fr [w.heap.size + 1, w.heap.size + 2] w2 (((((((w2).setCell ⟨w.heap.size + 2, 3, none⟩ (.bool is)).setCell ⟨w.heap.size + 2, 2, none⟩ (.int .i64 er)).setCell ⟨w.heap.size + 1, 0, none⟩ (.int .i64 0)).setCell ⟨w.heap.size + 1, 1, none⟩ (.int .i64 0)).setCell ⟨w.heap.size + 1, 2, none⟩ (.int .i64 er)).setCell ⟨w.heap.size + 1, 3, none⟩ (.bool is)) := ((((((Fr.refl [w.heap.size + 1, w.heap.size + 2] w2).set (p := ⟨w.heap.size + 2, 3, none⟩) (by simp) (.bool is)).set (p := ⟨w.heap.size + 2, 2, none⟩) (by simp) (.int .i64 er)).set (p := ⟨w.heap.size + 1, 0, none⟩) (by simp) (.int .i64 0)).set (p := ⟨w.heap.size + 1, 1, none⟩) (by simp) (.int .i64 0)).set (p := ⟨w.heap.size + 1, 2, none⟩) (by simp) (.int .i64 er)).set (p := ⟨w.heap.size + 1, 3, none⟩) (by simp) (.bool is)
  have hRz := ((((((hR2).other (a := ⟨w.heap.size + 2, 3, none⟩) (by simp) (.bool is)).other (a := ⟨w.heap.size + 2, 2, none⟩) (by simp) (.int .i64 er)).set 0 (.int .i64 0)).set 1 (.int .i64 0)).set 2 (.int .i64 er)).set 3 (.bool is)
  simp only [List.set_cons_zero, List.set_cons_succ] at hRz
  have HQ := hid hQ
  have HFZ := hid hFz
  have HRZ := hid hRz
  have HR2 := hid hR2
  have HT2 := hid hT2
  clear hQ hK hR2 hT2 hFz hRz x0 x2 x3 x4 x5
  go_wp2_with fail
  refine bodyPost_ret (v := tldV 0 0 er is) ?_ rfl ⟨rfl, w2, HQ.out, _, HFZ.out, fun x hx => ?_⟩
  · have k0 := HRZ.out.cell (i := 0) rfl
    have k1 := HRZ.out.cell (i := 1) rfl
    have k2 := HRZ.out.cell (i := 2) rfl
    have k3 := HRZ.out.cell (i := 3) rfl
    simp [results, Tryz.results9, go_sem, k0, k1, k2, k3, tldV]
  · simp only [List.mem_cons, List.mem_nil_iff, or_false] at hx
    rcases hx with rfl | rfl
    · exact ⟨by omega, _, HR2.out⟩
    · exact ⟨by omega, _, HT2.out⟩

set_option maxRecDepth 100000 in
set_option maxHeartbeats 6400000 in
theorem lawDo6 (hb mb : Nat) (o a b n wd p er : Int) (w : World) (Q : World → Prop)
    (hPk : ∀ w1, Fr [] w w1 → Calls Tryz.prog 20 #[.pointer (some ⟨mb, 0, none⟩), .int .i64 o] w1 fun e w2 => e = .returned (.int .i64 p) ∧ Fr [] w1 w2)
    (hC : ∀ w1, Fr [] w w1 → Calls Tryz.prog 27 #[.pointer (some ⟨hb, 0, none⟩)] w1 fun e w2 => e = .returned (.int .i64 er) ∧ Q w2 ∧ Kp w w1 w2) :
    Calls Tryz.prog 9 #[.pointer (some ⟨hb, 0, none⟩), .pointer (some ⟨mb, 0, none⟩), actV 6 o a b n wd] w (PostB w Q (tldV 0 0 er false)) := by
  have X := ((Blk.new w [.int .i64 6, .int .i64 o, .int .i64 a, .int .i64 b, .int .i64 n, .int .i64 wd] 36).alloc (.cells #[.int .i64 0, .int .i64 0, .int .i64 0, .bool false] 38)).alloc (.cells #[.int .i64 0, .int .i64 0, .int .i64 0, .bool false] 38)
  have R := (Blk.new (w.alloc (.cells #[.int .i64 6, .int .i64 o, .int .i64 a, .int .i64 b, .int .i64 n, .int .i64 wd] 36)) [.int .i64 0, .int .i64 0, .int .i64 0, .bool false] 38).alloc (.cells #[.int .i64 0, .int .i64 0, .int .i64 0, .bool false] 38)
  have T := Blk.new ((w.alloc (.cells #[.int .i64 6, .int .i64 o, .int .i64 a, .int .i64 b, .int .i64 n, .int .i64 wd] 36)).alloc (.cells #[.int .i64 0, .int .i64 0, .int .i64 0, .bool false] 38)) [.int .i64 0, .int .i64 0, .int .i64 0, .bool false] 38
  rw [show (w.alloc (.cells #[.int .i64 6, .int .i64 o, .int .i64 a, .int .i64 b, .int .i64 n, .int .i64 wd] 36)).heap.size = w.heap.size + 1 by simp] at R
  rw [show ((w.alloc (.cells #[.int .i64 6, .int .i64 o, .int .i64 a, .int .i64 b, .int .i64 n, .int .i64 wd] 36)).alloc (.cells #[.int .i64 0, .int .i64 0, .int .i64 0, .bool false] 38)).heap.size = w.heap.size + 2 by simp] at T
  have hF : Fr [] w (((w.alloc (.cells #[.int .i64 6, .int .i64 o, .int .i64 a, .int .i64 b, .int .i64 n, .int .i64 wd] 36)).alloc (.cells #[.int .i64 0, .int .i64 0, .int .i64 0, .bool false] 38)).alloc (.cells #[.int .i64 0, .int .i64 0, .int .i64 0, .bool false] 38)) := (((Fr.refl _ w).alloc _).alloc _).alloc _
  obtain ⟨wa, hwa⟩ : ∃ wa, wa = (((w.alloc (.cells #[.int .i64 6, .int .i64 o, .int .i64 a, .int .i64 b, .int .i64 n, .int .i64 wd] 36)).alloc (.cells #[.int .i64 0, .int .i64 0, .int .i64 0, .bool false] 38)).alloc (.cells #[.int .i64 0, .int .i64 0, .int .i64 0, .bool false] 38)) := ⟨_, rfl⟩
  have HWA := hid hwa
  rw [← hwa] at X R T hF
  have x1 := X.cell (i := 1) rfl
  have HX := hid X
  have HR := hid R
  have HT := hid T
  have HF := hid hF
  have HPK := hid hPk
  have HC := hid hC
  clear X R T hF hPk hC hwa
  unfold actV
  go_enter Tryz.func9, Tryz.ntmps9
  go_upto_region 2 with fail
  rw [← HWA.out]
  go_wp2_with fail
  refine (HPK.out wa HF.out).mono ?_
  rintro e w1 ⟨rfl, hF1⟩
  have hX1 := HX.out.fr hF1 (by simp)
  have hR1 := HR.out.fr hF1 (by simp)
  have hT1 := HT.out.fr hF1 (by simp)
  have x0 := hX1.cell (i := 0) rfl
  have x2 := hX1.cell (i := 2) rfl
  have x3 := hX1.cell (i := 3) rfl
  have x4 := hX1.cell (i := 4) rfl
  have x5 := hX1.cell (i := 5) rfl
  have HR1 := hid hR1
  have HT1 := hid hT1
  have HF1 := hid (HF.out.trans hF1)
  clear hX1 hR1 hT1 hF1 x1
  go_wp2_with fail
  refine (HC.out w1 HF1.out).mono ?_
  rintro e w2 ⟨rfl, hQ, hK⟩
  have hR2 := hK _ _ (by omega) HR1.out
  have hT2 := hK _ _ (by omega) HT1.out
  have c0 := hT2.cell (i := 0) rfl
  have z0 := hT2.frozen 0
  have c1 := hT2.cell (i := 1) rfl
  have z1 := hT2.frozen 1
  have c2 := hT2.cell (i := 2) rfl
  have z2 := hT2.frozen 2
  have c3 := hT2.cell (i := 3) rfl
  have z3 := hT2.frozen 3
  have r0 := hR2.cell (i := 0) rfl
  have y0 := hR2.frozen 0
  have r1 := hR2.cell (i := 1) rfl
  have y1 := hR2.frozen 1
  have r2 := hR2.cell (i := 2) rfl
  have y2 := hR2.frozen 2
  have r3 := hR2.cell (i := 3) rfl
  have y3 := hR2.frozen 3
  have hFz : Fr [w.heap.size + 1, w.heap.size + 2] w2 ((((((w2).setCell ⟨w.heap.size + 2, 2, none⟩ (.int .i64 er)).setCell ⟨w.heap.size + 1, 0, none⟩ (.int .i64 0)).setCell ⟨w.heap.size + 1, 1, none⟩ (.int .i64 0)).setCell ⟨w.heap.size + 1, 2, none⟩ (.int .i64 er)).setCell ⟨w.heap.size + 1, 3, none⟩ (.bool false)) := (((((Fr.refl [w.heap.size + 1, w.heap.size + 2] w2).set (p := ⟨w.heap.size + 2, 2, none⟩) (by simp) (.int .i64 er)).set (p := ⟨w.heap.size + 1, 0, none⟩) (by simp) (.int .i64 0)).set (p := ⟨w.heap.size + 1, 1, none⟩) (by simp) (.int .i64 0)).set (p := ⟨w.heap.size + 1, 2, none⟩) (by simp) (.int .i64 er)).set (p := ⟨w.heap.size + 1, 3, none⟩) (by simp) (.bool false)
  have hRz := (((((hR2).other (a := ⟨w.heap.size + 2, 2, none⟩) (by simp) (.int .i64 er)).set 0 (.int .i64 0)).set 1 (.int .i64 0)).set 2 (.int .i64 er)).set 3 (.bool false)
  simp only [List.set_cons_zero, List.set_cons_succ] at hRz
  have HQ := hid hQ
  have HFZ := hid hFz
  have HRZ := hid hRz
  have HR2 := hid hR2
  have HT2 := hid hT2
  clear hQ hK hR2 hT2 hFz hRz x0 x2 x3 x4 x5
  go_wp2_with fail
  refine bodyPost_ret (v := tldV 0 0 er false) ?_ rfl ⟨rfl, w2, HQ.out, _, HFZ.out, fun x hx => ?_⟩
  · have k0 := HRZ.out.cell (i := 0) rfl
    have k1 := HRZ.out.cell (i := 1) rfl
    have k2 := HRZ.out.cell (i := 2) rfl
    have k3 := HRZ.out.cell (i := 3) rfl
    simp [results, Tryz.results9, go_sem, k0, k1, k2, k3, tldV]
  · simp only [List.mem_cons, List.mem_nil_iff, or_false] at hx
    rcases hx with rfl | rfl
    · exact ⟨by omega, _, HR2.out⟩
    · exact ⟨by omega, _, HT2.out⟩

set_option maxRecDepth 100000 in
set_option maxHeartbeats 6400000 in
theorem lawDo7 (hb mb : Nat) (o a b n wd p er : Int) (w : World) (Q : World → Prop)
    (hPk : ∀ w1, Fr [] w w1 → Calls Tryz.prog 20 #[.pointer (some ⟨mb, 0, none⟩), .int .i64 o] w1 fun e w2 => e = .returned (.int .i64 p) ∧ Fr [] w1 w2)
    (hC : ∀ w1, Fr [] w w1 → Calls Tryz.prog 28 #[.pointer (some ⟨hb, 0, none⟩)] w1 fun e w2 => e = .returned (.int .i64 er) ∧ Q w2 ∧ Kp w w1 w2) :
    Calls Tryz.prog 9 #[.pointer (some ⟨hb, 0, none⟩), .pointer (some ⟨mb, 0, none⟩), actV 7 o a b n wd] w (PostB w Q (tldV 0 0 er false)) := by
  have X := ((Blk.new w [.int .i64 7, .int .i64 o, .int .i64 a, .int .i64 b, .int .i64 n, .int .i64 wd] 36).alloc (.cells #[.int .i64 0, .int .i64 0, .int .i64 0, .bool false] 38)).alloc (.cells #[.int .i64 0, .int .i64 0, .int .i64 0, .bool false] 38)
  have R := (Blk.new (w.alloc (.cells #[.int .i64 7, .int .i64 o, .int .i64 a, .int .i64 b, .int .i64 n, .int .i64 wd] 36)) [.int .i64 0, .int .i64 0, .int .i64 0, .bool false] 38).alloc (.cells #[.int .i64 0, .int .i64 0, .int .i64 0, .bool false] 38)
  have T := Blk.new ((w.alloc (.cells #[.int .i64 7, .int .i64 o, .int .i64 a, .int .i64 b, .int .i64 n, .int .i64 wd] 36)).alloc (.cells #[.int .i64 0, .int .i64 0, .int .i64 0, .bool false] 38)) [.int .i64 0, .int .i64 0, .int .i64 0, .bool false] 38
  rw [show (w.alloc (.cells #[.int .i64 7, .int .i64 o, .int .i64 a, .int .i64 b, .int .i64 n, .int .i64 wd] 36)).heap.size = w.heap.size + 1 by simp] at R
  rw [show ((w.alloc (.cells #[.int .i64 7, .int .i64 o, .int .i64 a, .int .i64 b, .int .i64 n, .int .i64 wd] 36)).alloc (.cells #[.int .i64 0, .int .i64 0, .int .i64 0, .bool false] 38)).heap.size = w.heap.size + 2 by simp] at T
  have hF : Fr [] w (((w.alloc (.cells #[.int .i64 7, .int .i64 o, .int .i64 a, .int .i64 b, .int .i64 n, .int .i64 wd] 36)).alloc (.cells #[.int .i64 0, .int .i64 0, .int .i64 0, .bool false] 38)).alloc (.cells #[.int .i64 0, .int .i64 0, .int .i64 0, .bool false] 38)) := (((Fr.refl _ w).alloc _).alloc _).alloc _
  obtain ⟨wa, hwa⟩ : ∃ wa, wa = (((w.alloc (.cells #[.int .i64 7, .int .i64 o, .int .i64 a, .int .i64 b, .int .i64 n, .int .i64 wd] 36)).alloc (.cells #[.int .i64 0, .int .i64 0, .int .i64 0, .bool false] 38)).alloc (.cells #[.int .i64 0, .int .i64 0, .int .i64 0, .bool false] 38)) := ⟨_, rfl⟩
  have HWA := hid hwa
  rw [← hwa] at X R T hF
  have x1 := X.cell (i := 1) rfl
  have HX := hid X
  have HR := hid R
  have HT := hid T
  have HF := hid hF
  have HPK := hid hPk
  have HC := hid hC
  clear X R T hF hPk hC hwa
  unfold actV
  go_enter Tryz.func9, Tryz.ntmps9
  go_upto_region 2 with fail
  rw [← HWA.out]
  go_wp2_with fail
  refine (HPK.out wa HF.out).mono ?_
  rintro e w1 ⟨rfl, hF1⟩
  have hX1 := HX.out.fr hF1 (by simp)
  have hR1 := HR.out.fr hF1 (by simp)
  have hT1 := HT.out.fr hF1 (by simp)
  have x0 := hX1.cell (i := 0) rfl
  have x2 := hX1.cell (i := 2) rfl
  have x3 := hX1.cell (i := 3) rfl
  have x4 := hX1.cell (i := 4) rfl
  have x5 := hX1.cell (i := 5) rfl
  have HR1 := hid hR1
  have HT1 := hid hT1
  have HF1 := hid (HF.out.trans hF1)
  clear hX1 hR1 hT1 hF1 x1
  go_wp2_with fail
  refine (HC.out w1 HF1.out).mono ?_
  rintro e w2 ⟨rfl, hQ, hK⟩
  have hR2 := hK _ _ (by omega) HR1.out
  have hT2 := hK _ _ (by omega) HT1.out
  have c0 := hT2.cell (i := 0) rfl
  have z0 := hT2.frozen 0
  have c1 := hT2.cell (i := 1) rfl
  have z1 := hT2.frozen 1
  have c2 := hT2.cell (i := 2) rfl
  have z2 := hT2.frozen 2
  have c3 := hT2.cell (i := 3) rfl
  have z3 := hT2.frozen 3
  have r0 := hR2.cell (i := 0) rfl
  have y0 := hR2.frozen 0
  have r1 := hR2.cell (i := 1) rfl
  have y1 := hR2.frozen 1
  have r2 := hR2.cell (i := 2) rfl
  have y2 := hR2.frozen 2
  have r3 := hR2.cell (i := 3) rfl
  have y3 := hR2.frozen 3
  have hFz : Fr [w.heap.size + 1, w.heap.size + 2] w2 ((((((w2).setCell ⟨w.heap.size + 2, 2, none⟩ (.int .i64 er)).setCell ⟨w.heap.size + 1, 0, none⟩ (.int .i64 0)).setCell ⟨w.heap.size + 1, 1, none⟩ (.int .i64 0)).setCell ⟨w.heap.size + 1, 2, none⟩ (.int .i64 er)).setCell ⟨w.heap.size + 1, 3, none⟩ (.bool false)) := (((((Fr.refl [w.heap.size + 1, w.heap.size + 2] w2).set (p := ⟨w.heap.size + 2, 2, none⟩) (by simp) (.int .i64 er)).set (p := ⟨w.heap.size + 1, 0, none⟩) (by simp) (.int .i64 0)).set (p := ⟨w.heap.size + 1, 1, none⟩) (by simp) (.int .i64 0)).set (p := ⟨w.heap.size + 1, 2, none⟩) (by simp) (.int .i64 er)).set (p := ⟨w.heap.size + 1, 3, none⟩) (by simp) (.bool false)
  have hRz := (((((hR2).other (a := ⟨w.heap.size + 2, 2, none⟩) (by simp) (.int .i64 er)).set 0 (.int .i64 0)).set 1 (.int .i64 0)).set 2 (.int .i64 er)).set 3 (.bool false)
  simp only [List.set_cons_zero, List.set_cons_succ] at hRz
  have HQ := hid hQ
  have HFZ := hid hFz
  have HRZ := hid hRz
  have HR2 := hid hR2
  have HT2 := hid hT2
  clear hQ hK hR2 hT2 hFz hRz x0 x2 x3 x4 x5
  go_wp2_with fail
  refine bodyPost_ret (v := tldV 0 0 er false) ?_ rfl ⟨rfl, w2, HQ.out, _, HFZ.out, fun x hx => ?_⟩
  · have k0 := HRZ.out.cell (i := 0) rfl
    have k1 := HRZ.out.cell (i := 1) rfl
    have k2 := HRZ.out.cell (i := 2) rfl
    have k3 := HRZ.out.cell (i := 3) rfl
    simp [results, Tryz.results9, go_sem, k0, k1, k2, k3, tldV]
  · simp only [List.mem_cons, List.mem_nil_iff, or_false] at hx
    rcases hx with rfl | rfl
    · exact ⟨by omega, _, HR2.out⟩
    · exact ⟨by omega, _, HT2.out⟩

set_option maxRecDepth 100000 in
set_option maxHeartbeats 6400000 in
theorem lawDo8 (hb mb : Nat) (kd o a b n wd p : Int) (is : Bool) (k0 : (kd == 0) = false) (k1 : (kd == 1) = false) (k2 : (kd == 2) = false) (k3 : (kd == 3) = false) (k4 : (kd == 4) = false) (k5 : (kd == 5) = false) (k6 : (kd == 6) = false) (k7 : (kd == 7) = false) (w : World) (Q : World → Prop)
    (hPk : ∀ w1, Fr [] w w1 → Calls Tryz.prog 20 #[.pointer (some ⟨mb, 0, none⟩), .int .i64 o] w1 fun e w2 => e = .returned (.int .i64 p) ∧ Fr [] w1 w2)
    (hC : ∀ w1, Fr [] w w1 → Calls Tryz.prog 29 #[.pointer (some ⟨hb, 0, none⟩)] w1 fun e w2 => e = .returned (.bool is) ∧ Q w2 ∧ Kp w w1 w2) :
    Calls Tryz.prog 9 #[.pointer (some ⟨hb, 0, none⟩), .pointer (some ⟨mb, 0, none⟩), actV kd o a b n wd] w (PostB w Q (tldV 0 0 0 is)) := by
  have X := ((Blk.new w [.int .i64 kd, .int .i64 o, .int .i64 a, .int .i64 b, .int .i64 n, .int .i64 wd] 36).alloc (.cells #[.int .i64 0, .int .i64 0, .int .i64 0, .bool false] 38)).alloc (.cells #[.int .i64 0, .int .i64 0, .int .i64 0, .bool false] 38)
  have R := (Blk.new (w.alloc (.cells #[.int .i64 kd, .int .i64 o, .int .i64 a, .int .i64 b, .int .i64 n, .int .i64 wd] 36)) [.int .i64 0, .int .i64 0, .int .i64 0, .bool false] 38).alloc (.cells #[.int .i64 0, .int .i64 0, .int .i64 0, .bool false] 38)
  have T := Blk.new ((w.alloc (.cells #[.int .i64 kd, .int .i64 o, .int .i64 a, .int .i64 b, .int .i64 n, .int .i64 wd] 36)).alloc (.cells #[.int .i64 0, .int .i64 0, .int .i64 0, .bool false] 38)) [.int .i64 0, .int .i64 0, .int .i64 0, .bool false] 38
  rw [show (w.alloc (.cells #[.int .i64 kd, .int .i64 o, .int .i64 a, .int .i64 b, .int .i64 n, .int .i64 wd] 36)).heap.size = w.heap.size + 1 by simp] at R
  rw [show ((w.alloc (.cells #[.int .i64 kd, .int .i64 o, .int .i64 a, .int .i64 b, .int .i64 n, .int .i64 wd] 36)).alloc (.cells #[.int .i64 0, .int .i64 0, .int .i64 0, .bool false] 38)).heap.size = w.heap.size + 2 by simp] at T
  have hF : Fr [] w (((w.alloc (.cells #[.int .i64 kd, .int .i64 o, .int .i64 a, .int .i64 b, .int .i64 n, .int .i64 wd] 36)).alloc (.cells #[.int .i64 0, .int .i64 0, .int .i64 0, .bool false] 38)).alloc (.cells #[.int .i64 0, .int .i64 0, .int .i64 0, .bool false] 38)) := (((Fr.refl _ w).alloc _).alloc _).alloc _
  obtain ⟨wa, hwa⟩ : ∃ wa, wa = (((w.alloc (.cells #[.int .i64 kd, .int .i64 o, .int .i64 a, .int .i64 b, .int .i64 n, .int .i64 wd] 36)).alloc (.cells #[.int .i64 0, .int .i64 0, .int .i64 0, .bool false] 38)).alloc (.cells #[.int .i64 0, .int .i64 0, .int .i64 0, .bool false] 38)) := ⟨_, rfl⟩
  have HWA := hid hwa
  rw [← hwa] at X R T hF
  have x1 := X.cell (i := 1) rfl
  have HX := hid X
  have HR := hid R
  have HT := hid T
  have HF := hid hF
  have HPK := hid hPk
  have HC := hid hC
  clear X R T hF hPk hC hwa
  unfold actV
  go_enter Tryz.func9, Tryz.ntmps9
  go_upto_region 2 with fail
  rw [← HWA.out]
  go_wp2_with fail
  refine (HPK.out wa HF.out).mono ?_
  rintro e w1 ⟨rfl, hF1⟩
  have hX1 := HX.out.fr hF1 (by simp)
  have hR1 := HR.out.fr hF1 (by simp)
  have hT1 := HT.out.fr hF1 (by simp)
  have x0 := hX1.cell (i := 0) rfl
  have x2 := hX1.cell (i := 2) rfl
  have x3 := hX1.cell (i := 3) rfl
  have x4 := hX1.cell (i := 4) rfl
  have x5 := hX1.cell (i := 5) rfl
  have HR1 := hid hR1
  have HT1 := hid hT1
  have HF1 := hid (HF.out.trans hF1)
  clear hX1 hR1 hT1 hF1 x1
  go_wp2_with fail
  refine (HC.out w1 HF1.out).mono ?_
  rintro e w2 ⟨rfl, hQ, hK⟩
  have hR2 := hK _ _ (by omega) HR1.out
  have hT2 := hK _ _ (by omega) HT1.out
  have c0 := hT2.cell (i := 0) rfl
  have z0 := hT2.frozen 0
  have c1 := hT2.cell (i := 1) rfl
  have z1 := hT2.frozen 1
  have c2 := hT2.cell (i := 2) rfl
  have z2 := hT2.frozen 2
  have c3 := hT2.cell (i := 3) rfl
  have z3 := hT2.frozen 3
  have r0 := hR2.cell (i := 0) rfl
  have y0 := hR2.frozen 0
  have r1 := hR2.cell (i := 1) rfl
  have y1 := hR2.frozen 1
  have r2 := hR2.cell (i := 2) rfl
  have y2 := hR2.frozen 2
  have r3 := hR2.cell (i := 3) rfl
  have y3 := hR2.frozen 3
  have hFz : Fr [w.heap.size + 1, w.heap.size + 2] w2 (((((((w2).setCell ⟨w.heap.size + 2, 3, none⟩ (.bool is)).setCell ⟨w.heap.size + 2, 2, none⟩ (.int .i64 0)).setCell ⟨w.heap.size + 1, 0, none⟩ (.int .i64 0)).setCell ⟨w.heap.size + 1, 1, none⟩ (.int .i64 0)).setCell ⟨w.heap.size + 1, 2, none⟩ (.int .i64 0)).setCell ⟨w.heap.size + 1, 3, none⟩ (.bool is)) := ((((((Fr.refl [w.heap.size + 1, w.heap.size + 2] w2).set (p := ⟨w.heap.size + 2, 3, none⟩) (by simp) (.bool is)).set (p := ⟨w.heap.size + 2, 2, none⟩) (by simp) (.int .i64 0)).set (p := ⟨w.heap.size + 1, 0, none⟩) (by simp) (.int .i64 0)).set (p := ⟨w.heap.size + 1, 1, none⟩) (by simp) (.int .i64 0)).set (p := ⟨w.heap.size + 1, 2, none⟩) (by simp) (.int .i64 0)).set (p := ⟨w.heap.size + 1, 3, none⟩) (by simp) (.bool is)
  have hRz := ((((((hR2).other (a := ⟨w.heap.size + 2, 3, none⟩) (by simp) (.bool is)).other (a := ⟨w.heap.size + 2, 2, none⟩) (by simp) (.int .i64 0)).set 0 (.int .i64 0)).set 1 (.int .i64 0)).set 2 (.int .i64 0)).set 3 (.bool is)
  simp only [List.set_cons_zero, List.set_cons_succ] at hRz
  have HQ := hid hQ
  have HFZ := hid hFz
  have HRZ := hid hRz
  have HR2 := hid hR2
  have HT2 := hid hT2
  clear hQ hK hR2 hT2 hFz hRz x0 x2 x3 x4 x5
  go_wp2_with fail
  refine bodyPost_ret (v := tldV 0 0 0 is) ?_ rfl ⟨rfl, w2, HQ.out, _, HFZ.out, fun x hx => ?_⟩
  · have k0 := HRZ.out.cell (i := 0) rfl
    have k1 := HRZ.out.cell (i := 1) rfl
    have k2 := HRZ.out.cell (i := 2) rfl
    have k3 := HRZ.out.cell (i := 3) rfl
    simp [results, Tryz.results9, go_sem, k0, k1, k2, k3, tldV]
  · simp only [List.mem_cons, List.mem_nil_iff, or_false] at hx
    rcases hx with rfl | rfl
    · exact ⟨by omega, _, HR2.out⟩
    · exact ⟨by omega, _, HT2.out⟩

set_option maxRecDepth 100000 in
set_option maxHeartbeats 6400000 in
theorem lawDo5n (hb mb : Nat) (o a b n wd p v0 : Int) (w : World) (Q : World → Prop)
    (hPk : ∀ w1, Fr [] w w1 → Calls Tryz.prog 20 #[.pointer (some ⟨mb, 0, none⟩), .int .i64 o] w1 fun e w2 => e = .returned (.int .i64 p) ∧ Fr [] w1 w2)
    (hC : ∀ w1, Fr [] w w1 → Calls Tryz.prog 25 #[.pointer (some ⟨hb, 0, none⟩)] w1 fun e w2 => e = .returned (.tuple #[.int .i64 v0, .bool false]) ∧ Q w2 ∧ Kp w w1 w2) :
    Calls Tryz.prog 9 #[.pointer (some ⟨hb, 0, none⟩), .pointer (some ⟨mb, 0, none⟩), actV 5 o a b n wd] w (PostB w Q (tldV 0 0 0 false)) := by
  have X := ((Blk.new w [.int .i64 5, .int .i64 o, .int .i64 a, .int .i64 b, .int .i64 n, .int .i64 wd] 36).alloc (.cells #[.int .i64 0, .int .i64 0, .int .i64 0, .bool false] 38)).alloc (.cells #[.int .i64 0, .int .i64 0, .int .i64 0, .bool false] 38)
  have R := (Blk.new (w.alloc (.cells #[.int .i64 5, .int .i64 o, .int .i64 a, .int .i64 b, .int .i64 n, .int .i64 wd] 36)) [.int .i64 0, .int .i64 0, .int .i64 0, .bool false] 38).alloc (.cells #[.int .i64 0, .int .i64 0, .int .i64 0, .bool false] 38)
  have T := Blk.new ((w.alloc (.cells #[.int .i64 5, .int .i64 o, .int .i64 a, .int .i64 b, .int .i64 n, .int .i64 wd] 36)).alloc (.cells #[.int .i64 0, .int .i64 0, .int .i64 0, .bool false] 38)) [.int .i64 0, .int .i64 0, .int .i64 0, .bool false] 38
  rw [show (w.alloc (.cells #[.int .i64 5, .int .i64 o, .int .i64 a, .int .i64 b, .int .i64 n, .int .i64 wd] 36)).heap.size = w.heap.size + 1 by simp] at R
  rw [show ((w.alloc (.cells #[.int .i64 5, .int .i64 o, .int .i64 a, .int .i64 b, .int .i64 n, .int .i64 wd] 36)).alloc (.cells #[.int .i64 0, .int .i64 0, .int .i64 0, .bool false] 38)).heap.size = w.heap.size + 2 by simp] at T
  have hF : Fr [] w (((w.alloc (.cells #[.int .i64 5, .int .i64 o, .int .i64 a, .int .i64 b, .int .i64 n, .int .i64 wd] 36)).alloc (.cells #[.int .i64 0, .int .i64 0, .int .i64 0, .bool false] 38)).alloc (.cells #[.int .i64 0, .int .i64 0, .int .i64 0, .bool false] 38)) := (((Fr.refl _ w).alloc _).alloc _).alloc _
  obtain ⟨wa, hwa⟩ : ∃ wa, wa = (((w.alloc (.cells #[.int .i64 5, .int .i64 o, .int .i64 a, .int .i64 b, .int .i64 n, .int .i64 wd] 36)).alloc (.cells #[.int .i64 0, .int .i64 0, .int .i64 0, .bool false] 38)).alloc (.cells #[.int .i64 0, .int .i64 0, .int .i64 0, .bool false] 38)) := ⟨_, rfl⟩
  have HWA := hid hwa
  rw [← hwa] at X R T hF
  have x1 := X.cell (i := 1) rfl
  have HX := hid X
  have HR := hid R
  have HT := hid T
  have HF := hid hF
  have HPK := hid hPk
  have HC := hid hC
  clear X R T hF hPk hC hwa
  unfold actV
  go_enter Tryz.func9, Tryz.ntmps9
  go_upto_region 2 with fail
  rw [← HWA.out]
  go_wp2_with fail
  refine (HPK.out wa HF.out).mono ?_
  rintro e w1 ⟨rfl, hF1⟩
  have hX1 := HX.out.fr hF1 (by simp)
  have hR1 := HR.out.fr hF1 (by simp)
  have hT1 := HT.out.fr hF1 (by simp)
  have x0 := hX1.cell (i := 0) rfl
  have x2 := hX1.cell (i := 2) rfl
  have x3 := hX1.cell (i := 3) rfl
  have x4 := hX1.cell (i := 4) rfl
  have x5 := hX1.cell (i := 5) rfl
  have HR1 := hid hR1
  have HT1 := hid hT1
  have HF1 := hid (HF.out.trans hF1)
  clear hX1 hR1 hT1 hF1 x1
  go_wp2_with fail
  refine (HC.out w1 HF1.out).mono ?_
  rintro e w2 ⟨rfl, hQ, hK⟩
  have hR2 := hK _ _ (by omega) HR1.out
  have hT2 := hK _ _ (by omega) HT1.out
  have c0 := hT2.cell (i := 0) rfl
  have z0 := hT2.frozen 0
  have c1 := hT2.cell (i := 1) rfl
  have z1 := hT2.frozen 1
  have c2 := hT2.cell (i := 2) rfl
  have z2 := hT2.frozen 2
  have c3 := hT2.cell (i := 3) rfl
  have z3 := hT2.frozen 3
  have r0 := hR2.cell (i := 0) rfl
  have y0 := hR2.frozen 0
  have r1 := hR2.cell (i := 1) rfl
  have y1 := hR2.frozen 1
  have r2 := hR2.cell (i := 2) rfl
  have y2 := hR2.frozen 2
  have r3 := hR2.cell (i := 3) rfl
  have y3 := hR2.frozen 3
  have hFz : Fr [w.heap.size + 1, w.heap.size + 2] w2 ((((((w2).setCell ⟨w.heap.size + 2, 2, none⟩ (.int .i64 0)).setCell ⟨w.heap.size + 1, 0, none⟩ (.int .i64 0)).setCell ⟨w.heap.size + 1, 1, none⟩ (.int .i64 0)).setCell ⟨w.heap.size + 1, 2, none⟩ (.int .i64 0)).setCell ⟨w.heap.size + 1, 3, none⟩ (.bool false)) := (((((Fr.refl [w.heap.size + 1, w.heap.size + 2] w2).set (p := ⟨w.heap.size + 2, 2, none⟩) (by simp) (.int .i64 0)).set (p := ⟨w.heap.size + 1, 0, none⟩) (by simp) (.int .i64 0)).set (p := ⟨w.heap.size + 1, 1, none⟩) (by simp) (.int .i64 0)).set (p := ⟨w.heap.size + 1, 2, none⟩) (by simp) (.int .i64 0)).set (p := ⟨w.heap.size + 1, 3, none⟩) (by simp) (.bool false)
  have hRz := (((((hR2).other (a := ⟨w.heap.size + 2, 2, none⟩) (by simp) (.int .i64 0)).set 0 (.int .i64 0)).set 1 (.int .i64 0)).set 2 (.int .i64 0)).set 3 (.bool false)
  simp only [List.set_cons_zero, List.set_cons_succ] at hRz
  have HQ := hid hQ
  have HFZ := hid hFz
  have HRZ := hid hRz
  have HR2 := hid hR2
  have HT2 := hid hT2
  clear hQ hK hR2 hT2 hFz hRz x0 x2 x3 x4 x5
  go_wp2_with fail
  refine bodyPost_ret (v := tldV 0 0 0 false) ?_ rfl ⟨rfl, w2, HQ.out, _, HFZ.out, fun x hx => ?_⟩
  · have k0 := HRZ.out.cell (i := 0) rfl
    have k1 := HRZ.out.cell (i := 1) rfl
    have k2 := HRZ.out.cell (i := 2) rfl
    have k3 := HRZ.out.cell (i := 3) rfl
    simp [results, Tryz.results9, go_sem, k0, k1, k2, k3, tldV]
  · simp only [List.mem_cons, List.mem_nil_iff, or_false] at hx
    rcases hx with rfl | rfl
    · exact ⟨by omega, _, HR2.out⟩
    · exact ⟨by omega, _, HT2.out⟩

set_option maxRecDepth 100000 in
set_option maxHeartbeats 6400000 in
theorem lawDo5y (hb mb : Nat) (o a b n wd p er : Int) (w : World) (Q1 Q : Int → World → Prop)
    (hPk : ∀ w1, Fr [] w w1 → Calls Tryz.prog 20 #[.pointer (some ⟨mb, 0, none⟩), .int .i64 o] w1 fun e w2 => e = .returned (.int .i64 p) ∧ Fr [] w1 w2)
    (hC : ∀ w1, Fr [] w w1 → Calls Tryz.prog 25 #[.pointer (some ⟨hb, 0, none⟩)] w1 fun e w2 => ∃ v0, e = .returned (.tuple #[.int .i64 v0, .bool true]) ∧ Q1 v0 w2 ∧ Kp w w1 w2)
    (hD : ∀ v0 w2 w3, Q1 v0 w2 → FrB w w2 w3 → Calls Tryz.prog 26 #[.pointer (some ⟨hb, 0, none⟩), .int .i64 v0] w3 fun e w4 => e = .returned (.int .i64 er) ∧ Q v0 w4 ∧ Kp w w3 w4) :
    Calls Tryz.prog 9 #[.pointer (some ⟨hb, 0, none⟩), .pointer (some ⟨mb, 0, none⟩), actV 5 o a b n wd] w (fun e w' => ∃ v0, PostB w (Q v0) (tldV 0 v0 er false) e w') := by
  have X := ((Blk.new w [.int .i64 5, .int .i64 o, .int .i64 a, .int .i64 b, .int .i64 n, .int .i64 wd] 36).alloc (.cells #[.int .i64 0, .int .i64 0, .int .i64 0, .bool false] 38)).alloc (.cells #[.int .i64 0, .int .i64 0, .int .i64 0, .bool false] 38)
  have R := (Blk.new (w.alloc (.cells #[.int .i64 5, .int .i64 o, .int .i64 a, .int .i64 b, .int .i64 n, .int .i64 wd] 36)) [.int .i64 0, .int .i64 0, .int .i64 0, .bool false] 38).alloc (.cells #[.int .i64 0, .int .i64 0, .int .i64 0, .bool false] 38)
  have T := Blk.new ((w.alloc (.cells #[.int .i64 5, .int .i64 o, .int .i64 a, .int .i64 b, .int .i64 n, .int .i64 wd] 36)).alloc (.cells #[.int .i64 0, .int .i64 0, .int .i64 0, .bool false] 38)) [.int .i64 0, .int .i64 0, .int .i64 0, .bool false] 38
  rw [show (w.alloc (.cells #[.int .i64 5, .int .i64 o, .int .i64 a, .int .i64 b, .int .i64 n, .int .i64 wd] 36)).heap.size = w.heap.size + 1 by simp] at R
  rw [show ((w.alloc (.cells #[.int .i64 5, .int .i64 o, .int .i64 a, .int .i64 b, .int .i64 n, .int .i64 wd] 36)).alloc (.cells #[.int .i64 0, .int .i64 0, .int .i64 0, .bool false] 38)).heap.size = w.heap.size + 2 by simp] at T
  have hF : Fr [] w (((w.alloc (.cells #[.int .i64 5, .int .i64 o, .int .i64 a, .int .i64 b, .int .i64 n, .int .i64 wd] 36)).alloc (.cells #[.int .i64 0, .int .i64 0, .int .i64 0, .bool false] 38)).alloc (.cells #[.int .i64 0, .int .i64 0, .int .i64 0, .bool false] 38)) := (((Fr.refl _ w).alloc _).alloc _).alloc _
  obtain ⟨wa, hwa⟩ : ∃ wa, wa = (((w.alloc (.cells #[.int .i64 5, .int .i64 o, .int .i64 a, .int .i64 b, .int .i64 n, .int .i64 wd] 36)).alloc (.cells #[.int .i64 0, .int .i64 0, .int .i64 0, .bool false] 38)).alloc (.cells #[.int .i64 0, .int .i64 0, .int .i64 0, .bool false] 38)) := ⟨_, rfl⟩
  have HWA := hid hwa
  rw [← hwa] at X R T hF
  have x1 := X.cell (i := 1) rfl
  have HX := hid X
  have HR := hid R
  have HT := hid T
  have HF := hid hF
  have HPK := hid hPk
  have HC := hid hC
  have HD := hid hD
  clear X R T hF hPk hC hD hwa
  unfold actV
  go_enter Tryz.func9, Tryz.ntmps9
  go_upto_region 2 with fail
  rw [← HWA.out]
  go_wp2_with fail
  refine (HPK.out wa HF.out).mono ?_
  rintro e w1 ⟨rfl, hF1⟩
  have hX1 := HX.out.fr hF1 (by simp)
  have hR1 := HR.out.fr hF1 (by simp)
  have hT1 := HT.out.fr hF1 (by simp)
  have x0 := hX1.cell (i := 0) rfl
  have x2 := hX1.cell (i := 2) rfl
  have x3 := hX1.cell (i := 3) rfl
  have x4 := hX1.cell (i := 4) rfl
  have x5 := hX1.cell (i := 5) rfl
  have HR1 := hid hR1
  have HT1 := hid hT1
  have HF1 := hid (HF.out.trans hF1)
  clear hX1 hR1 hT1 hF1 x1
  go_wp2_with fail
  refine (HC.out w1 HF1.out).mono ?_
  rintro e w2 ⟨v0, rfl, hQ, hK⟩
  have hR2 := hK _ _ (by omega) HR1.out
  have hT2 := hK _ _ (by omega) HT1.out
  have c1 := hT2.cell (i := 1) rfl
  have z1 := hT2.frozen 1
  have hF3 : FrB w w2 (w2.setCell ⟨w.heap.size + 2, 1, none⟩ (.int .i64 v0)) := ⟨[w.heap.size + 2], (Fr.refl _ w2).set (by simp) _, fun x hx => by obtain rfl := List.mem_singleton.1 hx; exact ⟨by omega, _, hT2⟩⟩
  have hR3 := hR2.other (a := ⟨w.heap.size + 2, 1, none⟩) (by simp) (.int .i64 v0)
  have hT3 := hT2.set 1 (.int .i64 v0)
  simp only [List.set_cons_zero, List.set_cons_succ] at hT3
  have hd := HD.out v0 w2 _ hQ hF3
  obtain ⟨w3, hw3⟩ : ∃ w3, w3 = w2.setCell ⟨w.heap.size + 2, 1, none⟩ (.int .i64 v0) := ⟨_, rfl⟩
  rw [← hw3] at hd hR3 hT3
  have HW3 := hid hw3
  have HDD := hid hd
  have HR3 := hid hR3
  have HT3 := hid hT3
  clear hQ hK hR2 hT2 hF3 hR3 hT3 hd hw3 x0 x2 x3 x4 x5
  go_upto_region 20 with fail
  rw [← HW3.out]
  clear c1 z1
  go_wp2_with fail
  refine HDD.out.mono ?_
  rintro e w4 ⟨rfl, hQ, hK⟩
  have hR4 := hK _ _ (by omega) HR3.out
  have hT4 := hK _ _ (by omega) HT3.out
  have c0 := hT4.cell (i := 0) rfl
  have z0 := hT4.frozen 0
  have c1 := hT4.cell (i := 1) rfl
  have z1 := hT4.frozen 1
  have c2 := hT4.cell (i := 2) rfl
  have z2 := hT4.frozen 2
  have c3 := hT4.cell (i := 3) rfl
  have z3 := hT4.frozen 3
  have r0 := hR4.cell (i := 0) rfl
  have y0 := hR4.frozen 0
  have r1 := hR4.cell (i := 1) rfl
  have y1 := hR4.frozen 1
  have r2 := hR4.cell (i := 2) rfl
  have y2 := hR4.frozen 2
  have r3 := hR4.cell (i := 3) rfl
  have y3 := hR4.frozen 3
  have hFz : Fr [w.heap.size + 1, w.heap.size + 2] w4 ((((((w4).setCell ⟨w.heap.size + 2, 2, none⟩ (.int .i64 er)).setCell ⟨w.heap.size + 1, 0, none⟩ (.int .i64 0)).setCell ⟨w.heap.size + 1, 1, none⟩ (.int .i64 v0)).setCell ⟨w.heap.size + 1, 2, none⟩ (.int .i64 er)).setCell ⟨w.heap.size + 1, 3, none⟩ (.bool false)) := (((((Fr.refl [w.heap.size + 1, w.heap.size + 2] w4).set (p := ⟨w.heap.size + 2, 2, none⟩) (by simp) (.int .i64 er)).set (p := ⟨w.heap.size + 1, 0, none⟩) (by simp) (.int .i64 0)).set (p := ⟨w.heap.size + 1, 1, none⟩) (by simp) (.int .i64 v0)).set (p := ⟨w.heap.size + 1, 2, none⟩) (by simp) (.int .i64 er)).set (p := ⟨w.heap.size + 1, 3, none⟩) (by simp) (.bool false)
  have hRz := (((((hR4).other (a := ⟨w.heap.size + 2, 2, none⟩) (by simp) (.int .i64 er)).set 0 (.int .i64 0)).set 1 (.int .i64 v0)).set 2 (.int .i64 er)).set 3 (.bool false)
  simp only [List.set_cons_zero, List.set_cons_succ] at hRz
  have HQ := hid hQ
  have HFZ := hid hFz
  have HRZ := hid hRz
  have HR4 := hid hR4
  have HT4 := hid hT4
  clear hQ hK hR4 hT4 hFz hRz
  go_wp2_with fail
  refine bodyPost_ret (v := tldV 0 v0 er false) ?_ rfl ⟨v0, rfl, w4, HQ.out, _, HFZ.out, fun x hx => ?_⟩
  · have k0 := HRZ.out.cell (i := 0) rfl
    have k1 := HRZ.out.cell (i := 1) rfl
    have k2 := HRZ.out.cell (i := 2) rfl
    have k3 := HRZ.out.cell (i := 3) rfl
    simp [results, Tryz.results9, go_sem, k0, k1, k2, k3, tldV]
  · simp only [List.mem_cons, List.mem_nil_iff, or_false] at hx
    rcases hx with rfl | rfl
    · exact ⟨by omega, _, HR4.out⟩
    · exact ⟨by omega, _, HT4.out⟩

end Go.Proofs.YtifillpcphiblaaGreat
