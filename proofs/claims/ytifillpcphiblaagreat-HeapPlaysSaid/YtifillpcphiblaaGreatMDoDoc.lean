import Derived.Test.YtifillpcphiblaaGreatMPPlays
import Derived.Test.YtifillpcphiblaaGreatMDRow
import Derived.Test.YtifillpcphiblaaGreatDRing
import Derived.Test.YtifillpcphiblaaGreatMHList3
namespace Go.Proofs.YtifillpcphiblaaGreat
open Go Go.Proofs Go.RowKit

/-! law06.HeapPlays: a call, of the program's heap and of the document's, its callee's contract given. -/

def actV (kd o a b n wd : Int) : Value := .agg #[.int .i64 kd, .int .i64 o, .int .i64 a, .int .i64 b, .int .i64 n, .int .i64 wd]
def tldV (wd at0 er : Int) (is : Bool) : Value := .agg #[.int .i64 wd, .int .i64 at0, .int .i64 er, .bool is]
/-- Boxes for what is told that came since stay. -/
def Kp (w w1 w2 : World) : Prop := ∀ b cs, w.heap.size ≤ b → Blk w1 b cs 38 → Blk w2 b cs 38
/-- But for such boxes nothing has changed. -/
def FrB (w w2 w' : World) : Prop := ∃ S, Fr S w2 w' ∧ ∀ x ∈ S, w.heap.size ≤ x ∧ ∃ cs, Blk w2 x cs 38
theorem FrB.of {w w2 w' : World} (h : Fr [] w2 w') : FrB w w2 w' := ⟨[], h, by simp⟩
def PostB (w : World) (Q : World → Prop) (v : Value) (e : Ending) (w' : World) : Prop := e = .returned v ∧ ∃ w2, Q w2 ∧ FrB w w2 w'

theorem tld_fr {w0 w1 : World} {b : Nat} {cs : List Value} {T : TypeId} (h : Blk w1 b cs T) (hf : Fr [] w1 w0) : Blk w0 b cs T := h.fr hf (by simp)

set_option maxRecDepth 100000 in
set_option maxHeartbeats 6400000 in
theorem docDo0 (mb : Nat) (o a b n wd p v0 er : Int) (w : World) (Q : World → Prop)
    (hPk : ∀ w1, Fr [] w w1 → Calls Tryz.prog 20 #[.pointer (some ⟨mb, 0, none⟩), .int .i64 o] w1 fun e w2 => e = .returned (.int .i64 p) ∧ Fr [] w1 w2)
    (hC : ∀ w1, Fr [] w w1 → Calls Tryz.prog 30 #[.pointer (some ⟨mb, 0, none⟩), .int .i64 a, .int .i64 b, .int .i64 n] w1 fun e w2 => e = .returned (.tuple #[.int .i64 v0, .int .i64 er]) ∧ Q w2 ∧ Kp w w1 w2) :
    Calls Tryz.prog 10 #[.pointer (some ⟨mb, 0, none⟩), actV 0 o a b n wd] w (PostB w Q (tldV 0 v0 er false)) := by
  have X := ((Blk.new w [.int .i64 0, .int .i64 o, .int .i64 a, .int .i64 b, .int .i64 n, .int .i64 wd] 36).alloc (.cells #[.int .i64 0, .int .i64 0, .int .i64 0, .bool false] 38)).alloc (.cells #[.int .i64 0, .int .i64 0, .int .i64 0, .bool false] 38)
  have R := (Blk.new (w.alloc (.cells #[.int .i64 0, .int .i64 o, .int .i64 a, .int .i64 b, .int .i64 n, .int .i64 wd] 36)) [.int .i64 0, .int .i64 0, .int .i64 0, .bool false] 38).alloc (.cells #[.int .i64 0, .int .i64 0, .int .i64 0, .bool false] 38)
  have T := Blk.new ((w.alloc (.cells #[.int .i64 0, .int .i64 o, .int .i64 a, .int .i64 b, .int .i64 n, .int .i64 wd] 36)).alloc (.cells #[.int .i64 0, .int .i64 0, .int .i64 0, .bool false] 38)) [.int .i64 0, .int .i64 0, .int .i64 0, .bool false] 38
  rw [show (w.alloc (.cells #[.int .i64 0, .int .i64 o, .int .i64 a, .int .i64 b, .int .i64 n, .int .i64 wd] 36)).heap.size = w.heap.size + 1 by simp] at R
  rw [show ((w.alloc (.cells #[.int .i64 0, .int .i64 o, .int .i64 a, .int .i64 b, .int .i64 n, .int .i64 wd] 36)).alloc (.cells #[.int .i64 0, .int .i64 0, .int .i64 0, .bool false] 38)).heap.size = w.heap.size + 2 by simp] at T
  have hF : Fr [] w (((w.alloc (.cells #[.int .i64 0, .int .i64 o, .int .i64 a, .int .i64 b, .int .i64 n, .int .i64 wd] 36)).alloc (.cells #[.int .i64 0, .int .i64 0, .int .i64 0, .bool false] 38)).alloc (.cells #[.int .i64 0, .int .i64 0, .int .i64 0, .bool false] 38)) := (((Fr.refl _ w).alloc _).alloc _).alloc _
  obtain ⟨wa, hwa⟩ : ∃ wa, wa = (((w.alloc (.cells #[.int .i64 0, .int .i64 o, .int .i64 a, .int .i64 b, .int .i64 n, .int .i64 wd] 36)).alloc (.cells #[.int .i64 0, .int .i64 0, .int .i64 0, .bool false] 38)).alloc (.cells #[.int .i64 0, .int .i64 0, .int .i64 0, .bool false] 38)) := ⟨_, rfl⟩
  have HWA := hid hwa
  rw [← hwa] at X R T hF
  have x1 := X.cell (i := 1) rfl
  have HX := hid X
  have HR := hid R
  have HT := hid T
  have HF := hid hF
  have HPK := hid hPk
  have HC := hid hC
  clear X R T hF hPk hC hwa
  unfold actV
  go_enter Tryz.func10, Tryz.ntmps10
  go_upto_region 2 with fail
  rw [← HWA.out]
  go_wp2_with fail
  refine (HPK.out wa HF.out).mono ?_
  rintro e w1 ⟨rfl, hF1⟩
  have hX1 := HX.out.fr hF1 (by simp)
  have hR1 := HR.out.fr hF1 (by simp)
  have hT1 := HT.out.fr hF1 (by simp)
  have x0 := hX1.cell (i := 0) rfl
  have x2 := hX1.cell (i := 2) rfl
  have x3 := hX1.cell (i := 3) rfl
  have x4 := hX1.cell (i := 4) rfl
  have x5 := hX1.cell (i := 5) rfl
  have HR1 := hid hR1
  have HT1 := hid hT1
  have HF1 := hid (HF.out.trans hF1)
  clear hX1 hR1 hT1 hF1 x1
  go_wp2_with fail
  refine (HC.out w1 HF1.out).mono ?_
  rintro e w2 ⟨rfl, hQ, hK⟩
  have hR2 := hK _ _ (by omega) HR1.out
  have hT2 := hK _ _ (by omega) HT1.out
  have c0 := hT2.cell (i := 0) rfl
  have z0 := hT2.frozen 0
  have c1 := hT2.cell (i := 1) rfl
  have z1 := hT2.frozen 1
  have c2 := hT2.cell (i := 2) rfl
  have z2 := hT2.frozen 2
  have c3 := hT2.cell (i := 3) rfl
  have z3 := hT2.frozen 3
  have r0 := hR2.cell (i := 0) rfl
  have y0 := hR2.frozen 0
  have r1 := hR2.cell (i := 1) rfl
  have y1 := hR2.frozen 1
  have r2 := hR2.cell (i := 2) rfl
  have y2 := hR2.frozen 2
  have r3 := hR2.cell (i := 3) rfl
  have y3 := hR2.frozen 3
  have hFz : Fr [w.heap.size + 1, w.heap.size + 2] w2 (((((((w2).setCell ⟨w.heap.size + 2, 1, none⟩ (.int .i64 v0)).setCell ⟨w.heap.size + 2, 2, none⟩ (.int .i64 er)).setCell ⟨w.heap.size + 1, 0, none⟩ (.int .i64 0)).setCell ⟨w.heap.size + 1, 1, none⟩ (.int .i64 v0)).setCell ⟨w.heap.size + 1, 2, none⟩ (.int .i64 er)).setCell ⟨w.heap.size + 1, 3, none⟩ (.bool false)) := ((((((Fr.refl [w.heap.size + 1, w.heap.size + 2] w2).set (p := ⟨w.heap.size + 2, 1, none⟩) (by simp) (.int .i64 v0)).set (p := ⟨w.heap.size + 2, 2, none⟩) (by simp) (.int .i64 er)).set (p := ⟨w.heap.size + 1, 0, none⟩) (by simp) (.int .i64 0)).set (p := ⟨w.heap.size + 1, 1, none⟩) (by simp) (.int .i64 v0)).set (p := ⟨w.heap.size + 1, 2, none⟩) (by simp) (.int .i64 er)).set (p := ⟨w.heap.size + 1, 3, none⟩) (by simp) (.bool false)
  have hRz := ((((((hR2).other (a := ⟨w.heap.size + 2, 1, none⟩) (by simp) (.int .i64 v0)).other (a := ⟨w.heap.size + 2, 2, none⟩) (by simp) (.int .i64 er)).set 0 (.int .i64 0)).set 1 (.int .i64 v0)).set 2 (.int .i64 er)).set 3 (.bool false)
  simp only [List.set_cons_zero, List.set_cons_succ] at hRz
  have HQ := hid hQ
  have HFZ := hid hFz
  have HRZ := hid hRz
  have HR2 := hid hR2
  have HT2 := hid hT2
  clear hQ hK hR2 hT2 hFz hRz x0 x2 x3 x4 x5
  go_wp2_with fail
  refine bodyPost_ret (v := tldV 0 v0 er false) ?_ rfl ⟨rfl, w2, HQ.out, _, HFZ.out, fun x hx => ?_⟩
  · have k0 := HRZ.out.cell (i := 0) rfl
    have k1 := HRZ.out.cell (i := 1) rfl
    have k2 := HRZ.out.cell (i := 2) rfl
    have k3 := HRZ.out.cell (i := 3) rfl
    simp [results, Tryz.results10, go_sem, k0, k1, k2, k3, tldV]
  · simp only [List.mem_cons, List.mem_nil_iff, or_false] at hx
    rcases hx with rfl | rfl
    · exact ⟨by omega, _, HR2.out⟩
    · exact ⟨by omega, _, HT2.out⟩

set_option maxRecDepth 100000 in
set_option maxHeartbeats 6400000 in
theorem docDo1 (mb : Nat) (o a b n wd p v0 er : Int) (w : World) (Q : World → Prop)
    (hPk : ∀ w1, Fr [] w w1 → Calls Tryz.prog 20 #[.pointer (some ⟨mb, 0, none⟩), .int .i64 o] w1 fun e w2 => e = .returned (.int .i64 p) ∧ Fr [] w1 w2)
    (hC : ∀ w1, Fr [] w w1 → Calls Tryz.prog 31 #[.pointer (some ⟨mb, 0, none⟩), .int .i64 p, .int .i64 n] w1 fun e w2 => e = .returned (.tuple #[.int .i64 v0, .int .i64 er]) ∧ Q w2 ∧ Kp w w1 w2) :
    Calls Tryz.prog 10 #[.pointer (some ⟨mb, 0, none⟩), actV 1 o a b n wd] w (PostB w Q (tldV v0 0 er false)) := by
  have X := ((Blk.new w [.int .i64 1, .int .i64 o, .int .i64 a, .int .i64 b, .int .i64 n, .int .i64 wd] 36).alloc (.cells #[.int .i64 0, .int .i64 0, .int .i64 0, .bool false] 38)).alloc (.cells #[.int .i64 0, .int .i64 0, .int .i64 0, .bool false] 38)
  have R := (Blk.new (w.alloc (.cells #[.int .i64 1, .int .i64 o, .int .i64 a, .int .i64 b, .int .i64 n, .int .i64 wd] 36)) [.int .i64 0, .int .i64 0, .int .i64 0, .bool false] 38).alloc (.cells #[.int .i64 0, .int .i64 0, .int .i64 0, .bool false] 38)
  have T := Blk.new ((w.alloc (.cells #[.int .i64 1, .int .i64 o, .int .i64 a, .int .i64 b, .int .i64 n, .int .i64 wd] 36)).alloc (.cells #[.int .i64 0, .int .i64 0, .int .i64 0, .bool false] 38)) [.int .i64 0, .int .i64 0, .int .i64 0, .bool false] 38
  rw [show (w.alloc (.cells #[.int .i64 1, .int .i64 o, .int .i64 a, .int .i64 b, .int .i64 n, .int .i64 wd] 36)).heap.size = w.heap.size + 1 by simp] at R
  rw [show ((w.alloc (.cells #[.int .i64 1, .int .i64 o, .int .i64 a, .int .i64 b, .int .i64 n, .int .i64 wd] 36)).alloc (.cells #[.int .i64 0, .int .i64 0, .int .i64 0, .bool false] 38)).heap.size = w.heap.size + 2 by simp] at T
  have hF : Fr [] w (((w.alloc (.cells #[.int .i64 1, .int .i64 o, .int .i64 a, .int .i64 b, .int .i64 n, .int .i64 wd] 36)).alloc (.cells #[.int .i64 0, .int .i64 0, .int .i64 0, .bool false] 38)).alloc (.cells #[.int .i64 0, .int .i64 0, .int .i64 0, .bool false] 38)) := (((Fr.refl _ w).alloc _).alloc _).alloc _
  obtain ⟨wa, hwa⟩ : ∃ wa, wa = (((w.alloc (.cells #[.int .i64 1, .int .i64 o, .int .i64 a, .int .i64 b, .int .i64 n, .int .i64 wd] 36)).alloc (.cells #[.int .i64 0, .int .i64 0, .int .i64 0, .bool false] 38)).alloc (.cells #[.int .i64 0, .int .i64 0, .int .i64 0, .bool false] 38)) := ⟨_, rfl⟩
  have HWA := hid hwa
  rw [← hwa] at X R T hF
  have x1 := X.cell (i := 1) rfl
  have HX := hid X
  have HR := hid R
  have HT := hid T
  have HF := hid hF
  have HPK := hid hPk
  have HC := hid hC
  clear X R T hF hPk hC hwa
  unfold actV
  go_enter Tryz.func10, Tryz.ntmps10
  go_upto_region 2 with fail
  rw [← HWA.out]
  go_wp2_with fail
  refine (HPK.out wa HF.out).mono ?_
  rintro e w1 ⟨rfl, hF1⟩
  have hX1 := HX.out.fr hF1 (by simp)
  have hR1 := HR.out.fr hF1 (by simp)
  have hT1 := HT.out.fr hF1 (by simp)
  have x0 := hX1.cell (i := 0) rfl
  have x2 := hX1.cell (i := 2) rfl
  have x3 := hX1.cell (i := 3) rfl
  have x4 := hX1.cell (i := 4) rfl
  have x5 := hX1.cell (i := 5) rfl
  have HR1 := hid hR1
  have HT1 := hid hT1
  have HF1 := hid (HF.out.trans hF1)
  clear hX1 hR1 hT1 hF1 x1
  go_wp2_with fail
  refine (HC.out w1 HF1.out).mono ?_
  rintro e w2 ⟨rfl, hQ, hK⟩
  have hR2 := hK _ _ (by omega) HR1.out
  have hT2 := hK _ _ (by omega) HT1.out
  have c0 := hT2.cell (i := 0) rfl
  have z0 := hT2.frozen 0
  have c1 := hT2.cell (i := 1) rfl
  have z1 := hT2.frozen 1
  have c2 := hT2.cell (i := 2) rfl
  have z2 := hT2.frozen 2
  have c3 := hT2.cell (i := 3) rfl
  have z3 := hT2.frozen 3
  have r0 := hR2.cell (i := 0) rfl
  have y0 := hR2.frozen 0
  have r1 := hR2.cell (i := 1) rfl
  have y1 := hR2.frozen 1
  have r2 := hR2.cell (i := 2) rfl
  have y2 := hR2.frozen 2
  have r3 := hR2.cell (i := 3) rfl
  have y3 := hR2.frozen 3
  have hFz : Fr [w.heap.size + 1, w.heap.size + 2] w2 (((((((w2).setCell ⟨w.heap.size + 2, 0, none⟩ (.int .i64 v0)).setCell ⟨w.heap.size + 2, 2, none⟩ (.int .i64 er)).setCell ⟨w.heap.size + 1, 0, none⟩ (.int .i64 v0)).setCell ⟨w.heap.size + 1, 1, none⟩ (.int .i64 0)).setCell ⟨w.heap.size + 1, 2, none⟩ (.int .i64 er)).setCell ⟨w.heap.size + 1, 3, none⟩ (.bool false)) := ((((((Fr.refl [w.heap.size + 1, w.heap.size + 2] w2).set (p := ⟨w.heap.size + 2, 0, none⟩) (by simp) (.int .i64 v0)).set (p := ⟨w.heap.size + 2, 2, none⟩) (by simp) (.int .i64 er)).set (p := ⟨w.heap.size + 1, 0, none⟩) (by simp) (.int .i64 v0)).set (p := ⟨w.heap.size + 1, 1, none⟩) (by simp) (.int .i64 0)).set (p := ⟨w.heap.size + 1, 2, none⟩) (by simp) (.int .i64 er)).set (p := ⟨w.heap.size + 1, 3, none⟩) (by simp) (.bool false)
  have hRz := ((((((hR2).other (a := ⟨w.heap.size + 2, 0, none⟩) (by simp) (.int .i64 v0)).other (a := ⟨w.heap.size + 2, 2, none⟩) (by simp) (.int .i64 er)).set 0 (.int .i64 v0)).set 1 (.int .i64 0)).set 2 (.int .i64 er)).set 3 (.bool false)
  simp only [List.set_cons_zero, List.set_cons_succ] at hRz
  have HQ := hid hQ
  have HFZ := hid hFz
  have HRZ := hid hRz
  have HR2 := hid hR2
  have HT2 := hid hT2
  clear hQ hK hR2 hT2 hFz hRz x0 x2 x3 x4 x5
  go_wp2_with fail
  refine bodyPost_ret (v := tldV v0 0 er false) ?_ rfl ⟨rfl, w2, HQ.out, _, HFZ.out, fun x hx => ?_⟩
  · have k0 := HRZ.out.cell (i := 0) rfl
    have k1 := HRZ.out.cell (i := 1) rfl
    have k2 := HRZ.out.cell (i := 2) rfl
    have k3 := HRZ.out.cell (i := 3) rfl
    simp [results, Tryz.results10, go_sem, k0, k1, k2, k3, tldV]
  · simp only [List.mem_cons, List.mem_nil_iff, or_false] at hx
    rcases hx with rfl | rfl
    · exact ⟨by omega, _, HR2.out⟩
    · exact ⟨by omega, _, HT2.out⟩

set_option maxRecDepth 100000 in
set_option maxHeartbeats 6400000 in
theorem docDo2 (mb : Nat) (o a b n wd p er : Int) (w : World) (Q : World → Prop)
    (hPk : ∀ w1, Fr [] w w1 → Calls Tryz.prog 20 #[.pointer (some ⟨mb, 0, none⟩), .int .i64 o] w1 fun e w2 => e = .returned (.int .i64 p) ∧ Fr [] w1 w2)
    (hC : ∀ w1, Fr [] w w1 → Calls Tryz.prog 32 #[.pointer (some ⟨mb, 0, none⟩), .int .i64 p, .int .i64 n, .int .i64 wd] w1 fun e w2 => e = .returned (.int .i64 er) ∧ Q w2 ∧ Kp w w1 w2) :
    Calls Tryz.prog 10 #[.pointer (some ⟨mb, 0, none⟩), actV 2 o a b n wd] w (PostB w Q (tldV 0 0 er false)) := by
  have X := ((Blk.new w [.int .i64 2, .int .i64 o, .int .i64 a, .int .i64 b, .int .i64 n, .int .i64 wd] 36).alloc (.cells #[.int .i64 0, .int .i64 0, .int .i64 0, .bool false] 38)).alloc (.cells #[.int .i64 0, .int .i64 0, .int .i64 0, .bool false] 38)
  have R := (Blk.new (w.alloc (.cells #[.int .i64 2, .int .i64 o, .int .i64 a, .int .i64 b, .int .i64 n, .int .i64 wd] 36)) [.int .i64 0, .int .i64 0, .int .i64 0, .bool false] 38).alloc (.cells #[.int .i64 0, .int .i64 0, .int .i64 0, .bool false] 38)
  have T := Blk.new ((w.alloc (.cells #[.int .i64 2, .int .i64 o, .int .i64 a, .int .i64 b, .int .i64 n, .int .i64 wd] 36)).alloc (.cells #[.int .i64 0, .int .i64 0, .int .i64 0, .bool false] 38)) [.int .i64 0, .int .i64 0, .int .i64 0, .bool false] 38
  rw [show (w.alloc (.cells #[.int .i64 2, .int .i64 o, .int .i64 a, .int .i64 b, .int .i64 n, .int .i64 wd] 36)).heap.size = w.heap.size + 1 by simp] at R
  rw [show ((w.alloc (.cells #[.int .i64 2, .int .i64 o, .int .i64 a, .int .i64 b, .int .i64 n, .int .i64 wd] 36)).alloc (.cells #[.int .i64 0, .int .i64 0, .int .i64 0, .bool false] 38)).heap.size = w.heap.size + 2 by simp] at T
  have hF : Fr [] w (((w.alloc (.cells #[.int .i64 2, .int .i64 o, .int .i64 a, .int .i64 b, .int .i64 n, .int .i64 wd] 36)).alloc (.cells #[.int .i64 0, .int .i64 0, .int .i64 0, .bool false] 38)).alloc (.cells #[.int .i64 0, .int .i64 0, .int .i64 0, .bool false] 38)) := (((Fr.refl _ w).alloc _).alloc _).alloc _
  obtain ⟨wa, hwa⟩ : ∃ wa, wa = (((w.alloc (.cells #[.int .i64 2, .int .i64 o, .int .i64 a, .int .i64 b, .int .i64 n, .int .i64 wd] 36)).alloc (.cells #[.int .i64 0, .int .i64 0, .int .i64 0, .bool false] 38)).alloc (.cells #[.int .i64 0, .int .i64 0, .int .i64 0, .bool false] 38)) := ⟨_, rfl⟩
  have HWA := hid hwa
  rw [← hwa] at X R T hF
  have x1 := X.cell (i := 1) rfl
  have HX := hid X
  have HR := hid R
  have HT := hid T
  have HF := hid hF
  have HPK := hid hPk
  have HC := hid hC
  clear X R T hF hPk hC hwa
  unfold actV
  go_enter Tryz.func10, Tryz.ntmps10
  go_upto_region 2 with fail
  rw [← HWA.out]
  go_wp2_with fail
  refine (HPK.out wa HF.out).mono ?_
  rintro e w1 ⟨rfl, hF1⟩
  have hX1 := HX.out.fr hF1 (by simp)
  have hR1 := HR.out.fr hF1 (by simp)
  have hT1 := HT.out.fr hF1 (by simp)
  have x0 := hX1.cell (i := 0) rfl
  have x2 := hX1.cell (i := 2) rfl
  have x3 := hX1.cell (i := 3) rfl
  have x4 := hX1.cell (i := 4) rfl
  have x5 := hX1.cell (i := 5) rfl
  have HR1 := hid hR1
  have HT1 := hid hT1
  have HF1 := hid (HF.out.trans hF1)
  clear hX1 hR1 hT1 hF1 x1
  go_wp2_with fail
  refine (HC.out w1 HF1.out).mono ?_
  rintro e w2 ⟨rfl, hQ, hK⟩
  have hR2 := hK _ _ (by omega) HR1.out
  have hT2 := hK _ _ (by omega) HT1.out
  have c0 := hT2.cell (i := 0) rfl
  have z0 := hT2.frozen 0
  have c1 := hT2.cell (i := 1) rfl
  have z1 := hT2.frozen 1
  have c2 := hT2.cell (i := 2) rfl
  have z2 := hT2.frozen 2
  have c3 := hT2.cell (i := 3) rfl
  have z3 := hT2.frozen 3
  have r0 := hR2.cell (i := 0) rfl
  have y0 := hR2.frozen 0
  have r1 := hR2.cell (i := 1) rfl
  have y1 := hR2.frozen 1
  have r2 := hR2.cell (i := 2) rfl
  have y2 := hR2.frozen 2
  have r3 := hR2.cell (i := 3) rfl
  have y3 := hR2.frozen 3
  have hFz : Fr [w.heap.size + 1, w.heap.size + 2] w2 ((((((w2).setCell ⟨w.heap.size + 2, 2, none⟩ (.int .i64 er)).setCell ⟨w.heap.size + 1, 0, none⟩ (.int .i64 0)).setCell ⟨w.heap.size + 1, 1, none⟩ (.int .i64 0)).setCell ⟨w.heap.size + 1, 2, none⟩ (.int .i64 er)).setCell ⟨w.heap.size + 1, 3, none⟩ (.bool false)) := (((((Fr.refl [w.heap.size + 1, w.heap.size + 2] w2).set (p := ⟨w.heap.size + 2, 2, none⟩) (by simp) (.int .i64 er)).set (p := ⟨w.heap.size + 1, 0, none⟩) (by simp) (.int .i64 0)).set (p := ⟨w.heap.size + 1, 1, none⟩) (by simp) (.int .i64 0)).set (p := ⟨w.heap.size + 1, 2, none⟩) (by simp) (.int .i64 er)).set (p := ⟨w.heap.size + 1, 3, none⟩) (by simp) (.bool false)
  have hRz := (((((hR2).other (a := ⟨w.heap.size + 2, 2, none⟩) (by simp) (.int .i64 er)).set 0 (.int .i64 0)).set 1 (.int .i64 0)).set 2 (.int .i64 er)).set 3 (.bool false)
  simp only [List.set_cons_zero, List.set_cons_succ] at hRz
  have HQ := hid hQ
  have HFZ := hid hFz
  have HRZ := hid hRz
  have HR2 := hid hR2
  have HT2 := hid hT2
  clear hQ hK hR2 hT2 hFz hRz x0 x2 x3 x4 x5
  go_wp2_with fail
  refine bodyPost_ret (v := tldV 0 0 er false) ?_ rfl ⟨rfl, w2, HQ.out, _, HFZ.out, fun x hx => ?_⟩
  · have k0 := HRZ.out.cell (i := 0) rfl
    have k1 := HRZ.out.cell (i := 1) rfl
    have k2 := HRZ.out.cell (i := 2) rfl
    have k3 := HRZ.out.cell (i := 3) rfl
    simp [results, Tryz.results10, go_sem, k0, k1, k2, k3, tldV]
  · simp only [List.mem_cons, List.mem_nil_iff, or_false] at hx
    rcases hx with rfl | rfl
    · exact ⟨by omega, _, HR2.out⟩
    · exact ⟨by omega, _, HT2.out⟩

set_option maxRecDepth 100000 in
set_option maxHeartbeats 6400000 in
theorem docDo3 (mb : Nat) (o a b n wd p er : Int) (w : World) (Q : World → Prop)
    (hPk : ∀ w1, Fr [] w w1 → Calls Tryz.prog 20 #[.pointer (some ⟨mb, 0, none⟩), .int .i64 o] w1 fun e w2 => e = .returned (.int .i64 p) ∧ Fr [] w1 w2)
    (hC : ∀ w1, Fr [] w w1 → Calls Tryz.prog 33 #[.pointer (some ⟨mb, 0, none⟩), .int .i64 p, .int .i64 a, .int .i64 b] w1 fun e w2 => e = .returned (.int .i64 er) ∧ Q w2 ∧ Kp w w1 w2) :
    Calls Tryz.prog 10 #[.pointer (some ⟨mb, 0, none⟩), actV 3 o a b n wd] w (PostB w Q (tldV 0 0 er false)) := by
  have X := ((Blk.new w [.int .i64 3, .int .i64 o, .int .i64 a, .int .i64 b, .int .i64 n, .int .i64 wd] 36).alloc (.cells #[.int .i64 0, .int .i64 0, .int .i64 0, .bool false] 38)).alloc (.cells #[.int .i64 0, .int .i64 0, .int .i64 0, .bool false] 38)
  have R := (Blk.new (w.alloc (.cells #[.int .i64 3, .int .i64 o, .int .i64 a, .int .i64 b, .int .i64 n, .int .i64 wd] 36)) [.int .i64 0, .int .i64 0, .int .i64 0, .bool false] 38).alloc (.cells #[.int .i64 0, .int .i64 0, .int .i64 0, .bool false] 38)
  have T := Blk.new ((w.alloc (.cells #[.int .i64 3, .int .i64 o, .int .i64 a, .int .i64 b, .int .i64 n, .int .i64 wd] 36)).alloc (.cells #[.int .i64 0, .int .i64 0, .int .i64 0, .bool false] 38)) [.int .i64 0, .int .i64 0, .int .i64 0, .bool false] 38
  rw [show (w.alloc (.cells #[.int .i64 3, .int .i64 o, .int .i64 a, .int .i64 b, .int .i64 n, .int .i64 wd] 36)).heap.size = w.heap.size + 1 by simp] at R
  rw [show ((w.alloc (.cells #[.int .i64 3, .int .i64 o, .int .i64 a, .int .i64 b, .int .i64 n, .int .i64 wd] 36)).alloc (.cells #[.int .i64 0, .int .i64 0, .int .i64 0, .bool false] 38)).heap.size = w.heap.size + 2 by simp] at T
  have hF : Fr [] w (((w.alloc (.cells #[.int .i64 3, .int .i64 o, .int .i64 a, .int .i64 b, .int .i64 n, .int .i64 wd] 36)).alloc (.cells #[.int .i64 0, .int .i64 0, .int .i64 0, .bool false] 38)).alloc (.cells #[.int .i64 0, .int .i64 0, .int .i64 0, .bool false] 38)) := (((Fr.refl _ w).alloc _).alloc _).alloc _
  obtain ⟨wa, hwa⟩ : ∃ wa, wa = (((w.alloc (.cells #[.int .i64 3, .int .i64 o, .int .i64 a, .int .i64 b, .int .i64 n, .int .i64 wd] 36)).alloc (.cells #[.int .i64 0, .int .i64 0, .int .i64 0, .bool false] 38)).alloc (.cells #[.int .i64 0, .int .i64 0, .int .i64 0, .bool false] 38)) := ⟨_, rfl⟩
  have HWA := hid hwa
  rw [← hwa] at X R T hF
  have x1 := X.cell (i := 1) rfl
  have HX := hid X
  have HR := hid R
  have HT := hid T
  have HF := hid hF
  have HPK := hid hPk
  have HC := hid hC
  clear X R T hF hPk hC hwa
  unfold actV
  go_enter Tryz.func10, Tryz.ntmps10
  go_upto_region 2 with fail
  rw [← HWA.out]
  go_wp2_with fail
  refine (HPK.out wa HF.out).mono ?_
  rintro e w1 ⟨rfl, hF1⟩
  have hX1 := HX.out.fr hF1 (by simp)
  have hR1 := HR.out.fr hF1 (by simp)
  have hT1 := HT.out.fr hF1 (by simp)
  have x0 := hX1.cell (i := 0) rfl
  have x2 := hX1.cell (i := 2) rfl
  have x3 := hX1.cell (i := 3) rfl
  have x4 := hX1.cell (i := 4) rfl
  have x5 := hX1.cell (i := 5) rfl
  have HR1 := hid hR1
  have HT1 := hid hT1
  have HF1 := hid (HF.out.trans hF1)
  clear hX1 hR1 hT1 hF1 x1
  go_wp2_with fail
  refine (HC.out w1 HF1.out).mono ?_
  rintro e w2 ⟨rfl, hQ, hK⟩
  have hR2 := hK _ _ (by omega) HR1.out
  have hT2 := hK _ _ (by omega) HT1.out
  have c0 := hT2.cell (i := 0) rfl
  have z0 := hT2.frozen 0
  have c1 := hT2.cell (i := 1) rfl
  have z1 := hT2.frozen 1
  have c2 := hT2.cell (i := 2) rfl
  have z2 := hT2.frozen 2
  have c3 := hT2.cell (i := 3) rfl
  have z3 := hT2.frozen 3
  have r0 := hR2.cell (i := 0) rfl
  have y0 := hR2.frozen 0
  have r1 := hR2.cell (i := 1) rfl
  have y1 := hR2.frozen 1
  have r2 := hR2.cell (i := 2) rfl
  have y2 := hR2.frozen 2
  have r3 := hR2.cell (i := 3) rfl
  have y3 := hR2.frozen 3
  have hFz : Fr [w.heap.size + 1, w.heap.size + 2] w2 ((((((w2).setCell ⟨w.heap.size + 2, 2, none⟩ (.int .i64 er)).setCell ⟨w.heap.size + 1, 0, none⟩ (.int .i64 0)).setCell ⟨w.heap.size + 1, 1, none⟩ (.int .i64 0)).setCell ⟨w.heap.size + 1, 2, none⟩ (.int .i64 er)).setCell ⟨w.heap.size + 1, 3, none⟩ (.bool false)) := (((((Fr.refl [w.heap.size + 1, w.heap.size + 2] w2).set (p := ⟨w.heap.size + 2, 2, none⟩) (by simp) (.int .i64 er)).set (p := ⟨w.heap.size + 1, 0, none⟩) (by simp) (.int .i64 0)).set (p := ⟨w.heap.size + 1, 1, none⟩) (by simp) (.int .i64 0)).set (p := ⟨w.heap.size + 1, 2, none⟩) (by simp) (.int .i64 er)).set (p := ⟨w.heap.size + 1, 3, none⟩) (by simp) (.bool false)
  have hRz := (((((hR2).other (a := ⟨w.heap.size + 2, 2, none⟩) (by simp) (.int .i64 er)).set 0 (.int .i64 0)).set 1 (.int .i64 0)).set 2 (.int .i64 er)).set 3 (.bool false)
  simp only [List.set_cons_zero, List.set_cons_succ] at hRz
  have HQ := hid hQ
  have HFZ := hid hFz
  have HRZ := hid hRz
  have HR2 := hid hR2
  have HT2 := hid hT2
  clear hQ hK hR2 hT2 hFz hRz x0 x2 x3 x4 x5
  go_wp2_with fail
  refine bodyPost_ret (v := tldV 0 0 er false) ?_ rfl ⟨rfl, w2, HQ.out, _, HFZ.out, fun x hx => ?_⟩
  · have k0 := HRZ.out.cell (i := 0) rfl
    have k1 := HRZ.out.cell (i := 1) rfl
    have k2 := HRZ.out.cell (i := 2) rfl
    have k3 := HRZ.out.cell (i := 3) rfl
    simp [results, Tryz.results10, go_sem, k0, k1, k2, k3, tldV]
  · simp only [List.mem_cons, List.mem_nil_iff, or_false] at hx
    rcases hx with rfl | rfl
    · exact ⟨by omega, _, HR2.out⟩
    · exact ⟨by omega, _, HT2.out⟩

set_option maxRecDepth 100000 in
set_option maxHeartbeats 6400000 in
theorem docDo4 (mb : Nat) (o a b n wd p : Int) (is : Bool) (w : World) (Q : World → Prop)
    (hPk : ∀ w1, Fr [] w w1 → Calls Tryz.prog 20 #[.pointer (some ⟨mb, 0, none⟩), .int .i64 o] w1 fun e w2 => e = .returned (.int .i64 p) ∧ Fr [] w1 w2)
    (hC : ∀ w1, Fr [] w w1 → Calls Tryz.prog 34 #[.pointer (some ⟨mb, 0, none⟩), .int .i64 p] w1 fun e w2 => e = .returned (.bool is) ∧ Q w2 ∧ Kp w w1 w2) :
    Calls Tryz.prog 10 #[.pointer (some ⟨mb, 0, none⟩), actV 4 o a b n wd] w (PostB w Q (tldV 0 0 0 is)) := by
  have X := ((Blk.new w [.int .i64 4, .int .i64 o, .int .i64 a, .int .i64 b, .int .i64 n, .int .i64 wd] 36).alloc (.cells #[.int .i64 0, .int .i64 0, .int .i64 0, .bool false] 38)).alloc (.cells #[.int .i64 0, .int .i64 0, .int .i64 0, .bool false] 38)
  have R := (Blk.new (w.alloc (.cells #[.int .i64 4, .int .i64 o, .int .i64 a, .int .i64 b, .int .i64 n, .int .i64 wd] 36)) [.int .i64 0, .int .i64 0, .int .i64 0, .bool false] 38).alloc (.cells #[.int .i64 0, .int .i64 0, .int .i64 0, .bool false] 38)
  have T := Blk.new ((w.alloc (.cells #[.int .i64 4, .int .i64 o, .int .i64 a, .int .i64 b, .int .i64 n, .int .i64 wd] 36)).alloc (.cells #[.int .i64 0, .int .i64 0, .int .i64 0, .bool false] 38)) [.int .i64 0, .int .i64 0, .int .i64 0, .bool false] 38
  rw [show (w.alloc (.cells #[.int .i64 4, .int .i64 o, .int .i64 a, .int .i64 b, .int .i64 n, .int .i64 wd] 36)).heap.size = w.heap.size + 1 by simp] at R
  rw [show ((w.alloc (.cells #[.int .i64 4, .int .i64 o, .int .i64 a, .int .i64 b, .int .i64 n, .int .i64 wd] 36)).alloc (.cells #[.int .i64 0, .int .i64 0, .int .i64 0, .bool false] 38)).heap.size = w.heap.size + 2 by simp] at T
  have hF : Fr [] w (((w.alloc (.cells #[.int .i64 4, .int .i64 o, .int .i64 a, .int .i64 b, .int .i64 n, .int .i64 wd] 36)).alloc (.cells #[.int .i64 0, .int .i64 0, .int .i64 0, .bool false] 38)).alloc (.cells #[.int .i64 0, .int .i64 0, .int .i64 0, .bool false] 38)) := (((Fr.refl _ w).alloc _).alloc _).alloc _
  obtain ⟨wa, hwa⟩ : ∃ wa, wa = (((w.alloc (.cells #[.int .i64 4, .int .i64 o, .int .i64 a, .int .i64 b, .int .i64 n, .int .i64 wd] 36)).alloc (.cells #[.int .i64 0, .int .i64 0, .int .i64 0, .bool false] 38)).alloc (.cells #[.int .i64 0, .int .i64 0, .int .i64 0, .bool false] 38)) := ⟨_, rfl⟩
  have HWA := hid hwa
  rw [← hwa] at X R T hF
  have x1 := X.cell (i := 1) rfl
  have HX := hid X
  have HR := hid R
  have HT := hid T
  have HF := hid hF
  have HPK := hid hPk
  have HC := hid hC
  clear X R T hF hPk hC hwa
  unfold actV
  go_enter Tryz.func10, Tryz.ntmps10
  go_upto_region 2 with fail
  rw [← HWA.out]
  go_wp2_with fail
  refine (HPK.out wa HF.out).mono ?_
  rintro e w1 ⟨rfl, hF1⟩
  have hX1 := HX.out.fr hF1 (by simp)
  have hR1 := HR.out.fr hF1 (by simp)
  have hT1 := HT.out.fr hF1 (by simp)
  have x0 := hX1.cell (i := 0) rfl
  have x2 := hX1.cell (i := 2) rfl
  have x3 := hX1.cell (i := 3) rfl
  have x4 := hX1.cell (i := 4) rfl
  have x5 := hX1.cell (i := 5) rfl
  have HR1 := hid hR1
  have HT1 := hid hT1
  have HF1 := hid (HF.out.trans hF1)
  clear hX1 hR1 hT1 hF1 x1
  go_wp2_with fail
  refine (HC.out w1 HF1.out).mono ?_
  rintro e w2 ⟨rfl, hQ, hK⟩
  have hR2 := hK _ _ (by omega) HR1.out
  have hT2 := hK _ _ (by omega) HT1.out
  have c0 := hT2.cell (i := 0) rfl
  have z0 := hT2.frozen 0
  have c1 := hT2.cell (i := 1) rfl
  have z1 := hT2.frozen 1
  have c2 := hT2.cell (i := 2) rfl
  have z2 := hT2.frozen 2
  have c3 := hT2.cell (i := 3) rfl
  have z3 := hT2.frozen 3
  have r0 := hR2.cell (i := 0) rfl
  have y0 := hR2.frozen 0
  have r1 := hR2.cell (i := 1) rfl
  have y1 := hR2.frozen 1
  have r2 := hR2.cell (i := 2) rfl
  have y2 := hR2.frozen 2
  have r3 := hR2.cell (i := 3) rfl
  have y3 := hR2.frozen 3
  have hFz : Fr [w.heap.size + 1, w.heap.size + 2] w2 ((((((w2).setCell ⟨w.heap.size + 2, 3, none⟩ (.bool is)).setCell ⟨w.heap.size + 1, 0, none⟩ (.int .i64 0)).setCell ⟨w.heap.size + 1, 1, none⟩ (.int .i64 0)).setCell ⟨w.heap.size + 1, 2, none⟩ (.int .i64 0)).setCell ⟨w.heap.size + 1, 3, none⟩ (.bool is)) := (((((Fr.refl [w.heap.size + 1, w.heap.size + 2] w2).set (p := ⟨w.heap.size + 2, 3, none⟩) (by simp) (.bool is)).set (p := ⟨w.heap.size + 1, 0, none⟩) (by simp) (.int .i64 0)).set (p := ⟨w.heap.size + 1, 1, none⟩) (by simp) (.int .i64 0)).set (p := ⟨w.heap.size + 1, 2, none⟩) (by simp) (.int .i64 0)).set (p := ⟨w.heap.size + 1, 3, none⟩) (by simp) (.bool is)
  have hRz := (((((hR2).other (a := ⟨w.heap.size + 2, 3, none⟩) (by simp) (.bool is)).set 0 (.int .i64 0)).set 1 (.int .i64 0)).set 2 (.int .i64 0)).set 3 (.bool is)
  simp only [List.set_cons_zero, List.set_cons_succ] at hRz
  have HQ := hid hQ
  have HFZ := hid hFz
  have HRZ := hid hRz
  have HR2 := hid hR2
  have HT2 := hid hT2
  clear hQ hK hR2 hT2 hFz hRz x0 x2 x3 x4 x5
  go_wp2_with fail
  refine bodyPost_ret (v := tldV 0 0 0 is) ?_ rfl ⟨rfl, w2, HQ.out, _, HFZ.out, fun x hx => ?_⟩
  · have k0 := HRZ.out.cell (i := 0) rfl
    have k1 := HRZ.out.cell (i := 1) rfl
    have k2 := HRZ.out.cell (i := 2) rfl
    have k3 := HRZ.out.cell (i := 3) rfl
    simp [results, Tryz.results10, go_sem, k0, k1, k2, k3, tldV]
  · simp only [List.mem_cons, List.mem_nil_iff, or_false] at hx
    rcases hx with rfl | rfl
    · exact ⟨by omega, _, HR2.out⟩
    · exact ⟨by omega, _, HT2.out⟩

set_option maxRecDepth 100000 in
set_option maxHeartbeats 6400000 in
theorem docDo6 (mb : Nat) (o a b n wd p er : Int) (w : World) (Q : World → Prop)
    (hPk : ∀ w1, Fr [] w w1 → Calls Tryz.prog 20 #[.pointer (some ⟨mb, 0, none⟩), .int .i64 o] w1 fun e w2 => e = .returned (.int .i64 p) ∧ Fr [] w1 w2)
    (hC : ∀ w1, Fr [] w w1 → Calls Tryz.prog 37 #[.pointer (some ⟨mb, 0, none⟩)] w1 fun e w2 => e = .returned (.int .i64 er) ∧ Q w2 ∧ Kp w w1 w2) :
    Calls Tryz.prog 10 #[.pointer (some ⟨mb, 0, none⟩), actV 6 o a b n wd] w (PostB w Q (tldV 0 0 er false)) := by
  have X := ((Blk.new w [.int .i64 6, .int .i64 o, .int .i64 a, .int .i64 b, .int .i64 n, .int .i64 wd] 36).alloc (.cells #[.int .i64 0, .int .i64 0, .int .i64 0, .bool false] 38)).alloc (.cells #[.int .i64 0, .int .i64 0, .int .i64 0, .bool false] 38)
  have R := (Blk.new (w.alloc (.cells #[.int .i64 6, .int .i64 o, .int .i64 a, .int .i64 b, .int .i64 n, .int .i64 wd] 36)) [.int .i64 0, .int .i64 0, .int .i64 0, .bool false] 38).alloc (.cells #[.int .i64 0, .int .i64 0, .int .i64 0, .bool false] 38)
  have T := Blk.new ((w.alloc (.cells #[.int .i64 6, .int .i64 o, .int .i64 a, .int .i64 b, .int .i64 n, .int .i64 wd] 36)).alloc (.cells #[.int .i64 0, .int .i64 0, .int .i64 0, .bool false] 38)) [.int .i64 0, .int .i64 0, .int .i64 0, .bool false] 38
  rw [show (w.alloc (.cells #[.int .i64 6, .int .i64 o, .int .i64 a, .int .i64 b, .int .i64 n, .int .i64 wd] 36)).heap.size = w.heap.size + 1 by simp] at R
  rw [show ((w.alloc (.cells #[.int .i64 6, .int .i64 o, .int .i64 a, .int .i64 b, .int .i64 n, .int .i64 wd] 36)).alloc (.cells #[.int .i64 0, .int .i64 0, .int .i64 0, .bool false] 38)).heap.size = w.heap.size + 2 by simp] at T
  have hF : Fr [] w (((w.alloc (.cells #[.int .i64 6, .int .i64 o, .int .i64 a, .int .i64 b, .int .i64 n, .int .i64 wd] 36)).alloc (.cells #[.int .i64 0, .int .i64 0, .int .i64 0, .bool false] 38)).alloc (.cells #[.int .i64 0, .int .i64 0, .int .i64 0, .bool false] 38)) := (((Fr.refl _ w).alloc _).alloc _).alloc _
  obtain ⟨wa, hwa⟩ : ∃ wa, wa = (((w.alloc (.cells #[.int .i64 6, .int .i64 o, .int .i64 a, .int .i64 b, .int .i64 n, .int .i64 wd] 36)).alloc (.cells #[.int .i64 0, .int .i64 0, .int .i64 0, .bool false] 38)).alloc (.cells #[.int .i64 0, .int .i64 0, .int .i64 0, .bool false] 38)) := ⟨_, rfl⟩
  have HWA := hid hwa
  rw [← hwa] at X R T hF
  have x1 := X.cell (i := 1) rfl
  have HX := hid X
  have HR := hid R
  have HT := hid T
  have HF := hid hF
  have HPK := hid hPk
  have HC := hid hC
  clear X R T hF hPk hC hwa
  unfold actV
  go_enter Tryz.func10, Tryz.ntmps10
  go_upto_region 2 with fail
  rw [← HWA.out]
  go_wp2_with fail
  refine (HPK.out wa HF.out).mono ?_
  rintro e w1 ⟨rfl, hF1⟩
  have hX1 := HX.out.fr hF1 (by simp)
  have hR1 := HR.out.fr hF1 (by simp)
  have hT1 := HT.out.fr hF1 (by simp)
  have x0 := hX1.cell (i := 0) rfl
  have x2 := hX1.cell (i := 2) rfl
  have x3 := hX1.cell (i := 3) rfl
  have x4 := hX1.cell (i := 4) rfl
  have x5 := hX1.cell (i := 5) rfl
  have HR1 := hid hR1
  have HT1 := hid hT1
  have HF1 := hid (HF.out.trans hF1)
  clear hX1 hR1 hT1 hF1 x1
  go_wp2_with fail
  refine (HC.out w1 HF1.out).mono ?_
  rintro e w2 ⟨rfl, hQ, hK⟩
  have hR2 := hK _ _ (by omega) HR1.out
  have hT2 := hK _ _ (by omega) HT1.out
  have c0 := hT2.cell (i := 0) rfl
  have z0 := hT2.frozen 0
  have c1 := hT2.cell (i := 1) rfl
  have z1 := hT2.frozen 1
  have c2 := hT2.cell (i := 2) rfl
  have z2 := hT2.frozen 2
  have c3 := hT2.cell (i := 3) rfl
  have z3 := hT2.frozen 3
  have r0 := hR2.cell (i := 0) rfl
  have y0 := hR2.frozen 0
  have r1 := hR2.cell (i := 1) rfl
  have y1 := hR2.frozen 1
  have r2 := hR2.cell (i := 2) rfl
  have y2 := hR2.frozen 2
  have r3 := hR2.cell (i := 3) rfl
  have y3 := hR2.frozen 3
  have hFz : Fr [w.heap.size + 1, w.heap.size + 2] w2 ((((((w2).setCell ⟨w.heap.size + 2, 2, none⟩ (.int .i64 er)).setCell ⟨w.heap.size + 1, 0, none⟩ (.int .i64 0)).setCell ⟨w.heap.size + 1, 1, none⟩ (.int .i64 0)).setCell ⟨w.heap.size + 1, 2, none⟩ (.int .i64 er)).setCell ⟨w.heap.size + 1, 3, none⟩ (.bool false)) := (((((Fr.refl [w.heap.size + 1, w.heap.size + 2] w2).set (p := ⟨w.heap.size + 2, 2, none⟩) (by simp) (.int .i64 er)).set (p := ⟨w.heap.size + 1, 0, none⟩) (by simp) (.int .i64 0)).set (p := ⟨w.heap.size + 1, 1, none⟩) (by simp) (.int .i64 0)).set (p := ⟨w.heap.size + 1, 2, none⟩) (by simp) (.int .i64 er)).set (p := ⟨w.heap.size + 1, 3, none⟩) (by simp) (.bool false)
  have hRz := (((((hR2).other (a := ⟨w.heap.size + 2, 2, none⟩) (by simp) (.int .i64 er)).set 0 (.int .i64 0)).set 1 (.int .i64 0)).set 2 (.int .i64 er)).set 3 (.bool false)
  simp only [List.set_cons_zero, List.set_cons_succ] at hRz
  have HQ := hid hQ
  have HFZ := hid hFz
  have HRZ := hid hRz
  have HR2 := hid hR2
  have HT2 := hid hT2
  clear hQ hK hR2 hT2 hFz hRz x0 x2 x3 x4 x5
  go_wp2_with fail
  refine bodyPost_ret (v := tldV 0 0 er false) ?_ rfl ⟨rfl, w2, HQ.out, _, HFZ.out, fun x hx => ?_⟩
  · have k0 := HRZ.out.cell (i := 0) rfl
    have k1 := HRZ.out.cell (i := 1) rfl
    have k2 := HRZ.out.cell (i := 2) rfl
    have k3 := HRZ.out.cell (i := 3) rfl
    simp [results, Tryz.results10, go_sem, k0, k1, k2, k3, tldV]
  · simp only [List.mem_cons, List.mem_nil_iff, or_false] at hx
    rcases hx with rfl | rfl
    · exact ⟨by omega, _, HR2.out⟩
    · exact ⟨by omega, _, HT2.out⟩

set_option maxRecDepth 100000 in
set_option maxHeartbeats 6400000 in
theorem docDo7 (mb : Nat) (o a b n wd p er : Int) (w : World) (Q : World → Prop)
    (hPk : ∀ w1, Fr [] w w1 → Calls Tryz.prog 20 #[.pointer (some ⟨mb, 0, none⟩), .int .i64 o] w1 fun e w2 => e = .returned (.int .i64 p) ∧ Fr [] w1 w2)
    (hC : ∀ w1, Fr [] w w1 → Calls Tryz.prog 38 #[.pointer (some ⟨mb, 0, none⟩)] w1 fun e w2 => e = .returned (.int .i64 er) ∧ Q w2 ∧ Kp w w1 w2) :
    Calls Tryz.prog 10 #[.pointer (some ⟨mb, 0, none⟩), actV 7 o a b n wd] w (PostB w Q (tldV 0 0 er false)) := by
  have X := ((Blk.new w [.int .i64 7, .int .i64 o, .int .i64 a, .int .i64 b, .int .i64 n, .int .i64 wd] 36).alloc (.cells #[.int .i64 0, .int .i64 0, .int .i64 0, .bool false] 38)).alloc (.cells #[.int .i64 0, .int .i64 0, .int .i64 0, .bool false] 38)
  have R := (Blk.new (w.alloc (.cells #[.int .i64 7, .int .i64 o, .int .i64 a, .int .i64 b, .int .i64 n, .int .i64 wd] 36)) [.int .i64 0, .int .i64 0, .int .i64 0, .bool false] 38).alloc (.cells #[.int .i64 0, .int .i64 0, .int .i64 0, .bool false] 38)
  have T := Blk.new ((w.alloc (.cells #[.int .i64 7, .int .i64 o, .int .i64 a, .int .i64 b, .int .i64 n, .int .i64 wd] 36)).alloc (.cells #[.int .i64 0, .int .i64 0, .int .i64 0, .bool false] 38)) [.int .i64 0, .int .i64 0, .int .i64 0, .bool false] 38
  rw [show (w.alloc (.cells #[.int .i64 7, .int .i64 o, .int .i64 a, .int .i64 b, .int .i64 n, .int .i64 wd] 36)).heap.size = w.heap.size + 1 by simp] at R
  rw [show ((w.alloc (.cells #[.int .i64 7, .int .i64 o, .int .i64 a, .int .i64 b, .int .i64 n, .int .i64 wd] 36)).alloc (.cells #[.int .i64 0, .int .i64 0, .int .i64 0, .bool false] 38)).heap.size = w.heap.size + 2 by simp] at T
  have hF : Fr [] w (((w.alloc (.cells #[.int .i64 7, .int .i64 o, .int .i64 a, .int .i64 b, .int .i64 n, .int .i64 wd] 36)).alloc (.cells #[.int .i64 0, .int .i64 0, .int .i64 0, .bool false] 38)).alloc (.cells #[.int .i64 0, .int .i64 0, .int .i64 0, .bool false] 38)) := (((Fr.refl _ w).alloc _).alloc _).alloc _
  obtain ⟨wa, hwa⟩ : ∃ wa, wa = (((w.alloc (.cells #[.int .i64 7, .int .i64 o, .int .i64 a, .int .i64 b, .int .i64 n, .int .i64 wd] 36)).alloc (.cells #[.int .i64 0, .int .i64 0, .int .i64 0, .bool false] 38)).alloc (.cells #[.int .i64 0, .int .i64 0, .int .i64 0, .bool false] 38)) := ⟨_, rfl⟩
  have HWA := hid hwa
  rw [← hwa] at X R T hF
  have x1 := X.cell (i := 1) rfl
  have HX := hid X
  have HR := hid R
  have HT := hid T
  have HF := hid hF
  have HPK := hid hPk
  have HC := hid hC
  clear X R T hF hPk hC hwa
  unfold actV
  go_enter Tryz.func10, Tryz.ntmps10
  go_upto_region 2 with fail
  rw [← HWA.out]
  go_wp2_with fail
  refine (HPK.out wa HF.out).mono ?_
  rintro e w1 ⟨rfl, hF1⟩
  have hX1 := HX.out.fr hF1 (by simp)
  have hR1 := HR.out.fr hF1 (by simp)
  have hT1 := HT.out.fr hF1 (by simp)
  have x0 := hX1.cell (i := 0) rfl
  have x2 := hX1.cell (i := 2) rfl
  have x3 := hX1.cell (i := 3) rfl
  have x4 := hX1.cell (i := 4) rfl
  have x5 := hX1.cell (i := 5) rfl
  have HR1 := hid hR1
  have HT1 := hid hT1
  have HF1 := hid (HF.out.trans hF1)
  clear hX1 hR1 hT1 hF1 x1
  go_wp2_with fail
  refine (HC.out w1 HF1.out).mono ?_
  rintro e w2 ⟨rfl, hQ, hK⟩
  have hR2 := hK _ _ (by omega) HR1.out
  have hT2 := hK _ _ (by omega) HT1.out
  have c0 := hT2.cell (i := 0) rfl
  have z0 := hT2.frozen 0
  have c1 := hT2.cell (i := 1) rfl
  have z1 := hT2.frozen 1
  have c2 := hT2.cell (i := 2) rfl
  have z2 := hT2.frozen 2
  have c3 := hT2.cell (i := 3) rfl
  have z3 := hT2.frozen 3
  have r0 := hR2.cell (i := 0) rfl
  have y0 := hR2.frozen 0
  have r1 := hR2.cell (i := 1) rfl
  have y1 := hR2.frozen 1
  have r2 := hR2.cell (i := 2) rfl
  have y2 := hR2.frozen 2
  have r3 := hR2.cell (i := 3) rfl
  have y3 := hR2.frozen 3
  have hFz : Fr [w.heap.size + 1, w.heap.size + 2] w2 ((((((w2).setCell ⟨w.heap.size + 2, 2, none⟩ (.int .i64 er)).setCell ⟨w.heap.size + 1, 0, none⟩ (.int .i64 0)).setCell ⟨w.heap.size + 1, 1, none⟩ (.int .i64 0)).setCell ⟨w.heap.size + 1, 2, none⟩ (.int .i64 er)).setCell ⟨w.heap.size + 1, 3, none⟩ (.bool false)) := (((((Fr.refl [w.heap.size + 1, w.heap.size + 2] w2).set (p := ⟨w.heap.size + 2, 2, none⟩) (by simp) (.int .i64 er)).set (p := ⟨w.heap.size + 1, 0, none⟩) (by simp) (.int .i64 0)).set (p := ⟨w.heap.size + 1, 1, none⟩) (by simp) (.int .i64 0)).set (p := ⟨w.heap.size + 1, 2, none⟩) (by simp) (.int .i64 er)).set (p := ⟨w.heap.size + 1, 3, none⟩) (by simp) (.bool false)
  have hRz := (((((hR2).other (a := ⟨w.heap.size + 2, 2, none⟩) (by simp) (.int .i64 er)).set 0 (.int .i64 0)).set 1 (.int .i64 0)).set 2 (.int .i64 er)).set 3 (.bool false)
  simp only [List.set_cons_zero, List.set_cons_succ] at hRz
  have HQ := hid hQ
  have HFZ := hid hFz
  have HRZ := hid hRz
  have HR2 := hid hR2
  have HT2 := hid hT2
  clear hQ hK hR2 hT2 hFz hRz x0 x2 x3 x4 x5
  go_wp2_with fail
  refine bodyPost_ret (v := tldV 0 0 er false) ?_ rfl ⟨rfl, w2, HQ.out, _, HFZ.out, fun x hx => ?_⟩
  · have k0 := HRZ.out.cell (i := 0) rfl
    have k1 := HRZ.out.cell (i := 1) rfl
    have k2 := HRZ.out.cell (i := 2) rfl
    have k3 := HRZ.out.cell (i := 3) rfl
    simp [results, Tryz.results10, go_sem, k0, k1, k2, k3, tldV]
  · simp only [List.mem_cons, List.mem_nil_iff, or_false] at hx
    rcases hx with rfl | rfl
    · exact ⟨by omega, _, HR2.out⟩
    · exact ⟨by omega, _, HT2.out⟩

set_option maxRecDepth 100000 in
set_option maxHeartbeats 6400000 in
theorem docDo8 (mb : Nat) (kd o a b n wd p : Int) (is : Bool) (k0 : (kd == 0) = false) (k1 : (kd == 1) = false) (k2 : (kd == 2) = false) (k3 : (kd == 3) = false) (k4 : (kd == 4) = false) (k5 : (kd == 5) = false) (k6 : (kd == 6) = false) (k7 : (kd == 7) = false) (w : World) (Q : World → Prop)
    (hPk : ∀ w1, Fr [] w w1 → Calls Tryz.prog 20 #[.pointer (some ⟨mb, 0, none⟩), .int .i64 o] w1 fun e w2 => e = .returned (.int .i64 p) ∧ Fr [] w1 w2)
    (hC : ∀ w1, Fr [] w w1 → Calls Tryz.prog 39 #[.pointer (some ⟨mb, 0, none⟩)] w1 fun e w2 => e = .returned (.bool is) ∧ Q w2 ∧ Kp w w1 w2) :
    Calls Tryz.prog 10 #[.pointer (some ⟨mb, 0, none⟩), actV kd o a b n wd] w (PostB w Q (tldV 0 0 0 is)) := by
  have X := ((Blk.new w [.int .i64 kd, .int .i64 o, .int .i64 a, .int .i64 b, .int .i64 n, .int .i64 wd] 36).alloc (.cells #[.int .i64 0, .int .i64 0, .int .i64 0, .bool false] 38)).alloc (.cells #[.int .i64 0, .int .i64 0, .int .i64 0, .bool false] 38)
  have R := (Blk.new (w.alloc (.cells #[.int .i64 kd, .int .i64 o, .int .i64 a, .int .i64 b, .int .i64 n, .int .i64 wd] 36)) [.int .i64 0, .int .i64 0, .int .i64 0, .bool false] 38).alloc (.cells #[.int .i64 0, .int .i64 0, .int .i64 0, .bool false] 38)
  have T := Blk.new ((w.alloc (.cells #[.int .i64 kd, .int .i64 o, .int .i64 a, .int .i64 b, .int .i64 n, .int .i64 wd] 36)).alloc (.cells #[.int .i64 0, .int .i64 0, .int .i64 0, .bool false] 38)) [.int .i64 0, .int .i64 0, .int .i64 0, .bool false] 38
  rw [show (w.alloc (.cells #[.int .i64 kd, .int .i64 o, .int .i64 a, .int .i64 b, .int .i64 n, .int .i64 wd] 36)).heap.size = w.heap.size + 1 by simp] at R
  rw [show ((w.alloc (.cells #[.int .i64 kd, .int .i64 o, .int .i64 a, .int .i64 b, .int .i64 n, .int .i64 wd] 36)).alloc (.cells #[.int .i64 0, .int .i64 0, .int .i64 0, .bool false] 38)).heap.size = w.heap.size + 2 by simp] at T
  have hF : Fr [] w (((w.alloc (.cells #[.int .i64 kd, .int .i64 o, .int .i64 a, .int .i64 b, .int .i64 n, .int .i64 wd] 36)).alloc (.cells #[.int .i64 0, .int .i64 0, .int .i64 0, .bool false] 38)).alloc (.cells #[.int .i64 0, .int .i64 0, .int .i64 0, .bool false] 38)) := (((Fr.refl _ w).alloc _).alloc _).alloc _
  obtain ⟨wa, hwa⟩ : ∃ wa, wa = (((w.alloc (.cells #[.int .i64 kd, .int .i64 o, .int .i64 a, .int .i64 b, .int .i64 n, .int .i64 wd] 36)).alloc (.cells #[.int .i64 0, .int .i64 0, .int .i64 0, .bool false] 38)).alloc (.cells #[.int .i64 0, .int .i64 0, .int .i64 0, .bool false] 38)) := ⟨_, rfl⟩
  have HWA := hid hwa
  rw [← hwa] at X R T hF
  have x1 := X.cell (i := 1) rfl
  have HX := hid X
  have HR := hid R
  have HT := hid T
  have HF := hid hF
  have HPK := hid hPk
  have HC := hid hC
  clear X R T hF hPk hC hwa
  unfold actV
  go_enter Tryz.func10, Tryz.ntmps10
  go_upto_region 2 with fail
  rw [← HWA.out]
  go_wp2_with fail
  refine (HPK.out wa HF.out).mono ?_
  rintro e w1 ⟨rfl, hF1⟩
  have hX1 := HX.out.fr hF1 (by simp)
  have hR1 := HR.out.fr hF1 (by simp)
  have hT1 := HT.out.fr hF1 (by simp)
  have x0 := hX1.cell (i := 0) rfl
  have x2 := hX1.cell (i := 2) rfl
  have x3 := hX1.cell (i := 3) rfl
  have x4 := hX1.cell (i := 4) rfl
  have x5 := hX1.cell (i := 5) rfl
  have HR1 := hid hR1
  have HT1 := hid hT1
  have HF1 := hid (HF.out.trans hF1)
  clear hX1 hR1 hT1 hF1 x1
  go_wp2_with fail
  refine (HC.out w1 HF1.out).mono ?_
  rintro e w2 ⟨rfl, hQ, hK⟩
  have hR2 := hK _ _ (by omega) HR1.out
  have hT2 := hK _ _ (by omega) HT1.out
  have c0 := hT2.cell (i := 0) rfl
  have z0 := hT2.frozen 0
  have c1 := hT2.cell (i := 1) rfl
  have z1 := hT2.frozen 1
  have c2 := hT2.cell (i := 2) rfl
  have z2 := hT2.frozen 2
  have c3 := hT2.cell (i := 3) rfl
  have z3 := hT2.frozen 3
  have r0 := hR2.cell (i := 0) rfl
  have y0 := hR2.frozen 0
  have r1 := hR2.cell (i := 1) rfl
  have y1 := hR2.frozen 1
  have r2 := hR2.cell (i := 2) rfl
  have y2 := hR2.frozen 2
  have r3 := hR2.cell (i := 3) rfl
  have y3 := hR2.frozen 3
  have hFz : Fr [w.heap.size + 1, w.heap.size + 2] w2 ((((((w2).setCell ⟨w.heap.size + 2, 3, none⟩ (.bool is)).setCell ⟨w.heap.size + 1, 0, none⟩ (.int .i64 0)).setCell ⟨w.heap.size + 1, 1, none⟩ (.int .i64 0)).setCell ⟨w.heap.size + 1, 2, none⟩ (.int .i64 0)).setCell ⟨w.heap.size + 1, 3, none⟩ (.bool is)) := (((((Fr.refl [w.heap.size + 1, w.heap.size + 2] w2).set (p := ⟨w.heap.size + 2, 3, none⟩) (by simp) (.bool is)).set (p := ⟨w.heap.size + 1, 0, none⟩) (by simp) (.int .i64 0)).set (p := ⟨w.heap.size + 1, 1, none⟩) (by simp) (.int .i64 0)).set (p := ⟨w.heap.size + 1, 2, none⟩) (by simp) (.int .i64 0)).set (p := ⟨w.heap.size + 1, 3, none⟩) (by simp) (.bool is)
  have hRz := (((((hR2).other (a := ⟨w.heap.size + 2, 3, none⟩) (by simp) (.bool is)).set 0 (.int .i64 0)).set 1 (.int .i64 0)).set 2 (.int .i64 0)).set 3 (.bool is)
  simp only [List.set_cons_zero, List.set_cons_succ] at hRz
  have HQ := hid hQ
  have HFZ := hid hFz
  have HRZ := hid hRz
  have HR2 := hid hR2
  have HT2 := hid hT2
  clear hQ hK hR2 hT2 hFz hRz x0 x2 x3 x4 x5
  go_wp2_with fail
  refine bodyPost_ret (v := tldV 0 0 0 is) ?_ rfl ⟨rfl, w2, HQ.out, _, HFZ.out, fun x hx => ?_⟩
  · have k0 := HRZ.out.cell (i := 0) rfl
    have k1 := HRZ.out.cell (i := 1) rfl
    have k2 := HRZ.out.cell (i := 2) rfl
    have k3 := HRZ.out.cell (i := 3) rfl
    simp [results, Tryz.results10, go_sem, k0, k1, k2, k3, tldV]
  · simp only [List.mem_cons, List.mem_nil_iff, or_false] at hx
    rcases hx with rfl | rfl
    · exact ⟨by omega, _, HR2.out⟩
    · exact ⟨by omega, _, HT2.out⟩

set_option maxRecDepth 100000 in
set_option maxHeartbeats 6400000 in
theorem docDo5n (mb : Nat) (o a b n wd p v0 : Int) (w : World) (Q : World → Prop)
    (hPk : ∀ w1, Fr [] w w1 → Calls Tryz.prog 20 #[.pointer (some ⟨mb, 0, none⟩), .int .i64 o] w1 fun e w2 => e = .returned (.int .i64 p) ∧ Fr [] w1 w2)
    (hC : ∀ w1, Fr [] w w1 → Calls Tryz.prog 35 #[.pointer (some ⟨mb, 0, none⟩)] w1 fun e w2 => e = .returned (.tuple #[.int .i64 v0, .bool false]) ∧ Q w2 ∧ Kp w w1 w2) :
    Calls Tryz.prog 10 #[.pointer (some ⟨mb, 0, none⟩), actV 5 o a b n wd] w (PostB w Q (tldV 0 0 0 false)) := by
  have X := ((Blk.new w [.int .i64 5, .int .i64 o, .int .i64 a, .int .i64 b, .int .i64 n, .int .i64 wd] 36).alloc (.cells #[.int .i64 0, .int .i64 0, .int .i64 0, .bool false] 38)).alloc (.cells #[.int .i64 0, .int .i64 0, .int .i64 0, .bool false] 38)
  have R := (Blk.new (w.alloc (.cells #[.int .i64 5, .int .i64 o, .int .i64 a, .int .i64 b, .int .i64 n, .int .i64 wd] 36)) [.int .i64 0, .int .i64 0, .int .i64 0, .bool false] 38).alloc (.cells #[.int .i64 0, .int .i64 0, .int .i64 0, .bool false] 38)
  have T := Blk.new ((w.alloc (.cells #[.int .i64 5, .int .i64 o, .int .i64 a, .int .i64 b, .int .i64 n, .int .i64 wd] 36)).alloc (.cells #[.int .i64 0, .int .i64 0, .int .i64 0, .bool false] 38)) [.int .i64 0, .int .i64 0, .int .i64 0, .bool false] 38
  rw [show (w.alloc (.cells #[.int .i64 5, .int .i64 o, .int .i64 a, .int .i64 b, .int .i64 n, .int .i64 wd] 36)).heap.size = w.heap.size + 1 by simp] at R
  rw [show ((w.alloc (.cells #[.int .i64 5, .int .i64 o, .int .i64 a, .int .i64 b, .int .i64 n, .int .i64 wd] 36)).alloc (.cells #[.int .i64 0, .int .i64 0, .int .i64 0, .bool false] 38)).heap.size = w.heap.size + 2 by simp] at T
  have hF : Fr [] w (((w.alloc (.cells #[.int .i64 5, .int .i64 o, .int .i64 a, .int .i64 b, .int .i64 n, .int .i64 wd] 36)).alloc (.cells #[.int .i64 0, .int .i64 0, .int .i64 0, .bool false] 38)).alloc (.cells #[.int .i64 0, .int .i64 0, .int .i64 0, .bool false] 38)) := (((Fr.refl _ w).alloc _).alloc _).alloc _
  obtain ⟨wa, hwa⟩ : ∃ wa, wa = (((w.alloc (.cells #[.int .i64 5, .int .i64 o, .int .i64 a, .int .i64 b, .int .i64 n, .int .i64 wd] 36)).alloc (.cells #[.int .i64 0, .int .i64 0, .int .i64 0, .bool false] 38)).alloc (.cells #[.int .i64 0, .int .i64 0, .int .i64 0, .bool false] 38)) := ⟨_, rfl⟩
  have HWA := hid hwa
  rw [← hwa] at X R T hF
  have x1 := X.cell (i := 1) rfl
  have HX := hid X
  have HR := hid R
  have HT := hid T
  have HF := hid hF
  have HPK := hid hPk
  have HC := hid hC
  clear X R T hF hPk hC hwa
  unfold actV
  go_enter Tryz.func10, Tryz.ntmps10
  go_upto_region 2 with fail
  rw [← HWA.out]
  go_wp2_with fail
  refine (HPK.out wa HF.out).mono ?_
  rintro e w1 ⟨rfl, hF1⟩
  have hX1 := HX.out.fr hF1 (by simp)
  have hR1 := HR.out.fr hF1 (by simp)
  have hT1 := HT.out.fr hF1 (by simp)
  have x0 := hX1.cell (i := 0) rfl
  have x2 := hX1.cell (i := 2) rfl
  have x3 := hX1.cell (i := 3) rfl
  have x4 := hX1.cell (i := 4) rfl
  have x5 := hX1.cell (i := 5) rfl
  have HR1 := hid hR1
  have HT1 := hid hT1
  have HF1 := hid (HF.out.trans hF1)
  clear hX1 hR1 hT1 hF1 x1
  go_wp2_with fail
  refine (HC.out w1 HF1.out).mono ?_
  rintro e w2 ⟨rfl, hQ, hK⟩
  have hR2 := hK _ _ (by omega) HR1.out
  have hT2 := hK _ _ (by omega) HT1.out
  have c0 := hT2.cell (i := 0) rfl
  have z0 := hT2.frozen 0
  have c1 := hT2.cell (i := 1) rfl
  have z1 := hT2.frozen 1
  have c2 := hT2.cell (i := 2) rfl
  have z2 := hT2.frozen 2
  have c3 := hT2.cell (i := 3) rfl
  have z3 := hT2.frozen 3
  have r0 := hR2.cell (i := 0) rfl
  have y0 := hR2.frozen 0
  have r1 := hR2.cell (i := 1) rfl
  have y1 := hR2.frozen 1
  have r2 := hR2.cell (i := 2) rfl
  have y2 := hR2.frozen 2
  have r3 := hR2.cell (i := 3) rfl
  have y3 := hR2.frozen 3
  have hFz : Fr [w.heap.size + 1, w.heap.size + 2] w2 (((((w2).setCell ⟨w.heap.size + 1, 0, none⟩ (.int .i64 0)).setCell ⟨w.heap.size + 1, 1, none⟩ (.int .i64 0)).setCell ⟨w.heap.size + 1, 2, none⟩ (.int .i64 0)).setCell ⟨w.heap.size + 1, 3, none⟩ (.bool false)) := ((((Fr.refl [w.heap.size + 1, w.heap.size + 2] w2).set (p := ⟨w.heap.size + 1, 0, none⟩) (by simp) (.int .i64 0)).set (p := ⟨w.heap.size + 1, 1, none⟩) (by simp) (.int .i64 0)).set (p := ⟨w.heap.size + 1, 2, none⟩) (by simp) (.int .i64 0)).set (p := ⟨w.heap.size + 1, 3, none⟩) (by simp) (.bool false)
  have hRz := ((((hR2).set 0 (.int .i64 0)).set 1 (.int .i64 0)).set 2 (.int .i64 0)).set 3 (.bool false)
  simp only [List.set_cons_zero, List.set_cons_succ] at hRz
  have HQ := hid hQ
  have HFZ := hid hFz
  have HRZ := hid hRz
  have HR2 := hid hR2
  have HT2 := hid hT2
  clear hQ hK hR2 hT2 hFz hRz x0 x2 x3 x4 x5
  go_wp2_with fail
  refine bodyPost_ret (v := tldV 0 0 0 false) ?_ rfl ⟨rfl, w2, HQ.out, _, HFZ.out, fun x hx => ?_⟩
  · have k0 := HRZ.out.cell (i := 0) rfl
    have k1 := HRZ.out.cell (i := 1) rfl
    have k2 := HRZ.out.cell (i := 2) rfl
    have k3 := HRZ.out.cell (i := 3) rfl
    simp [results, Tryz.results10, go_sem, k0, k1, k2, k3, tldV]
  · simp only [List.mem_cons, List.mem_nil_iff, or_false] at hx
    rcases hx with rfl | rfl
    · exact ⟨by omega, _, HR2.out⟩
    · exact ⟨by omega, _, HT2.out⟩

set_option maxRecDepth 100000 in
set_option maxHeartbeats 6400000 in
theorem docDo5y (mb : Nat) (o a b n wd p v0 er : Int) (w : World) (Q1 Q : World → Prop)
    (hPk : ∀ w1, Fr [] w w1 → Calls Tryz.prog 20 #[.pointer (some ⟨mb, 0, none⟩), .int .i64 o] w1 fun e w2 => e = .returned (.int .i64 p) ∧ Fr [] w1 w2)
    (hC : ∀ w1, Fr [] w w1 → Calls Tryz.prog 35 #[.pointer (some ⟨mb, 0, none⟩)] w1 fun e w2 => e = .returned (.tuple #[.int .i64 v0, .bool true]) ∧ Q1 w2 ∧ Kp w w1 w2)
    (hD : ∀ w2 w3, Q1 w2 → FrB w w2 w3 → Calls Tryz.prog 36 #[.pointer (some ⟨mb, 0, none⟩), .int .i64 v0] w3 fun e w4 => e = .returned (.int .i64 er) ∧ Q w4 ∧ Kp w w3 w4) :
    Calls Tryz.prog 10 #[.pointer (some ⟨mb, 0, none⟩), actV 5 o a b n wd] w (PostB w Q (tldV 0 v0 er false)) := by
  have X := ((Blk.new w [.int .i64 5, .int .i64 o, .int .i64 a, .int .i64 b, .int .i64 n, .int .i64 wd] 36).alloc (.cells #[.int .i64 0, .int .i64 0, .int .i64 0, .bool false] 38)).alloc (.cells #[.int .i64 0, .int .i64 0, .int .i64 0, .bool false] 38)
  have R := (Blk.new (w.alloc (.cells #[.int .i64 5, .int .i64 o, .int .i64 a, .int .i64 b, .int .i64 n, .int .i64 wd] 36)) [.int .i64 0, .int .i64 0, .int .i64 0, .bool false] 38).alloc (.cells #[.int .i64 0, .int .i64 0, .int .i64 0, .bool false] 38)
  have T := Blk.new ((w.alloc (.cells #[.int .i64 5, .int .i64 o, .int .i64 a, .int .i64 b, .int .i64 n, .int .i64 wd] 36)).alloc (.cells #[.int .i64 0, .int .i64 0, .int .i64 0, .bool false] 38)) [.int .i64 0, .int .i64 0, .int .i64 0, .bool false] 38
  rw [show (w.alloc (.cells #[.int .i64 5, .int .i64 o, .int .i64 a, .int .i64 b, .int .i64 n, .int .i64 wd] 36)).heap.size = w.heap.size + 1 by simp] at R
  rw [show ((w.alloc (.cells #[.int .i64 5, .int .i64 o, .int .i64 a, .int .i64 b, .int .i64 n, .int .i64 wd] 36)).alloc (.cells #[.int .i64 0, .int .i64 0, .int .i64 0, .bool false] 38)).heap.size = w.heap.size + 2 by simp] at T
  have hF : Fr [] w (((w.alloc (.cells #[.int .i64 5, .int .i64 o, .int .i64 a, .int .i64 b, .int .i64 n, .int .i64 wd] 36)).alloc (.cells #[.int .i64 0, .int .i64 0, .int .i64 0, .bool false] 38)).alloc (.cells #[.int .i64 0, .int .i64 0, .int .i64 0, .bool false] 38)) := (((Fr.refl _ w).alloc _).alloc _).alloc _
  obtain ⟨wa, hwa⟩ : ∃ wa, wa = (((w.alloc (.cells #[.int .i64 5, .int .i64 o, .int .i64 a, .int .i64 b, .int .i64 n, .int .i64 wd] 36)).alloc (.cells #[.int .i64 0, .int .i64 0, .int .i64 0, .bool false] 38)).alloc (.cells #[.int .i64 0, .int .i64 0, .int .i64 0, .bool false] 38)) := ⟨_, rfl⟩
  have HWA := hid hwa
  rw [← hwa] at X R T hF
  have x1 := X.cell (i := 1) rfl
  have HX := hid X
  have HR := hid R
  have HT := hid T
  have HF := hid hF
  have HPK := hid hPk
  have HC := hid hC
  have HD := hid hD
  clear X R T hF hPk hC hD hwa
  unfold actV
  go_enter Tryz.func10, Tryz.ntmps10
  go_upto_region 2 with fail
  rw [← HWA.out]
  go_wp2_with fail
  refine (HPK.out wa HF.out).mono ?_
  rintro e w1 ⟨rfl, hF1⟩
  have hX1 := HX.out.fr hF1 (by simp)
  have hR1 := HR.out.fr hF1 (by simp)
  have hT1 := HT.out.fr hF1 (by simp)
  have x0 := hX1.cell (i := 0) rfl
  have x2 := hX1.cell (i := 2) rfl
  have x3 := hX1.cell (i := 3) rfl
  have x4 := hX1.cell (i := 4) rfl
  have x5 := hX1.cell (i := 5) rfl
  have HR1 := hid hR1
  have HT1 := hid hT1
  have HF1 := hid (HF.out.trans hF1)
  clear hX1 hR1 hT1 hF1 x1
  go_wp2_with fail
  refine (HC.out w1 HF1.out).mono ?_
  rintro e w2 ⟨rfl, hQ, hK⟩
  have hR2 := hK _ _ (by omega) HR1.out
  have hT2 := hK _ _ (by omega) HT1.out
  have c1 := hT2.cell (i := 1) rfl
  have z1 := hT2.frozen 1
  have hF3 : FrB w w2 (w2.setCell ⟨w.heap.size + 2, 1, none⟩ (.int .i64 v0)) := ⟨[w.heap.size + 2], (Fr.refl _ w2).set (by simp) _, fun x hx => by obtain rfl := List.mem_singleton.1 hx; exact ⟨by omega, _, hT2⟩⟩
  have hR3 := hR2.other (a := ⟨w.heap.size + 2, 1, none⟩) (by simp) (.int .i64 v0)
  have hT3 := hT2.set 1 (.int .i64 v0)
  simp only [List.set_cons_zero, List.set_cons_succ] at hT3
  have hd := HD.out w2 _ hQ hF3
  obtain ⟨w3, hw3⟩ : ∃ w3, w3 = w2.setCell ⟨w.heap.size + 2, 1, none⟩ (.int .i64 v0) := ⟨_, rfl⟩
  rw [← hw3] at hd hR3 hT3
  have HW3 := hid hw3
  have HDD := hid hd
  have HR3 := hid hR3
  have HT3 := hid hT3
  clear hQ hK hR2 hT2 hF3 hR3 hT3 hd hw3 x0 x2 x3 x4 x5
  go_upto_region 19 with fail
  rw [← HW3.out]
  clear c1 z1
  go_wp2_with fail
  refine HDD.out.mono ?_
  rintro e w4 ⟨rfl, hQ, hK⟩
  have hR4 := hK _ _ (by omega) HR3.out
  have hT4 := hK _ _ (by omega) HT3.out
  have c0 := hT4.cell (i := 0) rfl
  have z0 := hT4.frozen 0
  have c1 := hT4.cell (i := 1) rfl
  have z1 := hT4.frozen 1
  have c2 := hT4.cell (i := 2) rfl
  have z2 := hT4.frozen 2
  have c3 := hT4.cell (i := 3) rfl
  have z3 := hT4.frozen 3
  have r0 := hR4.cell (i := 0) rfl
  have y0 := hR4.frozen 0
  have r1 := hR4.cell (i := 1) rfl
  have y1 := hR4.frozen 1
  have r2 := hR4.cell (i := 2) rfl
  have y2 := hR4.frozen 2
  have r3 := hR4.cell (i := 3) rfl
  have y3 := hR4.frozen 3
  have hFz : Fr [w.heap.size + 1, w.heap.size + 2] w4 ((((((w4).setCell ⟨w.heap.size + 2, 2, none⟩ (.int .i64 er)).setCell ⟨w.heap.size + 1, 0, none⟩ (.int .i64 0)).setCell ⟨w.heap.size + 1, 1, none⟩ (.int .i64 v0)).setCell ⟨w.heap.size + 1, 2, none⟩ (.int .i64 er)).setCell ⟨w.heap.size + 1, 3, none⟩ (.bool false)) := (((((Fr.refl [w.heap.size + 1, w.heap.size + 2] w4).set (p := ⟨w.heap.size + 2, 2, none⟩) (by simp) (.int .i64 er)).set (p := ⟨w.heap.size + 1, 0, none⟩) (by simp) (.int .i64 0)).set (p := ⟨w.heap.size + 1, 1, none⟩) (by simp) (.int .i64 v0)).set (p := ⟨w.heap.size + 1, 2, none⟩) (by simp) (.int .i64 er)).set (p := ⟨w.heap.size + 1, 3, none⟩) (by simp) (.bool false)
  have hRz := (((((hR4).other (a := ⟨w.heap.size + 2, 2, none⟩) (by simp) (.int .i64 er)).set 0 (.int .i64 0)).set 1 (.int .i64 v0)).set 2 (.int .i64 er)).set 3 (.bool false)
  simp only [List.set_cons_zero, List.set_cons_succ] at hRz
  have HQ := hid hQ
  have HFZ := hid hFz
  have HRZ := hid hRz
  have HR4 := hid hR4
  have HT4 := hid hT4
  clear hQ hK hR4 hT4 hFz hRz
  go_wp2_with fail
  refine bodyPost_ret (v := tldV 0 v0 er false) ?_ rfl ⟨rfl, w4, HQ.out, _, HFZ.out, fun x hx => ?_⟩
  · have k0 := HRZ.out.cell (i := 0) rfl
    have k1 := HRZ.out.cell (i := 1) rfl
    have k2 := HRZ.out.cell (i := 2) rfl
    have k3 := HRZ.out.cell (i := 3) rfl
    simp [results, Tryz.results10, go_sem, k0, k1, k2, k3, tldV]
  · simp only [List.mem_cons, List.mem_nil_iff, or_false] at hx
    rcases hx with rfl | rfl
    · exact ⟨by omega, _, HR4.out⟩
    · exact ⟨by omega, _, HT4.out⟩

end Go.Proofs.YtifillpcphiblaaGreat

namespace Go.Proofs.YtifillpcphiblaaGreat
open Go Go.Proofs Go.RowKit

/-! ref05.Same; law06's asked. -/

def segA (v : V4) : Value := .agg #[v.1, v.2.1, v.2.2.1, v.2.2.2]
theorem DRow.forms {w : World} {B : Nat} {v : V4} {R : Rows} (h : DRow w B v R) : ∃ A0 c0 A1 c1 A2 c2 A3 c3, v = (.slice A0 R.W.length c0, .slice A1 R.F.length c1, .slice A2 R.G.length c2, .slice A3 R.B.length c3) := by
  obtain ⟨v0, v1, v2, v3⟩ := v
  obtain ⟨A0, c0, e0⟩ := h.wh.form
  obtain ⟨A1, c1, e1⟩ := h.fr0.form
  obtain ⟨A2, c2, e2⟩ := h.gr.form
  obtain ⟨A3, c3, e3⟩ := h.bl.form
  simp only at e0 e1 e2 e3
  exact ⟨A0, c0, A1, c1, A2, c2, A3, c3, by rw [e0, e1, e2, e3]⟩
theorem SegV.row {w : World} {base : Nat} {v : Value} {R : Rows} (h : SegV w base v R) : ∃ u : V4, v = segA u ∧ DRow w base u R := by
  obtain ⟨v0, v1, v2, v3, rfl, h0, h1, h2, h3⟩ := h.ex
  exact ⟨(v0, v1, v2, v3), rfl, ⟨h0, h1, h2, h3⟩⟩

set_option maxRecDepth 100000 in
set_option maxHeartbeats 3200000 in
theorem dSame (B B' : Nat) (v v' : V4) (R : Rows) (w : World) (h : DRow w B v R) (h' : DRow w B' v' R) (hl : R.all.length ≤ 65536) :
    Calls Tryz.prog 42 #[segA v, segA v'] w fun e w' => e = .returned (.bool true) ∧ Fr [] w w' := by
  have hl' : R.W.length ≤ 65536 ∧ R.F.length ≤ 65536 ∧ R.G.length ≤ 65536 ∧ R.B.length ≤ 65536 := by
    simp [Rows.all] at hl; omega
  obtain ⟨l0, l1, l2, l3⟩ := hl'
  obtain ⟨A0, c0, A1, c1, A2, c2, A3, c3, rfl⟩ := h.forms
  obtain ⟨B0, d0, B1, d1, B2, d2, B3, d3, rfl⟩ := h'.forms
  unfold segA
  simp only
  have X := (Blk.new w [.slice A0 R.W.length c0, .slice A1 R.F.length c1, .slice A2 R.G.length c2, .slice A3 R.B.length c3] 64).alloc (.cells #[.slice B0 R.W.length d0, .slice B1 R.F.length d1, .slice B2 R.G.length d2, .slice B3 R.B.length d3] 64)
  have Y := Blk.new (w.alloc (.cells #[.slice A0 R.W.length c0, .slice A1 R.F.length c1, .slice A2 R.G.length c2, .slice A3 R.B.length c3] 64)) [.slice B0 R.W.length d0, .slice B1 R.F.length d1, .slice B2 R.G.length d2, .slice B3 R.B.length d3] 64
  rw [show (w.alloc (.cells #[.slice A0 R.W.length c0, .slice A1 R.F.length c1, .slice A2 R.G.length c2, .slice A3 R.B.length c3] 64)).heap.size = w.heap.size + 1 by simp] at Y
  have hF : Fr [] w ((w.alloc (.cells #[.slice A0 R.W.length c0, .slice A1 R.F.length c1, .slice A2 R.G.length c2, .slice A3 R.B.length c3] 64)).alloc (.cells #[.slice B0 R.W.length d0, .slice B1 R.F.length d1, .slice B2 R.G.length d2, .slice B3 R.B.length d3] 64)) := ((Fr.refl _ w).alloc _).alloc _
  obtain ⟨wa, hwa⟩ : ∃ wa, wa = ((w.alloc (.cells #[.slice A0 R.W.length c0, .slice A1 R.F.length c1, .slice A2 R.G.length c2, .slice A3 R.B.length c3] 64)).alloc (.cells #[.slice B0 R.W.length d0, .slice B1 R.F.length d1, .slice B2 R.G.length d2, .slice B3 R.B.length d3] 64)) := ⟨_, rfl⟩
  have HWA := hid hwa
  rw [← hwa] at X Y hF
  have s0 := h.wh.src
  have s1 := h.fr0.src
  have s2 := h.gr.src
  have s3 := h.bl.src
  have t0 := h'.wh.src
  have t1 := h'.fr0.src
  have t2 := h'.gr.src
  have t3 := h'.bl.src
  have HS := hid (And.intro s0 (And.intro s1 (And.intro s2 s3)))
  have HT := hid (And.intro t0 (And.intro t1 (And.intro t2 t3)))
  have x0 := X.cell (i := 0) rfl
  have y0 := Y.cell (i := 0) rfl
  have HX := hid X
  have HY := hid Y
  have HF := hid hF
  clear h h' s0 s1 s2 s3 t0 t1 t2 t3 X Y hF hwa hl
  go_enter Tryz.func42, Tryz.ntmps42
  go_upto_region 1 with fail
  rw [← HWA.out]
  go_wp2_with fail
  refine (dInts A0 B0 c0 d0 R.W wa (HS.out.1.step HF.out) (HT.out.1.step HF.out) (by omega)).mono ?_
  rintro e w1 ⟨rfl, hF1⟩
  have HF1 := hid hF1
  have x1 := (HX.out.fr hF1 (by simp)).cell (i := 1) rfl
  have y1 := (HY.out.fr hF1 (by simp)).cell (i := 1) rfl
  clear hF1 x0 y0
  go_wp2_with fail
  refine (dInts A1 B1 c1 d1 R.F w1 (HS.out.2.1.step (HF.out.trans HF1.out)) (HT.out.2.1.step (HF.out.trans HF1.out)) (by omega)).mono ?_
  rintro e w2 ⟨rfl, hF2⟩
  have HF2 := hid (HF1.out.trans hF2)
  have x2 := (HX.out.fr HF2.out (by simp)).cell (i := 2) rfl
  have y2 := (HY.out.fr HF2.out (by simp)).cell (i := 2) rfl
  clear hF2 x1 y1
  go_wp2_with fail
  refine (dInts A2 B2 c2 d2 R.G w2 (HS.out.2.2.1.step (HF.out.trans HF2.out)) (HT.out.2.2.1.step (HF.out.trans HF2.out)) (by omega)).mono ?_
  rintro e w3 ⟨rfl, hF3⟩
  have HF3 := hid (HF2.out.trans hF3)
  have x3 := (HX.out.fr HF3.out (by simp)).cell (i := 3) rfl
  have y3 := (HY.out.fr HF3.out (by simp)).cell (i := 3) rfl
  clear hF3 x2 y2
  go_wp2_with fail
  refine (dInts A3 B3 c3 d3 R.B w3 (HS.out.2.2.2.step (HF.out.trans HF3.out)) (HT.out.2.2.2.step (HF.out.trans HF3.out)) (by omega)).mono ?_
  rintro e w4 ⟨rfl, hF4⟩
  have HF4 := hid (HF3.out.trans hF4)
  clear hF4 x3 y3
  go_wp2_with fail
  go_ret
  exact ⟨rfl, HF.out.trans HF4.out⟩

def askB (kd p : Int) : Bool := decide (kd < 1) || decide (4 < kd) || decide (0 < p)
set_option maxRecDepth 100000 in
set_option maxHeartbeats 3200000 in
theorem lAsked (mb : Nat) (kd o a b n wd p : Int) (w : World)
    (hPk : ∀ w1, Fr [] w w1 → Calls Tryz.prog 20 #[.pointer (some ⟨mb, 0, none⟩), .int .i64 o] w1 fun e w2 => e = .returned (.int .i64 p) ∧ Fr [] w1 w2) :
    Calls Tryz.prog 8 #[.pointer (some ⟨mb, 0, none⟩), actV kd o a b n wd] w fun e w' => e = .returned (.bool (askB kd p)) ∧ Fr [] w w' := by
  have X := Blk.new w [.int .i64 kd, .int .i64 o, .int .i64 a, .int .i64 b, .int .i64 n, .int .i64 wd] 36
  have hF : Fr [] w (w.alloc (.cells #[.int .i64 kd, .int .i64 o, .int .i64 a, .int .i64 b, .int .i64 n, .int .i64 wd] 36)) := (Fr.refl _ w).alloc _
  obtain ⟨wa, hwa⟩ : ∃ wa, wa = w.alloc (.cells #[.int .i64 kd, .int .i64 o, .int .i64 a, .int .i64 b, .int .i64 n, .int .i64 wd] 36) := ⟨_, rfl⟩
  have HWA := hid hwa
  rw [← hwa] at X hF
  have x0 := X.cell (i := 0) rfl
  have x1 := X.cell (i := 1) rfl
  have HF := hid hF
  have HPK := hid hPk
  obtain ⟨bb, hbb⟩ : ∃ bb, bb = askB kd p := ⟨_, rfl⟩
  rw [← hbb]
  have HBB := hid hbb
  clear X hF hwa hPk hbb
  unfold actV
  by_cases h1 : kd < 1
  · have g1 : decide (kd < 1) = true := by simpa using h1
    have hbt : bb = true := by rw [HBB.out]; unfold askB; rw [g1]; rfl
    have HBT := hid hbt
    clear hbt
    go_enter Tryz.func8, Tryz.ntmps8
    go_upto_region 1 with fail
    rw [← HWA.out]
    go_wp2_with fail
    go_ret
    exact ⟨by rw [HBT.out]; rfl, HF.out⟩
  · have g1 : decide (kd < 1) = false := by simpa using h1
    by_cases h2 : 4 < kd
    · have g2 : decide (4 < kd) = true := by simpa using h2
      have hbt : bb = true := by rw [HBB.out]; unfold askB; rw [g2]; simp
      have HBT := hid hbt
      clear hbt
      go_enter Tryz.func8, Tryz.ntmps8
      go_upto_region 1 with fail
      rw [← HWA.out]
      go_wp2_with fail
      go_ret
      exact ⟨by rw [HBT.out]; rfl, HF.out⟩
    · have g2 : decide (4 < kd) = false := by simpa using h2
      have hbt : bb = decide (0 < p) := by rw [HBB.out]; unfold askB; rw [g1, g2]; simp
      have HBT := hid hbt
      clear hbt
      go_enter Tryz.func8, Tryz.ntmps8
      go_upto_region 1 with fail
      rw [← HWA.out]
      go_wp2_with fail
      refine (HPK.out wa HF.out).mono ?_
      rintro e w1 ⟨rfl, hF1⟩
      have HF1 := hid hF1
      clear hF1
      go_wp2_with fail
      go_ret
      exact ⟨by rw [HBT.out]; rfl, HF.out.trans HF1.out⟩
end Go.Proofs.YtifillpcphiblaaGreat
