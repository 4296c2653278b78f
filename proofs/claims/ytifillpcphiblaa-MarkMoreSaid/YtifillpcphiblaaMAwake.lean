import Derived.Test.YtifillpcphiblaaMRun
import Derived.Deep.QuietTactic
import Derived.Deep.DeepCutAuto
import Derived.BigQuiet
namespace Go.Proofs.Ytifillpcphiblaa
open Go Go.Proofs Go.RowKit

theorem right40 : RightC ((40 : Nat) : Int) ((0 : Nat) : Int) [2] := (rightB_iff _ _ _).1 (by decide)

theorem awakePot {A : Rg} {s : HS} {o0 o1 : Ob} (h0 : o0.k = 1 ∧ (o0.n : Int) = 1) (h1 : o1.k = 7 ∧ (o1.n : Int) = 1) (hw : s.wd o0 0 = o1.p) (_h2 : s.wd o1 0 = 0) : pot A.begun (MGof [o0, o1] s [o0.p]) [o0, o1] = 3 := by
  have n0 : o0.n = 1 := by omega
  have n1 : o1.n = 1 := by omega
  have l0 : o0.f = 0 ∧ o0.t = 1 := by unfold Ob.f Ob.t lkF lkT; rw [h0.1, n0]; decide
  have l1 : o1.f = 0 ∧ o1.t = 0 := by unfold Ob.f Ob.t lkF lkT; rw [h1.1, n1]; decide
  have r0 : Rch [o0, o1] (W0of s) [o0.p] o0.p := Rch.root _ (by simp)
  have r1 : Rch [o0, o1] (W0of s) [o0.p] o1.p := Rch.step o0 o1 0 r0 (by simp) ⟨by omega, by omega⟩ (by simp) hw.symm
  unfold pot
  simp only [List.map_cons, List.map_nil, List.sum_cons, List.sum_nil]
  rw [if_pos ⟨r0, by simp [Rg.begun]⟩, if_pos ⟨r1, by simp [Rg.begun]⟩]
  unfold nl
  omega

theorem obs2 {obs : List Ob} (h : obs.length = 2) : ∃ o0 o1, obs = [o0, o1] := by
  match obs, h with
  | [o0, o1], _ => exact ⟨o0, o1, rfl⟩

set_option maxRecDepth 100000 in
set_option maxHeartbeats 6400000 in
theorem lAwake (w : World) : Calls Try.prog 52 #[] w fun e w' => e = .returned (.bool true) ∧ Fr [] w w' := by
  have I0 := ((Blk.new w [.int .i64 2] 3).alloc (.cells #[.int .i64 2] 3)).alloc (.cells #[.int .i64 1, .int .i64 1, .slice (some ⟨w.heap.size + 1, 0, none⟩) 1 1, .int .i64 7, .int .i64 1, .slice none 0 0] 170)
  have I1 := (Blk.new (w.alloc (.cells #[.int .i64 2] 3)) [.int .i64 2] 3).alloc (.cells #[.int .i64 1, .int .i64 1, .slice (some ⟨w.heap.size + 1, 0, none⟩) 1 1, .int .i64 7, .int .i64 1, .slice none 0 0] 170)
  have I2 := Blk.new ((w.alloc (.cells #[.int .i64 2] 3)).alloc (.cells #[.int .i64 2] 3)) [.int .i64 1, .int .i64 1, .slice (some ⟨w.heap.size + 1, 0, none⟩) 1 1, .int .i64 7, .int .i64 1, .slice none 0 0] 170
  have hF0 : Fr [] w (((w.alloc (.cells #[.int .i64 2] 3)).alloc (.cells #[.int .i64 2] 3)).alloc (.cells #[.int .i64 1, .int .i64 1, .slice (some ⟨w.heap.size + 1, 0, none⟩) 1 1, .int .i64 7, .int .i64 1, .slice none 0 0] 170)) := (((Fr.refl _ w).alloc _).alloc _).alloc _
  have e1 : (w.alloc (.cells #[.int .i64 2] 3)).heap.size = w.heap.size + 1 := by simp
  have e2 : ((w.alloc (.cells #[.int .i64 2] 3)).alloc (.cells #[.int .i64 2] 3)).heap.size = w.heap.size + 1 + 1 := by simp
  rw [e1] at I1
  rw [e2] at I2
  have HI0 := hid I0
  have HI1 := hid I1
  have HI2 := hid I2
  have HF0 := hid hF0
  clear I0 I1 I2 hF0 e1 e2
  go_enter Try.func52, Try.ntmps52
  go_wp2_with fail
  have rd : ∀ {W : World} {b : Nat} {l : List Value} {T : TypeId}, Blk W b l T → RdAt W b 0 l := fun h => ⟨h.lt, fun i v hv => by rw [Nat.zero_add]; exact h.cell hv⟩
  refine (lBuilt 40 0 0 0 0 0 (.slice (some ⟨w.heap.size, 0, none⟩) 1 1) (.slice (some ⟨w.heap.size + 1 + 1, 0, none⟩) 2 2) [2] [⟨1, 1, .slice (some ⟨w.heap.size + 1, 0, none⟩) 1 1, [2]⟩, ⟨7, 1, .slice none 0 0, []⟩] 2 _ right40
    (.inr (.inr ⟨_, 0, 1, rfl, rd HI0.out, by decide⟩)) ⟨.inr (.inr ⟨_, 0, 2, rfl, rd HI2.out⟩), fun x hx => ?_⟩ (by simp) (by simp) (by decide)).mono ?_
  · rcases List.mem_cons.1 hx with rfl | hx
    · exact .inr (.inr ⟨_, 0, 1, rfl, rd HI1.out, by simp [maxLen]⟩)
    · rcases List.mem_cons.1 hx with rfl | hx
      · exact .inl ⟨rfl, rfl⟩
      · cases hx
  rintro e w1 ⟨L, D, atv, s, A, z, bits, m, obs, G, rfl, hJ, hrow, hF1, hlo, hdB, hpar, hle, hn32, hwd, hrc⟩
  have hix : ixGe [2] 1 ≠ -1 := by decide
  obtain ⟨hol, hob⟩ := hrc.1 (by
    refine ⟨fun x hx => ?_, by simp⟩
    rcases List.mem_cons.1 hx with rfl | hx
    · exact ⟨by simp, by simp, by simp, by simp, hix⟩
    · rcases List.mem_cons.1 hx with rfl | hx
      · exact ⟨by simp, by simp, by simp, by simp, hix⟩
      · cases hx)
  obtain ⟨o0, o1, rfl⟩ := obs2 (by simpa using hol)
  have k0 := hob 0 _ o0 rfl rfl
  have k1 := hob 1 _ o1 rfl rfl
  have w0 := hwd o0 (by simp) 0 (by have := k0.2.1; simp at this; omega)
  have w1' := hwd o1 (by simp) 0 (by have := k1.2.1; simp at this; omega)
  have w0' : s.wd o0 0 = o1.p := by rw [w0, want_at (x := ⟨1, 1, .slice (some ⟨w.heap.size + 1, 0, none⟩) 1 1, [2]⟩) (by rw [k0.2.2]; rfl)]; rfl
  have w1'' : s.wd o1 0 = 0 := by rw [w1', want_at (x := ⟨7, 1, .slice none 0 0, []⟩) (by rw [k1.2.2]; rfl)]; rfl
  have hpot := awakePot (A := A) (s := s) (o0 := o0) (o1 := o1) ⟨k0.1, k0.2.1⟩ ⟨k1.1, k1.2.1⟩ w0' w1''
  obtain ⟨A0, c0, rfl⟩ := hrow.form
  have hl2 : ([o0, o1].map Ob.p).length = 2 := rfl
  rw [hl2] at hrow ⊢
  obtain ⟨g0, eg, hgB, hgl, -, -, -, hgc⟩ := hrow.at (by simp)
  subst eg
  have HJ := hid hJ
  have HROW := hid hrow
  have HF1 := hid (HF0.out.trans hF1)
  have HLO := hid (And.intro hlo hdB)
  have HWD := hid hwd
  have HPOT := hid hpot
  have HPAR := hid hpar
  have hsz : w.heap.size ≤ w1.heap.size := HF1.out.size
  have HSZ := hid (Nat.le_trans HF0.out.size (Nat.le_refl _))
  have hll : ∀ x ∈ L.all, x < D.B := hJ.low
  have HLL := hid hll
  have hdw : D.B ≤ w1.heap.size := hJ.jh.dh.rs.le
  clear hJ hrow hF1 hlo hdB hwd hpot hpar hll hrc hob k0 k1 w0 w1' w0' w1'' hle hn32 hol hgc rd HI0 HI1 HI2
  go_wp2_with fail
  refine (mkNew L.hb w1).mono ?_
  rintro e w2 ⟨rfl, hM, hF2, hsz2⟩
  have q : QS w L D w1.heap.size := ⟨fun hc => by have := HLL.out _ hc; omega, fun x hx => Nat.le_trans HSZ.out (HLO.out.1 x hx), HLL.out, hsz, Nat.le_trans HSZ.out HLO.out.2⟩
  have HQ := hid q
  have HM := hid hM
  have HF2 := hid hF2
  clear q hM hF2
  go_wp2_with fail
  refine (lBegin (w := w) (ms := [⟨1, 1, .slice (some ⟨w.heap.size + 1, 0, none⟩) 1 1, [2]⟩, ⟨7, 1, .slice none 0 0, []⟩]) (HJ.out.tick HF2.out) (HROW.out.fr HF2.out (by simp)) (HF1.out.trans HF2.out) HQ.out HM.out HPAR.out HWD.out [o0.p]).mono ?_
  rintro e w3 ⟨rfl, -, s3, h3⟩
  rw [HPOT.out] at h3
  have q0 : w3.cell? ⟨g0, 0, none⟩ = some (.int .i64 o0.p) := by
    obtain ⟨g1, e, _, _, _, _, _, hc⟩ := h3.row.at (by simp)
    cases e
    exact hc 0 o0.p rfl
  have H3 := hid h3
  clear h3
  go_wp2_with fail
  refine (lShade H3.out HQ.out o0.p (.inr ⟨o0, by simp, rfl, Rch.root _ (by simp)⟩)).mono ?_
  rintro e w4 ⟨rfl, s4, A4, h4, hst4, hm4⟩
  have H4 := hid h4
  have HM4 := hid hm4
  clear h4 hm4 hst4 q0
  go_wp2_with fail
  refine (lWork H4.out HQ.out 100 (by decide)).mono ?_
  rintro e w5 ⟨d, s5, A5, a5, nx5, rfl, hd1, hd2, h5, hst5, hfin⟩
  obtain ⟨rfl, hno⟩ := hfin (by omega)
  have hnx := h5.mw.z0 rfl
  subst hnx
  obtain ⟨-, hU⟩ := h5.mw.i.all hno (fun o ho hr => hst5.mono o ho (HM4.out o ho (by simpa using hr)))
  have hd3 : d = 3 := by omega
  subst hd3
  have H5 := hid h5
  have HNO := hid hno
  clear h5 hno hfin hst5 hU hd1 hd2
  go_wp2_with fail
  refine (lDone H5.out HQ.out HNO.out).mono ?_
  rintro e w6 ⟨rfl, h6⟩
  have H6 := hid h6
  clear h6
  go_wp2_with fail
  go_ret
  exact ⟨rfl, H6.out.fr0⟩
end Go.Proofs.Ytifillpcphiblaa
