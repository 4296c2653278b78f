
import Derived.Test.YtklnpooninbogaaGreatYStk2
import Derived.Test.YtklnpooninbogaaGreatYApp
namespace Go.Proofs.YtklnpooninbogaaGreat
open Go Go.Proofs Go.RowKit
def Sk.push (s : Sk) (f : Fm) : Sk := { s with fs := s.fs ++ [f], used := s.used + (f.l.length + 2) }
def PushPost (sb : Nat) (s : Sk) (P : Nat → Prop) (f : Fm) (w : World) (e : Ending) (w' : World) : Prop :=
  Fr [sb] w w' ∧ ((s.room - s.used < f.l.length + 2 ∧ e = .returned (.int .i64 13) ∧ SkRep w' P sb s) ∨ (¬ s.room - s.used < f.l.length + 2 ∧ e = .returned (.int .i64 0) ∧ SkRep w' P sb (s.push f)))
set_option maxRecDepth 100000 in
set_option maxHeartbeats 1600000 in
theorem sPush (sb : Nat) (s : Sk) (P Pv : Nat → Prop) (f : Fm) (v : Value) (w : World) (h : SkRep w P sb s) (hP : ¬ P sb) (hnew : ∀ g, w.heap.size ≤ g → P g) (hf : FmV w Pv v f) (hu : 0 ≤ s.used ∧ s.used ≤ 100000) (hr : 0 ≤ s.room ∧ s.room ≤ 100000) (hfl : f.l.length ≤ 1000) (hn : s.fs.length ≤ 1000) (hsep : ∀ k n g o m c, v = .agg #[k, n, .slice (some ⟨g, o, none⟩) m c] → g ≠ sb) :
    Calls Tryz.prog 38 #[.pointer (some ⟨sb, 0, none⟩), v] w (PushPost sb s P f w) := by
  obtain ⟨sv, rfl, hsv⟩ := hf
  obtain ⟨lv, hB, hx⟩ := id h
  obtain ⟨A, c, rfl, hc, hl, hxx⟩ := id hx
  obtain ⟨A2, c2, rfl, hl2, hx2⟩ := id hsv
  have hD0 := Blk.new w [.int .i64 f.k, .int .i64 f.n, .slice A2 f.l.length c2] 95
  have hF0 : Fr [] w (w.alloc (.cells #[.int .i64 f.k, .int .i64 f.n, .slice A2 f.l.length c2] 95)) := (Fr.refl _ w).alloc _
  have hsb : sb < w.heap.size := hB.lt
  have HH := hid h
  have HX := hid hx
  have HP := hid hP
  have HSB := hid hsb
  have HNEW := hid hnew
  have HU := hid hu
  have HR := hid hr
  have HB := hid hB
  have HSV := hid hsv
  have HXX := hid hxx
  have HX2 := hid hx2
  have HSEP : Hid (∀ g o, A2 = some ⟨g, o, none⟩ → g ∉ [sb]) := hid (fun g o e hc => hsep _ _ g o _ _ (by rw [e]) (List.mem_singleton.1 hc))
  clear hsep
  obtain ⟨W0, hW0⟩ : ∃ W0, W0 = w.alloc (.cells #[.int .i64 f.k, .int .i64 f.n, .slice A2 f.l.length c2] 95) := ⟨_, rfl⟩
  have hD : Blk W0 w.heap.size [.int .i64 f.k, .int .i64 f.n, .slice A2 f.l.length c2] 95 := by rw [hW0]; exact hD0
  have hFW : Fr [] w W0 := by rw [hW0]; exact hF0
  have hB0 := hB.fr hFW (by simp)
  have HW0 := hid hW0
  clear h hB hx hxx hP hsb hnew hu hr hsv hx2 hD0 hF0 hW0
  go_enter Tryz.func38, Tryz.ntmps38
  go_wp2_with fail
  rw [← HW0.out]
  have hS : ∀ wx, Fr [] W0 wx → wx.cell? ⟨sb, 1, none⟩ = some (.int .i64 s.room) ∧ wx.cell? ⟨sb, 2, none⟩ = some (.int .i64 s.used) ∧ wx.cell? ⟨w.heap.size, 0, none⟩ = some (.int .i64 f.k) ∧ wx.cell? ⟨w.heap.size, 1, none⟩ = some (.int .i64 f.n) ∧ wx.cell? ⟨w.heap.size, 2, none⟩ = some (.slice A2 f.l.length c2) := fun wx h =>
    ⟨(hB0.fr h (by simp)).cell (i := 1) rfl, (hB0.fr h (by simp)).cell (i := 2) rfl, (hD.fr h (by simp)).cell (i := 0) rfl, (hD.fr h (by simp)).cell (i := 1) rfl, (hD.fr h (by simp)).cell (i := 2) rfl⟩
  have HS := hid hS
  have HD := hid hD
  have HB0 := hid hB0
  have HFW := hid hFW
  clear hS hD hB0 hFW
  have hs0 := HS.out W0.drew ((Fr.refl [] W0).drew)
  go_region_held3 (fun w' => w'.cell? ⟨sb, 1, none⟩ = some (.int .i64 s.room) ∧ w'.cell? ⟨sb, 2, none⟩ = some (.int .i64 s.used) ∧ w'.cell? ⟨w.heap.size, 0, none⟩ = some (.int .i64 f.k) ∧ w'.cell? ⟨w.heap.size, 1, none⟩ = some (.int .i64 f.n) ∧ w'.cell? ⟨w.heap.size, 2, none⟩ = some (.slice A2 f.l.length c2))
    (first
      | (with_reducible exact hs0)
      | (with_reducible exact hsA)
      | go_keep)
    (first | (go_at_call 81; refine (sSize f.k f.n A2 f.l.length c2 (by omega) _).mono ?_; rintro e wA ⟨rfl, hF⟩; have HFA : Hid (Fr [] W0 wA) := hid (((Fr.refl [] W0).drew).trans hF); have hsA := HS.out wA HFA.out; clear hF))
  have eR : IntKind.i64.wrap (s.room - s.used) = s.room - s.used := by
    have := HU.out
    have := HR.out
    rw [IntKind.wrap_i64]; omega
  rw [eR]
  clear hs0 eR
  by_cases hov : s.room - s.used < (f.l.length : Int) + 2
  · have HFA2 := hid (HFW.out.trans HFA.out)
    have HOV := hid hov
    go_wp2_with fail
    go_ret
    exact ⟨HFA2.out.here (by simp), .inl ⟨HOV.out, rfl, HH.out.fr HFA2.out (by simp) (by simp)⟩⟩
  · have HFA2 := hid (HFW.out.trans HFA.out)
    have hBA := HB0.out.fr HFA.out (by simp)
    have hDA := HD.out.fr HFA.out (by simp)
    have HOV := hid hov
    have eov : decide (s.room - s.used < (f.l.length : Int) + 2) = false := by simpa using hov
    clear HFA HS hsA HFW HB0 HD hov
    go_wp2_with fail
    have hS : ∀ wx, Fr [] wA wx → wx.cell? ⟨sb, 2, none⟩ = some (.int .i64 s.used) ∧ wx.cell? ⟨w.heap.size, 0, none⟩ = some (.int .i64 f.k) ∧ wx.cell? ⟨w.heap.size, 1, none⟩ = some (.int .i64 f.n) ∧ wx.cell? ⟨w.heap.size, 2, none⟩ = some (.slice A2 f.l.length c2) ∧ wx.frozen? ⟨sb, 2, none⟩ = false := fun wx h =>
      ⟨(hBA.fr h (by simp)).cell (i := 2) rfl, (hDA.fr h (by simp)).cell (i := 0) rfl, (hDA.fr h (by simp)).cell (i := 1) rfl, (hDA.fr h (by simp)).cell (i := 2) rfl, (hBA.fr h (by simp)).frozen 2⟩
    have HS := hid hS
    obtain ⟨x0, x1, x2, x3, x4⟩ := hS wA (Fr.refl [] wA)
    have HBA := hid hBA
    have HDA := hid hDA
    clear hS hBA hDA eov
    go_region_with (go_at_call 81; refine (sSize f.k f.n A2 f.l.length c2 (by omega) _).mono ?_; rintro e wB ⟨rfl, hF⟩; have HFB : Hid (Fr [] wA wB) := hid (((Fr.refl [] wA).drew).trans hF); obtain ⟨x0', x1', x2', x3', x4'⟩ := HS.out wB HFB.out; clear hF)
    all_goals
      have eU : IntKind.i64.wrap (s.used + ((f.l.length : Int) + 2)) = s.used + (f.l.length + 2) := by
        have := HU.out
        rw [IntKind.wrap_i64]; omega
      rw [eU]
      have hFC : Fr [sb] wB (wB.setCell ⟨sb, 2, none⟩ (.int .i64 (s.used + (f.l.length + 2)))) := (Fr.refl _ wB).set (by simp) _
      have hBC := (HBA.out.fr HFB.out (by simp)).set 2 (.int .i64 (s.used + (f.l.length + 2)))
      have hDC := (HDA.out.fr HFB.out (by simp)).fr hFC (by have := HSB.out; simp; omega)
      have HFC : Hid (Fr [sb] w (wB.setCell ⟨sb, 2, none⟩ (.int .i64 (s.used + (f.l.length + 2))))) := hid (((HFA2.out.trans HFB.out).here (by simp)).trans hFC)
      obtain ⟨wC, hWC⟩ : ∃ wC, wC = wB.setCell ⟨sb, 2, none⟩ (.int .i64 (s.used + (f.l.length + 2))) := ⟨_, rfl⟩
      rw [← hWC] at hBC hDC HFC ⊢
      clear hWC hFC eU x0 x1 x2 x3 x4 x0' x1' x2' x3' x4' HFB HBA HDA HS
      have hlC : w.heap.size < wC.heap.size := hDC.lt
      have hS : ∀ wx, Fr [] wC wx → wx.cell? ⟨sb, 0, none⟩ = some (.slice A s.fs.length c) ∧ wx.cell? ⟨w.heap.size, 0, none⟩ = some (.int .i64 f.k) ∧ wx.cell? ⟨w.heap.size, 1, none⟩ = some (.int .i64 f.n) ∧ wx.cell? ⟨w.heap.size, 2, none⟩ = some (.slice A2 f.l.length c2) ∧ wx.frozen? ⟨sb, 0, none⟩ = false := fun wx h =>
        ⟨(hBC.fr h (by simp)).cell (i := 0) rfl, (hDC.fr h (by simp)).cell (i := 0) rfl, (hDC.fr h (by simp)).cell (i := 1) rfl, (hDC.fr h (by simp)).cell (i := 2) rfl, (hBC.fr h (by simp)).frozen 0⟩
      have HS := hid hS
      obtain ⟨c0, x0, x1, x2, x3⟩ := hS wC (Fr.refl [] wC)
      have hFm : FmsV wC P (.slice A s.fs.length s.fs.length) s.fs := by
        obtain ⟨A', c', e, h1, h2, h3⟩ := HX.out.fr HFC.out (fun g' hg' _ hc => HP.out (by rw [← List.mem_singleton.1 hc]; exact hg'))
        cases e
        exact ⟨A, s.fs.length, rfl, Nat.le_refl _, h2, h3⟩
      have hnil : A = none → s.fs = [] := by
        intro hA
        cases hfs : s.fs with
        | nil => rfl
        | cons x r =>
          obtain ⟨A', c', e, h1, h2, h3⟩ := HX.out
          obtain ⟨g0, o0, e0, _⟩ := h3 0 x (by rw [hfs]; rfl)
          cases e
          rw [hA] at e0
          cases e0
      have hsvC : RdS wC (fun g => g < w.heap.size ∧ g ≠ sb) (.slice A2 f.l.length c2) f.l := by
        obtain ⟨A', c', e, h2, h3⟩ := HSV.out
        cases e
        refine RdS.fr (w := w) ⟨A2, c2, rfl, h2, fun i x hx => ?_⟩ HFC.out (fun g hg _ hc => hg.2 (List.mem_singleton.1 hc))
        obtain ⟨g, o, e, _, h4, h5⟩ := h3 i x hx
        refine ⟨g, o, e, ⟨h4, ?_⟩, h4, h5⟩
        rintro rfl
        exact HSEP.out _ o e (by simp)
      have HSVC := hid hsvC
      have HFM := hid hFm
      have HNIL := hid hnil
      have HBC := hid hBC
      have HDC := hid hDC
      have hnewC : ∀ g, wC.heap.size ≤ g → P g := fun g hg => HNEW.out g (Nat.le_trans HFC.out.size hg)
      have HNC := hid hnewC
      clear hBC hDC hFm hnil hsvC hS hnewC hlC
      go_wp2_with fail
      go_region_law (first
        | (refine step_appFm (by rfl) _ _ (by rfl) P A s.fs.length s.fs (by rfl) rfl ((HFM.out.fr HFD.out (by simp)).fr ((Fr.refl [] wD).alloc _) (by simp)) HNIL.out ⟨wD.heap.size, 0, none⟩ 1 f (.slice (some ⟨g, 0, none⟩) f.l.length f.l.length) (by rfl) (fun j u hu => by rw [Addr.add_lit, Nat.zero_add]; exact (Blk.new wD [.int .i64 f.k, .int .i64 f.n, .slice (some ⟨g, 0, none⟩) f.l.length f.l.length] 95).cell hu) ((RdS.of_blk HGB.out (HNC.out _ HG.out) (by omega)).fr ((Fr.refl [] wD).alloc _) (by simp)) (fun g' hg' => HNC.out _ (by have := HFD.out.size; rw [World.size_alloc] at hg'; omega)) (by omega) ?_; intro v' wE hE hFE; have HFE : Hid (Fr [] wC wE) := hid ((HFD.out.alloc _).trans hFE); obtain ⟨c0e, x0e, x1e, x2e, x3e⟩ := HS.out wE HFE.out; have HE := hid hE; obtain ⟨A9, c9, rfl, _, _, _⟩ := hE; clear hFE)
        | (go_simp; go_at_call 82; refine (sCopied f.k f.n _ f.l _ _ (HSVC.out.fr ((Fr.refl [] wC).drew) (by simp))).mono ?_; rintro e wD ⟨g, rfl, hg, hGB, hF⟩; have HFD : Hid (Fr [] wC wD) := hid (((Fr.refl [] wC).drew).trans hF); obtain ⟨c0', x0', x1', x2', x3'⟩ := HS.out wD HFD.out; obtain ⟨c0b, _, _, _, _⟩ := HS.out (wD.alloc (.cells #[.int .i64 f.k, .int .i64 f.n, .slice (some ⟨g, 0, none⟩) f.l.length f.l.length] 95)) (HFD.out.alloc _); have HG : Hid (wC.heap.size ≤ g) := hid hg; have HGB := hid hGB; clear hF hg hGB))
    all_goals
      have hFin : PushPost sb s P f w (.returned (.int .i64 0)) (wE.setCell ⟨sb, 0, none⟩ (.slice A9 (s.fs.length + 1) c9)) := by
        have hFS : Fr [sb] wE (wE.setCell ⟨sb, 0, none⟩ (.slice A9 (s.fs.length + 1) c9)) := (Fr.refl _ wE).set (by simp) _
        have hE := HE.out
        rw [List.length_append, List.length_singleton] at hE
        exact ⟨(HFC.out.trans (HFE.out.here (by simp))).trans hFS, .inr ⟨Int.not_lt.2 HOV.out, rfl, _, (HBC.out.fr HFE.out (by simp)).set 0 (.slice A9 (s.fs.length + 1) c9), hE.fr hFS (fun g' hg' _ hc => HP.out (by rw [← List.mem_singleton.1 hc]; exact hg'))⟩⟩
      have HFIN := hid hFin
      clear hFin c0 x0 x1 x2 x3 c0' x0' x1' x2' x3' c0e x0e x1e x2e x3e c0b
      go_wp2_with fail
      go_ret
      exact HFIN.out
end Go.Proofs.YtklnpooninbogaaGreat
