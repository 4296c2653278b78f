import Derived.Test.YtklnpooninbogaaGreatDoorTPLen
import Derived.Test.YtklnpooninbogaaGreatDoorTRPr2
import Derived.Test.YtklnpooninbogaaGreatDoorTSm2
namespace Go.Proofs.YtklnpooninbogaaGreatDoor
open Go Go.Proofs Go.RowKit

/-! law20.TreePrints. -/

set_option maxRecDepth 200000 in
set_option maxHeartbeats 6400000 in
theorem lawTP (m m2 : Nat) (t u : Tr) (vt vu cv : Value) (cs : List ByteArray) (P P' : Nat → Prop) (w : World) (hT : TrV w P m t vt) (hU : TrV w P' m2 u vu) (hcv : ConsV w cv cs) (hat : AllN Q64 m t) (hct : ctA m t ≤ 1048576) (hcu : ctA m2 u ≤ 1048576) (hcs : ∀ s ∈ cs, s.size ≤ 1048576) (hnm : NamesAt w) (hnw : NumW w) :
    Calls Tryz.prog 5 #[vt, vu, cv] w fun e w' => e = .returned (.bool true) ∧ Fr [] w w' := by
  have hshort := prT_short cs hcs m t hat hct
  obtain ⟨st, rfl, hkt⟩ := hT
  obtain ⟨su, rfl, hku⟩ := hU
  obtain ⟨Ac, cc, rfl, hcl, hcx⟩ := hcv
  obtain ⟨N, hN⟩ : ∃ N, N = cs.length := ⟨_, rfl⟩
  rw [← hN]
  have hcv : ConsV w (.slice Ac N cc) cs := ⟨Ac, cc, by rw [hN], hcl, hcx⟩
  have hNl : N ≤ 9223372036854775807 := by unfold maxLen at hcl; omega
  have B0 := Blk.new w (trCells t.k t.t t.f t.b st) 38
  have hF0 : Fr [] w (w.alloc (.cells (trCells t.k t.t t.f t.b st).toArray 38)) := (Fr.refl _ w).alloc _
  have B1 := Blk.new (w.alloc (.cells (trCells t.k t.t t.f t.b st).toArray 38)) (trCells u.k u.t u.f u.b su) 38
  have hF1 : Fr [] w ((w.alloc (.cells (trCells t.k t.t t.f t.b st).toArray 38)).alloc (.cells (trCells u.k u.t u.f u.b su).toArray 38)) := hF0.alloc _
  have B0' := B0.alloc (.cells (trCells u.k u.t u.f u.b su).toArray 38)
  have hTT : ∀ wx, Fr [] w wx → TrV wx P m t (trAgg t.k t.t t.f t.b st) := fun wx h => ⟨st, rfl, hkt.fr h (by simp)⟩
  have hUU : ∀ wx, Fr [] w wx → TrV wx P' m2 u (trAgg u.k u.t u.f u.b su) := fun wx h => ⟨su, rfl, hku.fr h (by simp)⟩
  have HTT := hid hTT
  have HUU := hid hUU
  have HCV := hid hcv
  have HSH := hid hshort
  have HNM := hid hnm
  have HNW := hid hnw
  have HAT := hid hat
  have HCT := hid hct
  have HCU := hid hcu
  have HB0 := hid B0'
  have HB1 := hid B1
  have HF1 := hid hF1
  have HNl := hid hNl
  have hnm1 := hnm.fr hF1
  clear hTT hUU hcv hshort hnm hnw hat hct hcu B0 B0' B1 hF0 hF1 hkt hku hcx hcl hcs hNl
  unfold trAgg
  go_enter Tryz.func5, Tryz.ntmps5
  go_wp2_with fail
  refine (awake20 _ hnm1).mono ?_
  rintro e w1 ⟨rfl, hF1⟩
  have HFa := hid (HF1.out.trans hF1)
  have hB0 := HB0.out.fr hF1 (by simp)
  have hB1 := HB1.out.fr hF1 (by simp)
  have HB0a := hid hB0
  have HB1a := hid hB1
  obtain ⟨b0, hb0⟩ : ∃ b0, b0 = w.heap.size := ⟨_, rfl⟩
  have e1 : (w.alloc (.cells (trCells t.k t.t t.f t.b st).toArray 38)).heap.size = w.heap.size + 1 := by unfold World.alloc; exact Array.size_push _
  rw [e1] at hB1 HB1a
  obtain ⟨b1, hb1⟩ : ∃ b1, b1 = w.heap.size + 1 := ⟨_, rfl⟩
  rw [← hb1] at hB1 HB1a ⊢
  rw [← hb0] at hB0 HB0a ⊢
  have hS : ∀ wx, Fr [] w1 wx → wx.cell? ⟨b0, 0, none⟩ = some (.int .i64 t.k) ∧ wx.cell? ⟨b0, 1, none⟩ = some (.int .i64 t.t) ∧ wx.cell? ⟨b0, 2, none⟩ = some (.bool t.f) ∧ wx.cell? ⟨b0, 3, none⟩ = some (.int .u64 t.b) ∧ wx.cell? ⟨b0, 4, none⟩ = some st ∧ wx.cell? ⟨b1, 0, none⟩ = some (.int .i64 u.k) ∧ wx.cell? ⟨b1, 1, none⟩ = some (.int .i64 u.t) ∧ wx.cell? ⟨b1, 2, none⟩ = some (.bool u.f) ∧ wx.cell? ⟨b1, 3, none⟩ = some (.int .u64 u.b) ∧ wx.cell? ⟨b1, 4, none⟩ = some su := fun wx hx =>
    ⟨(HB0a.out.fr hx (by simp)).cell (i := 0) rfl, (HB0a.out.fr hx (by simp)).cell (i := 1) rfl, (HB0a.out.fr hx (by simp)).cell (i := 2) rfl, (HB0a.out.fr hx (by simp)).cell (i := 3) rfl, (HB0a.out.fr hx (by simp)).cell (i := 4) rfl,
     (HB1a.out.fr hx (by simp)).cell (i := 0) rfl, (HB1a.out.fr hx (by simp)).cell (i := 1) rfl, (HB1a.out.fr hx (by simp)).cell (i := 2) rfl, (HB1a.out.fr hx (by simp)).cell (i := 3) rfl, (HB1a.out.fr hx (by simp)).cell (i := 4) rfl⟩
  obtain ⟨x0, x1, x2, x3, x4, y0, y1, y2, y3, y4⟩ := hS w1 (Fr.refl [] w1)
  have HS := hid hS
  have HN := hid hN
  clear hnm1 hB0 hB1 hF1 hS hb0 hb1 e1 hN
  obtain ⟨bt, hbt⟩ : ∃ bt, bt = smallB m t := ⟨_, rfl⟩
  obtain ⟨bu, hbu⟩ : ∃ bu, bu = smallB m2 u := ⟨_, rfl⟩
  have hst : ∀ wx, Fr [] w wx → Calls Tryz.prog 15 #[.agg #[.int .i64 t.k, .int .i64 t.t, .bool t.f, .int .u64 t.b, st]] wx fun e w' => e = .returned (.bool bt) ∧ Fr [] wx w' := fun wx h => by
    rw [hbt]; exact rSmall m t (trAgg t.k t.t t.f t.b st) P wx (HTT.out wx h) (Nat.le_trans HCT.out (by decide))
  have hsu : ∀ wx, Fr [] w wx → Calls Tryz.prog 15 #[.agg #[.int .i64 u.k, .int .i64 u.t, .bool u.f, .int .u64 u.b, su]] wx fun e w' => e = .returned (.bool bu) ∧ Fr [] wx w' := fun wx h => by
    rw [hbu]; exact rSmall m2 u (trAgg u.k u.t u.f u.b su) P' wx (HUU.out wx h) (Nat.le_trans HCU.out (by decide))
  have HST := hid hst
  have HSU := hid hsu
  clear hst hsu hbt hbu
  go_wp2_with fail
  refine (HST.out _ HFa.out).mono ?_
  rintro e w2 ⟨rfl, hF2⟩
  obtain ⟨x0, x1, x2, x3, x4, y0, y1, y2, y3, y4⟩ := HS.out w2 hF2
  have HF2 : Hid (Fr [] w1 w2) := hid hF2
  clear hF2
  cases bt with
  | false =>
    go_wp2_with fail
    go_ret
    exact ⟨rfl, HFa.out.trans HF2.out⟩
  | true =>
    go_wp2_with fail
    refine (HSU.out _ (HFa.out.trans HF2.out)).mono ?_
    rintro e w3 ⟨rfl, hF3⟩
    obtain ⟨x0, x1, x2, x3, x4, y0, y1, y2, y3, y4⟩ := HS.out w3 (HF2.out.trans hF3)
    have HF3 : Hid (Fr [] w w3) := hid (HFa.out.trans (HF2.out.trans hF3))
    have HF13 : Hid (Fr [] w1 w3) := hid (HF2.out.trans hF3)
    clear hF3
    cases bu with
    | false =>
      go_wp2_with fail
      go_ret
      exact ⟨rfl, HF3.out⟩
    | true =>
      by_cases hn : (100 : Int) < (N : Int)
      · go_wp2_with fail
        go_ret
        exact ⟨rfl, HF3.out⟩
      · go_wp2_with fail
        have hw1 : ∀ wx, Fr [] w wx → Calls Tryz.prog 13 #[.agg #[.int .i64 t.k, .int .i64 t.t, .bool t.f, .int .u64 t.b, st], .slice Ac N cc] wx (NumPost (prT cs srcT m t) wx) := fun wx h =>
          tPrint srcT Q64 m t (trAgg t.k t.t t.f t.b st) (.slice Ac N cc) cs P wx (fun w' hw' g c hq w'' hw'' => shNum g c hq.1 hq.2 w'' (HNW.out.fr ((h.trans hw').trans hw''))) (HNM.out.fr h) (HCV.out.fr h (by simp)) (HTT.out wx h) HAT.out HSH.out
        have hw2 : ∀ wx, Fr [] w wx → Calls Tryz.prog 16 #[.agg #[.int .i64 t.k, .int .i64 t.t, .bool t.f, .int .u64 t.b, st], .slice Ac N cc] wx (NumPost (prT cs srcT m t) wx) := fun wx h =>
          rPrintT srcT Q64 cs m t (trAgg t.k t.t t.f t.b st) (.slice Ac N cc) P wx (fun f b hq w' => by
            obtain ⟨n, rfl⟩ := Int.eq_ofNat_of_zero_le hq.1
            exact rNumber f n (by have := hq.2; unfold Lt64; omega) w') (HCV.out.fr h (by simp)) (HTT.out wx h) HAT.out HSH.out
        have hw3 : ∀ wx, Fr [] w wx → Calls Tryz.prog 17 #[.agg #[.int .i64 t.k, .int .i64 t.t, .bool t.f, .int .u64 t.b, st], .agg #[.int .i64 u.k, .int .i64 u.t, .bool u.f, .int .u64 u.b, su]] wx (SamePost t u wx) := fun wx h =>
          tSameT m m2 t u (trAgg t.k t.t t.f t.b st) (trAgg u.k u.t u.f u.b su) P P' wx (HTT.out wx h) (HUU.out wx h)
        have hw4 : ∀ wx, Fr [] w wx → Calls Tryz.prog 11 #[.agg #[.int .i64 t.k, .int .i64 t.t, .bool t.f, .int .u64 t.b, st], .agg #[.int .i64 u.k, .int .i64 u.t, .bool u.f, .int .u64 u.b, su]] wx (SamePost t u wx) := fun wx h =>
          rSame m m2 t u (trAgg t.k t.t t.f t.b st) (trAgg u.k u.t u.f u.b su) P P' wx (HTT.out wx h) (HUU.out wx h)
        have hw5 : ∀ wx, Fr [] w wx → Calls Tryz.prog 17 #[.agg #[.int .i64 t.k, .int .i64 t.t, .bool t.f, .int .u64 t.b, st], .agg #[.int .i64 t.k, .int .i64 t.t, .bool t.f, .int .u64 t.b, st]] wx (fun e w' => e = .returned (.bool true) ∧ Fr [] wx w') := fun wx h => by
          have := tSameT m m t t (trAgg t.k t.t t.f t.b st) (trAgg t.k t.t t.f t.b st) P P wx (HTT.out wx h) (HTT.out wx h)
          unfold SamePost at this
          rw [sameB_refl] at this
          exact this
        unfold NumPost at hw1 hw2
        unfold SamePost at hw3 hw4
        obtain ⟨T, hT⟩ : ∃ T, T = prT cs srcT m t := ⟨_, rfl⟩
        obtain ⟨B, hB⟩ : ∃ B, B = sameB t u := ⟨_, rfl⟩
        rw [← hT] at hw1 hw2
        rw [← hB] at hw3 hw4
        have H1 := hid hw1
        have H2 := hid hw2
        have H3 := hid hw3
        have H4 := hid hw4
        have H5 := hid hw5
        have HK : Hid (∀ wx, Fr [] w3 wx → wx.cell? ⟨b0, 0, none⟩ = some (.int .i64 t.k) ∧ wx.cell? ⟨b0, 1, none⟩ = some (.int .i64 t.t) ∧ wx.cell? ⟨b0, 2, none⟩ = some (.bool t.f) ∧ wx.cell? ⟨b0, 3, none⟩ = some (.int .u64 t.b) ∧ wx.cell? ⟨b0, 4, none⟩ = some st ∧ wx.cell? ⟨b1, 0, none⟩ = some (.int .i64 u.k) ∧ wx.cell? ⟨b1, 1, none⟩ = some (.int .i64 u.t) ∧ wx.cell? ⟨b1, 2, none⟩ = some (.bool u.f) ∧ wx.cell? ⟨b1, 3, none⟩ = some (.int .u64 u.b) ∧ wx.cell? ⟨b1, 4, none⟩ = some su) := hid (fun wx h => HS.out wx (HF13.out.trans h))
        have hs0 := HK.out w3.drew ((Fr.refl [] w3).drew)
        clear hw1 hw2 hw3 hw4 hw5 hT hB HST HSU HSH HNM HNW HAT HCT HCU HTT HUU HCV HS
        go_region_held3 (fun w' => w'.cell? ⟨b0, 0, none⟩ = some (.int .i64 t.k) ∧ w'.cell? ⟨b0, 1, none⟩ = some (.int .i64 t.t) ∧ w'.cell? ⟨b0, 2, none⟩ = some (.bool t.f) ∧ w'.cell? ⟨b0, 3, none⟩ = some (.int .u64 t.b) ∧ w'.cell? ⟨b0, 4, none⟩ = some st ∧ w'.cell? ⟨b1, 0, none⟩ = some (.int .i64 u.k) ∧ w'.cell? ⟨b1, 1, none⟩ = some (.int .i64 u.t) ∧ w'.cell? ⟨b1, 2, none⟩ = some (.bool u.f) ∧ w'.cell? ⟨b1, 3, none⟩ = some (.int .u64 u.b) ∧ w'.cell? ⟨b1, 4, none⟩ = some su)
          (first
            | (with_reducible exact hs0)
            | (with_reducible exact hsA)
            | (with_reducible exact hsB)
            | (with_reducible exact hsC)
            | (with_reducible exact hsD)
            | (with_reducible exact hsE)
            | go_keep)
          (first
            | (go_at_call 13; refine (H1.out _ ?_).mono ?_; (exact HF3.out.drew); rintro e wA ⟨rfl, hF⟩; unfold str; have HFA : Hid (Fr [] w3 wA) := hid (((Fr.refl [] w3).drew).trans hF); have hsA := HK.out wA HFA.out; clear hF)
            | (go_at_call 16; refine (H2.out _ ?_).mono ?_; (exact HF3.out.trans HFA.out); rintro e wB ⟨rfl, hF⟩; unfold str; have HFB : Hid (Fr [] w3 wB) := hid (HFA.out.trans hF); have hsB := HK.out wB HFB.out; clear hF)
            | (go_at_call 11; refine (H4.out _ ?_).mono ?_; (exact HF3.out.trans HFC.out); rintro e wD ⟨rfl, hF⟩; have HFD : Hid (Fr [] w3 wD) := hid (HFC.out.trans hF); have hsD := HK.out wD HFD.out; clear hF)
            | (go_at_call 17; (with_reducible refine (H3.out _ ?_).mono ?_); (exact HF3.out.trans HFB.out); rintro e wC ⟨rfl, hF⟩; have HFC : Hid (Fr [] w3 wC) := hid (HFB.out.trans hF); have hsC := HK.out wC HFC.out; clear hF)
            | (go_at_call 17; (with_reducible refine (H5.out _ ?_).mono ?_); (exact HF3.out.trans HFD.out); rintro e wE ⟨rfl, hF⟩; have HFE : Hid (Fr [] w3 wE) := hid (HFD.out.trans hF); have hsE := HK.out wE HFE.out; clear hF))
        all_goals
          go_wp2_with fail
          go_ret
          exact ⟨rfl, HF3.out.trans HFE.out⟩
end Go.Proofs.YtklnpooninbogaaGreatDoor
