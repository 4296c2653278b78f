import Derived.Test.YtklnpooninbogaaGreatDoorTRPr
namespace Go.Proofs.YtklnpooninbogaaGreatDoor
open Go Go.Proofs Go.RowKit

set_option maxRecDepth 100000 in
set_option maxHeartbeats 6400000 in
theorem rPrintT (num : Bool → Int → List UInt8) (Q : Bool → Int → Prop) (cs : List ByteArray) : ∀ m, RPr num Q cs m := by
  intro m
  induction m using Nat.strongRecOn with
  | _ m ih =>
    intro t v cv P w hnum hcv hT hall hlen
    obtain ⟨sv, rfl, hk⟩ := hT
    obtain ⟨A', c', rfl⟩ := hk.form
    have B0 := Blk.new w (trCells t.k t.t t.f t.b (.slice A' t.ks.length c')) 38
    have hF0 : Fr [] w (w.alloc (.cells (trCells t.k t.t t.f t.b (.slice A' t.ks.length c')).toArray 38)) := (Fr.refl _ w).alloc _
    have HF0 := hid hF0
    have HB0 := hid B0
    obtain ⟨Ac, cc, rfl, hcl⟩ := (show ∃ Ac cc, cv = .slice Ac cs.length cc ∧ cs.length ≤ 9223372036854775807 from by obtain ⟨Ac, cc, e, h, _⟩ := hcv; exact ⟨Ac, cc, e, by unfold maxLen at h; omega⟩)
    have c0 := B0.cell (i := 0) rfl
    obtain ⟨TX, hTX⟩ : ∃ TX, TX = prT cs num m t := ⟨_, rfl⟩
    rw [← hTX]
    have HTX := hid hTX
    by_cases hN : isNum t = true
    · have e := prT_num (cs := cs) (num := num) (m := m) hN
      have hq := hall.head hN
      have hn := hnum _ _ hq
      have e2 : TX = num t.f t.b := by rw [hTX, e]
      rw [← e2] at hn
      have HNN := hid hn
      have h7 : (t.k == 7) = true ∨ ((t.k == 7) = false ∧ (t.k == 8) = true) := by
        simp [isNum] at hN ⊢; omega
      have c2 := B0.cell (i := 2) rfl
      have c3 := B0.cell (i := 3) rfl
      clear hN e hq hn hnum hcv hall hlen ih hk hF0 B0 e2 hTX
      unfold trAgg
      rcases h7 with h7 | ⟨h7, h8⟩
      · go_enter Tryz.func16, Tryz.ntmps16
        go_wp2_with fail
        refine (HNN.out _).mono ?_
        rintro e w1 ⟨rfl, hF1⟩
        unfold str
        go_wp2_with fail
        go_ret
        exact ⟨rfl, HF0.out.trans hF1⟩
      · go_enter Tryz.func16, Tryz.ntmps16
        go_wp2_with fail
        refine (HNN.out _).mono ?_
        rintro e w1 ⟨rfl, hF1⟩
        unfold str
        go_wp2_with fail
        go_ret
        exact ⟨rfl, HF0.out.trans hF1⟩
    have hN : isNum t = false := by simpa using hN
    have h7 : (t.k == 7) = false := by simp [isNum] at hN ⊢; omega
    have h8 : (t.k == 8) = false := by simp [isNum] at hN ⊢; omega
    by_cases hC : isCon cs.length t = true
    · have e := prT_con (cs := cs) (num := num) (m := m) hN hC
      obtain ⟨hk1, ht0, ht1⟩ : t.k = 1 ∧ 0 ≤ t.t ∧ t.t < cs.length := by simpa [isCon, and_assoc] using hC
      have g2 : (t.k == 2) = false := by simp; omega
      have g3 : (t.k == 3) = false := by simp; omega
      have g4 : (t.k == 4) = false := by simp; omega
      have g6 : (t.k == 6) = false := by simp; omega
      have g9 : (t.k == 9) = false := by simp; omega
      have g10 : (t.k == 10) = false := by simp; omega
      have g1 : (t.k == 1) = true := by simpa using hk1
      obtain ⟨A, c, ev, hcl2, hcs⟩ := hcv
      cases ev
      obtain ⟨nm, hnmm⟩ : ∃ nm, cs[t.t.toNat]? = some nm := ⟨_, List.getElem?_eq_getElem (by omega)⟩
      have hgd : cs.getD t.t.toNat ⟨#[]⟩ = nm := by rw [List.getD_eq_getElem?_getD, hnmm]; rfl
      rw [hgd] at e
      obtain ⟨gc, oc, rfl, hgc, hcell⟩ := hcs _ _ hnmm
      have hcv : ConsV w (.slice (some ⟨gc, oc, none⟩) cs.length cc) cs := ⟨_, _, rfl, hcl2, fun i s hs => hcs i s hs⟩
      obtain ⟨W, hW⟩ : ∃ W, W = w.alloc (.cells #[.int .i64 t.k, .int .i64 t.t, .bool t.f, .int .u64 t.b, .slice A' t.ks.length c'] 38) := ⟨_, rfl⟩
      have hFW : Fr [] w W := by rw [hW]; exact (Fr.refl _ w).alloc _
      have hBW : Blk W w.heap.size (trCells t.k t.t t.f t.b (.slice A' t.ks.length c')) 38 := by rw [hW]; exact Blk.new w _ _
      have hF1 := hFW.drew
      have q1 : W.drew.cell? ⟨gc, oc + t.t.toNat * 2, none⟩ = some (.string nm) := (cell_fr hF1 (by simp) hgc (oc + t.t.toNat * 2)).trans hcell
      have hcall := rKids num Q cs m ih t.ks (.slice A' t.ks.length c') (.slice (some ⟨gc, oc, none⟩) cs.length cc) nm P W.drew hnum (hcv.fr hF1 (by simp)) (hk.fr hF1 (by simp)) (fun m' x hm hx => by subst hm; exact hall.2 x hx) (by rw [← e]; exact hlen)
      rw [← e, ← hTX] at hcall
      have HCALL := hid hcall
      have HF1 := hid hF1
      have HW := hid hW
      have c0 := hBW.cell (i := 0) rfl
      have c1 := hBW.cell (i := 1) rfl
      have d1 := hBW.drew.cell (i := 1) rfl
      have d4 := hBW.drew.cell (i := 4) rfl
      clear hN e hnum hcs hall hlen ih hk hF0 hC hk1 hnmm hgd hcell hcv B0 hcl2 hTX hcall hF1 hW hFW hBW
      unfold trAgg
      go_enter Tryz.func16, Tryz.ntmps16
      go_upto_region 1 with fail
      rw [← HW.out]
      go_wp2_with fail
      refine wp_region_still_tail 9 (by kernel_rfl) (by kernel_rfl) ?_
      simp only [List.take_succ_cons, List.take_zero, List.drop_succ_cons, List.drop_zero]
      change wpStill _ _ W.drew (fun a' => wpList _ _ _ _ a' W.drew) _ _
      repeat still_step
      refine wpStill_nil ?_
      go_wp2_with fail
      refine HCALL.out.mono ?_
      rintro e w5 ⟨rfl, hF5⟩
      unfold str
      go_wp2_with fail
      go_ret
      exact ⟨rfl, HF1.out.trans hF5⟩
    · have hC : isCon cs.length t = false := by simpa using hC
      have e := prT_else (cs := cs) (num := num) (m := m) hN hC
      have c1 := B0.cell (i := 1) rfl
      rw [← hTX] at e
      have hcc : t.k = 1 → t.t < 0 ∨ (cs.length : Int) ≤ t.t := fun h => by simp [isCon, h] at hC; omega
      have hk7 : t.k ≠ 7 := by simpa using h7
      have hk8 : t.k ≠ 8 := by simpa using h8
      have HE := hid e
      have HCC := hid hcc
      clear hN e hnum hcv hall hlen ih hk hF0 hC B0 hTX hcc
      unfold trAgg
      by_cases k2 : t.k = 2
      · have g2 : (t.k == 2) = true := by simpa using k2
        have e : TX = [60, 116, 104, 117, 110, 107, 62] := by rw [HE.out, k2]; rfl
        have HX := hid e
        clear e k2
        go_enter Tryz.func16, Tryz.ntmps16
        go_wp2_with fail
        go_ret
        exact ⟨by rw [HX.out]; rfl, HF0.out⟩
      have g2 : (t.k == 2) = false := by simpa using k2
      by_cases k3 : t.k = 3
      · have g3 : (t.k == 3) = true := by simpa using k3
        have e : TX = [60, 102, 117, 110, 62] := by rw [HE.out, k3]; rfl
        have HX := hid e
        clear e k3
        go_enter Tryz.func16, Tryz.ntmps16
        go_wp2_with fail
        go_ret
        exact ⟨by rw [HX.out]; rfl, HF0.out⟩
      have g3 : (t.k == 3) = false := by simpa using k3
      by_cases k4 : t.k = 4
      · have g4 : (t.k == 4) = true := by simpa using k4
        have e : TX = [60, 112, 97, 112, 62] := by rw [HE.out, k4]; rfl
        have HX := hid e
        clear e k4
        go_enter Tryz.func16, Tryz.ntmps16
        go_wp2_with fail
        go_ret
        exact ⟨by rw [HX.out]; rfl, HF0.out⟩
      have g4 : (t.k == 4) = false := by simpa using k4
      by_cases k6 : t.k = 6
      · have g6 : (t.k == 6) = true := by simpa using k6
        have e : TX = [60, 104, 111, 108, 101, 62] := by rw [HE.out, k6]; rfl
        have HX := hid e
        clear e k6
        go_enter Tryz.func16, Tryz.ntmps16
        go_wp2_with fail
        go_ret
        exact ⟨by rw [HX.out]; rfl, HF0.out⟩
      have g6 : (t.k == 6) = false := by simpa using k6
      by_cases k9 : t.k = 9
      · have g9 : (t.k == 9) = true := by simpa using k9
        have e : TX = [60, 119, 101, 97, 107, 62] := by rw [HE.out, k9]; rfl
        have HX := hid e
        clear e k9
        go_enter Tryz.func16, Tryz.ntmps16
        go_wp2_with fail
        go_ret
        exact ⟨by rw [HX.out]; rfl, HF0.out⟩
      have g9 : (t.k == 9) = false := by simpa using k9
      by_cases k10 : t.k = 10
      · have g10 : (t.k == 10) = true := by simpa using k10
        have e : TX = [60, 116, 111, 109, 98, 62] := by rw [HE.out, k10]; rfl
        have HX := hid e
        clear e k10
        go_enter Tryz.func16, Tryz.ntmps16
        go_wp2_with fail
        go_ret
        exact ⟨by rw [HX.out]; rfl, HF0.out⟩
      have g10 : (t.k == 10) = false := by simpa using k10
      have e : TX = [60, 62] := by
        rw [HE.out]
        unfold nmK
        rw [if_neg k2, if_neg k3, if_neg k4, if_neg k6, if_neg k9, if_neg k10]
        rfl
      have HX := hid e
      clear e k2 k3 k4 k6 k9 k10 HE
      by_cases k1 : t.k = 1
      · have g1 : (t.k == 1) = true := by simpa using k1
        have hcc := HCC.out k1
        clear k1
        by_cases r1 : t.t < 0
        · have r1' : ¬ (0 ≤ t.t) := by omega
          clear hcc
          go_enter Tryz.func16, Tryz.ntmps16
          go_wp2_with fail
          go_ret
          exact ⟨by rw [HX.out]; rfl, HF0.out⟩
        · have r2 : ¬ (t.t < (cs.length : Int)) := by omega
          have r1' : 0 ≤ t.t := by omega
          clear hcc
          go_enter Tryz.func16, Tryz.ntmps16
          go_wp2_with fail
          go_ret
          exact ⟨by rw [HX.out]; rfl, HF0.out⟩
      · have g1 : (t.k == 1) = false := by simpa using k1
        clear k1
        go_enter Tryz.func16, Tryz.ntmps16
        go_wp2_with fail
        go_ret
        exact ⟨by rw [HX.out]; rfl, HF0.out⟩
end Go.Proofs.YtklnpooninbogaaGreatDoor
