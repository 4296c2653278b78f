
import Derived.Test.YtklnpooninbogaaGreatMYInv2
namespace Go.Proofs.YtklnpooninbogaaGreat
open Go Go.Proofs Go.RowKit
def JWPost (E : CE) (a : DA) (nn : Nat) (e : Ending) (w' : World) : Prop := e = .returned (.bool true) ∧ ∃ S' D', PQ E a (nn + 1) S' D' w'
set_option maxRecDepth 100000 in
set_option maxHeartbeats 3200000 in
theorem yWeak (E : CE) (a : DA) (nn : Nat) (S : CY) (D : DPs) (w : World) (h : PQ E a nn S D w) (hnn : nn ≤ 120) (key value : Int) (hkv : Val S.obs key) (hvv : Val S.obs value) :
    Calls Tryz.prog 40 #[.pointer (some ⟨a.pb, 0, none⟩), .int .i64 key, .int .i64 value] w (JWPost E a nn) := by
  obtain ⟨hj, ht⟩ := h
  by_cases hk0 : key = 0
  · subst hk0
    have HF : Hid (JWPost E a nn (.returned (.bool true)) w) := hid ⟨rfl, S, D, hj, ht.le (by omega)⟩
    clear hj ht hkv
    go_enter Tryz.func40, Tryz.ntmps40
    go_wp2_with fail
    go_ret
    exact HF.out
  · have c4 := Blk.cell hj.dr.p (i := 4) rfl
    obtain ⟨Aw, cw, ew⟩ := hj.dr.wk.form
    obtain ⟨N, hN⟩ : ∃ N, N = S.rw.length := ⟨_, rfl⟩
    rw [List.length_map, List.length_reverse, ← hN] at ew
    rw [ew] at c4
    have hNb : N ≤ 200 := by have := ht.rwl; have := ht.cnt; omega
    have hd : Hd 9 4 N S.s.parity := ⟨by decide, by decide, by have := hj.ci.mh.par; omega, by have := hj.ci.mh.par; omega, by decide, by decide, by omega, by omega⟩
    have hrg := ht.rg hj.ci (by omega) (fun f hf => (hj.fr2 f hf).2.2)
    have HA := hid (jAlloc E a S _ _ D w hj hrg 9 N 4 hd)
    have HJ := hid hj
    have HT := hid ht
    have HK0 := hid hk0
    have HKV := hid hkv
    have HVV := hid hvv
    have HNB := hid hNb
    have HN := hid hN
    have HEW := hid ew
    clear hj ht hkv hvv hNb hN hd hrg ew
    go_enter Tryz.func40, Tryz.ntmps40
    go_wp2_with fail
    refine HA.out.mono ?_
    rintro e w1 (⟨rfl, hj1⟩ | ⟨q, p, s1, A1, z1, g, rfl, hne, hw1, hz1, hp1, hj1⟩)
    · have c6 := Blk.cell hj1.dr.p (i := 6) rfl
      have HF : Hid (JWPost E a nn (.returned (.bool true)) w1) := hid ⟨rfl, S, _, hj1, HT.out.le (by omega)⟩
      clear hj1 c4
      go_wp2_with fail
      go_ret
      exact HF.out
    · have ho1 : (⟨q, p, 9, 4, N, 0⟩ : Ob) ∈ S.obs ++ [⟨q, p, 9, 4, N, 0⟩] := List.mem_append_right _ (List.mem_singleton.2 rfl)
      have hnr : (⟨q, p, 9, 4, N, 0⟩ : Ob) ∉ S.rw := fun hc => hne _ (HJ.out.ci.rin _ hc).1 rfl
      have HS1 := hid (jSet E a _ _ _ _ w1 hj1 ⟨q, p, 9, 4, N, 0⟩ ho1 0 (show 0 < 4 by decide) key (HKV.out.app _).ob (fun hc => absurd hc hnr))
      have HW1 := hid hw1
      have HZ1 := hid hz1
      have HNE := hid hne
      have HNR := hid hnr
      have HO1 := hid ho1
      have HP1 := hid hp1
      clear hj1 hw1 hz1 hne hnr ho1 hp1 c4
      go_wp2_with fail
      refine HS1.out.mono ?_
      rintro e w2 ⟨rfl, s2, hw2, hpa2, hj2⟩
      have HS2 := hid (jSet E a _ _ _ _ w2 hj2 ⟨q, p, 9, 4, N, 0⟩ HO1.out 1 (show 1 < 4 by decide) value (HVV.out.app _).ob (fun hc => absurd hc HNR.out))
      have HW2 := hid hw2
      clear hj2 hw2 hpa2
      go_wp2_with fail
      refine HS2.out.mono ?_
      rintro e w3 ⟨rfl, s3, hw3, hpa3, hj3⟩
      have HS3 := hid (jSet E a _ _ _ _ w3 hj3 ⟨q, p, 9, 4, N, 0⟩ HO1.out 2 (show 2 < 4 by decide) value (HVV.out.app _).ob (fun hc => absurd hc HNR.out))
      have HW3 := hid hw3
      clear hj3 hw3 hpa3
      go_wp2_with fail
      refine HS3.out.mono ?_
      rintro e w4 ⟨rfl, s4, hw4, hpa4, hj4⟩
      -- all words
      have hall : (∀ o ∈ S.obs, ∀ j, j < o.n → s4.wd o j = S.s.wd o j) ∧ s4.wd ⟨q, p, 9, 4, N, 0⟩ 0 = key ∧ s4.wd ⟨q, p, 9, 4, N, 0⟩ 1 = value ∧ s4.wd ⟨q, p, 9, 4, N, 0⟩ 2 = value ∧ s4.wd ⟨q, p, 9, 4, N, 0⟩ 3 = 0 := by
        have k1 := HW1.out
        have k2 := HW2.out
        have k3 := HW3.out
        have kz := HZ1.out
        have kn := HNE.out
        have ko := HO1.out
        refine ⟨fun o ho j hj => ?_, ?_, ?_, ?_, ?_⟩
        · have hm := List.mem_append_left [(⟨q, p, 9, 4, N, 0⟩ : Ob)] ho
          rw [hw4 o hm j hj, if_neg (fun k => kn o ho k.1)]
          show s3.wd o j = _
          rw [k3 o hm j hj, if_neg (fun k => kn o ho k.1)]
          show s2.wd o j = _
          rw [k2 o hm j hj, if_neg (fun k => kn o ho k.1)]
          exact k1 o ho j hj
        · rw [hw4 _ ko 0 (show 0 < 4 by decide), if_neg (by simp)]
          show s3.wd _ 0 = _
          rw [k3 _ ko 0 (show 0 < 4 by decide), if_neg (by simp)]
          show s2.wd _ 0 = _
          rw [k2 _ ko 0 (show 0 < 4 by decide), if_pos (by simp)]
        · rw [hw4 _ ko 1 (show 1 < 4 by decide), if_neg (by simp)]
          show s3.wd _ 1 = _
          rw [k3 _ ko 1 (show 1 < 4 by decide), if_pos (by simp)]
        · rw [hw4 _ ko 2 (show 2 < 4 by decide), if_pos (by simp)]
        · rw [hw4 _ ko 3 (show 3 < 4 by decide), if_neg (by simp)]
          show s3.wd _ 3 = _
          rw [k3 _ ko 3 (show 3 < 4 by decide), if_neg (by simp)]
          show s2.wd _ 3 = _
          rw [k2 _ ko 3 (show 3 < 4 by decide), if_neg (by simp)]
          exact kz 3 (by decide)
      have d2 := Blk.cell hj4.dr.p (i := 2) rfl
      rw [hj4.ak] at d2
      have HT4 := hid (cTable E.kb E.hb E.mb E.tb S.c w4 (by have := hj4.cr.c; rw [hj4.cr.hb] at this; exact this))
      have HAD := hid (jAdd E a _ _ _ _ w4 hj4 ⟨q, p, 9, 4, N, 0⟩ HO1.out rfl rfl HNR.out (by
        rcases HKV.out with h1 | ⟨o, h1, h2, -⟩
        · exact absurd h1 HK0.out
        · exact ⟨o, List.mem_append_left _ h1, h2.trans hall.2.1.symm⟩) (by show S.rw.length + 1 ≤ 10000; have := HN.out; have := HNB.out; omega))
      have HALL := hid hall
      have HJ4 := hid hj4
      clear hall hj4 hw4 hpa4
      go_wp2_with fail
      refine HT4.out.mono ?_
      rintro e w4' ⟨rfl, rfl⟩
      go_wp2_with fail
      refine HAD.out.mono ?_
      rintro e w5 ⟨rfl, s5, hF5, hw5, hpa5, hc5, hi5⟩
      have hdr5 := HJ4.out.dr.fr hF5 (fun x hx => HJ4.out.fp0 x (by
        simp only [List.mem_cons, List.not_mem_nil, or_false] at hx
        rcases hx with e | e | e
        · exact fb_fp (by rw [e]; simp [HL.fp])
        · exact fb_fp (by rw [e]; simp [HL.fp])
        · exact .inl (.inr (.inr (.inl e))))) (wd' := s4.wd) (fun _ _ _ _ => rfl) (F' := FB E S) (fun _ _ h => h)
      have hone5 : ∀ x ∈ S.obs ++ [⟨q, p, 9, 4, N, 0⟩], ∀ y ∈ S.obs ++ [⟨q, p, 9, 4, N, 0⟩], x.p = y.p → x = y := fun x hx y hy e => hi5.mh.one hx hy e
      have hfbl : ∀ b, FB E S b → b < w5.heap.size := fun b hb => hc5.fbl b hb
      obtain ⟨Ar, cr, er⟩ := hdr5.row.form
      obtain ⟨M, hM⟩ : ∃ M, M = (S.rw.map Ob.p).length := ⟨_, rfl⟩
      rw [← hM] at er
      have q3 := Blk.cell hdr5.p (i := 3) rfl
      have r4 := Blk.cell hdr5.wb (i := 4) rfl
      have er' : D.c.row = .slice Ar M cr := er
      rw [show ({ D with m := mput D.m p (obV 9 (4 : Nat) N 0 g 4), G := fun x => if x = p then g else D.G x, lab := labU D.lab g (10 + p) } : DPs).c.row = .slice Ar M cr from er] at r4
      have HC5 := hid hc5
      have HI5 := hid hi5
      have HDR5 := hid hdr5
      have HW5 := hid hw5
      have HER := hid er'
      have HM := hid hM
      have HFBL := hid hfbl
      have HONE := hid hone5
      clear hF5 hpa5 hc5 hi5 hdr5 hw5 d2 er er' hM hfbl hone5
      rcases Nat.eq_zero_or_pos M with hM0 | hM0
      · have hG1 : ¬ ((0 : Int) < (M : Int)) := by omega
        have hdr6 : DR (FB E S) a (S.obs ++ [⟨q, p, 9, 4, N, 0⟩]) s5.wd E.gl (S.k.fs.map Fm.l) (S.rw.map Ob.p) (S.rw.reverse.map Ob.p) { D with m := mput D.m p (obV 9 (4 : Nat) N 0 g 4), G := fun x => if x = p then g else D.G x, lab := labU D.lab g (10 + p) } w5 := by
          refine HDR5.out.fr (Fr.refl [] w5) (by simp) (fun o ho j hj => ?_) (fun _ _ h => h)
          rw [HW5.out o ho j hj]
          split
          · rename_i hc
            have e := HONE.out o ho _ HO1.out hc.1
            subst e
            rw [hc.2, HALL.out.2.2.2.2]
            have hr : S.rw = [] := List.length_eq_zero_iff.1 (by have := HM.out; rw [List.length_map] at this; omega)
            have := HJ.out.ci.rch
            rw [hr] at this
            exact this
          · rfl
        have HDR6 := hid hdr6
        have HFW6 : Hid (Fr ([] : List Nat) w5 w5) := hid (Fr.refl _ _)
        clear hdr6 hM0
        go_wp2_with fail
        have hFa : Fr [] w5 ((w5.alloc (.cells #[.int .i64 p] 3)).drew) := ((Fr.refl [] w5).alloc _).drew
        have hFd : Fr [] w5 w5.drew := (Fr.refl [] w5).drew
        have x3 := Blk.cell HDR6.out.p (i := 3) rfl
        have x4 := Blk.cell HDR6.out.wb (i := 4) rfl
        have ep : ({ D with m := mput D.m p (obV 9 (4 : Nat) N 0 g 4), G := fun x => if x = p then g else D.G x, lab := labU D.lab g (10 + p) } : DPs).c.row = .slice Ar M cr := HER.out
        rw [ep] at x4
        have plt := Blk.lt HDR6.out.p
        have wlt := Blk.lt HDR6.out.wb
        have xd3 := (cell_fr hFd (by simp) plt 3).trans x3
        have xd4 := (cell_fr hFd (by simp) wlt 4).trans x4
        have xa3 := (cell_fr hFa (by simp) plt 3).trans x3
        have xa4 := (cell_fr hFa (by simp) wlt 4).trans x4
        have hone1 : Rowi ((w5.alloc (.cells #[.int .i64 p] 3)).drew) 0 (.slice (some ⟨w5.heap.size, 0, none⟩) 1 1) [p] := (Rowi.one w5 p (Nat.zero_le _)).drew
        have hrow6 := HDR6.out.row
        rw [ep] at hrow6
        have hsrc : Srci ((w5.alloc (.cells #[.int .i64 p] 3)).drew) Ar M (S.rw.map Ob.p) := by
          have := Rowi.src (hrow6.fr hFa (by simp))
          rw [← HM.out] at this
          exact this
        have hAM : Ar = none → M = 0 := rowi_nil hrow6 HM.out
        have hMb : 1 + M ≤ 1000000 := by have := HM.out; have := HN.out; have := HNB.out; rw [List.length_map] at *; omega
        have HO1' := hid hone1
        have HSRC := hid hsrc
        have HAM := hid hAM
        have HMB := hid hMb
        have HFA := hid hFa
        have HX3 := hid x3
        have HX4 := hid x4
        have HPLT := hid plt
        have HWLT := hid wlt
        clear hone1 hsrc hAM hMb hFa hFd plt wlt hrow6 ep x3 x4
        go_region_law (first
          | (refine step_appi (by rfl) _ _ (by rfl) 0 _ _ (by rfl) HO1'.out Ar M cr (S.rw.map Ob.p) (by rfl) HSRC.out HAM.out HMB.out (Nat.zero_le _) ?_; intro v9 w9 hR9 hF9 hown9; obtain ⟨A9, c9, n9, e9⟩ : ∃ A9 c9 n9, v9 = .slice A9 n9 c9 := (by obtain ⟨A9, c9, e⟩ := hR9.form; exact ⟨A9, c9, _, e⟩); subst e9; have hF69 : Fr [] w5 w9 := HFA.out.step hF9 (fun x hx => .inr (by simp [Value.ownBlock] at hx; omega)); have y93 := (cell_fr hF69 (by simp) HPLT.out 3).trans HX3.out; have y9 := Blk.frozen (Blk.fr HDR6.out.wb hF69 (by simp)) 4; have y94 := (cell_fr hF69 (by simp) HWLT.out 4).trans HX4.out; have HR9 := hid hR9; have HF9 := hid hF69; have HOW9 := hid hown9; clear hR9 hF9 hown9 hF69))
        all_goals
          obtain ⟨lab7, hdr7, -⟩ := HDR6.out.setRow (fun b hb => Nat.lt_of_lt_of_le (HFBL.out b hb) HFW6.out.size) HF9.out HR9.out (fun g hg => by
            rcases HOW9.out with h | h
            · rw [h] at hg; simp [Value.ownBlock] at hg; omega
            · rw [h] at hg; simp at hg; omega)
          obtain ⟨W7, hW7⟩ : ∃ W7, W7 = w9.setCell ⟨a.wb, 4, none⟩ (.slice A9 n9 c9) := ⟨_, rfl⟩
          rw [← hW7] at hdr7 ⊢
          have hsz7 : w5.heap.size ≤ W7.heap.size := by rw [hW7]; exact Nat.le_trans (Nat.le_trans HFW6.out.size HF9.out.size) (Nat.le_of_eq (by simp))
          have HF57 : Hid (Fr (a.wb :: ([] : List Nat)) w5 W7) := hid (by rw [hW7]; exact ((HFW6.out.here (fun x hx => List.mem_cons_of_mem _ hx)).trans (HF9.out.here (by simp))).set (by simp) _)
          have HSZ7 := hid hsz7
          clear hW7 hsz7 y93 y94 y9 xd3 xd4 xa3 xa4 r4 q3
          have z4 := Blk.cell hdr7.p (i := 4) rfl
          have HDR7 := hid hdr7
          have hwk7 := hdr7.wk
          rw [show ({ D with m := mput D.m p (obV 9 (4 : Nat) N 0 g 4), G := fun x => if x = p then g else D.G x, lab := labU D.lab g (10 + p) } : DPs).wv = .slice Aw N cw from HEW.out] at z4
          have hwk7' : Rowi W7 0 (.slice Aw N cw) (S.rw.reverse.map Ob.p) := by rw [← HEW.out]; exact hwk7
          have hlen7 : (S.rw.reverse.map Ob.p).length = N := by rw [List.length_map, List.length_reverse]; exact HN.out.symm
          have HWK7 := hid hwk7'
          have HL7 := hid hlen7
          clear hdr7 hwk7 hwk7' hlen7
          go_wp2_with (at_builtin; refine wpList_appi rfl _ _ rfl 0 _ _ rfl (HWK7.out.alloc _) (some ⟨W7.heap.size, 0, none⟩) 1 1 [p] rfl ?c1 (by simp) ?c2 (Nat.zero_le _) ?c3)
          case c1 => exact (Rowi.one W7 p (Nat.zero_le _)).src
          case c2 => have := HN.out; have := HNB.out; (try rw [HL7.out]); simp at *; omega
          case c3 =>
            intro v8 w8 hR8 hF8 hown8
            obtain ⟨A8, c8, n8, e8⟩ : ∃ A8 c8 n8, v8 = .slice A8 n8 c8 := by obtain ⟨A8, c8, e⟩ := hR8.form; exact ⟨A8, c8, _, e⟩
            subst e8
            have hF78 : Fr D.wv.ownBlock.toList W7 w8 := (((Fr.refl [] W7).alloc _).here (by simp)).trans (by rw [HEW.out]; exact hF8)
            have hpn : a.pb ∉ D.wv.ownBlock.toList := fun hc => by
              have h1 := HDR7.out.lx a.pb (by simpa using hc)
              have h2 := HDR7.out.lp
              omega
            have y8 := Blk.frozen (Blk.fr HDR7.out.p hF78 hpn) 4
            have z8 := Blk.cell (Blk.fr HDR7.out.p hF78 hpn) (i := 4) rfl
            have z5 := Blk.cell (Blk.fr HDR7.out.p hF78 hpn) (i := 5) rfl
            obtain ⟨lab8, hdr8, -⟩ := HDR7.out.setWks (fun b hb => Nat.lt_of_lt_of_le (HFBL.out b hb) HSZ7.out) hF78 hR8 (by
              show (Value.slice A8 n8 c8).ownBlock = D.wv.ownBlock ∨ _
              rw [HEW.out]
              rcases hown8 with h | h
              · exact .inl h
              · exact .inr ⟨_, h, by first | omega | (rw [World.size_alloc]; omega)⟩)
            have HF58 : Hid (Fr (a.pb :: ((a.wb :: ([] : List Nat)) ++ D.wv.ownBlock.toList)) w5 (w8.setCell ⟨a.pb, 4, none⟩ (.slice A8 n8 c8))) := hid (((HF57.out.here (fun x hx => List.mem_cons_of_mem _ (List.mem_append_left _ hx))).trans (hF78.here (fun x hx => List.mem_cons_of_mem _ (List.mem_append_right _ hx)))).set (by simp) _)
            have HDR8 := hid hdr8
            clear hR8 hF8 hown8 hF78 hpn hdr8 z4
            go_wp2_with (at_mapUpdate; refine wpList_mapUpdate_im _ rfl _ _ _ 34 rfl _ _ Tryz.underlying34 Tryz.underlying3 D.km D.kml rfl HDR8.out.kim N rfl (.int .i64 key) rfl ?_)
            intro wZ hIZ hFZ
            have hdrZ := HDR8.out.setKey hFZ hIZ
            have HFIN : Hid (JWPost E a nn (.returned (.bool true)) wZ) := hid (by
              have hFB : ∀ x ∈ a.pb :: ((a.wb :: ([] : List Nat)) ++ D.wv.ownBlock.toList), ¬ FB E S x := by
                intro x hx
                rcases List.mem_cons.1 hx with e | hx
                · rw [e]; exact (HDR5.out.sep a.pb (by rw [HDR5.out.lp]; decide)).2
                · rcases List.mem_append.1 hx with hx | hx
                  · rcases List.mem_cons.1 hx with e | e
                    · rw [e]; exact (HDR5.out.sep a.wb (by rw [HDR5.out.lw]; decide)).2
                    · cases e
                  · exact (HDR5.out.sep x (by rw [HDR5.out.lx x (by simpa using hx)]; decide)).2
              have hcr := (HC5.out.fr HF58.out (fun x hx => ⟨fun hc => hFB x hx (.inl hc), fun hc => hFB x hx (.inr (.inl hc)), fun hc => hFB x hx (.inr (.inr hc))⟩)).fr hFZ (fun x hx => by
                have hk := (HDR5.out.sep D.km (by rw [HDR5.out.lk]; decide)).2
                rw [List.mem_singleton.1 hx]
                exact ⟨fun hc => hk (.inl hc), fun hc => hk (.inr (.inl hc)), fun hc => hk (.inr (.inr hc))⟩)
              have hwS : ∀ o ∈ S.obs, ∀ j, j < o.n → s5.wd o j = S.s.wd o j := fun o ho j hj => by
                rw [HW5.out o (List.mem_append_left _ ho) j hj, if_neg (fun k => HNE.out o ho k.1)]
                exact HALL.out.1 o ho j hj
              have hw5o : ∀ j, j < 4 → j ≠ 3 → s5.wd ⟨q, p, 9, 4, N, 0⟩ j = s4.wd ⟨q, p, 9, 4, N, 0⟩ j := fun j hj hne => by
                rw [HW5.out _ HO1.out j hj, if_neg (fun k => hne k.2)]
              have hpt := HT.out.weak (S := S) HJ.out.ci (s' := s5) (A' := A1) (z' := z1) (t' := S.t.added p) (q := q) (p := p) (aux := N) (key := key) (value := value) (by have := HN.out; omega) (by have := HN.out; have := HNB.out; omega) hwS ((hw5o 0 (by decide) (by decide)).trans HALL.out.2.1) ((hw5o 1 (by decide) (by decide)).trans HALL.out.2.2.1) ((hw5o 2 (by decide) (by decide)).trans HALL.out.2.2.2.1) HKV.out HK0.out HVV.out
              refine ⟨rfl, _, { D with m := mput D.m p (obV 9 (4 : Nat) N 0 g 4), G := fun x => if x = p then g else D.G x, c := { D.c with row := .slice A9 n9 c9 }, wv := .slice A8 n8 c8, lab := lab8, kml := mput D.kml N (.int .i64 key) }, ⟨hcr, HI5.out, ?_, HJ.out.ah, HJ.out.asb, HJ.out.ak, HJ.out.fr2, HJ.out.room, HJ.out.used, HJ.out.fcnt, HJ.out.todo, HJ.out.qu, HJ.out.wkg, HJ.out.bl, HJ.out.hkp, HJ.out.rvv⟩, hpt⟩
              have e1 : ((⟨q, p, 9, 4, N, 0⟩ : Ob) :: S.rw).reverse.map Ob.p = S.rw.reverse.map Ob.p ++ [p] := by simp
              rw [show ({ S with s := s5, A := A1, z := z1, obs := S.obs ++ [⟨q, p, 9, 4, N, 0⟩], t := S.t.added p, rw := (⟨q, p, 9, 4, N, 0⟩ : Ob) :: S.rw } : CY).rw.reverse.map Ob.p = S.rw.reverse.map Ob.p ++ [p] from e1]
              first
                | exact hdrZ
                | (rw [List.map_reverse]; exact hdrZ))
            clear hIZ hFZ hdrZ y8 z8 z5
            go_wp2_with fail
            go_ret
            exact HFIN.out
      · have hlk := run_lookup_im (P := Tryz.prog) HDR5.out.im.drew Tryz.underlying66 Tryz.underlying3 (obZero _) p false
        have hgp : mget (mput D.m p (obV 9 (4 : Nat) N 0 g 4)) p = some (obV 9 (4 : Nat) N 0 g 4) := mget_mput_same _ _ _
        simp only [hgp] at hlk
        simp only [Option.getD_some, obV, if_neg (show ¬ false = true by decide)] at hlk
        rw [show ((4 : Nat) : Int) = 4 from rfl] at hlk
        have hfw := fieldW 9 4 N 0 g 4
        obtain ⟨y, r, hyr⟩ : ∃ y r, S.rw = y :: r := by
          cases e : S.rw with
          | nil => have := HM.out; rw [e] at this; simp at this; omega
          | cons y r => exact ⟨y, r, rfl⟩
        have hty : S.t.row = y.p := by have := HJ.out.ci.rch; rw [hyr] at this; exact this.1
        have hrow5 := HDR5.out.row
        rw [show ({ D with m := mput D.m p (obV 9 (4 : Nat) N 0 g 4), G := fun x => if x = p then g else D.G x, lab := labU D.lab g (10 + p) } : DPs).c.row = .slice Ar M cr from HER.out] at hrow5
        obtain ⟨gr, er, -, hgr, -, hMc, -, hcells⟩ := hrow5.at (by rw [← HM.out]; exact hM0)
        subst er
        have k0 := hcells 0 y.p (by rw [hyr]; rfl)
        have hdb := (HDR5.out.dob.blk _ HO1.out).2
        have hGp : ({ D with m := mput D.m p (obV 9 (4 : Nat) N 0 g 4), G := fun x => if x = p then g else D.G x, lab := labU D.lab g (10 + p) } : DPs).G p = g := if_pos rfl
        rw [hGp] at hdb
        have g3 := hdb.cell (i := 3) (v := .int .i64 (s4.wd ⟨q, p, 9, 4, N, 0⟩ 3)) rfl
        have f3 := hdb.frozen 3
        have q0 := Blk.cell HDR5.out.wb (i := 0) rfl
        have hM1 : ((0 : Int) < (M : Int)) := by omega
        have hdr6 : DR (FB E S) a (S.obs ++ [⟨q, p, 9, 4, N, 0⟩]) s5.wd E.gl (S.k.fs.map Fm.l) (S.rw.map Ob.p) (S.rw.reverse.map Ob.p) { D with m := mput D.m p (obV 9 (4 : Nat) N 0 g 4), G := fun x => if x = p then g else D.G x, lab := labU D.lab g (10 + p) } ((w5.setCell ⟨g, 3, none⟩ (.int .i64 y.p)).drew) := by
          refine HDR5.out.setWord (wd' := s5.wd) HONE.out HO1.out (j := 3) (v := y.p) ?_ ?_ (fun o' ho' i hi => by rw [← hty]; exact HW5.out o' ho' i hi)
          · rw [hGp]; exact ((Fr.refl [g] w5).set (by simp) _).drew
          · rw [hGp]; exact (hdb.set 3 _).drew
        have HDR6 := hid hdr6
        have HFW6 : Hid (Fr [g] w5 ((w5.setCell ⟨g, 3, none⟩ (.int .i64 y.p)).drew)) := hid (((Fr.refl [g] w5).set (by simp) _).drew)
        clear hdr6 hdb hcells hrow5 hM0 hyr hty hgp hGp
        go_wp2_with fail
        go_region
        obtain ⟨W6, hW6⟩ : ∃ W6, W6 = (w5.setCell ⟨g, 3, none⟩ (.int .i64 y.p)).drew := ⟨_, rfl⟩
        rw [← hW6] at HDR6 HFW6 ⊢
        clear hW6 hlk hfw k0 g3 f3 q0 q3 r4
        go_wp2_with fail
        have hFa : Fr [] W6 ((W6.alloc (.cells #[.int .i64 p] 3)).drew) := ((Fr.refl [] W6).alloc _).drew
        have hFd : Fr [] W6 W6.drew := (Fr.refl [] W6).drew
        have x3 := Blk.cell HDR6.out.p (i := 3) rfl
        have x4 := Blk.cell HDR6.out.wb (i := 4) rfl
        have ep : ({ D with m := mput D.m p (obV 9 (4 : Nat) N 0 g 4), G := fun x => if x = p then g else D.G x, lab := labU D.lab g (10 + p) } : DPs).c.row = .slice (some (⟨gr, 0, none⟩ : Addr)) M cr := HER.out
        rw [ep] at x4
        have plt := Blk.lt HDR6.out.p
        have wlt := Blk.lt HDR6.out.wb
        have xd3 := (cell_fr hFd (by simp) plt 3).trans x3
        have xd4 := (cell_fr hFd (by simp) wlt 4).trans x4
        have xa3 := (cell_fr hFa (by simp) plt 3).trans x3
        have xa4 := (cell_fr hFa (by simp) wlt 4).trans x4
        have hone1 : Rowi ((W6.alloc (.cells #[.int .i64 p] 3)).drew) 0 (.slice (some ⟨W6.heap.size, 0, none⟩) 1 1) [p] := (Rowi.one W6 p (Nat.zero_le _)).drew
        have hrow6 := HDR6.out.row
        rw [ep] at hrow6
        have hsrc : Srci ((W6.alloc (.cells #[.int .i64 p] 3)).drew) (some (⟨gr, 0, none⟩ : Addr)) M (S.rw.map Ob.p) := by
          have := Rowi.src (hrow6.fr hFa (by simp))
          rw [← HM.out] at this
          exact this
        have hAM : (some (⟨gr, 0, none⟩ : Addr)) = none → M = 0 := rowi_nil hrow6 HM.out
        have hMb : 1 + M ≤ 1000000 := by have := HM.out; have := HN.out; have := HNB.out; rw [List.length_map] at *; omega
        have HO1' := hid hone1
        have HSRC := hid hsrc
        have HAM := hid hAM
        have HMB := hid hMb
        have HFA := hid hFa
        have HX3 := hid x3
        have HX4 := hid x4
        have HPLT := hid plt
        have HWLT := hid wlt
        clear hone1 hsrc hAM hMb hFa hFd plt wlt hrow6 ep x3 x4
        go_region_law (first
          | (refine step_appi (by rfl) _ _ (by rfl) 0 _ _ (by rfl) HO1'.out (some (⟨gr, 0, none⟩ : Addr)) M cr (S.rw.map Ob.p) (by rfl) HSRC.out HAM.out HMB.out (Nat.zero_le _) ?_; intro v9 w9 hR9 hF9 hown9; obtain ⟨A9, c9, n9, e9⟩ : ∃ A9 c9 n9, v9 = .slice A9 n9 c9 := (by obtain ⟨A9, c9, e⟩ := hR9.form; exact ⟨A9, c9, _, e⟩); subst e9; have hF69 : Fr [] W6 w9 := HFA.out.step hF9 (fun x hx => .inr (by simp [Value.ownBlock] at hx; omega)); have y93 := (cell_fr hF69 (by simp) HPLT.out 3).trans HX3.out; have y9 := Blk.frozen (Blk.fr HDR6.out.wb hF69 (by simp)) 4; have y94 := (cell_fr hF69 (by simp) HWLT.out 4).trans HX4.out; have HR9 := hid hR9; have HF9 := hid hF69; have HOW9 := hid hown9; clear hR9 hF9 hown9 hF69))
        all_goals
          obtain ⟨lab7, hdr7, -⟩ := HDR6.out.setRow (fun b hb => Nat.lt_of_lt_of_le (HFBL.out b hb) HFW6.out.size) HF9.out HR9.out (fun g hg => by
            rcases HOW9.out with h | h
            · rw [h] at hg; simp [Value.ownBlock] at hg; omega
            · rw [h] at hg; simp at hg; omega)
          obtain ⟨W7, hW7⟩ : ∃ W7, W7 = w9.setCell ⟨a.wb, 4, none⟩ (.slice A9 n9 c9) := ⟨_, rfl⟩
          rw [← hW7] at hdr7 ⊢
          have hsz7 : w5.heap.size ≤ W7.heap.size := by rw [hW7]; exact Nat.le_trans (Nat.le_trans HFW6.out.size HF9.out.size) (Nat.le_of_eq (by simp))
          have HF57 : Hid (Fr (a.wb :: [g]) w5 W7) := hid (by rw [hW7]; exact ((HFW6.out.here (fun x hx => List.mem_cons_of_mem _ hx)).trans (HF9.out.here (by simp))).set (by simp) _)
          have HSZ7 := hid hsz7
          clear hW7 hsz7 y93 y94 y9 xd3 xd4 xa3 xa4
          have z4 := Blk.cell hdr7.p (i := 4) rfl
          have HDR7 := hid hdr7
          have hwk7 := hdr7.wk
          rw [show ({ D with m := mput D.m p (obV 9 (4 : Nat) N 0 g 4), G := fun x => if x = p then g else D.G x, lab := labU D.lab g (10 + p) } : DPs).wv = .slice Aw N cw from HEW.out] at z4
          have hwk7' : Rowi W7 0 (.slice Aw N cw) (S.rw.reverse.map Ob.p) := by rw [← HEW.out]; exact hwk7
          have hlen7 : (S.rw.reverse.map Ob.p).length = N := by rw [List.length_map, List.length_reverse]; exact HN.out.symm
          have HWK7 := hid hwk7'
          have HL7 := hid hlen7
          clear hdr7 hwk7 hwk7' hlen7
          go_wp2_with (at_builtin; refine wpList_appi rfl _ _ rfl 0 _ _ rfl (HWK7.out.alloc _) (some ⟨W7.heap.size, 0, none⟩) 1 1 [p] rfl ?c1 (by simp) ?c2 (Nat.zero_le _) ?c3)
          case c1 => exact (Rowi.one W7 p (Nat.zero_le _)).src
          case c2 => have := HN.out; have := HNB.out; (try rw [HL7.out]); simp at *; omega
          case c3 =>
            intro v8 w8 hR8 hF8 hown8
            obtain ⟨A8, c8, n8, e8⟩ : ∃ A8 c8 n8, v8 = .slice A8 n8 c8 := by obtain ⟨A8, c8, e⟩ := hR8.form; exact ⟨A8, c8, _, e⟩
            subst e8
            have hF78 : Fr D.wv.ownBlock.toList W7 w8 := (((Fr.refl [] W7).alloc _).here (by simp)).trans (by rw [HEW.out]; exact hF8)
            have hpn : a.pb ∉ D.wv.ownBlock.toList := fun hc => by
              have h1 := HDR7.out.lx a.pb (by simpa using hc)
              have h2 := HDR7.out.lp
              omega
            have y8 := Blk.frozen (Blk.fr HDR7.out.p hF78 hpn) 4
            have z8 := Blk.cell (Blk.fr HDR7.out.p hF78 hpn) (i := 4) rfl
            have z5 := Blk.cell (Blk.fr HDR7.out.p hF78 hpn) (i := 5) rfl
            obtain ⟨lab8, hdr8, -⟩ := HDR7.out.setWks (fun b hb => Nat.lt_of_lt_of_le (HFBL.out b hb) HSZ7.out) hF78 hR8 (by
              show (Value.slice A8 n8 c8).ownBlock = D.wv.ownBlock ∨ _
              rw [HEW.out]
              rcases hown8 with h | h
              · exact .inl h
              · exact .inr ⟨_, h, by first | omega | (rw [World.size_alloc]; omega)⟩)
            have HF58 : Hid (Fr (a.pb :: ((a.wb :: [g]) ++ D.wv.ownBlock.toList)) w5 (w8.setCell ⟨a.pb, 4, none⟩ (.slice A8 n8 c8))) := hid (((HF57.out.here (fun x hx => List.mem_cons_of_mem _ (List.mem_append_left _ hx))).trans (hF78.here (fun x hx => List.mem_cons_of_mem _ (List.mem_append_right _ hx)))).set (by simp) _)
            have HDR8 := hid hdr8
            clear hR8 hF8 hown8 hF78 hpn hdr8 z4
            go_wp2_with (at_mapUpdate; refine wpList_mapUpdate_im _ rfl _ _ _ 34 rfl _ _ Tryz.underlying34 Tryz.underlying3 D.km D.kml rfl HDR8.out.kim N rfl (.int .i64 key) rfl ?_)
            intro wZ hIZ hFZ
            have hdrZ := HDR8.out.setKey hFZ hIZ
            have HFIN : Hid (JWPost E a nn (.returned (.bool true)) wZ) := hid (by
              have hFB : ∀ x ∈ a.pb :: ((a.wb :: [g]) ++ D.wv.ownBlock.toList), ¬ FB E S x := by
                intro x hx
                rcases List.mem_cons.1 hx with e | hx
                · rw [e]; exact (HDR5.out.sep a.pb (by rw [HDR5.out.lp]; decide)).2
                · rcases List.mem_append.1 hx with hx | hx
                  · rcases List.mem_cons.1 hx with e | e
                    · rw [e]; exact (HDR5.out.sep a.wb (by rw [HDR5.out.lw]; decide)).2
                    · rw [List.mem_singleton.1 e]
                      have hl := HDR5.out.lG _ HO1.out
                      rw [show ({ D with m := mput D.m p (obV 9 (4 : Nat) N 0 g 4), G := fun x => if x = p then g else D.G x, lab := labU D.lab g (10 + p) } : DPs).G p = g from if_pos rfl] at hl
                      exact (HDR5.out.sep g (by rw [hl]; have := HP1.out; show 10 + p ≠ 0; omega)).2
                  · exact (HDR5.out.sep x (by rw [HDR5.out.lx x (by simpa using hx)]; decide)).2
              have hcr := (HC5.out.fr HF58.out (fun x hx => ⟨fun hc => hFB x hx (.inl hc), fun hc => hFB x hx (.inr (.inl hc)), fun hc => hFB x hx (.inr (.inr hc))⟩)).fr hFZ (fun x hx => by
                have hk := (HDR5.out.sep D.km (by rw [HDR5.out.lk]; decide)).2
                rw [List.mem_singleton.1 hx]
                exact ⟨fun hc => hk (.inl hc), fun hc => hk (.inr (.inl hc)), fun hc => hk (.inr (.inr hc))⟩)
              have hwS : ∀ o ∈ S.obs, ∀ j, j < o.n → s5.wd o j = S.s.wd o j := fun o ho j hj => by
                rw [HW5.out o (List.mem_append_left _ ho) j hj, if_neg (fun k => HNE.out o ho k.1)]
                exact HALL.out.1 o ho j hj
              have hw5o : ∀ j, j < 4 → j ≠ 3 → s5.wd ⟨q, p, 9, 4, N, 0⟩ j = s4.wd ⟨q, p, 9, 4, N, 0⟩ j := fun j hj hne => by
                rw [HW5.out _ HO1.out j hj, if_neg (fun k => hne k.2)]
              have hpt := HT.out.weak (S := S) HJ.out.ci (s' := s5) (A' := A1) (z' := z1) (t' := S.t.added p) (q := q) (p := p) (aux := N) (key := key) (value := value) (by have := HN.out; omega) (by have := HN.out; have := HNB.out; omega) hwS ((hw5o 0 (by decide) (by decide)).trans HALL.out.2.1) ((hw5o 1 (by decide) (by decide)).trans HALL.out.2.2.1) ((hw5o 2 (by decide) (by decide)).trans HALL.out.2.2.2.1) HKV.out HK0.out HVV.out
              refine ⟨rfl, _, { D with m := mput D.m p (obV 9 (4 : Nat) N 0 g 4), G := fun x => if x = p then g else D.G x, c := { D.c with row := .slice A9 n9 c9 }, wv := .slice A8 n8 c8, lab := lab8, kml := mput D.kml N (.int .i64 key) }, ⟨hcr, HI5.out, ?_, HJ.out.ah, HJ.out.asb, HJ.out.ak, HJ.out.fr2, HJ.out.room, HJ.out.used, HJ.out.fcnt, HJ.out.todo, HJ.out.qu, HJ.out.wkg, HJ.out.bl, HJ.out.hkp, HJ.out.rvv⟩, hpt⟩
              have e1 : ((⟨q, p, 9, 4, N, 0⟩ : Ob) :: S.rw).reverse.map Ob.p = S.rw.reverse.map Ob.p ++ [p] := by simp
              rw [show ({ S with s := s5, A := A1, z := z1, obs := S.obs ++ [⟨q, p, 9, 4, N, 0⟩], t := S.t.added p, rw := (⟨q, p, 9, 4, N, 0⟩ : Ob) :: S.rw } : CY).rw.reverse.map Ob.p = S.rw.reverse.map Ob.p ++ [p] from e1]
              first
                | exact hdrZ
                | (rw [List.map_reverse]; exact hdrZ))
            clear hIZ hFZ hdrZ y8 z8 z5
            go_wp2_with fail
            go_ret
            exact HFIN.out
end Go.Proofs.YtklnpooninbogaaGreat
