import Derived.Test.YtifillpcphiblaaPBuilt3
import Derived.Deep.QuietTactic
import Derived.Deep.DeepCutAuto
import Derived.BigQuiet
namespace Go.Proofs.Ytifillpcphiblaa
open Go Go.Proofs Go.RowKit

set_option maxRecDepth 100000 in
theorem dFits (t : Int) (n : Nat) (w : World) :
    Calls Try.prog 56 #[.int .i64 t, .int .i64 n] w fun e w' => e = .returned (.bool (decide (1 ≤ t ∧ t ≤ n))) ∧ w = w' := by
  by_cases h1 : 1 ≤ t
  · by_cases h2 : t ≤ n
    · go_enter Try.func56, Try.ntmps56
      go_wp2_with fail
      go_ret
      simp [h1, h2]
    · go_enter Try.func56, Try.ntmps56
      go_wp2_with fail
      go_ret
      simp [h2]
  · have g1 : decide (1 ≤ t) = false := by simpa using h1
    go_enter Try.func56, Try.ntmps56
    go_wp2_with fail
    go_ret
    simp

set_option maxRecDepth 100000 in
set_option maxHeartbeats 12800000 in
theorem lBuilt (W Lg : Nat) (a b c d : Int) (sv v : Value) (cls : List Int) (ms : List Mk) (C : Int) (w : World) (hR : RightC W Lg cls) (hs : SlArg w sv cls) (hms : MkArg w v ms) (hml : ms.length ≤ 30) (hC : ∀ c ∈ cls, c ≤ C) (hC0 : 0 ≤ C) :
    Calls Try.prog 54 #[.agg #[.int .i64 W, .int .i64 Lg, .int .i64 a, .int .i64 b, .int .i64 c, .int .i64 d, sv], v] w (BuiltPost W Lg cls ms C w) := by
  obtain ⟨vp, vcap, rfl⟩ := hms.shape
  obtain ⟨N, hN⟩ : ∃ N, N = ms.length := ⟨_, rfl⟩
  obtain ⟨cb, co, ccap, rfl, hrd, hclm⟩ : ∃ cb co ccap, sv = .slice (some ⟨cb, co, none⟩) cls.length ccap ∧ RdAt w cb co (cls.map (.int .i64)) ∧ cls.length ≤ maxLen := by
    have hn1 := hR.n1
    rcases hs with ⟨_, h2⟩ | ⟨_, _, _, h2⟩ | ⟨b', o', cap', e', hr, hm⟩
    · rw [h2] at hn1; simp at hn1
    · rw [h2] at hn1; simp at hn1
    · exact ⟨b', o', cap', e', hr, hm⟩
  have HSL := hid hs
  have HMS := hid hms
  have HRD := hid hrd
  have HN := hid hN
  rw [← hN]
  have HR := hid hR
  have B0 := Blk.new w [.int .i64 W, .int .i64 Lg, .int .i64 a, .int .i64 b, .int .i64 c, .int .i64 d, .slice (some ⟨cb, co, none⟩) cls.length ccap] 24
  have HB0 := hid B0
  have hF0 : Fr [] w (w.alloc (.cells #[.int .i64 W, .int .i64 Lg, .int .i64 a, .int .i64 b, .int .i64 c, .int .i64 d, .slice (some ⟨cb, co, none⟩) cls.length ccap] 24)) := (Fr.refl _ w).alloc _
  have HF0 := hid hF0
  clear hs hms hrd hN B0 hF0 hR
  go_enter Try.func54, Try.ntmps54
  go_wp2_with fail
  refine (hNew W Lg a b c d cls cb co ccap _ HR.out (HRD.out.fr HF0.out (by simp))).mono ?_
  rintro e w1 ⟨L, rfl, hH1, hF1, hL⟩
  have hF1' := HF0.out.trans hF1
  have hB1 := HB0.out.fr hF1 (by simp)
  have c0 := hB1.cell (i := 0) rfl
  have c1 := hB1.cell (i := 1) rfl
  have c2 := hB1.cell (i := 2) rfl
  have c3 := hB1.cell (i := 3) rfl
  have c4 := hB1.cell (i := 4) rfl
  have c5 := hB1.cell (i := 5) rfl
  have c6 := hB1.cell (i := 6) rfl
  have HL := hid hL
  have HH1 := hid hH1
  have HF1 := hid hF1'
  clear hH1 hF1 hF1' hB1 hL
  go_wp2_with fail
  refine (mNew W Lg a b c d _ cls w1 HR.out (HSL.out.fr HF1.out (by simp))).mono ?_
  rintro e w2 ⟨mb, rfl, hM, hF2⟩
  have hlo : ∀ x ∈ L.all, w.heap.size ≤ x := fun x hx => by have := HL.out x hx; simp at this; omega
  obtain ⟨D, hDm, hDB, hJ⟩ := JB.new HR.out HH1.out HF1.out hlo HSL.out hM hF2
  subst hDm
  have b1 : B1 w w2 L D W Lg cls ms C (.slice none 0 0) 0 := ⟨⟨_, _, _, _, _, [], _, hJ, Rowi.nil _ _, rfl, Nat.le_refl _, fun o ho => (by cases ho), fun o ho => (by cases ho), fun o ho => (by cases ho), ⟨fun _ => ⟨by show (1 : Int) ≤ _; simp, rfl, fun i x o _ h2 => by simp at h2⟩, fun _ => rfl, Bt.zero⟩⟩, HF1.out.trans hF2, ⟨hlo, by rw [hDB]; exact HF1.out.size⟩, fun g hg => by simp [Value.ownBlock] at hg⟩
  have HB1 := hid b1
  clear hM hF2 hlo hDB hJ b1 c0 c1 c2 c3 c4 c5 c6 HL HH1 HB0 HF0
  go_wp2_with fail
  go_loopw [12, 11] (fun i atv wr => ∃ k : Nat, k ≤ N ∧ i = .int .i64 k ∧ B1 w wr L D W Lg cls ms C atv k) (fun i _ _ => N - (intOf i).toNat)
  case atStart => exact ⟨0, Nat.zero_le _, rfl, HB1.out⟩
  case round =>
    obtain ⟨k, hk, rfl, hb⟩ := hrel
    have HB := hid hb
    clear hb HB1
    by_cases hlt : (k : Int) < (N : Int)
    · obtain ⟨⟨s, A, z, bits, m, obs, G, hJ, hRow, hpar, hle, haux, hn32, hz, hrc⟩, hFr, hlo, hoff⟩ := HB.out
      have hNe := HN.out
      obtain ⟨x, hx⟩ : ∃ x, ms[k]? = some x := ⟨_, List.getElem?_eq_getElem (by omega)⟩
      obtain ⟨vb, vo, ep, hrv⟩ := (show MkArg w (.slice vp ms.length vcap) ms from HMS.out).reads (by omega)
      subst ep
      have hrv2 := hrv.fr hFr (by simp)
      obtain ⟨x0, x1, x2⟩ := mkc_get hx
      have r0 : wr.cell? ⟨vb, vo + k * 3, none⟩ = some (.int .i64 x.k) := by have := hrv2.2 _ _ x0; simpa using this
      have r1 : wr.cell? ⟨vb, vo + k * 3 + 1, none⟩ = some (.int .i64 x.n) := by have := hrv2.2 _ _ x1; simpa [Nat.add_assoc] using this
      have HJ := hid hJ
      have HRow := hid hRow
      have HREST := hid (And.intro hpar (And.intro hle (And.intro haux (And.intro hn32 (And.intro hz hrc)))))
      have HFR := hid hFr
      have HLO := hid hlo
      have HOFF := hid hoff
      have HRV := hid hrv
      have HX := hid (And.intro x0 x1)
      have HXX := hid hx
      have hk30 : (k : Int) < 16777216 := by omega
      have hk0 : (0 : Int) ≤ (k : Int) := by omega
      clear hJ hRow hoff hpar hle haux hn32 hz hrc hFr hlo hrv hrv2 x0 x1 x2 hx hNe HB
      go_upto_region 9 with fail
      go_cut [13, 14] (fun pv ev wx => ∃ p er, pv = .int .i64 p ∧ ev = .int .i64 er ∧ Fr L.fp wr wx ∧ Hid (∀ w1', Fr [] wx w1' → Calls Try.prog 103 #[.pointer (some ⟨D.mb, 0, none⟩), .int .i64 x.k, .int .i64 k, .int .i64 x.n] w1' (EvPost L D W Lg cls s A z bits m obs G C x.k k x.n p er w1')))
      case first =>
        go_region_with ((go_at_call 22; refine (jEv (HJ.out.tick ((Fr.refl _ wr).drew)) C x.k k x.n hC hC0 hk0 hk30).mono ?_; rintro e w3 ⟨p, er, rfl, hF3, hdoc⟩))
        all_goals
          go_wp2_with fail
          go_meet
          case rel => exact ⟨p, er, rfl, rfl, ((Fr.refl _ wr).drew).trans hF3, hid hdoc⟩
      case rest =>
        obtain ⟨p, er, rfl, rfl, hF3, HDOC⟩ := hcut
        have hFr1 : Fr [] w wc := HFR.out.step hF3 (fun y hy => .inr (HLO.out.1 y (fp_all hy)))
        have hrv1 := HRV.out.fr hFr1 (by simp)
        have q0 : wc.cell? ⟨vb, vo + k * 3, none⟩ = some (.int .i64 x.k) := by have := hrv1.2 _ _ HX.out.1; simpa using this
        have q1 : wc.cell? ⟨vb, vo + k * 3 + 1, none⟩ = some (.int .i64 x.n) := by have := hrv1.2 _ _ HX.out.2; simpa [Nat.add_assoc] using this
        obtain ⟨wt, hwt⟩ : ∃ wt, wt = wc := ⟨_, rfl⟩
        have HWT := hid hwt
        have HF3 := hid hF3
        have HFR1 := hid hFr1
        clear hF3 hFr1 hrv1 r0 r1 hwt
        go_upto_region 10 with fail
        go_cut [15, 16] (fun qv gv wy => qv = .int .i64 p ∧ gv = .int .i64 er ∧ Hid (∃ e, EvPost L D W Lg cls s A z bits m obs G C x.k k x.n p er wt.drew e wy))
        case first =>
          go_region_with ((go_at_call 103; refine (HDOC.out _ ((Fr.refl [] wc).drew)).mono ?_; rintro e w4 hev; have hev1 := hev.1; subst hev1; have HEV := hid hev; clear hev))
          all_goals
            go_wp2_with fail
            go_meet
            case rel => exact ⟨rfl, rfl, hid ⟨_, by rw [HWT.out]; exact HEV.out⟩⟩
        case rest =>
          obtain ⟨rfl, rfl, HEV⟩ := hcut
          obtain ⟨e, -, hFD, hres⟩ := HEV.out
          have hF2 : Fr L.fp wr wt.drew := by rw [HWT.out]; exact HF3.out.drew
          have hlw : ∀ y ∈ L.fp, y < D.B := fun y hy => HJ.out.low y (fp_all hy)
          have hrow1 : Rowi wt.drew D.B u11 (obs.map Ob.p) := HRow.out.fr' hF2 hlw
          have hmp1 : IM wt.drew D.mp m := HJ.out.jh.dh.im.fr hF2 (fun hc => by have := hlw _ hc; have := HJ.out.jh.dh.lo.2.2; omega)
          have hrow2 : Rowi wc D.B u11 (obs.map Ob.p) := hFD.rowi hrow1 (rowi_nomap hrow1 hmp1)
          have hFr2 : Fr [] w wc := by
            have h1 : Fr [] w wt.drew := by rw [HWT.out]; exact HFR1.out.drew
            exact h1.step' hFD HLO.out.2
          have hoff2 : ∀ g, u11.ownBlock = some g → OffR wc D.rsb (cls.length + 1) g := by
            obtain ⟨cs, hrb⟩ := HJ.out.jh.dh.rblk
            have hnr : D.rsb ∉ L.fp := fun hc => by have := hlw _ hc; have := HJ.out.jh.dh.lo.2.1; omega
            intro g hg
            refine ((HOFF.out g hg).fr hF2 hnr hrb.lt).doc hFD (Nat.lt_of_lt_of_le hrb.lt hF2.size) ((hrow1.lt g hg).2)
          have HOFF2 := hid hoff2
          clear hoff2
          have HROW2 := hid hrow2
          have HFR2 := hid hFr2
          clear hF2 hlw hrow1 hmp1 hrow2 hFr2 hFD HEV HDOC q0 q1
          rcases hres with ⟨her, hfail, hj⟩ | ⟨rfl, s', A', z', bits', m', G', o, o1, o2, o3, o4, o5, hj, g1, g2, g3, g4, g5⟩
          · have HJ2 := hid hj
            have HFA := hid hfail
            have hne : (er == 0) = false := by simpa using her
            have HC0 := hid hC0
            have hN30 : N ≤ 30 := by have := HN.out; omega
            clear hj hfail her hC hC0 hclm hml
            go_wp2_with fail
            go_roundw
            case rel => exact ⟨k + 1, by omega, by go_num, B1.fail HJ2.out HROW2.out HFR2.out HLO.out HREST.out HXX.out HFA.out HC0.out (by have := HN.out; omega) HOFF2.out⟩
            case measure => simp [intOf]; omega
          · have HJ2 := hid hj
            have HO := hid (And.intro o2 (And.intro o3 (And.intro o4 (And.intro o5 (And.intro g1 (And.intro g2 (And.intro g3 g5)))))))
            have hdb : D.B ≤ wc.heap.size := hj.jh.dh.rs.le
            have h11 : Rowi (wc.alloc (.cells #[.int .i64 p] 3)) D.B u11 (obs.map Ob.p) := HROW2.out.alloc _
            have hS1 : Srci (wc.alloc (.cells #[.int .i64 p] 3)) (some ⟨wc.heap.size, 0, none⟩) 1 [p] := (Rowi.one wc p (Nat.le_refl wc.heap.size)).src
            have hN30 : N ≤ 30 := by have := HN.out; omega
            have hol : obs.length ≤ 40 := by have := HREST.out.2.1; have := HN.out; omega
            have H11 := hid h11
            have HS1 := hid hS1
            have HP := hid o1
            clear hj o1 o2 o3 o4 o5 g1 g2 g3 g4 g5 h11 hS1 hC hclm hk0 hk30 hml
            go_wp2_with (at_builtin; refine wpList_appi rfl _ _ rfl D.B u11 (obs.map Ob.p) rfl H11.out (some ⟨wc.heap.size, 0, none⟩) 1 1 [p] rfl HS1.out (by simp) (by simp; omega) (by simp; omega) ?_)
            intro v5 w5 h5 f5 b5
            have hj5 := (HJ2.out.tick ((Fr.refl [] wc).alloc (.cells #[.int .i64 p] 3))).row H11.out (fun g hg => (HOFF2.out g hg).fr (S := []) ((Fr.refl _ wc).alloc _) (by simp) (HJ2.out.jh.dh.rblk.elim fun _ h => h.lt)) f5
            have hF5 : Fr [] w w5 := (HFR2.out.trans ((Fr.refl [] wc).alloc _)).step f5 (fun y hy => .inr (by have := (HROW2.out.lt y (by simpa using hy)).1; have := HLO.out.2; omega))
            have hoff5 : ∀ g, v5.ownBlock = some g → OffR w5 D.rsb (cls.length + 1) g := by
              obtain ⟨cs, hrb⟩ := (HJ2.out.tick ((Fr.refl [] wc).alloc (.cells #[.int .i64 p] 3))).jh.dh.rblk
              have hnr : D.rsb ∉ u11.ownBlock.toList := fun hc => H11.out.ne hrb (by decide) _ (by simpa using hc) rfl
              intro g hg
              refine OffR.fr ?_ f5 hnr hrb.lt
              rcases b5 with b5 | b5
              · rw [b5] at hg
                exact (HOFF2.out g hg).fr (S := []) ((Fr.refl _ wc).alloc _) (by simp) (HJ2.out.jh.dh.rblk.elim fun _ h => h.lt)
              · rw [b5] at hg
                cases hg
                have := OffR.new (HJ2.out.tick ((Fr.refl [] wc).alloc (.cells #[.int .i64 p] 3))).jh.dh.rs
                rw [rowsOf_len] at this
                simpa using this
            have HJ5 := hid hj5
            have HF5 := hid hF5
            have HO5 := hid hoff5
            have H5 := hid h5
            clear hj5 hF5 hoff5 h5 f5 b5
            go_wp2_with fail
            go_roundw
            case rel =>
              have ho := HO.out
              refine ⟨k + 1, by omega, by go_num, B1.more HJ5.out (by rw [HP.out]; exact H5.out) HF5.out HLO.out HREST.out HXX.out ho.1 ho.2.1 ho.2.2.1 ho.2.2.2.1 ho.2.2.2.2.1 ho.2.2.2.2.2.1 ho.2.2.2.2.2.2.1 ho.2.2.2.2.2.2.2 HO5.out⟩
            case measure => simp [intOf]; omega
    · obtain ⟨⟨s, A, z, bits, m, obs, G, hJ, hRow, hpar, hle, haux, hn32, hz, hrc⟩, hFr, hlo, hoff⟩ := HB.out
      have hkN : k = N := by omega
      subst hkN
      obtain ⟨A0, c0, rfl⟩ := hRow.form
      obtain ⟨M, hM⟩ : ∃ M, M = obs.length := ⟨_, rfl⟩
      have hlen : (obs.map Ob.p).length = M := by rw [List.length_map, hM]
      rw [hlen] at hRow hoff ⊢
      have hM30 : M ≤ 30 := by have := HN.out; omega
      have hcur : Cur ms obs s 0 0 := fun i o ho j hj => by
        rw [if_neg (by omega)]
        exact hz o (List.mem_of_getElem? ho) j hj
      have HREST := hid (And.intro hpar (And.intro hle (And.intro haux (And.intro hn32 hrc))))
      have HJ := hid hJ
      have HRow := hid hRow
      have HFR := hid hFr
      have HLO := hid hlo
      have HM := hid hM
      have HLEN := hid hlen
      have HCUR := hid hcur
      clear hJ hRow hpar hle haux hn32 hz hrc hFr hlo hoff hM hlen hcur hlt hk HB
      obtain ⟨wo, rfl⟩ : ∃ wo, wo = wr := ⟨_, rfl⟩
      go_wp2_with fail
      go_loopw [17] (fun i ws => ∃ (j : Nat) (s : HS), j ≤ M ∧ i = .int .i64 j ∧ JB ws L D W Lg cls s A z bits m obs G ∧ s.parity = 0 ∧ Cur ms obs s j 0 ∧ Rowi ws D.B (.slice A0 M c0) (obs.map Ob.p) ∧ Fr [] w ws) (fun i _ => M - (intOf i).toNat)
      case atStart => exact ⟨0, s, Nat.zero_le _, rfl, HJ.out, HREST.out.1, HCUR.out, HRow.out, HFR.out⟩
      case round =>
        obtain ⟨i, s1, hi, rfl, hJ, hpar, hcur, hRow, hFr⟩ := hrel
        by_cases hlt : (i : Int) < (M : Int)
        · have hMe := HM.out
          obtain ⟨o, ho⟩ : ∃ o, obs[i]? = some o := ⟨_, List.getElem?_eq_getElem (by omega)⟩
          have hom := List.mem_of_getElem? ho
          obtain ⟨ai, hai, hai2⟩ := HREST.out.2.2.1 o hom
          have hon := HREST.out.2.2.2.1 o hom
          have hNe := HN.out
          obtain ⟨x, hx⟩ : ∃ x, ms[ai]? = some x := ⟨_, List.getElem?_eq_getElem (by omega)⟩
          obtain ⟨vb, vo, ep, hrv⟩ := (show MkArg w (.slice vp ms.length vcap) ms from HMS.out).reads (by omega)
          subst ep
          obtain ⟨g0, eg, hgB, hgl, -, hgc, -, hgcell⟩ := hRow.at (by rw [HLEN.out]; omega)
          subst eg
          have q0 : wr.cell? ⟨g0, i, none⟩ = some (.int .i64 o.p) := hgcell i o.p (by rw [List.getElem?_map, ho]; rfl)
          have q7 := hJ.jh.dh.reads.2.2.2.1
          have hlk := run_lookup_im (P := Try.prog) (hJ.jh.dh.im.drew) Try.underlying103 Try.underlying3 (obZero wr.drew) o.p false
          rw [hJ.dob.get o hom, hpar] at hlk
          simp only [Option.getD_some, obV, if_neg (show ¬ false = true by decide), hai] at hlk
          have hJa := hJ.tick (((Fr.refl [] wr).alloc (.cells #[.int .i64 0, .int .i64 0, .int .i64 0, .int .i64 0, .slice none 0 0] 114)).drew)
          have q7a := hJa.jh.dh.reads.2.2.2.1
          have q0a : ((wr.alloc (.cells #[.int .i64 0, .int .i64 0, .int .i64 0, .int .i64 0, .slice none 0 0] 114)).drew).cell? ⟨g0, i, none⟩ = some (.int .i64 o.p) := by
            rw [← q0]
            exact cell_fr (S := []) (((Fr.refl [] wr).alloc _).drew) (by simp) hgl i
          have hlka := run_lookup_im (P := Try.prog) hJa.jh.dh.im Try.underlying103 Try.underlying3 (obZero _) o.p false
          rw [hJ.dob.get o hom, hpar] at hlka
          simp only [Option.getD_some, obV, if_neg (show ¬ false = true by decide), hai] at hlka
          have hGb := (hJ.dob.blk o hom).2.lt
          have hDw := hJ.jh.dh.rs.le
          have HGW := hid (And.intro hGb hDw)
          have HJ1 := hid hJ
          have HPAR := hid hpar
          have HCUR1 := hid hcur
          have HRow1 := hid hRow
          have HFR1 := hid hFr
          have HO := hid ho
          have HX := hid hx
          have HAI := hid hai
          have HRV := hid hrv
          have HOM := hid hom
          obtain ⟨g, hg⟩ : ∃ g, g = G o.p := ⟨_, rfl⟩
          rw [← hg] at hlk hlka
          have HG := hid hg
          have HGC := hid hgcell
          clear hJ hJa hpar hcur hRow hFr ho hx hrv hom hai hMe hNe hGb hDw hgcell hgc hg
          obtain ⟨wt, hwt⟩ : ∃ wt, wt = wr := ⟨_, rfl⟩
          have HWT := hid hwt
          clear hwt
          go_upto_region 18 with fail
          go_cut [18] (fun bv wx => ∃ tb : Nat, bv = .pointer (some ⟨tb, 0, none⟩) ∧ wt.heap.size ≤ tb ∧ Blk wx tb [.int .i64 o.k, .int .i64 o.n, .int .i64 ai, .int .i64 0, .slice (some ⟨g, 0, none⟩) o.n o.n] 114 ∧ Fr [] wt wx)
          case first =>
            go_region
            all_goals
              go_wp2_with fail
              go_meet
              case rel => exact ⟨_, rfl, by rw [HWT.out]; exact Nat.le_refl _, (Blk.new wr [.int .i64 o.k, .int .i64 o.n, .int .i64 ai, .int .i64 0, .slice (some ⟨g, 0, none⟩) o.n o.n] 114).fr ((Fr.refl [] _).drew) (by simp), by rw [HWT.out]; exact ((Fr.refl _ wr).alloc _).drew⟩
          case rest =>
            obtain ⟨tb, rfl, htb, hTB, hF2⟩ := hcut
            have hF2w : Fr [] w wc := by
              have := HFR1.out
              rw [← HWT.out] at this
              exact this.trans hF2
            have b2 := hTB.cell (i := 2) rfl
            obtain ⟨x0, x1, x2⟩ := mkc_get HX.out
            have hrv2 := HRV.out.fr hF2w (by simp)
            have r0 : wc.cell? ⟨vb, vo + ai * 3, none⟩ = some (.int .i64 x.k) := by have := hrv2.2 _ _ x0; simpa using this
            have r1 : wc.cell? ⟨vb, vo + ai * 3 + 1, none⟩ = some (.int .i64 x.n) := by have := hrv2.2 _ _ x1; simpa [Nat.add_assoc] using this
            have r2 : wc.cell? ⟨vb, vo + ai * 3 + 2, none⟩ = some x.tv := by have := hrv2.2 _ _ x2; simpa [Nat.add_assoc] using this
            have htos := (show MkArg w (.slice (some ⟨vb, vo, none⟩) ms.length vcap) ms from HMS.out).2 x (List.mem_of_getElem? HX.out)
            obtain ⟨tp, tcap, etv⟩ := htos.shape
            have hai1 : (0 : Int) ≤ (ai : Int) := by omega
            have hai3 : (ai : Int) < (k : Int) := by omega
            have X0 := Blk.new wc [.int .i64 x.k, .int .i64 x.n, x.tv] 170
            have hTB2 := hTB.alloc (.cells #[.int .i64 x.k, .int .i64 x.n, x.tv] 170)
            have hF3 : Fr [] wt (wc.alloc (.cells #[.int .i64 x.k, .int .i64 x.n, x.tv] 170)) := hF2.trans ((Fr.refl _ wc).alloc _)
            have hF3w : Fr [] w (wc.alloc (.cells #[.int .i64 x.k, .int .i64 x.n, x.tv] 170)) := hF2w.trans ((Fr.refl _ wc).alloc _)
            have hJ1 := HJ1.out
            have hRow1 := HRow1.out
            rw [← HWT.out] at hJ1 hRow1
            have hJ3 := hJ1.tick hF3
            have hRow3 : Rowi (wc.alloc (.cells #[.int .i64 x.k, .int .i64 x.n, x.tv] 170)) D.B (.slice (some ⟨g0, 0, none⟩) M c0) (obs.map Ob.p) := hRow1.fr hF3 (by simp)
            rw [etv] at X0 hTB2 hF3 hF3w hJ3 hRow3 r2
            have HX0 := hid X0
            have HTB := hid hTB2
            have HF3w := hid hF3w
            have HJ3 := hid hJ3
            have HRow3 := hid hRow3
            have HTOS := hid htos
            have HETV := hid etv
            have hwcs : wt.heap.size ≤ wc.heap.size := hF2.size
            have htbw : tb < wc.heap.size := hTB.lt
            clear X0 hTB hTB2 hF2 hF3 hF3w hJ1 hRow1 hJ3 hRow3 htos etv hrv2 x0 x1 x2 hF2w
            obtain ⟨T, hT⟩ : ∃ T, T = x.tos.length := ⟨_, rfl⟩
            rw [← hT] at HX0 HTB HF3w HJ3 HRow3 r2
            have HT := hid hT
            clear hT
            go_wp2_with fail
            obtain ⟨w3, hw3⟩ : ∃ w3, w3 = wc.alloc (.cells #[.int .i64 x.k, .int .i64 x.n, .slice tp T tcap] 170) := ⟨_, rfl⟩
            have hw3s : w3.heap.size = wc.heap.size + 1 := by rw [hw3]; simp
            have HW3 := hid hw3
            rw [← hw3] at HX0 HTB HF3w HJ3 HRow3 ⊢
            clear hw3
            go_loopw [20] (fun jv wr => ∃ (j : Nat) (s : HS), j ≤ T ∧ j ≤ o.n ∧ jv = .int .i64 j ∧ JB wr L D W Lg cls s A z bits m obs G ∧ s.parity = 0 ∧ Cur ms obs s i j ∧ Rowi wr D.B (.slice (some ⟨g0, 0, none⟩) M c0) (obs.map Ob.p) ∧ Fr [] w wr ∧ Fr (G o.p :: L.fp) w3 wr) (fun jv _ => T - (intOf jv).toNat)
            case atStart => exact ⟨0, s1, Nat.zero_le _, Nat.zero_le _, rfl, HJ3.out, HPAR.out, HCUR1.out, HRow3.out, HF3w.out, Fr.refl _ _⟩
            case round =>
              obtain ⟨j, s2, hjT, hjn, rfl, hJ, hpar, hcur, hRow, hFr, hFi⟩ := hrel
              have hnot : ∀ y, wt.heap.size ≤ y → y ∉ G o.p :: L.fp := fun y hy hc => by
                have h1 := HGW.out
                rw [← HWT.out] at h1
                rcases List.mem_cons.1 hc with h | h
                · omega
                · have := hJ.low y (fp_all h); omega
              have e4 := (HTB.out.fr hFi (hnot tb htb)).cell (i := 4) rfl
              have e2 := (HX0.out.fr hFi (hnot _ hwcs)).cell (i := 2) rfl
              have q0 : wr.cell? ⟨g0, i, none⟩ = some (.int .i64 o.p) := by
                obtain ⟨g1, e, _, _, _, _, _, hc⟩ := hRow.at (by rw [HLEN.out]; omega)
                cases e
                exact hc i o.p (by rw [List.getElem?_map, HO.out]; rfl)
              have HJ := hid hJ
              have HPR := hid hpar
              have HCU := hid hcur
              have HRO := hid hRow
              have HFR2 := hid hFr
              have HFI := hid hFi
              have HNOT := hid hnot
              have hwant : want obs ms o j = match x.tos[j]? with | none => 0 | some t => if 1 ≤ t ∧ t ≤ obs.length then ((obs[(t - 1).toNat]?).map Ob.p).getD 0 else 0 := want_at (by rw [HAI.out]; exact HX.out)
              have HWANT := hid hwant
              have hn30 : o.n < 40 := by have := HREST.out.2.2.2.1 o HOM.out; omega
              clear hJ hpar hcur hRow hFr hFi hnot hwant r0 r1 r2
              by_cases hjT2 : j < T
              · by_cases hjn2 : j < o.n
                · obtain ⟨t, ht⟩ : ∃ t, x.tos[j]? = some t := ⟨_, List.getElem?_eq_getElem (by have := HT.out; omega)⟩
                  obtain ⟨xb, xo, exb, hrx⟩ : ∃ xb xo, tp = some ⟨xb, xo, none⟩ ∧ RdAt w xb xo (x.tos.map (.int .i64)) := by
                    have h1 := HTOS.out
                    rw [HETV.out] at h1
                    exact slRead h1 (by have := HT.out; omega)
                  subst exb
                  have qx : wr.cell? ⟨xb, xo + j, none⟩ = some (.int .i64 t) := (hrx.fr HFR2.out (by simp)).2 j _ (by rw [List.getElem?_map, ht]; rfl)
                  have HTT := hid ht
                  have HRX := hid hrx
                  have c1 : (j : Int) < (T : Int) := by omega
                  have c2 : (j : Int) < (o.n : Int) := by omega
                  clear ht hrx
                  go_wp2_with fail
                  refine (dFits t M wr).mono ?_
                  rintro e w5 ⟨rfl, rfl⟩
                  by_cases hfit : 1 ≤ t ∧ t ≤ M
                  · rw [decide_eq_true hfit]
                    obtain ⟨tn, htn⟩ : ∃ tn : Nat, t = (tn : Int) + 1 := ⟨(t - 1).toNat, by omega⟩
                    subst htn
                    have htm : tn < M := by omega
                    obtain ⟨ot, hot⟩ : ∃ ot, obs[tn]? = some ot := ⟨_, List.getElem?_eq_getElem (by have := HM.out; omega)⟩
                    have q1 : wr.cell? ⟨g0, tn, none⟩ = some (.int .i64 ot.p) := by
                      obtain ⟨g1, e, _, _, _, _, _, hc⟩ := HRO.out.at (by rw [HLEN.out]; omega)
                      cases e
                      exact hc tn ot.p (by rw [List.getElem?_map, hot]; rfl)
                    have w0 : IntKind.i64.wrap (tn : Int) = tn := by rw [IntKind.wrap_i64]; omega
                    have i1 : (0 : Int) ≤ (tn : Int) := by omega
                    have i2 : (tn : Int) < (M : Int) := by omega
                    have i3 : (0 : Int) ≤ (i : Int) := by omega
                    have hin := (HJ.out.inn o HOM.out).2
                    have hbd := hin.bound HJ.out.jh.hi
                    have hhead := hin.head
                    have hhd := hin.hd
                    simp only [Ob.wm, Ob.word] at hbd hhead hhd
                    have HOT := hid hot
                    have HHD := hid (And.intro hbd (And.intro hhead hhd))
                    have HFIT := hid hfit
                    have hg0l : g0 < wr.heap.size := by
                      obtain ⟨g1, e, _, hl, _⟩ := HRO.out.at (by rw [HLEN.out]; omega)
                      cases e
                      exact hl
                    have hg0f : g0 ∉ L.fp := fun hc => by
                      obtain ⟨g1, e, hb, _⟩ := HRO.out.at (by rw [HLEN.out]; omega)
                      cases e
                      have := HJ.out.low _ (fp_all hc); omega
                    have hxl : wc.heap.size < wr.heap.size ∧ wc.heap.size ∉ L.fp := ⟨by have := HFI.out.size; omega, fun hc => HNOT.out _ hwcs (List.mem_cons_of_mem _ hc)⟩
                    have hxb : xb < wr.heap.size ∧ xb ∉ L.fp := ⟨Nat.lt_of_lt_of_le HRX.out.1 HFR2.out.size, fun hc => by have := HLO.out.1 _ (fp_all hc); have := HRX.out.1; omega⟩
                    clear hin hbd hhead hhd hot hfit
                    go_wp2_with fail
                    refine wp_region_still_tail 15 (by kernel_rfl) (by kernel_rfl) ?_
                    simp only [List.take_succ_cons, List.take_zero, List.drop_succ_cons, List.drop_zero]
                    change wpStill _ _ (wr.drew) (fun a' => wpList _ _ _ _ a' (wr.drew)) _ _
                    repeat still_step
                    refine wpStill_nil ?_
                    go_wp2_with fail
                    refine (hSet L s2 o.p o.k o.n o.a s2.parity j ot.p wr.drew HJ.out.hr.drew (by have := HHD.out.1; omega) (by have := HHD.out.1; omega) HHD.out.2.1 HHD.out.2.2 (by omega) (by omega)).mono ?_
                    rintro e w5 ⟨rfl, hH5, hF5⟩
                    have hF5' : Fr L.fp wr w5 := ((Fr.refl _ wr).drew).trans (hF5.here (by intro y hy; simp [HL.fp] at hy ⊢; rcases hy with h | h <;> simp [h]))
                    have t0 : w5.cell? ⟨g0, i, none⟩ = some (.int .i64 o.p) := (cell_fr hF5' hg0f hg0l i).trans q0
                    have t1 : w5.cell? ⟨g0, tn, none⟩ = some (.int .i64 ot.p) := (cell_fr hF5' hg0f hg0l tn).trans q1
                    have t2 : w5.cell? ⟨xb, xo + j, none⟩ = some (.int .i64 ((tn : Int) + 1)) := (cell_fr hF5' hxb.2 hxb.1 _).trans qx
                    have t3 : w5.cell? ⟨wc.heap.size, 2, none⟩ = some (.slice (some ⟨xb, xo, none⟩) T tcap) := (cell_fr hF5' hxl.2 hxl.1 2).trans e2
                    have HH5 := hid hH5
                    have HF5 := hid hF5'
                    clear hH5 hF5 hF5' q0 q1 qx e2 e4
                    go_wp2_with fail
                    refine wp_region_still_tail 15 (by kernel_rfl) (by kernel_rfl) ?_
                    simp only [List.take_succ_cons, List.take_zero, List.drop_succ_cons, List.drop_zero]
                    change wpStill _ _ (w5.drew) (fun a' => wpList _ _ _ _ a' (w5.drew)) _ _
                    repeat still_step
                    refine wpStill_nil ?_
                    go_wp2_with fail
                    obtain ⟨hdh, hdo⟩ := HJ.out.dfr HF5.out
                    have hget := hdo.get o HOM.out
                    rw [HPR.out] at hget
                    refine (dSet D W Lg cls _ bits s2.top s2.parity m o.p o.k o.a 0 ot.p o.n (G o.p) j (wcs o (s2.wd o)) w5.drew (hdh.step ((Fr.refl _ w5).drew)) hget ((hdo.blk o HOM.out).2.fr ((Fr.refl [] w5).drew) (by simp)) (wcs_len _ _) hjn2 (by omega)).mono ?_
                    rintro e w6 ⟨rfl, hF6, hB6⟩
                    have hF5d : Fr L.fp wr w5.drew := HF5.out.drew
                    obtain ⟨p1, p2, p3⟩ := HJ.out.put HOM.out hjn2 (HH5.out.drew) hF5d hF6 hB6
                    have hFi6 : Fr (G o.p :: L.fp) w3 w6 := (HFI.out.trans (hF5d.here (fun y hy => List.mem_cons_of_mem _ hy))).trans (hF6.here (by simp))
                    have hFr6 : Fr [] w w6 := (HFR2.out.step hF5d (fun y hy => .inr (HLO.out.1 y (fp_all hy)))).step hF6 (fun y hy => .inr (by rw [List.mem_singleton.1 hy]; have := (hdo.blk o HOM.out).1; have := HLO.out.2; omega))
                    have hRo6 : Rowi w6 D.B (.slice (some ⟨g0, 0, none⟩) M c0) (obs.map Ob.p) := by
                      have h1 : Rowi w5.drew D.B (.slice (some ⟨g0, 0, none⟩) M c0) (obs.map Ob.p) := HRO.out.fr hF5d (fun gg hgg => by simp [Value.ownBlock] at hgg; rw [← hgg]; exact hg0f)
                      exact h1.fr hF6 (fun gg hgg hc => h1.ne ((hdo.blk o HOM.out).2.fr ((Fr.refl [] w5).drew) (by simp)) (by decide) gg hgg (List.mem_singleton.1 hc))
                    have hCu6 : Cur ms obs (s2.put (o.p + 3 + j) ot.p 2) i (j + 1) := HCU.out.put HJ.out.nd HO.out (by
                      rw [HWANT.out, HTT.out]
                      simp only
                      rw [← HM.out, if_pos HFIT.out, show ((tn : Int) + 1 - 1).toNat = tn by omega, HOT.out]; rfl) p2 p3
                    have P1 := hid p1
                    have HFI6 := hid hFi6
                    have HFR6 := hid hFr6
                    have HRO6 := hid hRo6
                    have HCU6 := hid hCu6
                    clear hdh hdo hget hF6 hB6 hF5d p1 p2 p3 hFi6 hFr6 hRo6 hCu6 t0 t1 t2 t3
                    go_wp2_with fail
                    go_roundw
                    case rel => exact ⟨j + 1, _, by omega, by omega, by go_num, P1.out, HPR.out, HCU6.out, HRO6.out, HFR6.out, HFI6.out⟩
                    case measure => simp [intOf]; omega
                  · rw [decide_eq_false hfit]
                    go_wp2_with fail
                    go_roundw
                    case rel => exact ⟨j + 1, s2, by omega, by omega, by go_num, HJ.out, HPR.out, HCU.out.same HO.out (by rw [HWANT.out, HTT.out]; simp only; rw [← HM.out]; exact if_neg hfit), HRO.out, HFR2.out, HFI.out⟩
                    case measure => simp [intOf]; omega
                · have c1 : (j : Int) < (T : Int) := by omega
                  have c2 : decide ((j : Int) < (o.n : Int)) = false := by simp; omega
                  go_wp2_with fail
                  go_roundw
                  case rel => exact ⟨i + 1, s2, by omega, by go_num, HJ.out, HPR.out, HCU.out.next HO.out (fun j' h1 h2 => by omega), HRO.out, HFR2.out⟩
                  case measure => simp [intOf]; omega
              · have c1 : decide ((j : Int) < (T : Int)) = false := by simp; omega
                go_wp2_with fail
                go_roundw
                case rel =>
                  refine ⟨i + 1, s2, by omega, by go_num, HJ.out, HPR.out, HCU.out.next HO.out (fun j' h1 h2 => ?_), HRO.out, HFR2.out⟩
                  rw [want_at (x := x) (by rw [HAI.out]; exact HX.out), List.getElem?_eq_none (by have := HT.out; omega)]
                case measure => simp [intOf]; omega
        · have HJ1 := hid hJ
          have HCUR1 := hid hcur
          have HRow1 := hid hRow
          have HFR1 := hid hFr
          have HPAR := hid hpar
          clear hJ hcur hRow hFr hpar
          go_wp2_with fail
          refine bodyPost_ret (v := .tuple #[.pointer (some ⟨L.hb, 0, none⟩), .pointer (some ⟨D.mb, 0, none⟩), .slice A0 M c0, .bool true]) (by simp [results, Try.results54, go_sem]) rfl ⟨L, D, _, s1, A, z, bits, m, obs, G, rfl, HJ1.out, HRow1.out, HFR1.out, HLO.out.1, HLO.out.2, HPAR.out, by have := HREST.out.2.1; have := HN.out; omega, HREST.out.2.2.2.1, fun o ho j hj => ?_, fun hrc => ?_, ⟨s.top, s.x.l, obs⟩, by have := HREST.out.2.2.2.2.2.2; rw [← HN.out]; exact this, rfl⟩
          · obtain ⟨i', hi', he⟩ := List.getElem_of_mem ho
            have ho' : obs[i']? = some o := by rw [List.getElem?_eq_getElem hi', he]
            rw [HCUR1.out i' o ho' j hj, if_pos (by have := HM.out; omega)]
          · obtain ⟨_, h2, h3⟩ := HREST.out.2.2.2.2.1 hrc
            exact ⟨by have := HN.out; omega, h3⟩
end Go.Proofs.Ytifillpcphiblaa
