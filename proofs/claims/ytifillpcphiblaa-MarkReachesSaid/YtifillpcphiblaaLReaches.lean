import Derived.Test.YtifillpcphiblaaPReach
import Derived.Test.YtifillpcphiblaaLOnce
import Derived.Deep.QuietTactic
import Derived.Deep.DeepCutAuto
import Derived.BigQuiet
namespace Go.Proofs.Ytifillpcphiblaa
open Go Go.Proofs Go.RowKit

set_option maxRecDepth 100000 in
set_option maxHeartbeats 12800000 in
theorem lawMarkReaches (W Lg a b c d : Int) (sv v rv pv : Value) (cls : List Int) (ms : List Mk) (roots pieces : List Int) (w : World) (hs : SlArg w sv cls) (hms : MkArg w v ms) (hrs : SlArg w rv roots) (hps : SlArg w pv pieces) :
    Calls Try.prog 12 #[.agg #[.int .i64 W, .int .i64 Lg, .int .i64 a, .int .i64 b, .int .i64 c, .int .i64 d, sv], v, rv, pv] w fun e w' => e = .returned (.bool true) ∧ Fr [] w w' := by
  obtain ⟨rp, rcap, rfl⟩ := slForm hrs
  obtain ⟨pp, pcap, rfl⟩ := slForm hps
  obtain ⟨N, hN⟩ : ∃ N, N = roots.length := ⟨_, rfl⟩
  obtain ⟨P, hP⟩ : ∃ P, P = pieces.length := ⟨_, rfl⟩
  have B0 := Blk.new w [.int .i64 W, .int .i64 Lg, .int .i64 a, .int .i64 b, .int .i64 c, .int .i64 d, sv] 24
  have HB0 := hid B0
  have hF0 : Fr [] w (w.alloc (.cells #[.int .i64 W, .int .i64 Lg, .int .i64 a, .int .i64 b, .int .i64 c, .int .i64 d, sv] 24)) := (Fr.refl _ w).alloc _
  have HF0 := hid hF0
  have HSL := hid hs
  have HMS := hid hms
  have HRS := hid hrs
  have HPS := hid hps
  have HN := hid hN
  have HP := hid hP
  rw [← hN, ← hP]
  clear B0 hF0 hs hms hrs hps hN hP
  go_enter Try.func12, Try.ntmps12
  go_wp2_with fail
  refine (lAwake _).mono ?_
  rintro e w1 ⟨rfl, hF1⟩
  have hF1' := HF0.out.trans hF1
  have hB1 := HB0.out.fr hF1 (by simp)
  have c0 := hB1.cell (i := 0) rfl
  have c1 := hB1.cell (i := 1) rfl
  have c2 := hB1.cell (i := 2) rfl
  have c3 := hB1.cell (i := 3) rfl
  have c4 := hB1.cell (i := 4) rfl
  have c5 := hB1.cell (i := 5) rfl
  have c6 := hB1.cell (i := 6) rfl
  have HF1 := hid hF1'
  have HB1 := hid hB1
  clear hF1 hF1' hB1
  go_wp2_with fail
  refine (lFew W Lg a b c d sv v cls ms w1 (HSL.out.fr HF1.out (by simp)) (HMS.out.fr HF1.out)).mono ?_
  rintro e w2 ⟨rfl, hF2⟩
  have hF2' := HF1.out.trans hF2
  have HF2 := hid hF2'
  have hB2 := HB1.out.fr hF2 (by simp)
  clear c0 c1 c2 c3 c4 c5 c6
  have c0 := hB2.cell (i := 0) rfl
  have c1 := hB2.cell (i := 1) rfl
  have c2 := hB2.cell (i := 2) rfl
  have c3 := hB2.cell (i := 3) rfl
  have c4 := hB2.cell (i := 4) rfl
  have c5 := hB2.cell (i := 5) rfl
  have c6 := hB2.cell (i := 6) rfl
  clear hB2 hF2 hF2'
  cases hfew : fewB W Lg cls ms.length with
  | false =>
    clear hfew
    go_wp2_with fail
    go_ret
    exact ⟨rfl, HF2.out⟩
  | true =>
    obtain ⟨hR, hW6, hm30⟩ := few_parts hfew
    clear hfew
    by_cases hN20 : 20 < N
    · have g1 : decide ((20 : Int) < (N : Int)) = true := by simp; omega
      go_wp2_with fail
      go_ret
      exact ⟨rfl, HF2.out⟩
    · have g1 : decide ((20 : Int) < (N : Int)) = false := by simp; omega
      by_cases hP200 : 200 < P
      · have g2 : decide ((200 : Int) < (P : Int)) = true := by simp; omega
        go_wp2_with fail
        go_ret
        exact ⟨rfl, HF2.out⟩
      have g2 : decide ((200 : Int) < (P : Int)) = false := by simp; omega
      obtain ⟨Wn, rfl⟩ := Int.eq_ofNat_of_zero_le (show 0 ≤ W by have := hR.w1; omega)
      obtain ⟨Ln, rfl⟩ := Int.eq_ofNat_of_zero_le (show 0 ≤ Lg from hR.l1)
      have HR := hid hR
      clear hR
      go_wp2_with fail
      refine (lBuilt Wn Ln a b c d sv v cls ms 24 w2 HR.out (HSL.out.fr HF2.out (by simp)) (HMS.out.fr HF2.out) hm30 (cls24 HR.out) (by decide)).mono ?_
      rintro e w3 ⟨L, D, atv, s, A, z, bits, m, obs, G, rfl, hJ, hrow, hF3, hlo, hdB, hpar, hle, hn32, hwd, -⟩
      obtain ⟨A0, ca, rfl⟩ := hrow.form
      obtain ⟨M, hM⟩ : ∃ M, M = obs.length := ⟨_, rfl⟩
      have hlen : (obs.map Ob.p).length = M := by rw [List.length_map, hM]
      rw [hlen] at hrow ⊢
      have hM30 : M ≤ 30 := by omega
      have HJ := hid hJ
      have HROW := hid hrow
      have HDV := hid (hJ.dv hpar)
      have HF3 := hid (HF2.out.trans hF3)
      have HLO := hid (And.intro hlo hdB)
      have HWD := hid hwd
      have HPAR := hid hpar
      have HM := hid hM
      have HLEN := hid hlen
      have HN32 := hid hn32
      have hsz : w.heap.size ≤ w3.heap.size := HF3.out.size
      have HSZ := hid HF2.out.size
      have HLL := hid hJ.low
      have hdw : D.B ≤ w3.heap.size := hJ.jh.dh.rs.le
      clear hJ hrow hF3 hlo hdB hwd hpar hM hlen hn32 hle hm30 hW6 c0 c1 c2 c3 c4 c5 c6
      go_wp2_with fail
      refine (mkNew L.hb w3).mono ?_
      rintro e w4 ⟨rfl, hMk, hF4, hsz4⟩
      have q : QS w L D w3.heap.size := ⟨fun hc => by have := HLL.out _ hc; omega, fun x hx => Nat.le_trans HSZ.out (HLO.out.1 x hx), HLL.out, hsz, Nat.le_trans HSZ.out HLO.out.2⟩
      have HQ := hid q
      have HMK := hid hMk
      have HF4 := hid hF4
      clear q hMk hF4
      go_wp2_with fail
      refine (lBegin (w := w) (ms := ms) (HJ.out.tick HF4.out) (HROW.out.fr HF4.out (by simp)) (HF3.out.trans HF4.out) HQ.out HMK.out HPAR.out HWD.out (rts obs roots)).mono ?_
      rintro e w5 ⟨rfl, hF5, s5, h5⟩
      obtain ⟨U0, hU0⟩ : ∃ U0, U0 = pot A.begun (MGof obs s (rts obs roots)) obs := ⟨_, rfl⟩
      have hU1 : U0 ≤ 1000 := by have := pot_le (A := A.begun) (g := MGof obs s (rts obs roots)) HN32.out; have := HM.out; omega
      have hdv5 := (HDV.out.tick HF4.out).step HQ.out HMK.out (hF5.here (fun y hy => List.mem_cons_of_mem _ hy))
      have hsep0 : ∀ g, (Value.slice none 0 0).ownBlock = some g → (Value.slice A0 M ca).ownBlock ≠ some g := by simp [Value.ownBlock]
      rw [← hU0] at h5
      have H5 := hid h5
      have HU0 := hid hU0
      have HDV5 := hid hdv5
      have hw35 : w3.heap.size ≤ w5.heap.size := Nat.le_trans HF4.out.size hF5.size
      have HW35 := hid hw35
      clear h5 hU0 hF5 hdv5 hw35
      go_wp2_with fail
      go_loopw [15, 14] (fun i fv wr => ∃ (j : Nat) (s2 : HS) (A2 : Rg), j ≤ N ∧ i = .int .i64 j ∧ LS w wr L D (.slice A0 M ca) w3.heap.size s2 A2 z obs (MGof obs s (rts obs roots)) 0 0 U0 ∧ Marked A2 obs roots j ∧ DV wr D m obs G s ∧ Rowi wr D.B fv (rts obs (roots.take j)) ∧ (∀ g, fv.ownBlock = some g → (Value.slice A0 M ca).ownBlock ≠ some g) ∧ w3.heap.size ≤ wr.heap.size) (fun i _ _ => N - (intOf i).toNat)
      case atStart => exact ⟨0, s5, _, Nat.zero_le _, rfl, H5.out, fun i t o hi => by omega, HDV5.out, Rowi.nil _ _, hsep0, HW35.out⟩
      case round =>
        obtain ⟨j, s2, A2, hj, rfl, h2, hmk, hdv, hrf, hsep, hwl⟩ := hrel
        have H2 := hid h2
        have HMKD := hid hmk
        have HDV2 := hid hdv
        have HRF := hid hrf
        have HSEP := hid hsep
        clear h2 hmk hdv hrf hsep
        by_cases hjN : (j : Int) < (N : Int)
        · obtain ⟨t, ht⟩ : ∃ t, roots[j]? = some t := ⟨_, List.getElem?_eq_getElem (by have := HN.out; omega)⟩
          obtain ⟨xb, xo, exb, hrx⟩ := slRead HRS.out (by have := HN.out; omega)
          subst exb
          have qx : wr.cell? ⟨xb, xo + j, none⟩ = some (.int .i64 t) := (hrx.fr H2.out.fr0 (by simp)).2 j _ (by rw [List.getElem?_map, ht]; rfl)
          have HT := hid ht
          have HRX := hid hrx
          clear ht hrx
          go_wp2_with fail
          refine (dFits t M wr).mono ?_
          rintro e w6 ⟨rfl, rfl⟩
          by_cases hfit : 1 ≤ t ∧ t ≤ M
          · rw [decide_eq_true hfit]
            obtain ⟨tn, htn⟩ : ∃ tn : Nat, t = (tn : Int) + 1 := ⟨(t - 1).toNat, by omega⟩
            subst htn
            have htm : tn < M := by omega
            obtain ⟨ot, hot⟩ : ∃ ot, obs[tn]? = some ot := ⟨_, List.getElem?_eq_getElem (by have := HM.out; omega)⟩
            obtain ⟨g0, eg, -, -, -, -, -, hgc⟩ := H2.out.row.at (by rw [HLEN.out]; omega)
            subst eg
            have q1 : wr.cell? ⟨g0, tn, none⟩ = some (.int .i64 ot.p) := hgc tn ot.p (by rw [List.getElem?_map, hot]; rfl)
            have w0 : IntKind.i64.wrap (tn : Int) = tn := by rw [IntKind.wrap_i64]; omega
            have i1 : (0 : Int) ≤ (tn : Int) := by omega
            have i2 : (tn : Int) < (M : Int) := by omega
            have HOT := hid hot
            have hidx : ((tn : Int) + 1 - 1).toNat = tn := by omega
            have HIDX := hid hidx
            have HFIT := hid hfit
            have hrl := rts_len obs (roots.take j)
            have hrl2 : (roots.take j).length ≤ j := by rw [List.length_take]; omega
            have h11 : Rowi (wr.alloc (.cells #[.int .i64 ot.p] 3)) D.B u14 (rts obs (roots.take j)) := HRF.out.alloc _
            have hS1 : Srci (wr.alloc (.cells #[.int .i64 ot.p] 3)) (some ⟨wr.heap.size, 0, none⟩) 1 [ot.p] := (Rowi.one wr ot.p (Nat.le_refl wr.heap.size)).src
            have H11 := hid h11
            have HS1 := hid hS1
            have hlen1 : (rts obs (roots.take j)).length + 1 ≤ 1000000 := by omega
            have HL1 := hid hlen1
            clear hot hfit hgc hidx h11 hS1 hrl hrl2 hlen1
            go_wp2_with (at_builtin; refine wpList_appi rfl _ _ rfl D.B u14 (rts obs (roots.take j)) rfl H11.out (some ⟨wr.heap.size, 0, none⟩) 1 1 [ot.p] rfl HS1.out (by simp) HL1.out (by simp; omega) ?_)
            intro v7 w7 h7 f7 b7
            have ls6 := H2.out.tick ((Fr.refl [] wr).alloc (.cells #[.int .i64 ot.p] 3))
            have ls7 := ls6.app HQ.out H11.out HSEP.out f7
            have dv7 := (HDV2.out.tick ((Fr.refl [] wr).alloc (.cells #[.int .i64 ot.p] 3))).row H11.out f7
            have hsz7 : w3.heap.size ≤ w7.heap.size := by have := f7.size; simp at this; omega
            have hsep7 : ∀ g, v7.ownBlock = some g → (Value.slice (some ⟨g0, 0, none⟩) M ca).ownBlock ≠ some g := by
              intro g hg
              rcases b7 with b7 | b7
              · rw [b7] at hg; exact HSEP.out g hg
              · rw [b7] at hg
                cases hg
                intro hc
                have := (H2.out.row.lt _ hc).2
                first
                  | omega
                  | (simp at this; done)
                  | (simp at this; omega)
            have hrts : rts obs (roots.take j) ++ [ot.p] = rts obs (roots.take (j + 1)) := by
              rw [rts_take HT.out, rootAt_yes HOT.out]; rfl
            rw [hrts] at h7
            have p1 : w7.cell? ⟨g0, tn, none⟩ = some (.int .i64 ot.p) := by
              obtain ⟨g1, e, _, _, _, _, _, hc⟩ := ls7.row.at (by rw [HLEN.out]; omega)
              cases e
              exact hc tn ot.p (by rw [List.getElem?_map, HOT.out]; rfl)
            have px : w7.cell? ⟨xb, xo + j, none⟩ = some (.int .i64 ((tn : Int) + 1)) := (HRX.out.fr ls7.fr0 (by simp)).2 j _ (by rw [List.getElem?_map, HT.out]; rfl)
            have LS7 := hid ls7
            have DV7 := hid dv7
            have H7 := hid h7
            have HSEP7 := hid hsep7
            have HSZ7 := hid hsz7
            clear ls6 ls7 dv7 h7 f7 b7 hsep7 hrts q1 qx hsz7
            go_wp2_with fail
            refine (lShade2 LS7.out HQ.out ot.p (.inr ⟨ot, List.mem_of_getElem? HOT.out, rfl, Rch.root _ (rts_mem HT.out (by rw [← HM.out]; exact HFIT.out) (by rw [HIDX.out]; exact HOT.out))⟩)).mono ?_
            rintro e w8 ⟨rfl, hF8, s8, A8, h8, hst8, hm8⟩
            have dv8 := DV7.out.step HQ.out LS7.out.mw.m hF8
            have hr8 := rowi_step H7.out HQ.out LS7.out.mw.m hF8
            have HM8 := hid (Marked.succ (HMKD.out.mono hst8) (fun t o ht hc ho => by
              rw [HT.out] at ht
              cases ht
              rw [HIDX.out, HOT.out] at ho
              cases ho
              exact hm8 ot (List.mem_of_getElem? HOT.out) rfl))
            have HSZ8 := hid (Nat.le_trans HSZ7.out hF8.size)
            have H8 := hid h8
            have DV8 := hid dv8
            have HR8 := hid hr8
            clear h8 hst8 hm8 dv8 hr8 p1 px hF8
            go_wp2_with fail
            go_roundw
            case rel => exact ⟨j + 1, s8, A8, by omega, by go_num, H8.out, HM8.out, DV8.out, HR8.out, HSEP7.out, HSZ8.out⟩
            case measure => simp [intOf]; omega
          · rw [decide_eq_false hfit]
            have HM7 := hid (Marked.succ HMKD.out (fun t' o ht hc ho => by
              rw [HT.out] at ht
              cases ht
              rw [← HM.out] at hc
              exact absurd hc hfit))
            have hrts : rts obs (roots.take (j + 1)) = rts obs (roots.take j) := by
              rw [rts_take HT.out, rootAt_no (by rw [← HM.out]; exact hfit)]; simp
            have HRF7 := hid (show Rowi wr D.B u14 (rts obs (roots.take (j + 1))) by rw [hrts]; exact HRF.out)
            clear hfit hrts
            go_wp2_with fail
            go_roundw
            case rel => exact ⟨j + 1, s2, A2, by omega, by go_num, H2.out, HM7.out, HDV2.out, HRF7.out, HSEP.out, hwl⟩
            case measure => simp [intOf]; omega
        · have hjN' : roots.length ≤ j := by have := HN.out; omega
          have htk : roots.take j = roots := List.take_of_length_le hjN'
          have HJN := hid hjN'
          have HRF2 := hid (show Rowi wr D.B u14 (rts obs roots) by have := HRF.out; rw [htk] at this; exact this)
          have hmall : ∀ o ∈ obs, o.p ∈ rts obs roots → Mkd A2 o := HMKD.out.all HJN.out (fun o ho o' ho' e => H2.out.mw.i.mh.one ho ho' e)
          have HMALL := hid hmall
          clear hjN' htk hmall
          go_wp2_with fail
          refine (lShade2 H2.out HQ.out 0 (.inl rfl)).mono ?_
          rintro e w7 ⟨rfl, hF7, s7, A7, h7, hst7, -⟩
          have dv7 := HDV2.out.step HQ.out H2.out.mw.m hF7
          have hr7 := rowi_step HRF2.out HQ.out H2.out.mw.m hF7
          have hmall7 : ∀ o ∈ obs, o.p ∈ rts obs roots → Mkd A7 o := fun o ho hp => hst7.mono o ho (HMALL.out o ho hp)
          obtain ⟨cs, hdb, hc7⟩ := dv7.hb
          have q7 := hdb.cell hc7
          have H7 := hid h7
          have DV7 := hid dv7
          have HR7 := hid hr7
          have HMALL7 := hid hmall7
          have HSZ7 := hid (Nat.le_trans hwl hF7.size)
          clear h7 dv7 hr7 hmall7 hst7 hF7 hdb hc7
          go_wp2_with fail
          have hmh := H7.out.mw.i.mh
          refine (dReached D.mp D.B m obs G s.wd (W0of s) (rts obs roots) u14 w7 DV7.out.im DV7.out.ob HR7.out (by have := rts_len obs roots; have := HN.out; omega) (by have := HM.out; omega) (fun o ho j => rfl) (fun o ho o' ho' e => hmh.one ho ho' e) hmh.ndo (fun o ho => hmh.hd ho 0 (.inl rfl)) (wd0 HWD.out) (fun o ho => by
            obtain ⟨m, hm⟩ := hmh.any ho
            have := hm.bound hmh.hi
            have := hmh.hi.len
            simp only [Ob.wm] at *
            omega) (fun x hx => by
            obtain ⟨i, t, o, h1, h2, h3, h4⟩ := rts_of hx
            exact ⟨o, List.mem_of_getElem? h3, h4⟩)).mono ?_
          rintro e w8 ⟨om, lk, Lv, rfl, hom, him, hLn, hLs, hLr, hlk, hF8⟩
          have hU9 : U0 = Lv.length + lk := by rw [HU0.out, pot_eq hmh.ndo hLn hLs hLr, hlk]
          obtain ⟨tr, htr⟩ : ∃ tr, tr = (Lv.map Ob.p).map fun x => (x, Value.bool true) := ⟨_, rfl⟩
          rw [← htr] at him
          have htrl : tr.length = Lv.length := by rw [htr]; simp
          have hget : ∀ o ∈ obs, (o ∈ Lv → mget tr o.p = some (.bool true)) ∧ (o ∉ Lv → mget tr o.p = none) := by
            intro o ho
            rw [htr, mget_tr]
            refine ⟨fun hin => if_pos (List.mem_map.2 ⟨o, hin, rfl⟩), fun hin => if_neg (fun hc => ?_)⟩
            obtain ⟨o', h1, h2⟩ := List.mem_map.1 hc
            have := hmh.one (hLs o' h1) ho h2
            subst this
            exact hin h1
          have hr8 : LR w w8 L D (.slice A0 M ca) w3.heap.size s7 A7 z obs (MGof obs s (rts obs roots)) 0 0 U0 om tr := ⟨H7.out.tick hF8, him, fun hc => by
            rcases List.mem_cons.1 hc with h1 | h1
            · have := H7.out.mw.m.lt; omega
            · have := all_lt H7.out.mw.hr (fp_all h1); omega⟩
          have H8 := hid hr8
          have HU9 := hid hU9
          have HLR := hid hLr
          have HGET := hid hget
          have HTRL := hid htrl
          clear hmh hom him hLn hLs hLr hlk hF8 hU9 htr htrl hget hr8 q7
          go_wp2_with fail
          go_loopw [19, 18] (fun i uv wr => ∃ (k d : Nat) (s2 : HS) (A2 : Rg) (a2 : Int) (nx2 U : Nat), k ≤ P ∧ i = .int .i64 k ∧ uv = .int .i64 d ∧ d + U = U0 ∧ LR w wr L D (.slice A0 M ca) w3.heap.size s2 A2 z obs (MGof obs s (rts obs roots)) a2 nx2 U om tr ∧ (∀ o ∈ obs, o.p ∈ rts obs roots → Mkd A2 o)) (fun i _ _ => P - (intOf i).toNat)
          case atStart => exact ⟨0, 0, s7, A7, 0, 0, U0, Nat.zero_le _, rfl, rfl, by omega, H8.out, HMALL7.out⟩
          case round =>
            obtain ⟨k, d, s2', A2', a2, nx2, U, hk, rfl, rfl, hdU, h2, hm2⟩ := hrel
            have HH2 := hid h2
            have HHM := hid hm2
            clear h2 hm2
            by_cases hkP : (k : Int) < (P : Int)
            · obtain ⟨t, ht⟩ : ∃ t, pieces[k]? = some t := ⟨_, List.getElem?_eq_getElem (by have := HP.out; omega)⟩
              obtain ⟨xb, xo, exb, hrx⟩ := slRead HPS.out (by have := HP.out; omega)
              subst exb
              have qx : wr.cell? ⟨xb, xo + k, none⟩ = some (.int .i64 t) := (hrx.fr HH2.out.ls.fr0 (by simp)).2 k _ (by rw [List.getElem?_map, ht]; rfl)
              have HT := hid ht
              have HRX := hid hrx
              clear ht hrx
              go_wp2_with fail
              refine (lrWork HH2.out HQ.out t (by omega)).mono ?_
              rintro e w9 ⟨d9, s9, A9, a9, nx9, rfl, hd1, hd2, h9, hst9, hfin⟩
              have px : w9.cell? ⟨xb, xo + k, none⟩ = some (.int .i64 t) := (HRX.out.fr h9.ls.fr0 (by simp)).2 k _ (by rw [List.getElem?_map, HT.out]; rfl)
              have hm9 : ∀ o ∈ obs, o.p ∈ rts obs roots → Mkd A9 o := fun o ho hp => hst9.mono o ho (HHM.out o ho hp)
              have H9 := hid h9
              have HM9 := hid hm9
              have n1 : ¬ (d9 : Int) < 0 := by omega
              by_cases hneg : t < 0
              · have hd0 : d9 = 0 := by omega
                subst hd0
                have n2 : max t 0 = 0 := by omega
                have n3 : decide ((0 : Int) < t) = false := by simp; omega
                clear h9 hst9 hfin hm9 hd1 hd2
                go_wp2_with fail
                go_roundw
                case rel => exact ⟨k + 1, d, s9, A9, a9, nx9, U, by omega, by go_num, rfl, hdU, H9.out, HM9.out⟩
                case measure => simp [intOf]; omega
              · obtain ⟨tn, rfl⟩ := Int.eq_ofNat_of_zero_le (show 0 ≤ t by omega)
                have hd1' : d9 ≤ tn := by omega
                have n2 : ¬ (tn : Int) < (d9 : Int) := by omega
                by_cases hlt : d9 < tn
                · obtain ⟨rfl, hno⟩ := hfin (by omega)
                  have hnx := h9.ls.mw.z0 rfl
                  subst hnx
                  have HNO := hid hno
                  have n3 : (d9 : Int) < (tn : Int) := by omega
                  clear h9 hst9 hfin hm9 hd1 hno
                  go_wp2_with fail
                  refine (lrDone H9.out HQ.out HNO.out).mono ?_
                  rintro e w10 ⟨rfl, h10⟩
                  have H10 := hid h10
                  clear h10
                  go_wp2_with fail
                  go_roundw
                  case rel => exact ⟨k + 1, d + d9, s9, A9, 0, 0, U - d9, by omega, by go_num, by go_num, by omega, H10.out, HM9.out⟩
                  case measure => simp [intOf]; omega
                · have n3 : decide ((d9 : Int) < (tn : Int)) = false := by simp; omega
                  clear h9 hst9 hfin hm9 hd1
                  go_wp2_with fail
                  go_roundw
                  case rel => exact ⟨k + 1, d + d9, s9, A9, a9, nx9, U - d9, by omega, by go_num, by go_num, by omega, H9.out, HM9.out⟩
                  case measure => simp [intOf]; omega
            · have hkP2 : ¬ (k : Int) < (P : Int) := hkP
              go_wp2_with fail
              refine (lrWork HH2.out HQ.out 2000 (by omega)).mono ?_
              rintro e w9 ⟨d9, s9, A9, a9, nx9, rfl, hd1, hd2, h9, hst9, hfin⟩
              obtain ⟨rfl, hno⟩ := hfin (by omega)
              have hnx := h9.ls.mw.z0 rfl
              subst hnx
              obtain ⟨hiff, hU⟩ := h9.ls.mw.i.all hno (fun o ho hp => hst9.mono o ho (HHM.out o ho hp))
              rw [hU] at h9
              have hsum : d + d9 = U0 := by omega
              have H9 := hid h9
              have HNO := hid hno
              have HIFF := hid hiff
              have HSUM := hid hsum
              obtain ⟨T, hT⟩ : ∃ T, T = Lv.length := ⟨_, rfl⟩
              have hTl : (T : Int) + (lk : Int) = (U0 : Int) := by have := HU9.out; omega
              have hdl : (d : Int) + (d9 : Int) = (U0 : Int) := by omega
              have w1 : IntKind.i64.wrap (U0 : Int) = (U0 : Int) := by rw [IntKind.wrap_i64]; omega
              have HT := hid hT
              have HU1 := hid hU1
              clear h9 hst9 hfin hd1 hd2 hno hiff hU hsum hdU hT hU1 hkP hkP2 hk hwl hN20 hP200 g1 g2 hsep0 hsz hdw hsz4 hj hjN
              go_wp2_with fail
              refine (lrDone H9.out HQ.out HNO.out).mono ?_
              rintro e w10 ⟨rfl, h10⟩
              have hlen10 := fun ty => run_len_im (P := Try.prog) h10.im Try.underlying92 ty
              rw [HTRL.out, ← HT.out] at hlen10
              have H10 := hid h10
              clear h10
              go_wp2_with fail
              refine (lrWork H10.out HQ.out 10 (by omega)).mono ?_
              rintro e w11 ⟨d11, s11, A11, a11, nx11, rfl, -, hd2, h11, hst11, hfin⟩
              obtain rfl : d11 = 0 := by omega
              obtain ⟨rfl, hno⟩ := hfin (by omega)
              have hnx := h11.ls.mw.z0 rfl
              subst hnx
              have hiff : ∀ o ∈ obs, Mkd A11 o ↔ o ∈ Lv := by
                intro o ho
                rw [HLR.out o ho]
                exact ⟨fun hm => h11.ls.mw.i.mS o ho hm, fun hr => hst11.mono o ho ((HIFF.out o ho).2 hr)⟩
              have HI11 := hid hiff
              have H11 := hid h11
              clear h11 hst11 hfin hno hiff hd2 hlen10 hTl hdl w1
              go_wp2_with fail
              go_loopw [21] (fun i wr => ∃ (k : Nat) (s2 : HS), k ≤ M ∧ i = .int .i64 k ∧ LR w wr L D (.slice A0 M ca) w3.heap.size s2 A11 z obs (MGof obs s (rts obs roots)) 0 0 0 om tr) (fun i _ => M - (intOf i).toNat)
              case atStart => exact ⟨0, s11, Nat.zero_le _, rfl, H11.out⟩
              case round =>
                obtain ⟨k, s2, hk, rfl, h2⟩ := hrel
                have HH := hid h2
                clear h2
                by_cases hkM : (k : Int) < (M : Int)
                · obtain ⟨o, ho⟩ : ∃ o, obs[k]? = some o := ⟨_, List.getElem?_eq_getElem (by have := HM.out; omega)⟩
                  have hom := List.mem_of_getElem? ho
                  obtain ⟨g0, eg, -, -, -, -, -, hgc⟩ := HH.out.ls.row.at (by rw [HLEN.out]; omega)
                  subst eg
                  have q1 : wr.cell? ⟨g0, k, none⟩ = some (.int .i64 o.p) := hgc k o.p (by rw [List.getElem?_map, ho]; rfl)
                  have HO := hid ho
                  have HOM := hid hom
                  clear ho hom hgc
                  go_wp2_with fail
                  refine (lrCell HH.out HQ.out HOM.out).mono ?_
                  rintro e w12 ⟨mk, rfl, hmk, h12⟩
                  have h13 := h12.tick ((Fr.refl [] w12).alloc (.cells #[.int .i64 o.k, .int .i64 o.n, .int .i64 o.a, .int .i64 mk] 40))
                  have C13 := Blk.new w12 [.int .i64 o.k, .int .i64 o.n, .int .i64 o.a, .int .i64 mk] 40
                  have d3 := C13.cell (i := 3) rfl
                  obtain ⟨W13, hW13⟩ : ∃ W13, W13 = w12.alloc (.cells #[.int .i64 o.k, .int .i64 o.n, .int .i64 o.a, .int .i64 mk] 40) := ⟨_, rfl⟩
                  rw [← hW13] at h13 d3
                  have p1 : W13.cell? ⟨g0, k, none⟩ = some (.int .i64 o.p) := by
                    obtain ⟨g1, e, _, _, _, _, _, hc⟩ := h13.ls.row.at (by rw [HLEN.out]; omega)
                    cases e
                    exact hc k o.p (by rw [List.getElem?_map, HO.out]; rfl)
                  have hlk3 := fun n => run_lookup_im (P := Try.prog) (h13.im.drewN n) Try.underlying92 Try.underlying3 (z := .bool false) (by kernel_rfl) o.p false
                  have hiff : (mk = s2.parity ↔ o ∈ Lv) := hmk.trans (HI11.out o HOM.out)
                  simp only [if_neg (show ¬ false = true by decide)] at hlk3
                  obtain ⟨pr, hpr⟩ : ∃ pr, pr = s2.parity := ⟨_, rfl⟩
                  rw [← hpr] at hiff
                  have HPR := hid hpr
                  have H13 := hid h13
                  have HK := hid hk
                  clear h12 h13 C13 q1 hmk hpr hk
                  by_cases hin : o ∈ Lv
                  · rw [(HGET.out o HOM.out).1 hin] at hlk3
                    simp only [Option.getD_some] at hlk3
                    obtain rfl := hiff.2 hin
                    clear hiff hin
                    go_wp2_with fail
                    rw [← hW13]
                    clear hW13
                    go_quiet ((go_at_call 34; exact Calls.quiet_of_same (hParity' L (s2.tick 1) mk HPR.out.symm _ (H13.out.ls.mw.hr.drewN _))))
                    go_wp2_with fail
                    go_roundw
                    case rel => exact ⟨k + 1, s2.tick 1, by omega, by go_num, H13.out.tick ((Fr.refl [] W13).drewN nq)⟩
                    case measure => simp [intOf]; omega
                  · rw [(HGET.out o HOM.out).2 hin] at hlk3
                    simp only [Option.getD_none] at hlk3
                    have hne : (mk == pr) = false := by
                      cases hb : (mk == pr) with
                      | false => rfl
                      | true => exact absurd (hiff.1 (by simpa using hb)) hin
                    clear hiff hin
                    go_wp2_with fail
                    rw [← hW13]
                    clear hW13
                    go_quiet ((go_at_call 34; exact Calls.quiet_of_same (hParity' L (s2.tick 1) pr HPR.out.symm _ (H13.out.ls.mw.hr.drewN _))))
                    go_wp2_with fail
                    go_roundw
                    case rel => exact ⟨k + 1, s2.tick 1, by omega, by go_num, H13.out.tick ((Fr.refl [] W13).drewN nq)⟩
                    case measure => simp [intOf]; omega
                · have hfin : Fr [] w wr := HH.out.ls.fr0
                  go_wp2_with fail
                  go_ret
                  exact ⟨rfl, hfin⟩
end Go.Proofs.Ytifillpcphiblaa
