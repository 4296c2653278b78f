import Derived.Test.YtifillpcphiblaaPKeeps
import Derived.Test.YtifillpcphiblaaLOnce
import Derived.Deep.QuietTactic
import Derived.Deep.DeepCutAuto
import Derived.BigQuiet
namespace Go.Proofs.Ytifillpcphiblaa
open Go Go.Proofs Go.RowKit

set_option maxRecDepth 100000 in
theorem dPick (n : Int) (of : Nat) (h0 : 0 < of) (h1 : of ≤ 1000) (w : World) :
    Calls Try.prog 61 #[.int .i64 n, .int .i64 of] w fun e w' => e = .returned (.int .i64 (pk n of)) ∧ w' = w := by
  have b1 := Int.tmod_lt_of_pos n (show (0 : Int) < of by omega)
  have b2 : -(of : Int) < n.tmod of := by
    have h3 := Int.tmod_lt_of_pos (-n) (show (0 : Int) < of by omega)
    rw [Int.neg_tmod] at h3
    omega
  have hz : ((of : Int) == 0) = false := by simp; omega
  have hz2 : ¬ (of : Int) = 0 := by omega
  unfold pk
  by_cases hn : n.tmod of < 0
  · rw [if_pos hn]
    go_enter Try.func61, Try.ntmps61
    go_wp2_with fail
    go_ret
    exact ⟨rfl, rfl⟩
  · rw [if_neg hn]
    have g0 : decide (n.tmod of < 0) = false := by simpa using hn
    go_enter Try.func61, Try.ntmps61
    go_wp2_with fail
    go_ret
    exact ⟨rfl, rfl⟩

set_option maxRecDepth 100000 in
set_option maxHeartbeats 12800000 in
theorem lawMarkKeeps (W Lg a b c d : Int) (sv v rv pv qv : Value) (cls : List Int) (ms : List Mk) (roots pieces sets : List Int) (w : World) (hs : SlArg w sv cls) (hms : MkArg w v ms) (hrs : SlArg w rv roots) (hps : SlArg w pv pieces) (hqs : SlArg w qv sets) :
    Calls Try.prog 15 #[.agg #[.int .i64 W, .int .i64 Lg, .int .i64 a, .int .i64 b, .int .i64 c, .int .i64 d, sv], v, rv, pv, qv] w fun e w' => e = .returned (.bool true) ∧ Fr [] w w' := by
  obtain ⟨rp, rcap, rfl⟩ := slForm hrs
  obtain ⟨pp, pcap, rfl⟩ := slForm hps
  obtain ⟨sp, scap, rfl⟩ := slForm hqs
  obtain ⟨N, hN⟩ : ∃ N, N = roots.length := ⟨_, rfl⟩
  obtain ⟨P, hP⟩ : ∃ P, P = pieces.length := ⟨_, rfl⟩
  obtain ⟨Q, hQ⟩ : ∃ Q, Q = sets.length := ⟨_, rfl⟩
  have B0 := Blk.new w [.int .i64 W, .int .i64 Lg, .int .i64 a, .int .i64 b, .int .i64 c, .int .i64 d, sv] 24
  have HB0 := hid B0
  have hF0 : Fr [] w (w.alloc (.cells #[.int .i64 W, .int .i64 Lg, .int .i64 a, .int .i64 b, .int .i64 c, .int .i64 d, sv] 24)) := (Fr.refl _ w).alloc _
  have HF0 := hid hF0
  have HSL := hid hs
  have HMS := hid hms
  have HRS := hid hrs
  have HPS := hid hps
  have HQS := hid hqs
  have HN := hid hN
  have HP := hid hP
  have HQL := hid hQ
  rw [← hN, ← hP, ← hQ]
  clear B0 hF0 hs hms hrs hps hqs hN hP hQ
  go_enter Try.func15, Try.ntmps15
  go_wp2_with fail
  refine (lAwake _).mono ?_
  rintro e w1 ⟨rfl, hF1⟩
  have hF1' := HF0.out.trans hF1
  have hB1 := HB0.out.fr hF1 (by simp)
  have c0 := hB1.cell (i := 0) rfl
  have c1 := hB1.cell (i := 1) rfl
  have c2 := hB1.cell (i := 2) rfl
  have c3 := hB1.cell (i := 3) rfl
  have c4 := hB1.cell (i := 4) rfl
  have c5 := hB1.cell (i := 5) rfl
  have c6 := hB1.cell (i := 6) rfl
  have HF1 := hid hF1'
  have HB1 := hid hB1
  clear hF1 hF1' hB1
  go_wp2_with fail
  refine (lFew W Lg a b c d sv v cls ms w1 (HSL.out.fr HF1.out (by simp)) (HMS.out.fr HF1.out)).mono ?_
  rintro e w2 ⟨rfl, hF2⟩
  have hF2' := HF1.out.trans hF2
  have HF2 := hid hF2'
  have hB2 := HB1.out.fr hF2 (by simp)
  clear c0 c1 c2 c3 c4 c5 c6
  have c0 := hB2.cell (i := 0) rfl
  have c1 := hB2.cell (i := 1) rfl
  have c2 := hB2.cell (i := 2) rfl
  have c3 := hB2.cell (i := 3) rfl
  have c4 := hB2.cell (i := 4) rfl
  have c5 := hB2.cell (i := 5) rfl
  have c6 := hB2.cell (i := 6) rfl
  clear hB2 hF2 hF2'
  cases hfew : fewB W Lg cls ms.length with
  | false =>
    clear hfew
    go_wp2_with fail
    go_ret
    exact ⟨rfl, HF2.out⟩
  | true =>
    obtain ⟨hR, hW6, hm30⟩ := few_parts hfew
    clear hfew
    by_cases hN20 : 20 < N
    · have g1 : decide ((20 : Int) < (N : Int)) = true := by simp; omega
      go_wp2_with fail
      go_ret
      exact ⟨rfl, HF2.out⟩
    · have g1 : decide ((20 : Int) < (N : Int)) = false := by simp; omega
      by_cases hP60 : 60 < P
      · have g2 : decide ((60 : Int) < (P : Int)) = true := by simp; omega
        go_wp2_with fail
        go_ret
        exact ⟨rfl, HF2.out⟩
      have g2 : decide ((60 : Int) < (P : Int)) = false := by simp; omega
      obtain ⟨Wn, rfl⟩ := Int.eq_ofNat_of_zero_le (show 0 ≤ W by have := hR.w1; omega)
      obtain ⟨Ln, rfl⟩ := Int.eq_ofNat_of_zero_le (show 0 ≤ Lg from hR.l1)
      have HR := hid hR
      clear hR
      go_wp2_with fail
      refine (lBuilt Wn Ln a b c d sv v cls ms 24 w2 HR.out (HSL.out.fr HF2.out (by simp)) (HMS.out.fr HF2.out) hm30 (cls24 HR.out) (by decide)).mono ?_
      rintro e w3 ⟨L, D, atv, s, A, z, bits, m, obs, G, rfl, hJ, hrow, hF3, hlo, hdB, hpar, hle, hn32, hwd, -⟩
      obtain ⟨A0, ca, rfl⟩ := hrow.form
      obtain ⟨M, hM⟩ : ∃ M, M = obs.length := ⟨_, rfl⟩
      have hlen : (obs.map Ob.p).length = M := by rw [List.length_map, hM]
      rw [hlen] at hrow ⊢
      have hM30 : M ≤ 30 := by omega
      have HJ := hid hJ
      have HROW := hid hrow
      have HDV := hid (hJ.dv hpar)
      have HF3 := hid (HF2.out.trans hF3)
      have HLO := hid (And.intro hlo hdB)
      have HWD := hid hwd
      have HPAR := hid hpar
      have HM := hid hM
      have HLEN := hid hlen
      have HN32 := hid hn32
      have hsz : w.heap.size ≤ w3.heap.size := HF3.out.size
      have HSZ := hid HF2.out.size
      have HLL := hid hJ.low
      have hdw : D.B ≤ w3.heap.size := hJ.jh.dh.rs.le
      clear hJ hrow hF3 hlo hdB hwd hpar hM hlen hn32 hle hm30 hW6 c0 c1 c2 c3 c4 c5 c6
      go_wp2_with fail
      refine (mkNew L.hb w3).mono ?_
      rintro e w4 ⟨rfl, hMk, hF4, hsz4⟩
      have q : QS w L D w3.heap.size := ⟨fun hc => by have := HLL.out _ hc; omega, fun x hx => Nat.le_trans HSZ.out (HLO.out.1 x hx), HLL.out, hsz, Nat.le_trans HSZ.out HLO.out.2⟩
      have HQ := hid q
      have HMK := hid hMk
      have HF4 := hid hF4
      clear q hMk hF4
      go_wp2_with fail
      refine (lBeginG (w := w) (ms := ms) (HJ.out.tick HF4.out) (HROW.out.fr HF4.out (by simp)) (HF3.out.trans HF4.out) HQ.out HMK.out HPAR.out HWD.out (rts obs roots)).mono ?_
      rintro e w5 ⟨rfl, hF5, s5, h5⟩
      obtain ⟨U0, hU0⟩ : ∃ U0, U0 = pot A.begun (KG obs s (rts obs roots)) obs := ⟨_, rfl⟩
      have hU1 : U0 ≤ 1000 := by have := pot_le (A := A.begun) (g := KG obs s (rts obs roots)) HN32.out; have := HM.out; omega
      have hdv5 := (HDV.out.tick HF4.out).step HQ.out HMK.out (hF5.here (fun y hy => List.mem_cons_of_mem _ hy))
      have hsep0 : ∀ g, (Value.slice none 0 0).ownBlock = some g → (Value.slice A0 M ca).ownBlock ≠ some g := by simp [Value.ownBlock]
      rw [← hU0] at h5
      have H5 := hid h5
      have HDV5 := hid hdv5
      have hw35 : w3.heap.size ≤ w5.heap.size := Nat.le_trans HF4.out.size hF5.size
      have HW35 := hid hw35
      clear h5 hU0 hF5 hdv5 hw35
      go_wp2_with fail
      go_loopw [17, 16] (fun i fv wr => ∃ (j : Nat) (s2 : HS) (A2 : Rg), j ≤ N ∧ i = .int .i64 j ∧ LS w wr L D (.slice A0 M ca) w3.heap.size s2 A2 z obs (KG obs s (rts obs roots)) 0 0 U0 ∧ Marked A2 obs roots j ∧ DV wr D m obs G s ∧ Rowi wr D.B fv (rts obs (roots.take j)) ∧ (∀ g, fv.ownBlock = some g → (Value.slice A0 M ca).ownBlock ≠ some g) ∧ w3.heap.size ≤ wr.heap.size) (fun i _ _ => N - (intOf i).toNat)
      case atStart => exact ⟨0, s5, _, Nat.zero_le _, rfl, H5.out, fun i t o hi => by omega, HDV5.out, Rowi.nil _ _, hsep0, HW35.out⟩
      case round =>
        obtain ⟨j, s2, A2, hj, rfl, h2, hmk, hdv, hrf, hsep, hwl⟩ := hrel
        have H2 := hid h2
        have HMKD := hid hmk
        have HDV2 := hid hdv
        have HRF := hid hrf
        have HSEP := hid hsep
        clear h2 hmk hdv hrf hsep
        by_cases hjN : (j : Int) < (N : Int)
        · as_aux_lemma =>
            obtain ⟨t, ht⟩ : ∃ t, roots[j]? = some t := ⟨_, List.getElem?_eq_getElem (by have := HN.out; omega)⟩
            obtain ⟨xb, xo, exb, hrx⟩ := slRead HRS.out (by have := HN.out; omega)
            subst exb
            have qx : wr.cell? ⟨xb, xo + j, none⟩ = some (.int .i64 t) := (hrx.fr H2.out.fr0 (by simp)).2 j _ (by rw [List.getElem?_map, ht]; rfl)
            have HT := hid ht
            have HRX := hid hrx
            clear ht hrx
            go_wp2_with fail
            refine (dFits t M wr).mono ?_
            rintro e w6 ⟨rfl, rfl⟩
            by_cases hfit : 1 ≤ t ∧ t ≤ M
            · rw [decide_eq_true hfit]
              obtain ⟨tn, htn⟩ : ∃ tn : Nat, t = (tn : Int) + 1 := ⟨(t - 1).toNat, by omega⟩
              subst htn
              have htm : tn < M := by omega
              obtain ⟨ot, hot⟩ : ∃ ot, obs[tn]? = some ot := ⟨_, List.getElem?_eq_getElem (by have := HM.out; omega)⟩
              obtain ⟨g0, eg, -, -, -, -, -, hgc⟩ := H2.out.row.at (by rw [HLEN.out]; omega)
              subst eg
              have q1 : wr.cell? ⟨g0, tn, none⟩ = some (.int .i64 ot.p) := hgc tn ot.p (by rw [List.getElem?_map, hot]; rfl)
              have w0 : IntKind.i64.wrap (tn : Int) = tn := by rw [IntKind.wrap_i64]; omega
              have i1 : (0 : Int) ≤ (tn : Int) := by omega
              have i2 : (tn : Int) < (M : Int) := by omega
              have HOT := hid hot
              have hidx : ((tn : Int) + 1 - 1).toNat = tn := by omega
              have HIDX := hid hidx
              have HFIT := hid hfit
              have hrl := rts_len obs (roots.take j)
              have hrl2 : (roots.take j).length ≤ j := by rw [List.length_take]; omega
              have h11 : Rowi (wr.alloc (.cells #[.int .i64 ot.p] 3)) D.B u16 (rts obs (roots.take j)) := HRF.out.alloc _
              have hS1 : Srci (wr.alloc (.cells #[.int .i64 ot.p] 3)) (some ⟨wr.heap.size, 0, none⟩) 1 [ot.p] := (Rowi.one wr ot.p (Nat.le_refl wr.heap.size)).src
              have H11 := hid h11
              have HS1 := hid hS1
              have hlen1 : (rts obs (roots.take j)).length + 1 ≤ 1000000 := by omega
              have HL1 := hid hlen1
              clear hot hfit hgc hidx h11 hS1 hrl hrl2 hlen1
              go_wp2_with (at_builtin; refine wpList_appi rfl _ _ rfl D.B u16 (rts obs (roots.take j)) rfl H11.out (some ⟨wr.heap.size, 0, none⟩) 1 1 [ot.p] rfl HS1.out (by simp) HL1.out (by simp; omega) ?_)
              intro v7 w7 h7 f7 b7
              have ls6 := H2.out.tick ((Fr.refl [] wr).alloc (.cells #[.int .i64 ot.p] 3))
              have ls7 := ls6.app HQ.out H11.out HSEP.out f7
              have dv7 := (HDV2.out.tick ((Fr.refl [] wr).alloc (.cells #[.int .i64 ot.p] 3))).row H11.out f7
              have hsz7 : w3.heap.size ≤ w7.heap.size := by have := f7.size; simp at this; omega
              have hsep7 : ∀ g, v7.ownBlock = some g → (Value.slice (some ⟨g0, 0, none⟩) M ca).ownBlock ≠ some g := by
                intro g hg
                rcases b7 with b7 | b7
                · rw [b7] at hg; exact HSEP.out g hg
                · rw [b7] at hg
                  cases hg
                  intro hc
                  have := (H2.out.row.lt _ hc).2
                  first
                    | omega
                    | (simp at this; done)
                    | (simp at this; omega)
              have hrts : rts obs (roots.take j) ++ [ot.p] = rts obs (roots.take (j + 1)) := by
                rw [rts_take HT.out, rootAt_yes HOT.out]; rfl
              rw [hrts] at h7
              have p1 : w7.cell? ⟨g0, tn, none⟩ = some (.int .i64 ot.p) := by
                obtain ⟨g1, e, _, _, _, _, _, hc⟩ := ls7.row.at (by rw [HLEN.out]; omega)
                cases e
                exact hc tn ot.p (by rw [List.getElem?_map, HOT.out]; rfl)
              have px : w7.cell? ⟨xb, xo + j, none⟩ = some (.int .i64 ((tn : Int) + 1)) := (HRX.out.fr ls7.fr0 (by simp)).2 j _ (by rw [List.getElem?_map, HT.out]; rfl)
              have LS7 := hid ls7
              have DV7 := hid dv7
              have H7 := hid h7
              have HSEP7 := hid hsep7
              have HSZ7 := hid hsz7
              clear ls6 ls7 dv7 h7 f7 b7 hsep7 hrts q1 qx hsz7
              go_wp2_with fail
              refine (lShade2 LS7.out HQ.out ot.p (.inr ⟨ot, List.mem_of_getElem? HOT.out, rfl, trivial⟩)).mono ?_
              rintro e w8 ⟨rfl, hF8, s8, A8, h8, hst8, hm8⟩
              have dv8 := DV7.out.step HQ.out LS7.out.mw.m hF8
              have hr8 := rowi_step H7.out HQ.out LS7.out.mw.m hF8
              have HM8 := hid (Marked.succ (HMKD.out.mono hst8) (fun t o ht hc ho => by
                rw [HT.out] at ht
                cases ht
                rw [HIDX.out, HOT.out] at ho
                cases ho
                exact hm8 ot (List.mem_of_getElem? HOT.out) rfl))
              have HSZ8 := hid (Nat.le_trans HSZ7.out hF8.size)
              have H8 := hid h8
              have DV8 := hid dv8
              have HR8 := hid hr8
              clear h8 hst8 hm8 dv8 hr8 p1 px hF8
              go_wp2_with fail
              go_roundw
              case rel => exact ⟨j + 1, s8, A8, by omega, by go_num, H8.out, HM8.out, DV8.out, HR8.out, HSEP7.out, HSZ8.out⟩
              case measure => simp [intOf]; omega
            · rw [decide_eq_false hfit]
              have HM7 := hid (Marked.succ HMKD.out (fun t' o ht hc ho => by
                rw [HT.out] at ht
                cases ht
                rw [← HM.out] at hc
                exact absurd hc hfit))
              have hrts : rts obs (roots.take (j + 1)) = rts obs (roots.take j) := by
                rw [rts_take HT.out, rootAt_no (by rw [← HM.out]; exact hfit)]; simp
              have HRF7 := hid (show Rowi wr D.B u16 (rts obs (roots.take (j + 1))) by rw [hrts]; exact HRF.out)
              clear hfit hrts
              go_wp2_with fail
              go_roundw
              case rel => exact ⟨j + 1, s2, A2, by omega, by go_num, H2.out, HM7.out, HDV2.out, HRF7.out, HSEP.out, hwl⟩
              case measure => simp [intOf]; omega
        · have hjN' : roots.length ≤ j := by have := HN.out; omega
          have htk : roots.take j = roots := List.take_of_length_le hjN'
          have HJN := hid hjN'
          have HRF2 := hid (show Rowi wr D.B u16 (rts obs roots) by have := HRF.out; rw [htk] at this; exact this)
          have hmall : ∀ o ∈ obs, o.p ∈ rts obs roots → Mkd A2 o := HMKD.out.all HJN.out (fun o ho o' ho' e => H2.out.mw.i.mh.one ho ho' e)
          have HMALL := hid hmall
          obtain ⟨cs, hdb, hc7⟩ := HDV2.out.hb
          have q7 := hdb.cell hc7
          have hU1' := hU1
          have HU1 := hid hU1
          clear hjN' htk hmall hdb hc7 hU1 hU1'
          go_wp2_with fail
          have hmh := H2.out.mw.i.mh
          have hfr : ∀ x ∈ rts obs roots, ∃ o ∈ obs, o.p = x := fun x hx => by
            obtain ⟨i, t, o, h1, h2, h3, h4⟩ := rts_of hx
            exact ⟨o, List.mem_of_getElem? h3, h4⟩
          refine (dReached D.mp D.B m obs G s.wd (W0of s) (rts obs roots) u16 wr HDV2.out.im HDV2.out.ob HRF2.out (by have := rts_len obs roots; have := HN.out; omega) (by have := HM.out; omega) (fun o ho j => rfl) (fun o ho o' ho' e => hmh.one ho ho' e) hmh.ndo (fun o ho => hmh.hd ho 0 (.inl rfl)) (wd0 HWD.out) (fun o ho => by
            obtain ⟨m, hm⟩ := hmh.any ho
            have := hm.bound hmh.hi
            have := hmh.hi.len
            simp only [Ob.wm] at *
            omega) hfr).mono ?_
          rintro e w8 ⟨om, lk, Lv, rfl, hom, him, hLn, hLs, hLr, hlk, hF8⟩
          have hLl : Lv.length ≤ 30 := Nat.le_trans (List.Nodup.length_le_of_subset hLn hLs) (by have := HM.out; omega)
          obtain ⟨tr, htr⟩ : ∃ tr, tr = (Lv.map Ob.p).map fun x => (x, Value.bool true) := ⟨_, rfl⟩
          rw [← htr] at him
          have hkeys : tr.map (·.1) = Lv.map Ob.p := by rw [htr, List.map_map]; exact List.map_congr_left (fun _ _ => rfl) |>.trans (List.map_id _)
          have hget : ∀ o ∈ obs, (o ∈ Lv → mget tr o.p = some (.bool true)) ∧ (o ∉ Lv → mget tr o.p = none) := by
            intro o ho
            rw [htr, mget_tr]
            refine ⟨fun hin => if_pos (List.mem_map.2 ⟨o, hin, rfl⟩), fun hin => if_neg (fun hc => ?_)⟩
            obtain ⟨o', h1, h2⟩ := List.mem_map.1 hc
            have := hmh.one (hLs o' h1) ho h2
            subst this
            exact hin h1
          have hml := H2.out.mw.m.lt
          have homl : om ∉ w3.heap.size :: L.fp := fun hc => by
            rcases List.mem_cons.1 hc with h1 | h1
            · omega
            · have := all_lt H2.out.mw.hr (fp_all h1); omega
          have hnew : Fr [] w8 (w8.alloc (.cells #[] 3)) := (Fr.refl _ w8).alloc _
          have him9 := him.fr hnew (by simp)
          have hdb8 : D.B ≤ w8.heap.size := by have := hF8.size; omega
          have hs9 : (w8.alloc (.cells #[] 3)).heap.size = w8.heap.size + 1 := by simp
          have HFRT := hid hfr
          have HLS := hid hLs
          have HLR := hid hLr
          have HGET := hid hget
          have HKEYS := hid hkeys
          have HF8 := hid hF8
          have HIM9 := hid him9
          have HNEW := hid hnew
          have HOML := hid homl
          have HLL2 := hid hLl
          have HE9 := hid (Rowi.empty w8 (Nat.le_refl w8.heap.size))
          clear hmh hfr hom him hLn hLs hLr hlk hF8 htr hkeys hget hml homl hnew him9 q7
          go_wp2_with (at_range; refine wpList_range_im _ rfl _ 92 rfl _ _ Try.underlying92 om tr rfl HIM9.out ?_)
          intro w10 hir hF10
          have hF10' : Fr [] w8 w10 := HNEW.out.trans hF10
          have HIR := hid hir
          have HF10 := hid hF10'
          have HE10 := hid (HE9.out.fr hF10 (by simp))
          have hkeysl : tr.map (·.1) = Lv.map Ob.p := HKEYS.out
          clear hir hF10 hF10' hs9
          go_wp2_with fail
          obtain ⟨wq, hwq⟩ : ∃ wq, wq = wr := ⟨_, rfl⟩
          have HWQ := hid hwq
          clear hwq
          go_loopw [20] (fun kv wr2 => ∃ (left K : List Int), IR wr2 om (w8.heap.size + 1) tr left ∧ Rowi wr2 w8.heap.size kv K ∧ Fr [] w8 wr2 ∧ (∀ x ∈ K, ∃ o ∈ Lv, o.p = x) ∧ (∀ x ∈ left, ∃ o ∈ Lv, o.p = x) ∧ K.length + left.length ≤ Lv.length) (fun _ wr2 => wr2.rangeLeft om (w8.heap.size + 1))
          case atStart =>
            refine ⟨_, [], HIR.out, HE10.out, HF10.out, by simp, fun x hx => ?_, ?_⟩
            · rw [hkeysl] at hx
              obtain ⟨o, ho, e⟩ := List.mem_map.1 hx
              exact ⟨o, ho, e⟩
            · rw [hkeysl]; simp
          case round =>
            obtain ⟨left, K, hir, hrow, hF, hK1, hK2, hK3⟩ := hrel
            have HIR2 := hid hir
            have HROW2 := hid hrow
            have HF2 := hid hF
            have HK1 := hid hK1
            have HK2 := hid hK2
            clear hir hrow hF hK1 hK2 hkeysl
            go_wp2_with (at_next; refine wpList_next_im _ rfl _ rfl om (w8.heap.size + 1) tr left rfl HIR2.out ?_ ?_)
            · intro hleft
              have hF9 : Fr [] wq wr := by have := HF8.out.trans HF2.out; rw [← HWQ.out] at this; exact this
              have H2q := H2.out
              rw [← HWQ.out] at H2q
              have DVq := HDV2.out
              rw [← HWQ.out] at DVq
              have hks : KS w wr L D (.slice A0 M ca) w3.heap.size om tr m G s obs u20 K := ⟨H2q.row.fr hF9 (by simp), H2q.fr0.trans hF9, DVq.tick hF9, HIR2.out.im, HOML.out, HROW2.out.base hdb8, fun g hg hc => by
                have h1 := (HROW2.out.lt g hg).1
                have h2 := (H2q.row.lt g hc).2
                have h3 := HF8.out.size
                rw [← HWQ.out] at h3
                omega, Nat.le_trans hdb8 HF2.out.size⟩
              have hmw : MW wr L w3.heap.size s2 A2 z obs (KG obs s (rts obs roots)) 0 0 U0 := H2q.mw.tick hF9
              have hkp : KP obs obs s A2 (rts obs roots) K (30 + 0) := ⟨fun _ h => h, HMALL.out, fun x hx => by
                obtain ⟨o, h1, h2⟩ := HK1.out x hx
                exact ⟨o, HLS.out o h1, h2, .inr ⟨HLS.out o h1, (HLR.out o (HLS.out o h1)).1 h1⟩⟩, by omega⟩
              have KS0 := hid hks
              have MW0 := hid hmw
              have KP0 := hid hkp
              have HU := HU1.out
              have HW0 := hid (wd0 HWD.out)
              obtain ⟨wk, hwk⟩ : ∃ wk, wk = wr := ⟨_, rfl⟩
              clear hF9 H2q DVq hks hmw hkp hK3 hleft hwk hdb8 hwl hj hjN hN20 g1 g2 hsep0 hsz hdw hsz4
              go_wp2_with fail
              go_loopw [22, 20] (fun iv kv wr => ∃ (k : Nat) (K : List Int) (s2 : HS) (A2 : Rg) (z2 : Int → Int) (obs2 : List Ob) (a2 : Int) (nx2 U : Nat), k ≤ P ∧ iv = .int .i64 k ∧ U ≤ 1000 ∧ KS w wr L D (.slice A0 M ca) w3.heap.size om tr m G s obs kv K ∧ MW wr L w3.heap.size s2 A2 z2 obs2 (KG obs s (rts obs roots)) a2 nx2 U ∧ KP obs obs2 s A2 (rts obs roots) K (30 + k)) (fun iv _ _ => P - (intOf iv).toNat)
              case atStart => exact ⟨0, K, s2, A2, z, obs, 0, 0, U0, Nat.zero_le _, rfl, HU, KS0.out, MW0.out, KP0.out⟩
              case round =>
                obtain ⟨k, K, s2, A2, z2, obs2, a2, nx2, U, hk, rfl, hU, hks, hmw, hkp⟩ := hrel
                have KS1 := hid hks
                have MW1 := hid hmw
                have KP1 := hid hkp
                clear hks hmw hkp HU
                by_cases hkP : (k : Int) < (P : Int)
                · as_aux_lemma =>
                    obtain ⟨t, ht⟩ : ∃ t, pieces[k]? = some t := ⟨_, List.getElem?_eq_getElem (by have := HP.out; omega)⟩
                    obtain ⟨xb, xo, exb, hrx⟩ := slRead HPS.out (by have := HP.out; omega)
                    subst exb
                    have qx : wr.cell? ⟨xb, xo + k, none⟩ = some (.int .i64 t) := (hrx.fr KS1.out.fr0 (by simp)).2 k _ (by rw [List.getElem?_map, ht]; rfl)
                    clear ht hrx
                    go_wp2_with fail
                    refine (mWork L s2 A2 z2 obs2 (KG obs s (rts obs roots)) a2 nx2 U w3.heap.size _ wr MW1.out HQ.out.mbL (by omega)).mono ?_
                    rintro e w9 ⟨hF9, d9, s9, A9, a9, nx9, rfl, -, hd2, h9, hst9, -⟩
                    have ks9 := KS1.out.step HQ.out MW1.out.m hF9
                    have KS9 := hid ks9
                    have MW9 := hid h9
                    have KP9 := hid (KP1.out.mono hst9)
                    have hU9 : U - d9 ≤ 1000 := by omega
                    obtain ⟨U9, hU9e⟩ : ∃ U9, U9 = U - d9 := ⟨_, rfl⟩
                    rw [← hU9e] at hU9 MW9
                    clear ks9 h9 hst9 hF9 qx hU9e hU hd2
                    by_cases hset : (Q : Int) ≤ 3 * (k : Int) + 2
                    · go_wp2_with fail
                      go_roundw
                      case rel => exact ⟨k + 1, K, s9, A9, z2, obs2, a9, nx9, U9, by omega, by go_num, hU9, KS9.out, MW9.out, KP9.out.le (by omega)⟩
                      case measure => simp [intOf]; omega
                    · have gset : decide ((Q : Int) ≤ 3 * (k : Int) + 2) = false := by simpa using hset
                      by_cases hM0 : M = 0
                      · have gM : ((M : Int) == 0) = true := by simp [hM0]
                        clear hM0
                        go_wp2_with fail
                        go_roundw
                        case rel => exact ⟨k + 1, K, s9, A9, z2, obs2, a9, nx9, U9, by omega, by go_num, hU9, KS9.out, MW9.out, KP9.out.le (by omega)⟩
                        case measure => simp [intOf]; omega
                      · have gM : ((M : Int) == 0) = false := by simp [hM0]
                        have gM2 : 0 < M := by omega
                        obtain ⟨yb, yo, eyb, hry⟩ := slRead HQS.out (by have := HQL.out; omega)
                        subst eyb
                        obtain ⟨k3, e3⟩ : ∃ k3 : Nat, 3 * (k : Int) = (k3 : Int) := ⟨3 * k, by omega⟩
                        obtain ⟨k4, e4⟩ : ∃ k4 : Nat, (k3 : Int) + 1 = (k4 : Int) := ⟨k3 + 1, by omega⟩
                        obtain ⟨k5, e5⟩ : ∃ k5 : Nat, (k3 : Int) + 2 = (k5 : Int) := ⟨k3 + 2, by omega⟩
                        have hk5 : k5 < Q := by omega
                        obtain ⟨t0, ht0⟩ : ∃ t, sets[k3]? = some t := ⟨_, List.getElem?_eq_getElem (by have := HQL.out; omega)⟩
                        obtain ⟨t1, ht1⟩ : ∃ t, sets[k4]? = some t := ⟨_, List.getElem?_eq_getElem (by have := HQL.out; omega)⟩
                        obtain ⟨t2, ht2⟩ : ∃ t, sets[k5]? = some t := ⟨_, List.getElem?_eq_getElem (by have := HQL.out; omega)⟩
                        have qs0 : w9.cell? ⟨yb, yo + k3, none⟩ = some (.int .i64 t0) := (hry.fr KS9.out.fr0 (by simp)).2 k3 _ (by rw [List.getElem?_map, ht0]; rfl)
                        have qs1 : w9.cell? ⟨yb, yo + k4, none⟩ = some (.int .i64 t1) := (hry.fr KS9.out.fr0 (by simp)).2 k4 _ (by rw [List.getElem?_map, ht1]; rfl)
                        have qs2 : w9.cell? ⟨yb, yo + k5, none⟩ = some (.int .i64 t2) := (hry.fr KS9.out.fr0 (by simp)).2 k5 _ (by rw [List.getElem?_map, ht2]; rfl)
                        have gset2 : decide ((Q : Int) ≤ (k5 : Int)) = false := by simp; omega
                        have i3 : (k3 : Int) < (Q : Int) := by omega
                        have i4 : (k4 : Int) < (Q : Int) := by omega
                        have i5 : (k5 : Int) < (Q : Int) := by omega
                        clear hry ht0 ht1 ht2 gset hset hM0
                        go_wp2_with fail
                        have hM1000 : M ≤ 1000 := by omega
                        have hp0 := fun n => dPick t0 M gM2 hM1000 (w9.drewN n)
                        have hp1 := fun n => dPick t1 M gM2 hM1000 (w9.drewN n)
                        have hp2 := fun n => dPick t2 4 (by decide) (by decide) (w9.drewN n)
                        go_quiet (first | ((go_at_call 61; with_reducible exact Calls.quiet_of_same (hp0 _))) | ((go_at_call 61; with_reducible exact Calls.quiet_of_same (hp1 _))) | ((go_at_call 61; exact Calls.quiet_of_same (hp2 _))))
                        clear hp0 hp1 hp2 hM1000
                        obtain ⟨an, ea, han⟩ := pk_in t0 gM2
                        obtain ⟨bn, eb, hbn⟩ := pk_in t1 gM2
                        obtain ⟨kn, ek, hkn⟩ := pk_in t2 (show 0 < 4 by decide)
                        simp only [ea, eb, ek]
                        have hFW : Fr [] w9 (w9.drewN nq) := (Fr.refl _ w9).drewN nq
                        have ksW := KS9.out.tick hFW
                        have mwW := MW9.out.tick hFW
                        obtain ⟨W, hW⟩ : ∃ W, W = w9.drewN nq := ⟨_, rfl⟩
                        rw [← hW] at hFW ksW mwW ⊢
                        obtain ⟨oa, hoa⟩ : ∃ o, obs[an]? = some o := ⟨_, List.getElem?_eq_getElem (by have := HM.out; omega)⟩
                        obtain ⟨ob, hob⟩ : ∃ o, obs[bn]? = some o := ⟨_, List.getElem?_eq_getElem (by have := HM.out; omega)⟩
                        obtain ⟨g0, eg, -, -, -, -, -, hgc⟩ := ksW.row.at (by rw [HLEN.out]; omega)
                        subst eg
                        have pa : W.cell? ⟨g0, an, none⟩ = some (.int .i64 oa.p) := hgc an oa.p (by rw [List.getElem?_map, hoa]; rfl)
                        have pb : W.cell? ⟨g0, bn, none⟩ = some (.int .i64 ob.p) := hgc bn ob.p (by rw [List.getElem?_map, hob]; rfl)
                        have ia : (an : Int) < (M : Int) := by omega
                        have ib : (bn : Int) < (M : Int) := by omega
                        have hoam := List.mem_of_getElem? hoa
                        have hobm := List.mem_of_getElem? hob
                        obtain ⟨cs, hdb, hc7⟩ := ksW.dv.hb
                        have q7 := hdb.cell hc7
                        have hla := fun n => run_lookup_im (P := Try.prog) (ksW.im.drewN n) Try.underlying92 Try.underlying3 (z := .bool false) (by kernel_rfl) oa.p false
                        have hlb := fun n => run_lookup_im (P := Try.prog) (ksW.im.drewN n) Try.underlying92 Try.underlying3 (z := .bool false) (by kernel_rfl) ob.p false
                        have hlo := fun n => run_lookup_im (P := Try.prog) (ksW.dv.im.drewN n) Try.underlying103 Try.underlying3 (obZero (W.drewN n)) oa.p false
                        rw [ksW.dv.ob.get oa hoam] at hlo
                        simp only [if_neg (show ¬ false = true by decide), Option.getD_some, obV] at hla hlb hlo
                        have hn31 : oa.n < 32 := HN32.out oa hoam
                        have KSW := hid ksW
                        have MWW := hid mwW
                        have HOA := hid hoa
                        have HOB := hid hob
                        have HOAM := hid hoam
                        have HOBM := hid hobm
                        obtain ⟨ga, hga⟩ : ∃ ga, ga = G oa.p := ⟨_, rfl⟩
                        rw [← hga] at hlo
                        have HGA := hid hga
                        have hfw := fieldW oa.k oa.n oa.a 0 ga oa.n
                        have hfc := fieldC oa.k oa.n oa.a 0 ga oa.n
                        clear ksW mwW hoa hob hgc hdb hc7 hoam hobm hga hW qs0 qs1 qs2 e3 e4 e5 gset2 i3 i4 i5 hFW hk5 ea eb ek
                        go_upto_region 30 with fail
                        go_cut [200] (fun tv wx => ∃ bb, tv = .bool bb ∧ Hid (bb = false → oa ∈ Lv ∧ ob ∈ Lv ∧ kn < oa.n) ∧ Fr [] W wx)
                        case first =>
                          by_cases hra : oa ∈ Lv
                          · rw [(HGET.out oa HOAM.out).1 hra] at hla
                            simp only [Option.getD_some] at hla
                            by_cases hrb : ob ∈ Lv
                            · rw [(HGET.out ob HOBM.out).1 hrb] at hlb
                              simp only [Option.getD_some] at hlb
                              by_cases hkk : kn < oa.n
                              · have gk : decide (oa.n ≤ kn) = false := by simp; omega
                                have HB := hid (And.intro hra (And.intro hrb hkk))
                                clear hra hrb hkk
                                go_quiet (fail)
                                go_wp2_with fail
                                go_meet
                                case rel => exact ⟨false, rfl, hid (fun _ => HB.out), (Fr.refl _ W).drewN nq⟩
                              · have gk : decide (oa.n ≤ kn) = true := by simp; omega
                                clear hra hrb hkk
                                go_quiet (fail)
                                go_wp2_with fail
                                go_meet
                                case rel => exact ⟨true, rfl, hid (fun h => by cases h), (Fr.refl _ W).drewN nq⟩
                            · rw [(HGET.out ob HOBM.out).2 hrb] at hlb
                              simp only [Option.getD_none] at hlb
                              clear hra hrb
                              go_quiet (fail)
                              go_wp2_with fail
                              go_meet
                              case rel => exact ⟨true, rfl, hid (fun h => by cases h), (Fr.refl _ W).drewN nq⟩
                          · rw [(HGET.out oa HOAM.out).2 hra] at hla
                            simp only [Option.getD_none] at hla
                            clear hra
                            go_quiet (fail)
                            go_wp2_with fail
                            go_meet
                            case rel => exact ⟨true, rfl, hid (fun h => by cases h), (Fr.refl _ W).drewN nq⟩
                        case rest =>
                          obtain ⟨bb, rfl, HBB, hFc⟩ := hcut
                          have ks := KSW.out.tick hFc
                          have mw := MWW.out.tick hFc
                          have KSC := hid ks
                          have MWC := hid mw
                          clear hFc hla hlb hlo pa pb q7
                          cases bb with
                          | true =>
                            have hpar := mw.i.mh.par
                            have hd1 : Hd 1 (1 : Nat) 1 s9.parity := ⟨by decide, by decide, by omega, by omega, by decide, by decide, by decide, by decide⟩
                            have HD1 := hid hd1
                            clear ks mw hpar hd1
                            go_wp2_with fail
                            refine (kAlloc MWC.out HQ.out.mbL KP9.out HFRT.out HW0.out 1 1 1 HD1.out).mono ?_
                            rintro e w10 ⟨hF10, ⟨rfl, mw10⟩ | ⟨q, p, s10, A10, z10, rfl, mw10, kp10, hz10⟩⟩
                            · have ks10 := KSC.out.step HQ.out MWC.out.m hF10
                              have KS10 := hid ks10
                              have MW10 := hid mw10
                              clear ks10 mw10 hF10
                              go_wp2_with fail
                              go_roundw
                              case rel => exact ⟨k + 1, K, s9, A9, z2, obs2, a9, nx9, U9, by omega, by go_num, hU9, KS10.out, MW10.out, KP9.out.le (by omega)⟩
                              case measure => simp [intOf]; omega
                            · have ks10 := KSC.out.step HQ.out MWC.out.m hF10
                              have KS10 := hid ks10
                              have MW10 := hid mw10
                              have KP10 := hid kp10
                              have HZ10 := hid hz10
                              clear ks10 mw10 kp10 hz10 hF10
                              go_wp2_with fail
                              have hlk : Lk (⟨q, p, 1, 1, 1, 0⟩ : Ob) 0 := by unfold Lk Ob.f Ob.t lkF lkT; simp
                              refine (kSet (o := ⟨q, p, 1, 1, 1, 0⟩) MW10.out HQ.out.mbL (by simp) hlk (v := 0) (.inl rfl) (fun _ => trivial) (fun o' ho' e => ?_)).mono ?_
                              · exfalso
                                rw [HZ10.out 0 (by decide)] at e
                                obtain ⟨m', hm'⟩ := MW10.out.i.mh.any ho'
                                have := (hm'.bound MW10.out.i.mh.hi).1
                                simp only [Ob.wm] at this
                                omega
                              rintro e w11 ⟨hF11, rfl, s11, mw11⟩
                              have ks11 := KS10.out.step HQ.out MW10.out.m hF11
                              have h11 : Rowi (w11.alloc (.cells #[.int .i64 p] 3)) D.B u20 K := ks11.kr.alloc _
                              have hS1 : Srci (w11.alloc (.cells #[.int .i64 p] 3)) (some ⟨w11.heap.size, 0, none⟩) 1 [p] := (Rowi.one w11 p (Nat.le_refl w11.heap.size)).src
                              have hKl : K.length + 1 ≤ 1000000 := by have := KP9.out.len; omega
                              have ksA := ks11.tick ((Fr.refl [] w11).alloc (.cells #[.int .i64 p] 3))
                              have mwA := mw11.tick ((Fr.refl [] w11).alloc (.cells #[.int .i64 p] 3))
                              have H11 := hid h11
                              have HS1 := hid hS1
                              have HKL := hid hKl
                              have KSA := hid ksA
                              have MWA := hid mwA
                              clear ks11 mw11 h11 hS1 hKl ksA mwA hF11 hlk
                              go_wp2_with (at_builtin; refine wpList_appi rfl _ _ rfl D.B u20 K rfl H11.out (some ⟨w11.heap.size, 0, none⟩) 1 1 [p] rfl HS1.out (by simp) HKL.out KSA.out.dB ?_)
                              intro v12 w12 h12 f12 b12
                              have ks12 := KSA.out.app HQ.out h12 f12 (by simpa using b12)
                              have mw12 := MWA.out.app KSA.out HQ.out f12
                              have KS12 := hid ks12
                              have MW12 := hid mw12
                              clear ks12 mw12 h12 f12 b12
                              go_wp2_with fail
                              go_roundw
                              case rel => exact ⟨k + 1, K ++ [p], s11, A10, z10, _, a9, nx9, U9, by omega, by go_num, hU9, KS12.out, MW12.out, KP10.out⟩
                              case measure => simp [intOf]; omega
                          | false =>
                            obtain ⟨hra, hrb, hkk⟩ := HBB.out rfl
                            have pa : wc.cell? ⟨g0, an, none⟩ = some (.int .i64 oa.p) := by
                              obtain ⟨g1, e, _, _, _, _, _, hc⟩ := ks.row.at (by rw [HLEN.out]; omega)
                              cases e
                              exact hc an oa.p (by rw [List.getElem?_map, HOA.out]; rfl)
                            have HRA := hid hra
                            have HRB := hid hrb
                            have hoa2 := KP9.out.sub oa HOAM.out
                            have HOA2 := hid hoa2
                            have HOB2 := hid (KP9.out.sub ob HOBM.out)
                            clear ks mw hra hrb hoa2
                            go_wp2_with fail
                            refine (kGet MWC.out HQ.out.mbL HOA2.out hkk).mono ?_
                            rintro e w10 ⟨hF10, rfl, mw10⟩
                            have ks10 := KSC.out.step HQ.out MWC.out.m hF10
                            have pa2 : w10.cell? ⟨g0, an, none⟩ = some (.int .i64 oa.p) := by
                              obtain ⟨g1, e, _, _, _, _, _, hc⟩ := ks10.row.at (by rw [HLEN.out]; omega)
                              cases e
                              exact hc an oa.p (by rw [List.getElem?_map, HOA.out]; rfl)
                            obtain ⟨cs, hdb, hc7⟩ := ks10.dv.hb
                            have q7 := hdb.cell hc7
                            have hlo := run_lookup_im (P := Try.prog) (ks10.dv.im.drew) Try.underlying103 Try.underlying3 (obZero w10.drew) oa.p false
                            rw [ks10.dv.ob.get oa HOAM.out] at hlo
                            simp only [if_neg (show ¬ false = true by decide), Option.getD_some, obV] at hlo
                            rw [← HGA.out] at hlo
                            have hhd := mw10.i.mh.hd HOA2.out 0 (.inl rfl)
                            have HHD := hid hhd
                            have KS10 := hid ks10
                            have MW10 := hid mw10
                            clear ks10 mw10 hdb hc7 hF10 hhd pa
                            obtain ⟨v0, hv0⟩ : ∃ v, v = s9.wd oa kn := ⟨_, rfl⟩
                            rw [← hv0]
                            have HV0 := hid hv0
                            clear hv0
                            go_wp2_with fail
                            refine wp_region_still_tail 14 (by kernel_rfl) (by kernel_rfl) ?_
                            simp only [List.take_succ_cons, List.take_zero, List.drop_succ_cons, List.drop_zero]
                            change wpStill _ _ (w10.drew) (fun a' => wpList _ _ _ _ a' (w10.drew)) _ _
                            repeat still_step
                            refine wpStill_nil ?_
                            go_wp2_with fail
                            refine (dLink oa.k oa.n oa.a 0 kn HHD.out w10.drew).mono ?_
                            rintro e w11 ⟨rfl, hF11⟩
                            have hF11' : Fr [] w10 w11 := ((Fr.refl _ w10).drew).trans hF11
                            have ks11 := KS10.out.tick hF11'
                            have mw11 := MW10.out.tick hF11'
                            have KS11 := hid ks11
                            have MW11 := hid mw11
                            clear ks11 mw11 hF11 hF11' hlo pa2 q7
                            cases hlb : lkB oa.k oa.n kn with
                            | false =>
                              clear hlb
                              go_wp2_with fail
                              go_roundw
                              case rel => exact ⟨k + 1, K, s9.tick 2, A9, z2, obs2, a9, nx9, U9, by omega, by go_num, hU9, KS11.out, MW11.out, KP9.out.le (by omega)⟩
                              case measure => simp [intOf]; omega
                            | true =>
                              have hLk : Lk oa kn := lkB_iff.1 hlb
                              have HLK := hid hLk
                              have hv1 : v0 = 0 ∨ ∃ o ∈ obs2, o.p = v0 := by rw [HV0.out]; exact MW11.out.i.wd oa HOA2.out kn hLk
                              have HV1 := hid hv1
                              clear hlb hLk hv1
                              go_wp2_with fail
                              refine (mShade L (s9.tick 2) A9 z2 obs2 (KG obs s (rts obs roots)) a9 a9 nx9 nx9 U9 w3.heap.size v0 w11 MW11.out.hr MW11.out.m MW11.out.i (HV1.out.imp id (fun ⟨o, h1, h2⟩ => ⟨o, h1, h2, trivial⟩))).mono ?_
                              rintro e w12 ⟨rfl, hF12, s12, A12, hr12, hi12, hst12, hm12⟩
                              have hF12' : Fr (w3.heap.size :: L.fp) w11 w12 := hF12.here (fun y hy => List.mem_cons_of_mem _ hy)
                              have ks12 := KS11.out.step HQ.out MW11.out.m hF12'
                              have mw12 : MW w12 L w3.heap.size s12 A12 z2 obs2 (KG obs s (rts obs roots)) a9 nx9 U9 := ⟨hr12, MW11.out.m.fr hF12 (fun hc => HQ.out.mbL (fp_all hc)), hi12, MW11.out.z0⟩
                              have pa3 : w12.cell? ⟨g0, an, none⟩ = some (.int .i64 oa.p) := by
                                obtain ⟨g1, e, _, _, _, _, _, hc⟩ := ks12.row.at (by rw [HLEN.out]; omega)
                                cases e
                                exact hc an oa.p (by rw [List.getElem?_map, HOA.out]; rfl)
                              have pb3 : w12.cell? ⟨g0, bn, none⟩ = some (.int .i64 ob.p) := by
                                obtain ⟨g1, e, _, _, _, _, _, hc⟩ := ks12.row.at (by rw [HLEN.out]; omega)
                                cases e
                                exact hc bn ob.p (by rw [List.getElem?_map, HOB.out]; rfl)
                              have hkp12 := KP9.out.mono hst12
                              have hmk : ∀ o' ∈ obs2, o'.p = s12.wd oa kn → Mkd A12 o' := fun o' ho' e => hm12 o' ho' (by rw [e, hst12.wd oa HOA2.out kn HLK.out.lt, HV0.out]; rfl)
                              have HMK2 := hid hmk
                              have KP12 := hid hkp12
                              have KS12 := hid ks12
                              have MW12 := hid mw12
                              clear hF12 hF12' hr12 hi12 hst12 hm12 ks12 mw12 hmk hkp12
                              go_wp2_with fail
                              refine wp_region_still_tail 10 (by kernel_rfl) (by kernel_rfl) ?_
                              simp only [List.take_succ_cons, List.take_zero, List.drop_succ_cons, List.drop_zero]
                              change wpStill _ _ (w12.drew) (fun a' => wpList _ _ _ _ a' (w12.drew)) _ _
                              repeat still_step
                              refine wpStill_nil ?_
                              go_wp2_with fail
                              refine (kSet (wr := w12.drew) (MW12.out.tick ((Fr.refl _ w12).drew)) HQ.out.mbL HOA2.out HLK.out (v := ob.p) (.inr ⟨ob, HOB2.out, rfl⟩) (fun _ => trivial) HMK2.out).mono ?_
                              rintro e w13 ⟨hF13, rfl, s13, mw13⟩
                              have ks13 := (KS12.out.tick ((Fr.refl _ w12).drew)).step HQ.out (MW12.out.tick ((Fr.refl _ w12).drew)).m hF13
                              have KS13 := hid ks13
                              have MW13 := hid mw13
                              clear ks13 mw13 hF13 pa3 pb3
                              go_wp2_with fail
                              go_roundw
                              case rel => exact ⟨k + 1, K, s13, A12, z2, obs2, a9, nx9, U9, by omega, by go_num, hU9, KS13.out, MW13.out, KP12.out.le (by omega)⟩
                              case measure => simp [intOf]; omega
                · as_aux_lemma =>
                    go_wp2_with fail
                    refine (mWork L s2 A2 z2 obs2 (KG obs s (rts obs roots)) a2 nx2 U w3.heap.size 3000 wr MW1.out HQ.out.mbL (by omega)).mono ?_
                    rintro e w9 ⟨hF9, d9, s9, A9, a9, nx9, rfl, -, hd2, mw9, hst9, hfin⟩
                    obtain ⟨rfl, hno⟩ := hfin (by omega)
                    have hnx := mw9.z0 rfl
                    subst hnx
                    have ks9 := KS1.out.step HQ.out MW1.out.m hF9
                    have KS9 := hid ks9
                    have MW9 := hid mw9
                    have KP9 := hid (KP1.out.mono hst9)
                    have HNO := hid hno
                    clear ks9 mw9 hst9 hF9 hfin hno hd2
                    go_wp2_with fail
                    refine (mDone L s9 A9 z2 obs2 (KG obs s (rts obs roots)) (U - d9) w3.heap.size w9 ⟨MW9.out, HNO.out⟩ HQ.out.mbL).mono ?_
                    rintro e w10 ⟨rfl, ⟨mw10, -⟩, hF10⟩
                    have ks10 := KS9.out.step HQ.out MW9.out.m (hF10.here (fun y hy => List.mem_cons_of_mem _ (ab_fp y hy)))
                    have hall := KP9.out.fin mw10.i HNO.out
                    obtain ⟨A1, c1, rfl⟩ := ks10.kr.form
                    obtain ⟨KL, hKL⟩ : ∃ KL, KL = K.length := ⟨_, rfl⟩
                    rw [← hKL] at ks10 ⊢
                    have hKLb : KL ≤ 200 := by have := KP9.out.len; omega
                    have KS10 := hid ks10
                    have MW10 := hid mw10
                    have HALL := hid hall
                    have HKL := hid hKL
                    obtain ⟨U9, hU9⟩ : ∃ U9, U9 = U - d9 := ⟨_, rfl⟩
                    rw [← hU9] at MW10
                    clear ks10 mw10 hall hKL hF10 hU9 hU
                    go_wp2_with fail
                    go_loopw [30] (fun iv wr => ∃ (i : Nat) (s3 : HS), i ≤ KL ∧ iv = .int .i64 i ∧ KS w wr L D (.slice A0 M ca) w3.heap.size om tr m G s obs (.slice A1 KL c1) K ∧ MW wr L w3.heap.size s3 A9 z2 obs2 (KG obs s (rts obs roots)) 0 0 U9) (fun iv _ => KL - (intOf iv).toNat)
                    case atStart => exact ⟨0, s9, Nat.zero_le _, rfl, KS10.out, MW10.out⟩
                    case round =>
                      obtain ⟨i, s3, hi, rfl, hks, hmw⟩ := hrel
                      have KS3 := hid hks
                      have MW3 := hid hmw
                      clear hks hmw
                      by_cases hiK : (i : Int) < (KL : Int)
                      · obtain ⟨x, hx⟩ : ∃ x, K[i]? = some x := ⟨_, List.getElem?_eq_getElem (by have := HKL.out; omega)⟩
                        obtain ⟨g1, eg, -, -, -, -, -, hgc⟩ := KS3.out.kr.at (by have := HKL.out; omega)
                        subst eg
                        obtain ⟨o, ho, hxo, hmk⟩ := HALL.out x (List.mem_of_getElem? hx)
                        subst hxo
                        have q1 : wr.cell? ⟨g1, i, none⟩ = some (.int .i64 o.p) := hgc i o.p hx
                        have HO := hid ho
                        have HMK := hid hmk
                        clear hx hgc ho hmk
                        go_wp2_with fail
                        refine (kCell MW3.out HQ.out.mbL HO.out).mono ?_
                        rintro e w12 ⟨hF12, mk, rfl, hmk2, mw12⟩
                        have ks12 := KS3.out.step HQ.out MW3.out.m hF12
                        have hnw : Fr [] w12 (w12.alloc (.cells #[.int .i64 o.k, .int .i64 o.n, .int .i64 o.a, .int .i64 mk] 40)) := (Fr.refl [] w12).alloc _
                        have ks13 := ks12.tick hnw
                        have mw13 := mw12.tick hnw
                        have C13 := Blk.new w12 [.int .i64 o.k, .int .i64 o.n, .int .i64 o.a, .int .i64 mk] 40
                        have d3 := C13.cell (i := 3) rfl
                        obtain ⟨W13, hW13⟩ : ∃ W13, W13 = w12.alloc (.cells #[.int .i64 o.k, .int .i64 o.n, .int .i64 o.a, .int .i64 mk] 40) := ⟨_, rfl⟩
                        rw [← hW13] at ks13 mw13 d3
                        have HPR := hid (hmk2.2 HMK.out)
                        have KS13 := hid ks13
                        have MW13 := hid mw13
                        clear ks12 ks13 mw12 mw13 C13 q1 hF12 hnw hmk2
                        go_wp2_with fail
                        rw [← hW13]
                        clear hW13
                        go_quiet ((go_at_call 34; exact Calls.quiet_of_same (hParity' L (s3.tick 1) mk HPR.out.symm _ (MW13.out.hr.drewN _))))
                        go_wp2_with fail
                        go_roundw
                        case rel => exact ⟨i + 1, s3.tick 1, by omega, by go_num, KS13.out.tick ((Fr.refl [] W13).drewN nq), MW13.out.tick ((Fr.refl [] W13).drewN nq)⟩
                        case measure => simp [intOf]; omega
                      · go_wp2_with fail
                        refine (hEndRows L s3 A9 z2 wr MW3.out.hr MW3.out.i.mh.hi).mono ?_
                        rintro e w7 ⟨hF7, ⟨hn, _⟩ | ⟨_, rfl, _⟩⟩
                        · exact absurd HNO.out hn
                        have hF7' : Fr [] w w7 := KS3.out.fr0.step hF7 (fun y hy => .inr (HQ.out.lo y (fp_all hy)))
                        clear hF7
                        go_wp2_with fail
                        go_ret
                        exact ⟨rfl, hF7'⟩
            · as_aux_lemma =>
                intro l1 k l2 v w11 hleft hir2 hF11 hs11 hen
                have hrow11 := HROW2.out.fr hF11 (fun g hg hc => rowi_noiter HROW2.out HIR2.out g hg (List.mem_singleton.1 hc))
                have hF11' : Fr [] w8 w11 := HF2.out.step hF11 (fun y hy => .inr (by rw [List.mem_singleton.1 hy]; omega))
                have h11 : Rowi (w11.alloc (.cells #[.int .i64 k] 3)) w8.heap.size u20 K := hrow11.alloc _
                have hS1 : Srci (w11.alloc (.cells #[.int .i64 k] 3)) (some ⟨w11.heap.size, 0, none⟩) 1 [k] := (Rowi.one w11 k (Nat.le_refl w11.heap.size)).src
                have hKl : K.length + 1 ≤ 1000000 := by omega
                have hB11 : w8.heap.size ≤ (w11.alloc (.cells #[.int .i64 k] 3)).heap.size := by have := hF11'.size; simp; omega
                have hiA := hir2.fr ((Fr.refl [] w11).alloc (.cells #[.int .i64 k] 3)) (by simp) (by simp)
                have H11 := hid h11
                have HS1 := hid hS1
                have HKL := hid hKl
                have HB11 := hid hB11
                have HIA := hid hiA
                have HF11 := hid hF11'
                have HLEFT := hid hleft
                have hk : ∃ o ∈ Lv, o.p = k := HK2.out k (by rw [hleft]; simp)
                have HK := hid hk
                have hm0 : wr.rangeLeft om (w8.heap.size + 1) = left.length := HIR2.out.meas
                have HM0 := hid hm0
                clear h11 hS1 hKl hiA hF11' hF11 hs11 hrow11 hir2 hleft hk hm0 hB11
                go_wp2_with (at_builtin; refine wpList_appi rfl _ _ rfl w8.heap.size u20 K rfl H11.out (some ⟨w11.heap.size, 0, none⟩) 1 1 [k] rfl HS1.out (by simp) HKL.out HB11.out ?_)
                intro v12 w12 h12 f12 b12
                have hir12 := HIA.out.fr f12 (fun hc => rowi_nomap H11.out HIA.out.im _ (by simpa using hc) rfl) (fun hc => rowi_noiter H11.out HIA.out _ (by simpa using hc) rfl)
                have hF12 : Fr [] w8 w12 := (HF11.out.trans ((Fr.refl [] w11).alloc _)).step f12 (fun y hy => .inr (H11.out.lt y (by simpa using hy)).1)
                have H12 := hid h12
                have HIR12 := hid hir12
                have HF12 := hid hF12
                clear h12 hir12 hF12 f12 b12 hen
                go_wp2_with fail
                go_roundw
                case rel =>
                  refine ⟨l1 ++ l2, K ++ [k], HIR12.out, H12.out, HF12.out, fun x hx => ?_, fun x hx => HK2.out x ?_, ?_⟩
                  · rcases List.mem_append.1 hx with h | h
                    · exact HK1.out x h
                    · rw [List.mem_singleton.1 h]; exact HK.out
                  · rw [HLEFT.out]
                    rcases List.mem_append.1 hx with h | h <;> simp [h]
                  · have := congrArg List.length HLEFT.out
                    simp at this ⊢
                    omega
                case measure =>
                  rw [HIR12.out.meas, HM0.out, HLEFT.out]
                  simp
end Go.Proofs.Ytifillpcphiblaa
