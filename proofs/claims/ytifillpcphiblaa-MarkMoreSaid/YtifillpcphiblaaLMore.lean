import Derived.Test.YtifillpcphiblaaPMore
import Derived.Test.YtifillpcphiblaaLOnce
import Derived.Deep.QuietTactic
import Derived.Deep.DeepCutAuto
import Derived.BigQuiet
import Derived.Deep.RegionLaw
import Derived.Laws.Tables
namespace Go.Proofs.Ytifillpcphiblaa
open Go Go.Proofs Go.RowKit

theorem bld3 (A1 A2 A3 : Option Addr) (n1 c1 n2 c2 n3 c3 : Nat) (w : World) : (Instr.build 110 #[(0, .slice A1 n1 c1), (1, .slice A2 n2 c2), (2, .slice A3 n3 c3)]).run Try.prog w = .ok (.agg #[.slice A1 n1 c1, .slice A2 n2 c2, .slice A3 n3 c3]) w := run_build w _ _ _ (by kernel_rfl)
theorem ix30 (A1 A2 A3 : Option Addr) (n1 c1 n2 c2 n3 c3 : Nat) (w : World) : (Instr.index 110 (.agg #[.slice A1 n1 c1, .slice A2 n2 c2, .slice A3 n3 c3]) (.int .i64 0)).run Try.prog w = .ok (.slice A1 n1 c1) w := by kernel_rfl
theorem ix31 (A1 A2 A3 : Option Addr) (n1 c1 n2 c2 n3 c3 : Nat) (w : World) : (Instr.index 110 (.agg #[.slice A1 n1 c1, .slice A2 n2 c2, .slice A3 n3 c3]) (.int .i64 1)).run Try.prog w = .ok (.slice A2 n2 c2) w := by kernel_rfl
theorem ix32 (A1 A2 A3 : Option Addr) (n1 c1 n2 c2 n3 c3 : Nat) (w : World) : (Instr.index 110 (.agg #[.slice A1 n1 c1, .slice A2 n2 c2, .slice A3 n3 c3]) (.int .i64 2)).run Try.prog w = .ok (.slice A3 n3 c3) w := by kernel_rfl
def rlk (ra rb : List Int) (i : Nat) : List Int := if i = 0 then ra else if i = 1 then rb else ra ++ rb

set_option maxRecDepth 100000 in
set_option maxHeartbeats 12800000 in
theorem lawMarkMore (W Lg a b c d : Int) (sv v av bv : Value) (cls : List Int) (ms : List Mk) (ra rb : List Int) (w : World) (hs : SlArg w sv cls) (hms : MkArg w v ms) (has : SlArg w av ra) (hbs : SlArg w bv rb) :
    Calls Try.prog 13 #[.agg #[.int .i64 W, .int .i64 Lg, .int .i64 a, .int .i64 b, .int .i64 c, .int .i64 d, sv], v, av, bv] w fun e w' => e = .returned (.bool true) ∧ Fr [] w w' := by
  obtain ⟨ap, acap, rfl⟩ := slForm has
  obtain ⟨bp, bcap, rfl⟩ := slForm hbs
  obtain ⟨N, hN⟩ : ∃ N, N = ra.length := ⟨_, rfl⟩
  obtain ⟨P, hP⟩ : ∃ P, P = rb.length := ⟨_, rfl⟩
  have B0 := Blk.new w [.int .i64 W, .int .i64 Lg, .int .i64 a, .int .i64 b, .int .i64 c, .int .i64 d, sv] 24
  have HB0 := hid B0
  have hF0 : Fr [] w (w.alloc (.cells #[.int .i64 W, .int .i64 Lg, .int .i64 a, .int .i64 b, .int .i64 c, .int .i64 d, sv] 24)) := (Fr.refl _ w).alloc _
  have HF0 := hid hF0
  have HSL := hid hs
  have HMS := hid hms
  rw [← hN] at has ⊢
  rw [← hP] at hbs ⊢
  have HAS := hid has
  have HBS := hid hbs
  have HN := hid hN
  have HP := hid hP
  clear B0 hF0 hs hms has hbs hN hP
  go_enter Try.func13, Try.ntmps13
  go_wp2_with fail
  refine (lAwake _).mono ?_
  rintro e w1 ⟨rfl, hF1⟩
  have hF1' := HF0.out.trans hF1
  have hB1 := HB0.out.fr hF1 (by simp)
  have c0 := hB1.cell (i := 0) rfl
  have c1 := hB1.cell (i := 1) rfl
  have c2 := hB1.cell (i := 2) rfl
  have c3 := hB1.cell (i := 3) rfl
  have c4 := hB1.cell (i := 4) rfl
  have c5 := hB1.cell (i := 5) rfl
  have c6 := hB1.cell (i := 6) rfl
  have HF1 := hid hF1'
  have HB1 := hid hB1
  clear hF1 hF1' hB1
  go_wp2_with fail
  refine (lFew W Lg a b c d sv v cls ms w1 (HSL.out.fr HF1.out (by simp)) (HMS.out.fr HF1.out)).mono ?_
  rintro e w2 ⟨rfl, hF2⟩
  have hF2' := HF1.out.trans hF2
  have HF2 := hid hF2'
  have hB2 := HB1.out.fr hF2 (by simp)
  have HB2 := hid hB2
  clear c0 c1 c2 c3 c4 c5 c6
  have c0 := hB2.cell (i := 0) rfl
  have c1 := hB2.cell (i := 1) rfl
  have c2 := hB2.cell (i := 2) rfl
  have c3 := hB2.cell (i := 3) rfl
  have c4 := hB2.cell (i := 4) rfl
  have c5 := hB2.cell (i := 5) rfl
  have c6 := hB2.cell (i := 6) rfl
  clear hB2 hF2 hF2'
  cases hfew : fewB W Lg cls ms.length with
  | false =>
    clear hfew
    go_wp2_with fail
    go_ret
    exact ⟨rfl, HF2.out⟩
  | true =>
    obtain ⟨hR, hW6, hm30⟩ := few_parts hfew
    clear hfew
    by_cases hN20 : 20 < N
    · have g1 : decide ((20 : Int) < (N : Int)) = true := by simp; omega
      go_wp2_with fail
      go_ret
      exact ⟨rfl, HF2.out⟩
    · have g1 : decide ((20 : Int) < (N : Int)) = false := by simp; omega
      by_cases hP20 : 20 < P
      · have g2 : decide ((20 : Int) < (P : Int)) = true := by simp; omega
        go_wp2_with fail
        go_ret
        exact ⟨rfl, HF2.out⟩
      have g2 : decide ((20 : Int) < (P : Int)) = false := by simp; omega
      obtain ⟨Wn, rfl⟩ := Int.eq_ofNat_of_zero_le (show 0 ≤ W by have := hR.w1; omega)
      obtain ⟨Ln, rfl⟩ := Int.eq_ofNat_of_zero_le (show 0 ≤ Lg from hR.l1)
      have HR := hid hR
      clear hR
      have hN20' : N ≤ 20 := by omega
      have hP20' : P ≤ 20 := by omega
      obtain ⟨gb, hgb⟩ : ∃ gb, gb = w2.heap.size := ⟨_, rfl⟩
      have hGB := Blk.new w2 [.slice none 0 0, .slice none 0 0, .slice none 0 0] 109
      have hFG : Fr [] w2 (w2.alloc (.cells #[.slice none 0 0, .slice none 0 0, .slice none 0 0] 109)) := (Fr.refl _ w2).alloc _
      have hBX := HB2.out.fr hFG (by simp)
      have hgs : GS (w2.alloc (.cells #[.slice none 0 0, .slice none 0 0, .slice none 0 0] 109)) gb gb [.slice none 0 0, .slice none 0 0, .slice none 0 0] [[], [], []] := ⟨by rw [hgb]; exact hGB, ⟨rfl, rfl⟩, fun i x l hx hl => by
        match i with
        | 0 => cases hx; cases hl; exact Rowb.nil _ _
        | 1 => cases hx; cases hl; exact Rowb.nil _ _
        | 2 => cases hx; cases hl; exact Rowb.nil _ _
        | i + 3 => simp at hx⟩
      have hwl : w.heap.size ≤ gb := by rw [hgb]; exact HF2.out.size
      have hbl : w.heap.size < gb := by have := HB2.out.lt; omega
      have HGS := hid hgs
      have HBX := hid hBX
      have HFG := hid (HF2.out.trans hFG)
      have HM30 := hid hm30
      have HGB := hid hgb
      clear hgb hGB hFG hBX hgs hm30 hW6 hN20 hP20 g1 g2 c0 c1 c2 c3 c4 c5 c6
      go_wp2_with fail
      rw [← HGB.out]
      go_loopw [10] (fun kv wr => ∃ (k : Nat) (xs : List Value) (ls : List (List Bool)), k ≤ 3 ∧ kv = .int .i64 k ∧ Fr [] w wr ∧ Blk wr w.heap.size [.int .i64 Wn, .int .i64 Ln, .int .i64 a, .int .i64 b, .int .i64 c, .int .i64 d, sv] 24 ∧ GS wr gb gb xs ls ∧
        (∀ i l, i < k → ls[i]? = some l → ∀ bt, Bt cls (Wn - Ln) (runs0 Wn Ln) ms ms.length bt → l = mkB bt.obs ms (rlk ra rb i)) ∧ (∀ i, k ≤ i → i < 3 → xs[i]? = some (.slice none 0 0) ∧ ls[i]? = some []) ∧ (0 < k → ∃ bt, Bt cls (Wn - Ln) (runs0 Wn Ln) ms ms.length bt)) (fun kv _ => 3 - (intOf kv).toNat)
      case atStart =>
        refine ⟨0, _, _, by omega, rfl, HFG.out, HBX.out, HGS.out, fun i l hi => by omega, fun i _ hi => ?_, fun h => by omega⟩
        match i with
        | 0 => exact ⟨rfl, rfl⟩
        | 1 => exact ⟨rfl, rfl⟩
        | 2 => exact ⟨rfl, rfl⟩
        | i + 3 => omega
      case round =>
        obtain ⟨k, xs, ls, hk, rfl, hF, hbx, hgs, hok, hnil, hbt0⟩ := hrel
        have HFK := hid hF
        have HBK := hid hbx
        have HGK := hid hgs
        have HOK := hid hok
        have HNIL := hid hnil
        have HBT0 := hid hbt0
        clear hF hgs hok hnil hbt0
        by_cases hk3 : (k : Int) < 3
        · have c0 := hbx.cell (i := 0) rfl
          have c1 := hbx.cell (i := 1) rfl
          have c2 := hbx.cell (i := 2) rfl
          have c3 := hbx.cell (i := 3) rfl
          have c4 := hbx.cell (i := 4) rfl
          have c5 := hbx.cell (i := 5) rfl
          have c6 := hbx.cell (i := 6) rfl
          have hgbk : gb < wr.heap.size := HGK.out.blk.lt
          obtain ⟨wk, hwk⟩ : ∃ wk, wk = wr := ⟨_, rfl⟩
          rw [← hwk] at hgbk
          have HWK := hid hwk
          clear hbx hwk
          go_wp2_with fail
          refine (lBuilt Wn Ln a b c d sv v cls ms 24 wr HR.out (HSL.out.fr HFK.out (by simp)) (HMS.out.fr HFK.out) HM30.out (cls24 HR.out) (by decide)).mono ?_
          rw [← HWK.out]
          rintro e w3 ⟨L, D, atv, s, A, z, bits, m, obs, G, rfl, hJ, hrow, hF3, hlo, hdB, hpar, hle, hn32, hwd, -, bt, hbt, hbo⟩
          obtain ⟨A0, ca, rfl⟩ := hrow.form
          obtain ⟨M, hM⟩ : ∃ M, M = obs.length := ⟨_, rfl⟩
          have hlen : (obs.map Ob.p).length = M := by rw [List.length_map, hM]
          rw [hlen] at hrow ⊢
          have hM30 : M ≤ 30 := by have := HM30.out; omega
          have HJ := hid hJ
          have HROW := hid hrow
          have HF3 := hid hF3
          have HLO := hid (And.intro hlo hdB)
          have HWD := hid hwd
          have HPAR := hid hpar
          have HM := hid hM
          have HLEN := hid hlen
          have HN32 := hid hn32
          have HBT := hid (And.intro hbt hbo)
          have hsz : wk.heap.size ≤ w3.heap.size := HF3.out.size
          have HLL := hid hJ.low
          have hdw : D.B ≤ w3.heap.size := hJ.jh.dh.rs.le
          clear hJ hrow hF3 hlo hdB hwd hpar hM hlen hn32 hle hbt hbo c0 c1 c2 c3 c4 c5 c6
          go_wp2_with fail
          refine (mkNew L.hb w3).mono ?_
          rintro e w4 ⟨rfl, hMk, hF4, hsz4⟩
          have q : QS wk L D w3.heap.size := ⟨fun hc => by have := HLL.out _ hc; omega, fun x hx => HLO.out.1 x hx, HLL.out, hsz, HLO.out.2⟩
          have HQ := hid q
          have HMK := hid hMk
          have HF4 := hid hF4
          clear q hMk hF4
          go_wp2_with fail
          refine (lBegin (w := wk) (ms := ms) (HJ.out.tick HF4.out) (HROW.out.fr HF4.out (by simp)) (HF3.out.trans HF4.out) HQ.out HMK.out HPAR.out HWD.out (rts obs (rlk ra rb k))).mono ?_
          rintro e w5 ⟨rfl, hF5, s5, h5⟩
          obtain ⟨U0, hU0⟩ : ∃ U0, U0 = pot A.begun (MGof obs s (rts obs (rlk ra rb k))) obs := ⟨_, rfl⟩
          have hU1 : U0 ≤ 1000 := by have := pot_le (A := A.begun) (g := MGof obs s (rts obs (rlk ra rb k))) HN32.out; have := HM.out; omega
          rw [← hU0] at h5
          have H5 := hid h5
          have hd5 : D.B ≤ w5.heap.size := by have := HF4.out.size; have := hF5.size; omega
          have HFKK := hid (show Fr [] w wk by rw [HWK.out]; exact HFK.out)
          clear h5 hU0 hF5
          go_upto_region 15 with fail
          go_cut [16] (fun rv wx => Hid (RL w wx D.B rv (rlk ra rb k)) ∧ Fr [] w5 wx)
          case first =>
            have hF5w : Fr [] w w5 := HFKK.out.trans H5.out.fr0
            have hE : Rowi (w5.alloc (.cells #[] 3)) w5.heap.size (.slice (some ⟨w5.heap.size, 0, none⟩) 0 0) [] := Rowi.empty w5 (Nat.le_refl _)
            have hA5 := (SlArg.srci (HAS.out.fr (hF5w.alloc (.cells #[] 3)) (by simp)))
            have hN1 : ([] : List Int).length + N ≤ 1000000 := by simp; omega
            have HE := hid hE
            have HA5 := hid hA5
            have HF5W := hid hF5w
            have hk012 : k = 0 ∨ k = 1 ∨ k = 2 := by omega
            have HK012 := hid hk012
            clear hE hA5 hF5w hk012
            go_wp2_with (at_builtin; refine wpList_appi rfl _ _ rfl w5.heap.size (.slice (some ⟨w5.heap.size, 0, none⟩) 0 0) [] rfl HE.out ap N acap ra rfl HA5.out.1 HA5.out.2 hN1 (by simp) ?_)
            intro v1 w6 h6 f6 b6
            have hF6' : Fr [] w5 w6 := ((Fr.refl [] w5).alloc (.cells #[] 3)).step f6 (fun y hy => .inr (by simp [Value.ownBlock] at hy; omega))
            have hB6 := (SlArg.srci (HBS.out.fr (HF5W.out.trans hF6') (by simp)))
            have hlo1 : ∀ x ∈ v1.ownBlock.toList, w5.heap.size ≤ x := fun x hx => (h6.lt x (by simpa using hx)).1
            have hN2 : ([] ++ ra : List Int).length + P ≤ 1000000 := by have := HN.out; simp; omega
            have hs6 : w5.heap.size ≤ w6.heap.size := hF6'.size
            have H6 := hid h6
            have HB6 := hid hB6
            have HF6 := hid hF6'
            have HLO1 := hid hlo1
            clear h6 hB6 hF6' hlo1 f6 b6
            go_wp2_with (at_builtin; refine wpList_appi rfl _ _ rfl w5.heap.size v1 ([] ++ ra) rfl H6.out bp P bcap rb rfl HB6.out.1 HB6.out.2 hN2 hs6 ?_)
            intro v2 w7 h7 f7 b7
            have hF7 : Fr [] w5 w7 := HF6.out.step f7 (fun y hy => .inr (HLO1.out y hy))
            have hr2 : Rowi w7 D.B v2 (ra ++ rb) := by have := h7.base hd5; simpa using this
            obtain ⟨A2, c2, rfl⟩ := hr2.form
            obtain ⟨T, hT⟩ : ∃ T, T = (ra ++ rb).length := ⟨_, rfl⟩
            rw [← hT] at hr2 ⊢
            have hbd := bld3 ap bp A2 N acap P bcap T c2
            have hx0 := ix30 ap bp A2 N acap P bcap T c2
            have hx1 := ix31 ap bp A2 N acap P bcap T c2
            have hx2 := ix32 ap bp A2 N acap P bcap T c2
            have HF7 := hid hF7
            have HR2 := hid hr2
            have HAR := hid (show RL w w7 D.B (.slice ap N acap) ra from .inl HAS.out)
            have HBR := hid (show RL w w7 D.B (.slice bp P bcap) rb from .inl HBS.out)
            clear h7 f7 b7 hF7 hr2 hN1 hN2 hT
            rcases HK012.out with rfl | rfl | rfl
            · go_wp2_with fail
              go_meet
              case rel => exact ⟨hid HAR.out, HF7.out⟩
            · go_wp2_with fail
              go_meet
              case rel => exact ⟨hid HBR.out, HF7.out⟩
            · go_wp2_with fail
              go_meet
              case rel => exact ⟨hid (.inr HR2.out), HF7.out⟩
          case rest =>
            obtain ⟨HRL, hF6⟩ := hcut
            obtain ⟨rp, rcap, e16⟩ := HRL.out.form
            subst e16
            obtain ⟨R, hR⟩ : ∃ R, R = (rlk ra rb k).length := ⟨_, rfl⟩
            have hR40 : R ≤ 40 := by
              rw [hR]
              unfold rlk
              have := HN.out
              have := HP.out
              split
              · omega
              · split
                · omega
                · rw [List.length_append]; omega
            have hrl := HRL.out
            rw [← hR] at hrl ⊢
            have HRL6 := hid hrl
            have HRR := hid hR
            have LS6 := hid (H5.out.tick' hF6)
            clear hrl hR hF6 HRL
            go_wp2_with fail
            go_loopw [17] (fun i wr => ∃ (j : Nat) (s2 : HS) (A2 : Rg), j ≤ R ∧ i = .int .i64 j ∧ LS wk wr L D (.slice A0 M ca) w3.heap.size s2 A2 z obs (MGof obs s (rts obs (rlk ra rb k))) 0 0 U0 ∧ Marked A2 obs (rlk ra rb k) j ∧ RL w wr D.B (.slice rp R rcap) (rlk ra rb k)) (fun i _ => R - (intOf i).toNat)
            case atStart => exact ⟨0, s5, _, Nat.zero_le _, rfl, LS6.out, fun i t o hi => by omega, HRL6.out⟩
            case round =>
              obtain ⟨j, s2, A2, hj, rfl, h2, hmk, hrl⟩ := hrel
              have H2 := hid h2
              have HMKD := hid hmk
              have HRL2 := hid hrl
              clear h2 hmk hrl
              by_cases hjN : (j : Int) < (R : Int)
              · obtain ⟨t, ht⟩ : ∃ t, (rlk ra rb k)[j]? = some t := ⟨_, List.getElem?_eq_getElem (by have := HRR.out; omega)⟩
                have hrl2 := HRL2.out
                rw [HRR.out] at hrl2
                obtain ⟨xb, xo, exb, hrx⟩ := hrl2.cell (HFKK.out.trans H2.out.fr0) (by have := HRR.out; omega)
                subst exb
                have qx : wr.cell? ⟨xb, xo + j, none⟩ = some (.int .i64 t) := hrx j t ht
                have HT := hid ht
                clear ht hrx hrl2
                go_wp2_with fail
                refine (dFits t M wr).mono ?_
                rintro e w6 ⟨rfl, rfl⟩
                by_cases hfit : 1 ≤ t ∧ t ≤ M
                · rw [decide_eq_true hfit]
                  obtain ⟨tn, htn⟩ : ∃ tn : Nat, t = (tn : Int) + 1 := ⟨(t - 1).toNat, by omega⟩
                  subst htn
                  have htm : tn < M := by omega
                  obtain ⟨ot, hot⟩ : ∃ ot, obs[tn]? = some ot := ⟨_, List.getElem?_eq_getElem (by have := HM.out; omega)⟩
                  obtain ⟨g0, eg, -, -, -, -, -, hgc⟩ := H2.out.row.at (by rw [HLEN.out]; omega)
                  subst eg
                  have q1 : wr.cell? ⟨g0, tn, none⟩ = some (.int .i64 ot.p) := hgc tn ot.p (by rw [List.getElem?_map, hot]; rfl)
                  have w0 : IntKind.i64.wrap (tn : Int) = tn := by rw [IntKind.wrap_i64]; omega
                  have i1 : (0 : Int) ≤ (tn : Int) := by omega
                  have i2 : (tn : Int) < (M : Int) := by omega
                  have HOT := hid hot
                  have hidx : ((tn : Int) + 1 - 1).toNat = tn := by omega
                  have HIDX := hid hidx
                  have HFIT := hid hfit
                  clear hot hfit hgc hidx
                  go_wp2_with fail
                  refine (lShade2 H2.out HQ.out ot.p (.inr ⟨ot, List.mem_of_getElem? HOT.out, rfl, Rch.root _ (rts_mem HT.out (by rw [← HM.out]; exact HFIT.out) (by rw [HIDX.out]; exact HOT.out))⟩)).mono ?_
                  rintro e w7 ⟨rfl, hF7, s7, A7, h7, hst7, hm7⟩
                  have H7 := hid h7
                  have HM7 := hid (Marked.succ (HMKD.out.mono hst7) (fun t o ht hc ho => by
                    rw [HT.out] at ht
                    cases ht
                    rw [HIDX.out, HOT.out] at ho
                    cases ho
                    exact hm7 ot (List.mem_of_getElem? HOT.out) rfl))
                  have HRL7 := hid (HRL2.out.step HQ.out H2.out.mw.m hF7)
                  clear h7 hst7 hm7 q1 qx hF7
                  go_wp2_with fail
                  go_roundw
                  case rel => exact ⟨j + 1, s7, A7, by omega, by go_num, H7.out, HM7.out, HRL7.out⟩
                  case measure => simp [intOf]; omega
                · rw [decide_eq_false hfit]
                  have HM7 := hid (Marked.succ HMKD.out (fun t' o ht hc ho => by
                    rw [HT.out] at ht
                    cases ht
                    rw [← HM.out] at hc
                    exact absurd hc hfit))
                  clear hfit
                  go_wp2_with fail
                  go_roundw
                  case rel => exact ⟨j + 1, s2, A2, by omega, by go_num, H2.out, HM7.out, HRL2.out⟩
                  case measure => simp [intOf]; omega
              · have hjN' : (rlk ra rb k).length ≤ j := by have := HRR.out; omega
                have hmall : ∀ o ∈ obs, o.p ∈ rts obs (rlk ra rb k) → Mkd A2 o := HMKD.out.all hjN' (fun o ho o' ho' e => H2.out.mw.i.mh.one ho ho' e)
                have HMALL := hid hmall
                clear hjN' hmall
                go_wp2_with fail
                refine (lWork H2.out HQ.out 3000 (by omega)).mono ?_
                rintro e w9 ⟨d9, s9, A9, a9, nx9, rfl, hd1, hd2, h9, hst9, hfin⟩
                obtain ⟨rfl, hno⟩ := hfin (by omega)
                have hnx := h9.mw.z0 rfl
                subst hnx
                obtain ⟨hiff, hU⟩ := h9.mw.i.all hno (fun o ho hp => hst9.mono o ho (HMALL.out o ho hp))
                rw [hU] at h9
                have hone : ∀ o ∈ obs, ∀ o' ∈ obs, o.p = o'.p → o = o' := fun o ho o' ho' e => h9.mw.i.mh.one ho ho' e
                have hbits : mdB A9 obs = mkB obs ms (rlk ra rb k) := mdB_eq (fun o ho => (hiff o ho).trans (rch_iff hone HWD.out o.p))
                have hgs9 : GS w9 gb gb xs ls := GS.fr (S := []) (by rw [HWK.out]; exact HGK.out) h9.fr0 (by simp) (by simp)
                have hbx9 : Blk w9 w.heap.size [.int .i64 Wn, .int .i64 Ln, .int .i64 a, .int .i64 b, .int .i64 c, .int .i64 d, sv] 24 := by
                  have := HBK.out
                  rw [← HWK.out] at this
                  exact this.fr h9.fr0 (by simp)
                have HBITS := hid hbits
                have LS9 := hid (h9.base HFKK.out)
                have LSF := hid h9.fr0
                have HGS9 := hid hgs9
                have HBX9 := hid hbx9
                have HQ0 := hid (HQ.out.base HFKK.out)
                have hxs3 : xs.length = 3 := hgs9.len.1
                have hk3n : k < 3 := by omega
                have hxk : xs.set k (.slice none 0 0) = xs := by
                  apply List.ext_getElem?
                  intro i
                  by_cases e : i = k
                  · subst e
                    rw [List.getElem?_set_self (by omega)]
                    exact (HNIL.out i (Nat.le_refl _) hk3n).1.symm
                  · rw [List.getElem?_set_ne (Ne.symm e)]
                have HXK := hid hxk
                clear h9 hst9 hfin hno hiff hU hone hbits hgs9 hbx9 hd1 hd2 hxk
                go_wp2_with fail
                go_loopw [18] (fun i wr => ∃ (j : Nat) (s2 : HS) (xk : Value), j ≤ M ∧ i = .int .i64 j ∧ LS w wr L D (.slice A0 M ca) w3.heap.size s2 A9 z obs (MGof obs s (rts obs (rlk ra rb k))) 0 0 0 ∧ Blk wr gb (xs.set k xk) 109 ∧ Rowb wr D.B xk (mdB A9 (obs.take j)) ∧ Fr [gb] wk wr) (fun i _ => M - (intOf i).toNat)
                case atStart => exact ⟨0, s9, .slice none 0 0, Nat.zero_le _, rfl, LS9.out, by rw [HXK.out]; exact HGS9.out.blk, by rw [List.take_zero]; exact Rowb.nil _ _, LSF.out.here (by simp)⟩
                case round =>
                  obtain ⟨j, s2, xk, hj, rfl, h2, hbk, hrk, hFk⟩ := hrel
                  have LS2 := hid h2
                  have HBK2 := hid hbk
                  have HRK2 := hid hrk
                  have HFK2 := hid hFk
                  clear h2 hbk hrk hFk
                  by_cases hjM : (j : Int) < (M : Int)
                  · as_aux_lemma =>
                      obtain ⟨o, ho⟩ : ∃ o, obs[j]? = some o := ⟨_, List.getElem?_eq_getElem (by have := HM.out; omega)⟩
                      have hom := List.mem_of_getElem? ho
                      obtain ⟨g0, eg, -, -, -, -, -, hgc⟩ := LS2.out.row.at (by rw [HLEN.out]; omega)
                      subst eg
                      have q1 : wr.cell? ⟨g0, j, none⟩ = some (.int .i64 o.p) := hgc j o.p (by rw [List.getElem?_map, ho]; rfl)
                      have HO := hid ho
                      have HOM := hid hom
                      clear ho hom hgc
                      go_wp2_with fail
                      refine (lCell LS2.out HQ0.out HOM.out).mono ?_
                      rintro e w12 ⟨hF12, mk, rfl, hmk, ls12⟩
                      have hgl : gb ∉ w3.heap.size :: L.fp := fun hc => by
                        rcases List.mem_cons.1 hc with h | h
                        · omega
                        · have := HQ.out.lo _ (fp_all h); omega
                      have hnw : Fr [] w12 (w12.alloc (.cells #[.int .i64 o.k, .int .i64 o.n, .int .i64 o.a, .int .i64 mk] 40)) := (Fr.refl [] w12).alloc _
                      have ls13 := ls12.tick' hnw
                      have bk13 := (HBK2.out.fr hF12 hgl).fr hnw (by simp)
                      have rk13 := (rowb_step HRK2.out HQ0.out LS2.out.mw.m hF12).fr hnw (by simp)
                      have fk13 : Fr [gb] wk (w12.alloc (.cells #[.int .i64 o.k, .int .i64 o.n, .int .i64 o.a, .int .i64 mk] 40)) := (HFK2.out.step hF12 (fun y hy => .inr (by
                        rcases List.mem_cons.1 hy with h | h
                        · rw [h]; exact HQ.out.mlo
                        · exact HQ.out.lo _ (fp_all h)))).trans (hnw.here (by simp))
                      have C13 := Blk.new w12 [.int .i64 o.k, .int .i64 o.n, .int .i64 o.a, .int .i64 mk] 40
                      have d3 := C13.cell (i := 3) rfl
                      obtain ⟨W13, hW13⟩ : ∃ W13, W13 = w12.alloc (.cells #[.int .i64 o.k, .int .i64 o.n, .int .i64 o.a, .int .i64 mk] 40) := ⟨_, rfl⟩
                      have hxl13 : w12.heap.size < W13.heap.size := by rw [hW13]; simp
                      rw [← hW13] at ls13 bk13 rk13 fk13 d3
                      obtain ⟨pr, hpr⟩ : ∃ pr, pr = s2.parity := ⟨_, rfl⟩
                      rw [← hpr] at hmk
                      obtain ⟨bb, hbb⟩ : ∃ bb, (mk == pr) = bb := ⟨_, rfl⟩
                      have hbm : bb = true ↔ Mkd A9 o := by rw [← hbb, beq_iff_eq]; exact hmk
                      have htk := mdB_take (A := A9) HO.out hbm
                      obtain ⟨Ak, ck, rfl⟩ := rk13.form
                      obtain ⟨T, hT⟩ : ∃ T, T = (mdB A9 (obs.take j)).length := ⟨_, rfl⟩
                      have hT30 : T ≤ 30 := by
                        rw [hT]
                        unfold mdB
                        rw [List.length_map, List.length_take]
                        omega
                      rw [← hT] at bk13 rk13
                      have hgk : (xs.set k (.slice Ak T ck))[k]? = some (.slice Ak T ck) := List.getElem?_set_self (by omega)
                      have qk := bk13.cell hgk
                      have qkA := ((bk13.drew).alloc (.cells #[.bool bb] 4)).cell hgk
                      have qkB := (bk13.alloc (.cells #[.bool bb] 4)).cell hgk
                      have hgne : gb ∉ (Value.slice Ak T ck).ownBlock.toList := fun hc => rk13.ne bk13 (by decide) gb (by simpa using hc) rfl
                      have hS1 : Srcb (W13.drew.alloc (.cells #[.bool bb] 4)) (some ⟨W13.heap.size, 0, none⟩) 1 [bb] := (Rowb.one W13.drew bb (Nat.le_refl W13.heap.size)).src
                      have hd13 : D.B ≤ W13.heap.size := by have := fk13.size; have := LS2.out.fr0.size; have := (HQ0.out.dB); have := ls13.mw.m.lt; omega
                      have HLS13 := hid ls13
                      have HBK13 := hid bk13
                      have HRK13 := hid rk13
                      have HFK13 := hid fk13
                      have HTK := hid htk
                      have HPR := hid hpr
                      have HGNE := hid hgne
                      have HS1 := hid hS1
                      have HGK2 := hid hgk
                      have HTT := hid hT
                      clear ls12 ls13 bk13 rk13 fk13 C13 q1 hF12 hnw hmk hbm htk hpr hgne hS1 hgk hgl hT
                      go_wp2_with fail
                      rw [← hW13]
                      clear hW13
                      go_region_law (first
                        | (refine step_appb rfl (.tmp 114) (.tmp 120) rfl D.B (.slice Ak T ck) (mdB A9 (obs.take j)) (by simp [Act.eval, Act.put]) (HRK13.out.drew.alloc _) (some ⟨W13.heap.size, 0, none⟩) 1 1 [bb] (by simp [Act.eval, Act.put]) (by exact HS1.out) (by simp) (by rw [← HTT.out]; omega) (by simp; omega) ?_; intro v1 w1 h1 f1 b1; obtain ⟨A1, c1, e1⟩ := h1.form; subst e1; have y9 := (((HBK13.out.drew).alloc (.cells #[.bool bb] 4)).fr f1 HGNE.out).frozen k; have q9 := (((HBK13.out.drew).alloc (.cells #[.bool bb] 4)).fr f1 HGNE.out).cell HGK2.out)
                        | (go_simp; go_at_call 34; refine (hParity' L (s2.tick 1) pr HPR.out.symm _ (HLS13.out.mw.hr.drew)).mono ?_; rintro e w8 ⟨rfl, rfl⟩))
                      all_goals
                        have hlen1 : (mdB A9 (obs.take j) ++ [bb]).length = (mdB A9 (obs.take j)).length + 1 := by simp
                        rw [hlen1] at h1
                        have bk1 : Blk w1 gb (xs.set k (.slice Ak T ck)) 109 := ((HBK13.out.drew).alloc (.cells #[.bool bb] 4)).fr f1 HGNE.out
                        have bk2 := bk1.set k (.slice A1 ((mdB A9 (obs.take j)).length + 1) c1)
                        rw [List.set_set] at bk2
                        have hf13 : Fr (gb :: (Value.slice Ak T ck).ownBlock.toList) W13 w1 := (((Fr.refl _ W13).drew).alloc (.cells #[.bool bb] 4)).trans (f1.here (fun x hx => List.mem_cons_of_mem _ hx))
                        have fF := hf13.set (p := ⟨gb, k, none⟩) (.inl (by simp)) (.slice A1 ((mdB A9 (obs.take j)).length + 1) c1)
                        have ls14 := HLS13.out.fr fF (fun x hx => by
                          rcases List.mem_cons.1 hx with h | h
                          · subst h
                            have e1 := HQ.out.mlo
                            have e3 := HQ.out.dB
                            refine ⟨fun hc => by have := HQ.out.lo _ hc; omega, by omega, fun hc => ?_, by omega⟩
                            have := (HLS13.out.row.lt _ hc).1
                            omega
                          · have h' : (Value.slice Ak T ck).ownBlock = some x := by simpa using h
                            have e1 := (HRK13.out.lt x h').1
                            have e3 := HQ0.out.dB
                            exact ⟨fun hc => by have := HQ.out.lw _ hc; omega, HRK13.out.ne HLS13.out.mw.m (by decide) x h', fun hc => rowi_rowb HLS13.out.row HRK13.out x hc h', by omega⟩)
                        have rk14 := h1.fr ((Fr.refl [gb] w1).set (p := ⟨gb, k, none⟩) (.inl (by simp)) (.slice A1 ((mdB A9 (obs.take j)).length + 1) c1)) (fun g hg hc => h1.ne bk1 (by decide) g hg (List.mem_singleton.1 hc))
                        have fk14 := HFK13.out.step fF (fun x hx => by
                          rcases List.mem_cons.1 hx with h | h
                          · exact .inl (by rw [h]; simp)
                          · have e1 := (HRK13.out.lt x (by simpa using h)).1
                            have e3 := HQ.out.dB
                            exact .inr (by omega))
                        rw [← HTK.out] at rk14
                        have LS14 := hid ls14
                        have BK14 := hid bk2
                        have RK14 := hid rk14
                        have FK14 := hid fk14
                        clear h1 f1 b1 bk1 bk2 hf13 fF ls14 rk14 fk14 y9 q9 hlen1
                        go_wp2_with fail
                        go_roundw
                        case rel => exact ⟨j + 1, s2.tick 1, _, by omega, by go_num, LS14.out, BK14.out, RK14.out, FK14.out⟩
                        case measure => simp [intOf]; omega
                  · as_aux_lemma =>
                      have hjM' : j = M := by omega
                      have htk : obs.take j = obs := List.take_of_length_le (by have := HM.out; omega)
                      have hr' : Rowb wr gb xk (mkB obs ms (rlk ra rb k)) := by
                        have := HRK2.out
                        rw [htk, HBITS.out] at this
                        refine this.base ?_
                        have := HQ.out.dB
                        omega
                      have hgs0 : GS wk gb gb xs ls := by rw [HWK.out]; exact HGK.out
                      have hgs' : GS wr gb gb (xs.set k xk) (ls.set k (mkB obs ms (rlk ra rb k))) := hgs0.set hk3n HBK2.out HFK2.out (fun i x hi hx g hg hc => (hgs0.lt (List.mem_of_getElem? hx) hg).2.2 (List.mem_singleton.1 hc)) hr'
                      have hbx' : Blk wr w.heap.size [.int .i64 Wn, .int .i64 Ln, .int .i64 a, .int .i64 b, .int .i64 c, .int .i64 d, sv] 24 := by
                        have := HBK.out
                        rw [← HWK.out] at this
                        exact this.fr HFK2.out (by simp; omega)
                      have hls3 : ls.length = 3 := hgs0.len.2
                      have hok' : ∀ i l, i < k + 1 → (ls.set k (mkB obs ms (rlk ra rb k)))[i]? = some l → ∀ bt, Bt cls (Wn - Ln) (runs0 Wn Ln) ms ms.length bt → l = mkB bt.obs ms (rlk ra rb i) := by
                        intro i l hi hl bt' hbt'
                        by_cases e : i = k
                        · subst e
                          rw [List.getElem?_set_self (by omega)] at hl
                          cases hl
                          have := hbt'.det HBT.out.1
                          subst this
                          rw [HBT.out.2]
                        · rw [List.getElem?_set_ne (Ne.symm e)] at hl
                          exact HOK.out i l (by omega) hl bt' hbt'
                      have hnil' : ∀ i, k + 1 ≤ i → i < 3 → (xs.set k xk)[i]? = some (.slice none 0 0) ∧ (ls.set k (mkB obs ms (rlk ra rb k)))[i]? = some [] := by
                        intro i hi hi3
                        rw [List.getElem?_set_ne (by omega), List.getElem?_set_ne (by omega)]
                        exact HNIL.out i (by omega) hi3
                      have GS1 := hid hgs'
                      have BX1 := hid hbx'
                      have OK1 := hid hok'
                      have NIL1 := hid hnil'
                      clear hr' hgs0 hgs' hbx' hok' hnil' htk hjM'
                      go_wp2_with fail
                      go_roundw
                      case rel => exact ⟨k + 1, _, _, by omega, by go_num, LS2.out.fr0, BX1.out, GS1.out, OK1.out, NIL1.out, fun _ => ⟨_, HBT.out.1⟩⟩
                      case measure => simp [intOf]; omega
        · as_aux_lemma =>
            have hk3' : k = 3 := by omega
            obtain ⟨bt, hbt⟩ := HBT0.out (by omega)
            obtain ⟨hxl, hll⟩ := HGK.out.len
            obtain ⟨x0, x1, x2, rfl⟩ : ∃ x0 x1 x2, xs = [x0, x1, x2] := by
              match xs, hxl with
              | [x0, x1, x2], _ => exact ⟨x0, x1, x2, rfl⟩
            obtain ⟨l0, l1, l2, rfl⟩ : ∃ l0 l1 l2, ls = [l0, l1, l2] := by
              match ls, hll with
              | [l0, l1, l2], _ => exact ⟨l0, l1, l2, rfl⟩
            have e0 := HOK.out 0 l0 (by omega) rfl bt hbt
            have e1 := HOK.out 1 l1 (by omega) rfl bt hbt
            have e2 := HOK.out 2 l2 (by omega) rfl bt hbt
            obtain ⟨n, hn⟩ : ∃ n, n = bt.obs.length := ⟨_, rfl⟩
            have n0 : l0.length = n := by rw [e0, mkB_len, hn]
            have n1 : l1.length = n := by rw [e1, mkB_len, hn]
            have n2 : l2.length = n := by rw [e2, mkB_len, hn]
            have r0 := HGK.out.row 0 _ _ rfl rfl
            have r1 := HGK.out.row 1 _ _ rfl rfl
            have r2 := HGK.out.row 2 _ _ rfl rfl
            obtain ⟨A0, ca0, rfl⟩ := r0.form
            obtain ⟨A1, ca1, rfl⟩ := r1.form
            obtain ⟨A2, ca2, rfl⟩ := r2.form
            have hor : ∀ (j : Nat) (y0 y1 y2 : Bool), l0[j]? = some y0 → l1[j]? = some y1 → l2[j]? = some y2 → y2 = (y0 || y1) := fun j y0 y1 y2 h0 h1 h2 => mkB_or bt.obs ms ra rb j y0 y1 y2 (by rw [e0] at h0; exact h0) (by rw [e1] at h1; exact h1) (by rw [e2] at h2; exact h2)
            rw [n0] at r0
            rw [n1] at r1
            rw [n2] at r2
            have hB := HGK.out.blk
            rw [n0, n1, n2] at hB
            have HR0 := hid r0
            have HR1 := hid r1
            have HR2 := hid r2
            have HBF := hid hB
            have HOR := hid hor
            have HN0 := hid n0
            have HN1 := hid n1
            have HN2 := hid n2
            obtain ⟨wf, hwf⟩ : ∃ wf, wf = wr := ⟨_, rfl⟩
            have HWF := hid hwf
            have hn40 : n ≤ 1000 := by have := hbt.lens; have := HM30.out; omega
            clear hk3' hbt e0 e1 e2 hn n0 n1 n2 r0 r1 r2 hor hB hwf hxl hll hbx hk
            go_wp2_with fail
            go_loopw [21] (fun i wr => ∃ j : Nat, j ≤ n ∧ i = .int .i64 j ∧ Fr [] wf wr) (fun i _ => n - (intOf i).toNat)
            case atStart => exact ⟨0, Nat.zero_le _, rfl, by rw [HWF.out]; exact Fr.refl _ _⟩
            case round =>
              obtain ⟨j, hj, rfl, hFj⟩ := hrel
              have hBj := HBF.out
              rw [← HWF.out] at hBj
              have hBj := hBj.fr hFj (by simp)
              have g0 := hBj.cell (i := 0) rfl
              have g1 := hBj.cell (i := 1) rfl
              have g2 := hBj.cell (i := 2) rfl
              have hR0 := HR0.out
              have hR1 := HR1.out
              have hR2 := HR2.out
              rw [← HWF.out] at hR0 hR1 hR2
              have hR0 := hR0.fr hFj (by simp)
              have hR1 := hR1.fr hFj (by simp)
              have hR2 := hR2.fr hFj (by simp)
              have HFJ := hid hFj
              clear hBj hFj
              by_cases hjn : (j : Int) < (n : Int)
              · obtain ⟨y0, hy0⟩ : ∃ y, l0[j]? = some y := ⟨_, List.getElem?_eq_getElem (by have := HN0.out; omega)⟩
                obtain ⟨y1, hy1⟩ : ∃ y, l1[j]? = some y := ⟨_, List.getElem?_eq_getElem (by have := HN1.out; omega)⟩
                obtain ⟨y2, hy2⟩ : ∃ y, l2[j]? = some y := ⟨_, List.getElem?_eq_getElem (by have := HN2.out; omega)⟩
                have hy := HOR.out j y0 y1 y2 hy0 hy1 hy2
                obtain ⟨p0, rfl, -, -, -, -, -, hc0⟩ := hR0.at (by have := HN0.out; omega)
                obtain ⟨p1, rfl, -, -, -, -, -, hc1⟩ := hR1.at (by have := HN1.out; omega)
                obtain ⟨p2, rfl, -, -, -, -, -, hc2⟩ := hR2.at (by have := HN2.out; omega)
                have q0 := hc0 j y0 hy0
                have q1 := hc1 j y1 hy1
                have q2 := hc2 j y2 hy2
                obtain ⟨wj, hwj⟩ : ∃ wj, wj = wr := ⟨_, rfl⟩
                clear hR0 hR1 hR2 hc0 hc1 hc2 hy0 hy1 hy2 hwj
                cases y0 with
                | true =>
                  have hy' : y2 = true := by simpa using hy
                  subst hy'
                  clear hy
                  go_wp2_with fail
                  go_quiet (fail)
                  go_wp2_with fail
                  go_roundw
                  case rel => exact ⟨j + 1, by omega, by go_num, HFJ.out.drewN nq⟩
                  case measure => simp [intOf]; omega
                | false =>
                  have hy' : y2 = y1 := by simpa using hy
                  subst hy'
                  clear hy
                  cases y2 with
                  | true =>
                    go_wp2_with fail
                    go_quiet (fail)
                    go_wp2_with fail
                    go_roundw
                    case rel => exact ⟨j + 1, by omega, by go_num, HFJ.out.drewN nq⟩
                    case measure => simp [intOf]; omega
                  | false =>
                    go_wp2_with fail
                    go_quiet (fail)
                    go_wp2_with fail
                    go_roundw
                    case rel => exact ⟨j + 1, by omega, by go_num, HFJ.out.drewN nq⟩
                    case measure => simp [intOf]; omega
              · clear hR0 hR1 hR2
                have hfin : Fr [] w wr := by
                  have := HFK.out
                  rw [← HWF.out] at this
                  exact this.trans HFJ.out
                go_wp2_with fail
                go_ret
                exact ⟨rfl, hfin⟩
end Go.Proofs.Ytifillpcphiblaa
