import Derived.Test.YtifillpcphiblaaMAwake
import Derived.Deep.QuietTactic
import Derived.Deep.DeepCutAuto
import Derived.BigQuiet
namespace Go.Proofs.Ytifillpcphiblaa
open Go Go.Proofs Go.RowKit

theorem cls24 {W Lg : Nat} {cls : List Int} (hR : RightC W Lg cls) : ∀ c ∈ cls, c ≤ 24 := fun c hc => ((HI.new hR).cls c hc).2
theorem few_parts {W Lg : Int} {cls : List Int} {n : Nat} (h : fewB W Lg cls n = true) : RightC W Lg cls ∧ W ≤ 600 ∧ n ≤ 30 := by
  unfold fewB at h
  simp only [Bool.and_eq_true, decide_eq_true_eq] at h
  exact ⟨(rightB_iff _ _ _).1 h.1.1, h.1.2, by omega⟩
theorem MkArg.fr {w w' : World} {v : Value} {ms : List Mk} (h : MkArg w v ms) (hF : Fr [] w w') : MkArg w' v ms := by
  refine ⟨?_, fun x hx => (h.2 x hx).fr hF (by simp)⟩
  rcases h.1 with h | h | ⟨b, o, cap, e, hr⟩
  · exact .inl h
  · exact .inr (.inl h)
  · exact .inr (.inr ⟨b, o, cap, e, hr.fr hF (by simp)⟩)
/-- The roots ahead of a place are marked. -/
def Marked (A : Rg) (obs : List Ob) (roots : List Int) (j : Nat) : Prop := ∀ (i : Nat) (t : Int) (o : Ob), i < j → roots[i]? = some t → (1 ≤ t ∧ t ≤ obs.length) → obs[(t - 1).toNat]? = some o → Mkd A o
theorem Marked.mono {A A' : Rg} {s s' : HS} {obs : List Ob} {roots : List Int} {j : Nat} (h : Marked A obs roots j) (k : MSt s s' A A' obs) : Marked A' obs roots j := fun i t o hi ht hc ho => k.mono o (List.mem_of_getElem? ho) (h i t o hi ht hc ho)
theorem Marked.succ {A : Rg} {obs : List Ob} {roots : List Int} {j : Nat} (h : Marked A obs roots j) (hn : ∀ (t : Int) (o : Ob), roots[j]? = some t → (1 ≤ t ∧ t ≤ obs.length) → obs[(t - 1).toNat]? = some o → Mkd A o) : Marked A obs roots (j + 1) := fun i t o hi ht hc ho => by
  by_cases e : i = j
  · subst e; exact hn t o ht hc ho
  · exact h i t o (by omega) ht hc ho
theorem Marked.all {A : Rg} {obs : List Ob} {roots : List Int} {j : Nat} (h : Marked A obs roots j) (hj : roots.length ≤ j) (hone : ∀ o ∈ obs, ∀ o' ∈ obs, o.p = o'.p → o = o') : ∀ o ∈ obs, o.p ∈ rts obs roots → Mkd A o := by
  intro o ho hp
  obtain ⟨i, t, o', ht, hc, ho', e⟩ := rts_of hp
  have := hone o ho o' (List.mem_of_getElem? ho') e.symm
  subst this
  exact h i t o (by have := (List.getElem?_eq_some_iff.1 ht).1; omega) ht hc ho'

set_option maxRecDepth 100000 in
set_option maxHeartbeats 12800000 in
theorem lawMarkOnce (W Lg a b c d : Int) (sv v rv : Value) (cls : List Int) (ms : List Mk) (roots : List Int) (w : World) (hs : SlArg w sv cls) (hms : MkArg w v ms) (hrs : SlArg w rv roots) :
    Calls Try.prog 14 #[.agg #[.int .i64 W, .int .i64 Lg, .int .i64 a, .int .i64 b, .int .i64 c, .int .i64 d, sv], v, rv] w fun e w' => e = .returned (.bool true) ∧ Fr [] w w' := by
  obtain ⟨rp, rcap, rfl⟩ := slForm hrs
  obtain ⟨N, hN⟩ : ∃ N, N = roots.length := ⟨_, rfl⟩
  have B0 := Blk.new w [.int .i64 W, .int .i64 Lg, .int .i64 a, .int .i64 b, .int .i64 c, .int .i64 d, sv] 24
  have HB0 := hid B0
  have hF0 : Fr [] w (w.alloc (.cells #[.int .i64 W, .int .i64 Lg, .int .i64 a, .int .i64 b, .int .i64 c, .int .i64 d, sv] 24)) := (Fr.refl _ w).alloc _
  have HF0 := hid hF0
  have HSL := hid hs
  have HMS := hid hms
  have HRS := hid hrs
  have HN := hid hN
  rw [← hN]
  clear B0 hF0 hs hms hrs hN
  go_enter Try.func14, Try.ntmps14
  go_wp2_with fail
  refine (lAwake _).mono ?_
  rintro e w1 ⟨rfl, hF1⟩
  have hF1' := HF0.out.trans hF1
  have hB1 := HB0.out.fr hF1 (by simp)
  have c0 := hB1.cell (i := 0) rfl
  have c1 := hB1.cell (i := 1) rfl
  have c2 := hB1.cell (i := 2) rfl
  have c3 := hB1.cell (i := 3) rfl
  have c4 := hB1.cell (i := 4) rfl
  have c5 := hB1.cell (i := 5) rfl
  have c6 := hB1.cell (i := 6) rfl
  have HF1 := hid hF1'
  have HB1 := hid hB1
  clear hF1 hF1' hB1
  go_wp2_with fail
  refine (lFew W Lg a b c d sv v cls ms w1 (HSL.out.fr HF1.out (by simp)) (HMS.out.fr HF1.out)).mono ?_
  rintro e w2 ⟨rfl, hF2⟩
  have hF2' := HF1.out.trans hF2
  have HF2 := hid hF2'
  have hB2 := HB1.out.fr hF2 (by simp)
  clear c0 c1 c2 c3 c4 c5 c6
  have c0 := hB2.cell (i := 0) rfl
  have c1 := hB2.cell (i := 1) rfl
  have c2 := hB2.cell (i := 2) rfl
  have c3 := hB2.cell (i := 3) rfl
  have c4 := hB2.cell (i := 4) rfl
  have c5 := hB2.cell (i := 5) rfl
  have c6 := hB2.cell (i := 6) rfl
  clear hB2 hF2 hF2'
  cases hfew : fewB W Lg cls ms.length with
  | false =>
    clear hfew
    go_wp2_with fail
    go_ret
    exact ⟨rfl, HF2.out⟩
  | true =>
    obtain ⟨hR, hW6, hm30⟩ := few_parts hfew
    clear hfew
    by_cases hN20 : 20 < N
    · have g1 : decide ((20 : Int) < (N : Int)) = true := by simp; omega
      go_wp2_with fail
      go_ret
      exact ⟨rfl, HF2.out⟩
    · have g1 : decide ((20 : Int) < (N : Int)) = false := by simp; omega
      obtain ⟨Wn, rfl⟩ := Int.eq_ofNat_of_zero_le (show 0 ≤ W by have := hR.w1; omega)
      obtain ⟨Ln, rfl⟩ := Int.eq_ofNat_of_zero_le (show 0 ≤ Lg from hR.l1)
      have HR := hid hR
      clear hR
      go_wp2_with fail
      refine (lBuilt Wn Ln a b c d sv v cls ms 24 w2 HR.out (HSL.out.fr HF2.out (by simp)) (HMS.out.fr HF2.out) hm30 (cls24 HR.out) (by decide)).mono ?_
      rintro e w3 ⟨L, D, atv, s, A, z, bits, m, obs, G, rfl, hJ, hrow, hF3, hlo, hdB, hpar, hle, hn32, hwd, -⟩
      obtain ⟨A0, ca, rfl⟩ := hrow.form
      obtain ⟨M, hM⟩ : ∃ M, M = obs.length := ⟨_, rfl⟩
      have hlen : (obs.map Ob.p).length = M := by rw [List.length_map, hM]
      rw [hlen] at hrow ⊢
      have hM30 : M ≤ 30 := by omega
      have HJ := hid hJ
      have HROW := hid hrow
      have HF3 := hid (HF2.out.trans hF3)
      have HLO := hid (And.intro hlo hdB)
      have HWD := hid hwd
      have HPAR := hid hpar
      have HM := hid hM
      have HLEN := hid hlen
      have HN32 := hid hn32
      have hsz : w.heap.size ≤ w3.heap.size := HF3.out.size
      have HSZ := hid HF2.out.size
      have HLL := hid hJ.low
      have hdw : D.B ≤ w3.heap.size := hJ.jh.dh.rs.le
      clear hJ hrow hF3 hlo hdB hwd hpar hM hlen hn32 hle hm30 hW6 c0 c1 c2 c3 c4 c5 c6
      go_wp2_with fail
      refine (mkNew L.hb w3).mono ?_
      rintro e w4 ⟨rfl, hMk, hF4, hsz4⟩
      have q : QS w L D w3.heap.size := ⟨fun hc => by have := HLL.out _ hc; omega, fun x hx => Nat.le_trans HSZ.out (HLO.out.1 x hx), HLL.out, hsz, Nat.le_trans HSZ.out HLO.out.2⟩
      have HQ := hid q
      have HMK := hid hMk
      have HF4 := hid hF4
      clear q hMk hF4
      go_wp2_with fail
      refine (lBegin (w := w) (ms := ms) (HJ.out.tick HF4.out) (HROW.out.fr HF4.out (by simp)) (HF3.out.trans HF4.out) HQ.out HMK.out HPAR.out HWD.out (rts obs roots)).mono ?_
      rintro e w5 ⟨rfl, -, s5, h5⟩
      obtain ⟨U0, hU0⟩ : ∃ U0, U0 = pot A.begun (MGof obs s (rts obs roots)) obs := ⟨_, rfl⟩
      have hU1 : U0 ≤ 1000 := by have := pot_le (A := A.begun) (g := MGof obs s (rts obs roots)) HN32.out; have := HM.out; omega
      rw [← hU0] at h5
      have H5 := hid h5
      clear h5 hU0
      go_wp2_with fail
      go_loopw [12] (fun i wr => ∃ (k : Nat) (s1 : HS) (A1 : Rg) (a1 : Int) (nx U : Nat), k ≤ 2 ∧ i = .int .i64 k ∧ LS w wr L D (.slice A0 M ca) w3.heap.size s1 A1 z obs (MGof obs s (rts obs roots)) a1 nx U ∧ U ≤ 1000 ∧ (1 ≤ k → U = 0 ∧ NoG A1)) (fun i _ => 2 - (intOf i).toNat)
      case atStart => exact ⟨0, s5, _, 0, 0, U0, by omega, rfl, H5.out, hU1, fun h => by omega⟩
      case round =>
        obtain ⟨k, s1, A1, a1, nx, U, hk, rfl, h1, hU, hk1⟩ := hrel
        obtain ⟨wt, rfl⟩ : ∃ wt, wt = wr := ⟨_, rfl⟩
        have H1 := hid h1
        have HK1 := hid hk1
        clear h1 hk1
        by_cases hlt : (k : Int) < 2
        · go_wp2_with fail
          go_loopw [13] (fun i wr => ∃ (j : Nat) (s2 : HS) (A2 : Rg), j ≤ N ∧ i = .int .i64 j ∧ LS w wr L D (.slice A0 M ca) w3.heap.size s2 A2 z obs (MGof obs s (rts obs roots)) a1 nx U ∧ Marked A2 obs roots j) (fun i _ => N - (intOf i).toNat)
          case atStart => exact ⟨0, s1, A1, Nat.zero_le _, rfl, H1.out, fun i t o hi => by omega⟩
          case round =>
            obtain ⟨j, s2, A2, hj, rfl, h2, hmk⟩ := hrel
            have H2 := hid h2
            have HMKD := hid hmk
            clear h2 hmk
            by_cases hjN : (j : Int) < (N : Int)
            · obtain ⟨t, ht⟩ : ∃ t, roots[j]? = some t := ⟨_, List.getElem?_eq_getElem (by have := HN.out; omega)⟩
              obtain ⟨xb, xo, exb, hrx⟩ := slRead HRS.out (by have := HN.out; omega)
              subst exb
              have qx : wr.cell? ⟨xb, xo + j, none⟩ = some (.int .i64 t) := (hrx.fr H2.out.fr0 (by simp)).2 j _ (by rw [List.getElem?_map, ht]; rfl)
              have HT := hid ht
              clear ht hrx
              go_wp2_with fail
              refine (dFits t M wr).mono ?_
              rintro e w6 ⟨rfl, rfl⟩
              by_cases hfit : 1 ≤ t ∧ t ≤ M
              · rw [decide_eq_true hfit]
                obtain ⟨tn, htn⟩ : ∃ tn : Nat, t = (tn : Int) + 1 := ⟨(t - 1).toNat, by omega⟩
                subst htn
                have htm : tn < M := by omega
                obtain ⟨ot, hot⟩ : ∃ ot, obs[tn]? = some ot := ⟨_, List.getElem?_eq_getElem (by have := HM.out; omega)⟩
                obtain ⟨g0, eg, -, -, -, -, -, hgc⟩ := H2.out.row.at (by rw [HLEN.out]; omega)
                subst eg
                have q1 : wr.cell? ⟨g0, tn, none⟩ = some (.int .i64 ot.p) := hgc tn ot.p (by rw [List.getElem?_map, hot]; rfl)
                have w0 : IntKind.i64.wrap (tn : Int) = tn := by rw [IntKind.wrap_i64]; omega
                have i1 : (0 : Int) ≤ (tn : Int) := by omega
                have i2 : (tn : Int) < (M : Int) := by omega
                have HOT := hid hot
                have hidx : ((tn : Int) + 1 - 1).toNat = tn := by omega
                have HIDX := hid hidx
                have HFIT := hid hfit
                clear hot hfit hgc hidx
                go_wp2_with fail
                refine (lShade H2.out HQ.out ot.p (.inr ⟨ot, List.mem_of_getElem? HOT.out, rfl, Rch.root _ (rts_mem HT.out (by rw [← HM.out]; exact HFIT.out) (by rw [HIDX.out]; exact HOT.out))⟩)).mono ?_
                rintro e w7 ⟨rfl, s7, A7, h7, hst7, hm7⟩
                have H7 := hid h7
                have HM7 := hid (Marked.succ (HMKD.out.mono hst7) (fun t o ht hc ho => by
                  rw [HT.out] at ht
                  cases ht
                  rw [HIDX.out, HOT.out] at ho
                  cases ho
                  exact hm7 ot (List.mem_of_getElem? HOT.out) rfl))
                clear h7 hst7 hm7 q1 qx
                go_wp2_with fail
                go_roundw
                case rel => exact ⟨j + 1, s7, A7, by omega, by go_num, H7.out, HM7.out⟩
                case measure => simp [intOf]; omega
              · rw [decide_eq_false hfit]
                have HM7 := hid (Marked.succ HMKD.out (fun t' o ht hc ho => by
                  rw [HT.out] at ht
                  cases ht
                  rw [← HM.out] at hc
                  exact absurd hc hfit))
                clear hfit
                go_wp2_with fail
                go_roundw
                case rel => exact ⟨j + 1, s2, A2, by omega, by go_num, H2.out, HM7.out⟩
                case measure => simp [intOf]; omega
            · have hjN' : roots.length ≤ j := by have := HN.out; omega
              have HJN := hid hjN'
              clear hjN'
              go_wp2_with fail
              refine (lWork H2.out HQ.out 3000 (by omega)).mono ?_
              rintro e w7 ⟨d, s7, A7, a7, nx7, rfl, hd1, hd2, h7, hst7, hfin⟩
              obtain ⟨rfl, hno⟩ := hfin (by omega)
              have hnx := h7.mw.z0 rfl
              subst hnx
              obtain ⟨-, hU7⟩ := h7.mw.i.all hno ((HMKD.out.mono hst7).all HJN.out (fun o ho o' ho' e => h7.mw.i.mh.one ho ho' e))
              rw [hU7] at h7
              have H7 := hid h7
              have HNO := hid hno
              have hd0 : k = 1 → d = 0 := fun e => by have := (HK1.out (by omega)).1; omega
              have HD0 := hid hd0
              clear h7 hst7 hfin hno hd0 hU7 hd1 hd2
              have hk01 : k = 0 ∨ k = 1 := by omega
              rcases hk01 with rfl | rfl
              · go_wp2_with fail
                refine (lDone H7.out HQ.out HNO.out).mono ?_
                rintro e w8 ⟨rfl, h8⟩
                have H8 := hid h8
                clear h8
                go_wp2_with fail
                go_roundw
                case rel => exact ⟨1, s7, A7, 0, 0, 0, by omega, by go_num, H8.out, by omega, fun _ => ⟨rfl, HNO.out⟩⟩
                case measure => simp [intOf]
              · obtain rfl := HD0.out rfl
                go_wp2_with fail
                refine (lDone H7.out HQ.out HNO.out).mono ?_
                rintro e w8 ⟨rfl, h8⟩
                have H8 := hid h8
                clear h8
                go_wp2_with fail
                go_roundw
                case rel => exact ⟨2, s7, A7, 0, 0, 0, by omega, by go_num, H8.out, by omega, fun _ => ⟨rfl, HNO.out⟩⟩
                case measure => simp [intOf]
        · have hno := (HK1.out (by omega)).2
          have HNO := hid hno
          have HLO1 := hid (fun y hy => HQ.out.lo y (fp_all hy))
          clear hno
          go_wp2_with fail
          refine (hEndRows L s1 A1 z wt H1.out.mw.hr H1.out.mw.i.mh.hi).mono ?_
          rintro e w7 ⟨hF7, ⟨hn, _⟩ | ⟨_, rfl, s7, h7, hi7, e1, e2, e3, e4, e5, e6, e7⟩⟩
          · exact absurd HNO.out hn
          have hF7' : Fr [] w w7 := H1.out.fr0.step hF7 (fun y hy => .inr (HLO1.out y hy))
          have hp7 : s7.parity = 0 ∨ s7.parity = 1 := by rw [e7]; exact H1.out.mw.i.mh.par
          have HF7 := hid hF7'
          have HP7 := hid hp7
          clear e1 e2 e3 e4 e5 e6 e7 hF7 hF7' hp7
          go_wp2_with fail
          refine (hBeginRows L s7 A1.ended z w7 h7 hi7 (by have := HP7.out; omega) (by have := HP7.out; omega)).mono ?_
          rintro e w8 ⟨hF8, ⟨hn, _⟩ | ⟨_, rfl, _⟩⟩
          · exact absurd (fun q => ⟨rfl, rfl⟩) hn
          have hF8' : Fr [] w w8 := HF7.out.step hF8 (fun y hy => .inr (HLO1.out y hy))
          clear hF8
          go_wp2_with fail
          go_ret
          exact ⟨rfl, hF8'⟩
end Go.Proofs.Ytifillpcphiblaa
