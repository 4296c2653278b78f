import Derived.StillTailTactics
import Derived.Test.YtifillpcphiblaaGreatMPPlays
import Derived.Test.YtifillpcphiblaaGreatDGive
import Derived.Test.YtifillpcphiblaaGreatMDoDoc
import Derived.Test.YtifillpcphiblaaGreatDoLaw
import Derived.Deep.RegionHeld3
import Derived.Test.YtifillpcphiblaaGreatMHList3
import Derived.Test.YtifillpcphiblaaGreatMPRuns2
namespace Go.Proofs.YtifillpcphiblaaGreat
open Go Go.Proofs Go.RowKit

/-! The document's heap: Done, End, Sweep. -/

set_option maxRecDepth 100000 in
set_option maxHeartbeats 6400000 in
/-- Done. -/
theorem dDone (D : DL) (W Lg : Int) (cls : List Int) (Rs : List Rows) (bits : List Bool) (top par : Int) (m : List (Int × Value)) (p k a mk : Int) (n g0 j : Nat) (R : Rows) (g : List Int) (c : Int) (w : World) (h : DH w D W Lg cls Rs bits top par m) (hg : mget m p = some (obV k n a mk g0 n)) (hcl : cls.length ≤ 100) (hj : clsIx cls n = j) (hR : Rs[j]? = some R) (hG : R.G = g ++ [c]) (hl : R.G.length ≤ 65536) (hl2 : R.B.length ≤ 65536) (hb : ∀ b o c n, D.sv = .slice (some ⟨b, o, none⟩) n c → b < D.B) :
    Calls Tryz.prog 36 #[.pointer (some ⟨D.mb, 0, none⟩), .int .i64 p] w fun e w' => e = .returned (.int .i64 0) ∧ DH w' D W Lg cls (Rs.set j { R with G := g, B := c :: R.B }) bits top par m ∧ FrH D.B D.mp w w' := by
  have q7 := h.reads.2.2.2.1
  have q8 := h.reads.2.2.2.2.1
  have hlk := run_lookup_im (P := Tryz.prog) (h.im.drew) Tryz.underlying58 Tryz.underlying3 (obZero w.drew) p false
  rw [hg] at hlk
  simp only [Option.getD_some, obV, if_neg (show ¬ false = true by decide)] at hlk
  have hfa := fun (w : World) => show (Instr.field 95 (.agg #[.int .i64 k, .int .i64 n, .int .i64 a, .int .i64 mk, .slice (some ⟨g0, 0, none⟩) n n]) 0).run Tryz.prog w = .ok (.agg #[.int .i64 k, .int .i64 n, .int .i64 a, .int .i64 mk]) w by kernel_rfl
  have hfb := fun (w : World) => show (Instr.field 92 (.agg #[.int .i64 k, .int .i64 n, .int .i64 a, .int .i64 mk]) 1).run Tryz.prog w = .ok (.int .i64 n) w by kernel_rfl
  have hfc := fun (w : World) => show (Instr.field 136 (.agg #[.int .i64 0, .bool false, .int .i64 0]) 2).run Tryz.prog w = .ok (.int .i64 0) w by kernel_rfl
  obtain ⟨N, hN⟩ : ∃ N, N = cls.length := ⟨_, rfl⟩
  have hjl : j < N + 1 := by have := (List.getElem?_eq_some_iff.1 hR).1; rw [h.len] at this; omega
  rw [← hN] at q8
  have hi1 : (0 : Int) ≤ (j : Int) := by omega
  have hi2 : (j : Int) < (N : Int) + 1 := by omega
  have HH := hid h
  have hp := mClass' D.mb cls n w.drew (h.step ((Fr.refl [] w).drew)).mcls hcl
  rw [hj] at hp
  have hd := h.step ((Fr.refl [] w).drew)
  have hdo := dDoGrey D.B D.rsb W Rs _ (j * 5) 4 0 0 0 false (.inr (.inr rfl)) w.drew hd.rs (fun w1 hD1 => dGreyDone D.B D.rsb W Rs j (j * 5) (Nat.mul_comm j 5) R 0 g c w1 hD1 hR hG hl hl2)
  unfold told5 at hdo
  have HP := hid hp
  have HDO := hid hdo
  have HD := hid hd
  have HSV := hid hb
  clear h hg hj hR hG hb hp hdo hd hN
  go_enter Tryz.func36, Tryz.ntmps36
  go_upto_region 1 with fail
  go_cut [4] (fun rv wx => rv = .int .i64 0 ∧ DH wx D W Lg cls (Rs.set j { R with G := g, B := c :: R.B }) bits top par m ∧ FrH D.B D.mp w wx)
  case first =>
    go_region_with (first
      | (go_at_call 67; (with_reducible refine HP.out.mono ?_); rintro e w1 ⟨rfl, rfl⟩)
      | (go_at_call 68; (with_reducible refine HDO.out.mono ?_); rintro e w1 ⟨rfl, hD1, hF1⟩))
    all_goals
      go_wp2_with fail
      go_meet
      case rel => exact ⟨rfl, HD.out.ringF hF1.1 HSV.out hD1 (by simp), (FrH.of ((Fr.refl [] w).drew)).trans (FrH.rsb HD.out hF1.1)⟩
  case rest =>
    obtain ⟨rfl, hD, hF⟩ := hcut
    go_wp2_with fail
    go_ret
    exact ⟨rfl, hD, hF⟩

set_option maxRecDepth 100000 in
set_option maxHeartbeats 6400000 in
theorem dEndNo (D : DL) (W Lg : Int) (cls : List Int) (Rs : List Rows) (bits : List Bool) (top par : Int) (m : List (Int × Value)) (w : World) (h : DH w D W Lg cls Rs bits top par m) (hcl : cls.length ≤ 100) (hno : ¬ ∀ R ∈ Rs, R.G = []) :
    Calls Tryz.prog 38 #[.pointer (some ⟨D.mb, 0, none⟩)] w fun e w' => e = .returned (.int .i64 18) ∧ Fr [] w w' := by
  have HH := hid h
  have HNO := hid hno
  have hlen := h.len
  obtain ⟨N, hN⟩ : ∃ N, N = cls.length := ⟨_, rfl⟩
  have HN := hid hN
  rw [← hN] at hcl
  have HLEN := hid hlen
  clear h hno hN hlen
  go_enter Tryz.func38, Tryz.ntmps38
  go_wp2_with fail
  go_loop [3] (fun iv => ∃ k : Nat, k ≤ N + 1 ∧ iv = .int .i64 k ∧ Hid (∀ (i : Nat) (R' : Rows), i < k → Rs[i]? = some R' → R'.G = [])) (fun iv => N + 1 - (intOf iv).toNat)
  case atStart => exact ⟨0, Nat.zero_le _, rfl, fun i R' hi => by omega⟩
  case round =>
    obtain ⟨k, hk, rfl, hbef⟩ := hrel
    have q8 := HH.out.reads.2.2.2.2.1
    rw [← HN.out] at q8
    have HB := hid hbef
    clear hbef
    by_cases hlt : (k : Int) < (N : Int) + 1
    · obtain ⟨R, hR⟩ : ∃ R, Rs[k]? = some R := ⟨_, List.getElem?_eq_getElem (by have := HLEN.out; have := HN.out; omega)⟩
      have i1 : (0 : Int) ≤ (k : Int) := by omega
      obtain ⟨⟨v0, v1, v2, v3⟩, hd, hc, hz, hlt', -⟩ := HH.out.rs.at hR
      have r2 : w.cell? ⟨D.rsb, k * 5 + 2, none⟩ = some v2 := by have := hc 2 v2 rfl; rw [Nat.mul_comm]; simpa using this
      obtain ⟨A2, c2, e2⟩ := hd.gr.form
      simp only at e2
      rw [e2] at r2
      have HR := hid hR
      obtain ⟨M, hM⟩ : ∃ M, M = R.G.length := ⟨_, rfl⟩
      rw [← hM] at r2
      have HM := hid hM
      clear hd hc hz e2 hR hM
      by_cases h0 : (0 : Int) < (M : Int)
      · go_wp2_with fail
        go_ret
        exact ⟨rfl, Fr.refl _ _⟩
      · have HZ := hid (show R.G.length = 0 by have := HM.out; omega)
        go_wp2_with fail
        go_round
        case rel =>
          refine ⟨k + 1, by omega, by go_num, fun i R' hi hR' => ?_⟩
          by_cases e : i = k
          · subst e
            rw [HR.out] at hR'
            cases hR'
            exact List.length_eq_zero_iff.1 HZ.out
          · exact HB.out i R' (by omega) hR'
        case measure => simp [intOf]; omega
    · exfalso
      refine HNO.out (fun R hR => ?_)
      obtain ⟨i, hi⟩ := List.mem_iff_getElem?.1 hR
      have := (List.getElem?_eq_some_iff.1 hi).1
      exact HB.out i R (by have := HLEN.out; have := HN.out; omega) hi

/-- A row's block is no map. -/
theorem rowiNm {w : World} {B mp : Nat} {v : Value} {l : List Int} {m : List (Int × Value)} (h : Rowi w B v l) (hm : IM w mp m) : ∀ g, v.ownBlock = some g → g ≠ mp := by
  rintro g hg rfl
  obtain ⟨es, ck, h3, _⟩ := hm
  rcases h.2 with h0 | ⟨g', cap, cur, e1, e2, e3, e4⟩
  · rw [h0.1] at hg; simp [Value.ownBlock] at hg
  · rw [e1] at hg
    simp [Value.ownBlock] at hg
    subst hg
    rw [h3] at e3
    cases e3
/-- What the first k classes' From cells are. -/
def fromTo (Rs : List Rows) (k : Nat) : List Int := ((Rs.take k).map (·.F)).flatten
theorem fromTo_succ {Rs : List Rows} {k : Nat} {R : Rows} (h : Rs[k]? = some R) : fromTo Rs (k + 1) = fromTo Rs k ++ R.F := by
  unfold fromTo
  rw [List.take_add_one, h]
  simp

set_option maxRecDepth 100000 in
set_option maxHeartbeats 6400000 in
theorem dEnd (D : DL) (W Lg : Int) (cls : List Int) (Rs : List Rows) (bits : List Bool) (top par : Int) (m : List (Int × Value)) (w : World) (h : DH w D W Lg cls Rs bits top par m) (hb : ∀ b o c n, D.sv = .slice (some ⟨b, o, none⟩) n c → b < D.B) (hcl : cls.length ≤ 100) (hno : ∀ R ∈ Rs, R.G = []) (hsm : ∀ R ∈ Rs, R.W.length ≤ 65536 ∧ R.F.length ≤ 65536) :
    Calls Tryz.prog 38 #[.pointer (some ⟨D.mb, 0, none⟩)] w fun e w' => e = .returned (.int .i64 0) ∧ DH w' D W Lg cls (Rs.map Rows.edd) bits top par (mdels m (fromTo Rs cls.length)) ∧ FrH D.B D.mp w w' := by
  have HH := hid h
  have HSV := hid hb
  have HNO := hid hno
  have HSM := hid hsm
  have hlen := h.len
  obtain ⟨N, hN⟩ : ∃ N, N = cls.length := ⟨_, rfl⟩
  have HN := hid hN
  rw [← hN] at hcl
  have HLEN := hid hlen
  clear h hb hno hsm hN hlen
  go_enter Tryz.func38, Tryz.ntmps38
  go_wp2_with fail
  go_loop [3] (fun iv => ∃ k : Nat, k ≤ N + 1 ∧ iv = .int .i64 k) (fun iv => N + 1 - (intOf iv).toNat)
  case atStart => exact ⟨0, Nat.zero_le _, rfl⟩
  case round =>
    obtain ⟨k, hk, rfl⟩ := hrel
    have q8 := HH.out.reads.2.2.2.2.1
    rw [← HN.out] at q8
    by_cases hlt : (k : Int) < (N : Int) + 1
    · obtain ⟨R, hR⟩ : ∃ R, Rs[k]? = some R := ⟨_, List.getElem?_eq_getElem (by have := HLEN.out; have := HN.out; omega)⟩
      have i1 : (0 : Int) ≤ (k : Int) := by omega
      obtain ⟨⟨v0, v1, v2, v3⟩, hd, hc, hz, hlt', -⟩ := HH.out.rs.at hR
      have r2 : w.cell? ⟨D.rsb, k * 5 + 2, none⟩ = some v2 := by have := hc 2 v2 rfl; rw [Nat.mul_comm]; simpa using this
      obtain ⟨A2, c2, e2⟩ := hd.gr.form
      have n2 := HNO.out R (List.mem_of_getElem? hR)
      simp only at e2
      rw [e2, n2, List.length_nil] at r2
      clear hd hc hz e2 hR n2
      go_wp2_with fail
      go_round
      case rel => exact ⟨k + 1, by omega, by go_num⟩
      case measure => simp [intOf]; omega
    · go_wp2_with fail
      go_loopw [4] (fun iv wr => ∃ k : Nat, k ≤ N + 1 ∧ iv = .int .i64 k ∧ DH wr D W Lg cls (stepTo Rows.edd Rs k) bits top par (mdels m (fromTo Rs (min k N))) ∧ FrH D.B D.mp w wr) (fun iv _ => N + 1 - (intOf iv).toNat)
      case atStart => exact ⟨0, Nat.zero_le _, rfl, by rw [stepTo_zero, Nat.zero_min]; exact HH.out, FrH.of (Fr.refl _ _)⟩
      case round =>
        obtain ⟨k, hk, rfl, hD, hF⟩ := hrel
        have q8 := hD.reads.2.2.2.2.1
        rw [← HN.out] at q8
        have HDR := hid hD
        have HFR := hid hF
        clear hD hF
        by_cases hlt : (k : Int) < (N : Int) + 1
        · obtain ⟨R, hR⟩ : ∃ R, Rs[k]? = some R := ⟨_, List.getElem?_eq_getElem (by have := HLEN.out; have := HN.out; omega)⟩
          have i1 : (0 : Int) ≤ (k : Int) := by omega
          have n2 := HNO.out R (List.mem_of_getElem? hR)
          have hs := HSM.out R (List.mem_of_getElem? hR)
          obtain ⟨⟨v0, v1, v2, v3⟩, hd, hc, hz, hlt', -⟩ := HDR.out.rs.at (stepTo_get Rows.edd hR)
          have r1 : wr.cell? ⟨D.rsb, k * 5 + 1, none⟩ = some v1 := by have := hc 1 v1 rfl; rw [Nat.mul_comm]; simpa using this
          obtain ⟨A1, c1, e1⟩ := hd.fr0.form
          simp only at e1
          have hf0 := hd.fr0
          simp only [e1] at hf0
          rw [e1] at r1
          obtain ⟨M, hM⟩ : ∃ M, M = R.F.length := ⟨_, rfl⟩
          rw [← hM] at r1 hs
          have HF0 := hid hf0
          have HM := hid hM
          have HR := hid hR
          have HN2 := hid n2
          have hw1 : IntKind.i64.wrap ((N : Int) + 1 - 1) = (N : Int) := by rw [IntKind.wrap_i64]; omega
          have hw2 : IntKind.i64.wrap (N : Int) = (N : Int) := by rw [IntKind.wrap_i64]; omega
          obtain ⟨wk, hwk⟩ : ∃ wk, wk = wr := ⟨_, rfl⟩
          rw [← hwk] at HDR HFR HF0 q8 r1 ⊢
          clear hd hc hz e1 hf0 hM hR n2 hwk
          go_wp2_with fail
          go_loopw [6] (fun iv wr => ∃ q : Nat, q ≤ M ∧ iv = .int .i64 q ∧ DH wr D W Lg cls (stepTo Rows.edd Rs k) bits top par (mdels m (fromTo Rs (min k N) ++ if k < N then R.F.take q else [])) ∧ Fr [D.mp] wk wr) (fun iv _ => M - (intOf iv).toNat)
          case atStart => exact ⟨0, Nat.zero_le _, rfl, by simpa using HDR.out, Fr.refl _ _⟩
          case round =>
            obtain ⟨q, hq, rfl, hD, hF⟩ := hrel
            have q7 := hD.reads.2.2.2.1
            have q8 := hD.reads.2.2.2.2.1
            rw [← HN.out] at q8
            have HDQ := hid hD
            have HFQ := hid hF
            have hnmp : ∀ g, (Value.slice A1 M c1).ownBlock = some g → g ∉ [D.mp] := fun g hg hc => rowiNm (show Rowi wk D.B (.slice A1 M c1) R.F by rw [HM.out]; exact HF0.out) HDR.out.im g hg (List.mem_singleton.1 hc)
            have hfq := (show Rowi wk D.B (.slice A1 M c1) R.F by rw [HM.out]; exact HF0.out).fr hF hnmp
            have HFQ0 := hid hfq
            clear hD hF hfq hnmp
            by_cases hqM : (q : Int) < (M : Int)
            · obtain ⟨y, hy⟩ : ∃ y, R.F[q]? = some y := ⟨_, List.getElem?_eq_getElem (by have := HM.out; omega)⟩
              have hfq2 := HFQ0.out
              rw [HM.out] at hfq2
              obtain ⟨gb, rfl, -, -, -, -, -, hcell⟩ := hfq2.at (by have := HM.out; omega)
              have hcy := hcell q y hy
              have j1 : (0 : Int) ≤ (q : Int) := by omega
              have HY := hid hy
              clear hcell hfq2 hy
              by_cases hkN : (k : Int) < (N : Int)
              · have hkN' : k < N := by omega
                have hnx : mdels m (fromTo Rs (min k N) ++ if k < N then R.F.take (q + 1) else []) = mdel (mdels m (fromTo Rs (min k N) ++ if k < N then R.F.take q else [])) y := by
                  rw [if_pos hkN', if_pos hkN', List.take_add_one, HY.out]
                  simp only [Option.toList_some]
                  rw [← List.append_assoc, mdels_snoc]
                obtain ⟨mm, hmm⟩ : ∃ mm, mm = mdels m (fromTo Rs (min k N) ++ if k < N then R.F.take q else []) := ⟨_, rfl⟩
                have hdq := HDQ.out
                rw [← hmm] at hnx hdq
                have hI := hdq.im.drew
                have HNX := hid hnx
                have HI := hid hI
                have HDD := hid (hdq.step ((Fr.refl [] wr).drew))
                clear hnx hmm hI hdq hkN'
                go_upto_region 14 with fail
                refine wp_region_still_tail 8 (by kernel_rfl) (by kernel_rfl) ?_
                simp only [List.take_succ_cons, List.take_zero, List.drop_succ_cons, List.drop_zero]
                change wpStill _ _ (wr.drew) (fun a' => wpList _ _ _ _ a' (wr.drew)) _ _
                repeat still_step
                refine wpStill_nil ?_
                refine wpList_delete_im wr.drew rfl (.tmp 62) (.tmp 66) _ _ rfl _ Tryz.underlying58 Tryz.underlying3 D.mp mm rfl HI.out y rfl ?_
                intro w4 hI4 hF4
                have HI4 := hid hI4
                have HF4 := hid hF4
                clear hI4 hF4
                go_wp2_with fail
                go_roundw
                case rel => exact ⟨q + 1, by omega, by go_num, by rw [HNX.out]; exact HDD.out.map HF4.out HSV.out HI4.out, (HFQ.out.drew).trans HF4.out⟩
                case measure => simp [intOf]; omega
              · have hkN' : ¬ k < N := by omega
                have hsame : mdels m (fromTo Rs (min k N) ++ if k < N then R.F.take (q + 1) else []) = mdels m (fromTo Rs (min k N) ++ if k < N then R.F.take q else []) := by rw [if_neg hkN', if_neg hkN']
                have HS := hid hsame
                clear hsame hkN'
                go_wp2_with fail
                go_roundw
                case rel => exact ⟨q + 1, by omega, by go_num, by rw [HS.out]; exact HDQ.out, HFQ.out⟩
                case measure => simp [intOf]; omega
            · obtain rfl : q = M := by omega
              have hnx : mdels m (fromTo Rs (min k N) ++ if k < N then R.F.take q else []) = mdels m (fromTo Rs (min (k + 1) N)) := by
                by_cases hkN : k < N
                · rw [if_pos hkN, HM.out, List.take_length, Nat.min_eq_left (by omega), Nat.min_eq_left (by omega), fromTo_succ HR.out]
                · rw [if_neg hkN, Nat.min_eq_right (by omega), Nat.min_eq_right (by omega), List.append_nil]
              have hdq := HDQ.out
              rw [hnx] at hdq
              have hp := dDoEnd D.B D.rsb W (stepTo Rows.edd Rs k) k (k * 5) (Nat.mul_comm k 5) R 0 wr hdq.rs (stepTo_get _ HR.out) HN2.out (HSM.out R (List.mem_of_getElem? HR.out)).1 (HSM.out R (List.mem_of_getElem? HR.out)).2
              have hst : (stepTo Rows.edd Rs k).set k { R with W := R.W ++ R.F, F := [] } = stepTo Rows.edd Rs (k + 1) := by
                have e : ({ R with W := R.W ++ R.F, F := [] } : Rows) = Rows.edd R := by unfold Rows.edd; rw [HN2.out]
                rw [e, stepTo_set Rows.edd HR.out]
              rw [hst] at hp
              have HP := hid hp
              have HDD := hid hdq
              clear hp hst hdq hnx q7
              go_wp2_with fail
              refine HP.out.mono ?_
              rintro e w2 ⟨rfl, hD2, hF2⟩
              have h2 := HDD.out.ringF hF2 HSV.out hD2 (by rw [stepTo_len, stepTo_len])
              have H2 := hid h2
              have HF2 := hid ((HFR.out.trans (FrD.map (rsb := D.rsb) HDR.out.lo.2.2 HDR.out.apart.2.2.1 HFQ.out).h).trans (FrH.rsb HDD.out hF2))
              clear hD2 hF2 h2 q8
              unfold told5
              go_wp2_with fail
              go_roundw
              case rel => exact ⟨k + 1, by omega, by go_num, H2.out, HF2.out⟩
              case measure => simp [intOf]; omega
        · obtain rfl : k = N + 1 := by omega
          go_wp2_with fail
          go_ret
          have hall : stepTo Rows.edd Rs (N + 1) = Rs.map Rows.edd := by
            have := HLEN.out
            rw [← HN.out] at this
            rw [← this, stepTo_all]
          have h3 := HDR.out
          rw [hall, Nat.min_eq_right (by omega), HN.out] at h3
          exact ⟨rfl, h3, HFR.out⟩

set_option maxRecDepth 100000 in
set_option maxHeartbeats 6400000 in
theorem dSweepNo (D : DL) (W Lg : Int) (cls : List Int) (Rs : List Rows) (bits : List Bool) (top par : Int) (m : List (Int × Value)) (R : Rows) (w : World) (h : DH w D W Lg cls Rs bits top par m) (hb : ∀ b o c n, D.sv = .slice (some ⟨b, o, none⟩) n c → b < D.B) (hcl : cls.length ≤ 100) (hR : Rs[cls.length]? = some R) (hW : R.W = []) :
    Calls Tryz.prog 39 #[.pointer (some ⟨D.mb, 0, none⟩)] w fun e w' => e = .returned (.bool false) ∧ DH w' D W Lg cls Rs bits top par m ∧ FrH D.B D.mp w w' := by
  have q8 := h.reads.2.2.2.2.1
  have HH := hid h
  have HSV := hid hb
  obtain ⟨N, hN⟩ : ∃ N, N = cls.length := ⟨_, rfl⟩
  rw [← hN] at q8 hcl hR
  have hw1 : IntKind.i64.wrap ((N : Int) + 1 - 1) = (N : Int) := by rw [IntKind.wrap_i64]; omega
  have hw2 : IntKind.i64.wrap (N : Int) = (N : Int) := by rw [IntKind.wrap_i64]; omega
  have i1 : (0 : Int) ≤ (N : Int) := by omega
  have i2 : (N : Int) < (N : Int) + 1 := by omega
  have hp := fun (wx : World) (hx : DRs wx D.B D.rsb W Rs) => dDoDropNo D.B D.rsb W Rs N (N * 5) (Nat.mul_comm N 5) R 0 wx hx hR hW
  have HP := hid hp
  clear h hb hN hR hW hp
  go_enter Tryz.func39, Tryz.ntmps39
  go_wp2_with fail
  go_quiet (fail)
  obtain ⟨wa, hwa⟩ : ∃ wa, wa = w.drewN nq := ⟨_, rfl⟩
  have hFa : Fr [] w wa := by rw [hwa]; exact (Fr.refl [] w).drewN nq
  rw [← hwa]
  have ha := HH.out.step hFa
  have HA := hid ha
  have HFA := hid hFa
  clear hwa hFa ha
  go_wp2_with fail
  refine (HP.out wa HA.out.rs).mono ?_
  rintro e w2 ⟨rfl, hD2, hF2⟩
  have h2 := HA.out.ringF hF2 HSV.out hD2 rfl
  have H2 := hid h2
  have HF2 := hid ((FrH.of HFA.out).trans (FrH.rsb HA.out hF2))
  clear hD2 hF2 h2 q8
  unfold told5
  go_wp2_with fail
  go_ret
  exact ⟨rfl, H2.out.step ((Fr.refl _ w2).alloc _), HF2.out.trans (FrH.of ((Fr.refl _ w2).alloc _))⟩

set_option maxRecDepth 100000 in
set_option maxHeartbeats 6400000 in
theorem dSweep (D : DL) (W Lg : Int) (cls : List Int) (Rs : List Rows) (bits : List Bool) (top par : Int) (m : List (Int × Value)) (R : Rows) (c : Int) (Wt : List Int) (k a mk : Int) (n g kk : Nat) (w : World) (h : DH w D W Lg cls Rs bits top par m) (hb : ∀ b o c n, D.sv = .slice (some ⟨b, o, none⟩) n c → b < D.B) (hcl : cls.length ≤ 100) (hR : Rs[cls.length]? = some R) (hW : R.W = c :: Wt) (hl : R.W.length ≤ 65536) (hg : mget m c = some (obV k n a mk g n)) (hn : n ≤ 100)
    (hc : c = W - Lg + kk) (hkk : kk + (n + 3) ≤ bits.length) (hfree : ∀ j, j < n + 3 → bitAt bits (kk + j) = false) (hf0 : 0 ≤ W - Lg) (hf : W - Lg + bits.length ≤ 65536) :
    Calls Tryz.prog 39 #[.pointer (some ⟨D.mb, 0, none⟩)] w fun e w' => e = .returned (.bool true) ∧ DH w' D W Lg cls (Rs.set cls.length { R with W := Wt }) (setT bits kk (n + 3)) top par (mdel m c) ∧ FrH D.B D.mp w w' := by
  have q8 := h.reads.2.2.2.2.1
  have HH := hid h
  have HSV := hid hb
  obtain ⟨N, hN⟩ : ∃ N, N = cls.length := ⟨_, rfl⟩
  rw [← hN] at q8 hcl hR ⊢
  have hw1 : IntKind.i64.wrap ((N : Int) + 1 - 1) = (N : Int) := by rw [IntKind.wrap_i64]; omega
  have hw2 : IntKind.i64.wrap (N : Int) = (N : Int) := by rw [IntKind.wrap_i64]; omega
  have hw3 : IntKind.i64.wrap ((n : Int) + 3) = (n : Int) + 3 := by rw [IntKind.wrap_i64]; omega
  have i1 : (0 : Int) ≤ (N : Int) := by omega
  have i2 : (N : Int) < (N : Int) + 1 := by omega
  have hp := fun (wx : World) (hx : DRs wx D.B D.rsb W Rs) => dDoDrop D.B D.rsb W Rs N (N * 5) (Nat.mul_comm N 5) R 0 c Wt wx hx hR hW hl
  have hgv := fun (wx : World) (hx : FRep wx D.fb D.B (W - Lg) bits) => dGive D.fb D.B (W - Lg) bits c ((n : Int) + 3) kk (n + 3) (by omega) (by omega) hc hkk hfree wx hx hf0 hf
  have hfa := fun (w : World) => show (Instr.field 95 (.agg #[.int .i64 k, .int .i64 n, .int .i64 a, .int .i64 mk, .slice (some ⟨g, 0, none⟩) n n]) 0).run Tryz.prog w = .ok (.agg #[.int .i64 k, .int .i64 n, .int .i64 a, .int .i64 mk]) w by kernel_rfl
  have hfb := fun (w : World) => show (Instr.field 92 (.agg #[.int .i64 k, .int .i64 n, .int .i64 a, .int .i64 mk]) 1).run Tryz.prog w = .ok (.int .i64 n) w by kernel_rfl
  have HP := hid hp
  have HGV := hid hgv
  have HGM := hid hg
  clear h hb hN hR hW hp hgv hc hkk hfree hf0 hf hl hg
  go_enter Tryz.func39, Tryz.ntmps39
  go_wp2_with fail
  go_quiet (fail)
  obtain ⟨wa, hwa⟩ : ∃ wa, wa = w.drewN nq := ⟨_, rfl⟩
  have hFa : Fr [] w wa := by rw [hwa]; exact (Fr.refl [] w).drewN nq
  rw [← hwa]
  have ha := HH.out.step hFa
  have HA := hid ha
  have HFA := hid hFa
  clear hwa hFa ha
  go_wp2_with fail
  refine (HP.out wa HA.out.rs).mono ?_
  rintro e w1 ⟨rfl, hD2, hF2⟩
  have h1 := HA.out.ringF hF2 HSV.out hD2 (by simp)
  have T := Blk.new w1 [.int .i64 c, .bool false, .int .i64 0] 136
  have h2 := h1.step ((Fr.refl _ w1).alloc (.cells #[.int .i64 c, .bool false, .int .i64 0] 136))
  have hF2' := ((FrH.of HFA.out).trans (FrH.rsb HA.out hF2)).trans (FrH.of ((Fr.refl _ w1).alloc (.cells #[.int .i64 c, .bool false, .int .i64 0] 136)))
  have hb1 : D.B ≤ w1.heap.size := h1.rs.le
  obtain ⟨tb, htb⟩ : ∃ tb, tb = w1.heap.size := ⟨_, rfl⟩
  obtain ⟨w2, hw2e⟩ : ∃ w2, w2 = w1.alloc (.cells #[.int .i64 c, .bool false, .int .i64 0] 136) := ⟨_, rfl⟩
  have HW2 := hid hw2e
  have HTB := hid htb
  rw [← hw2e] at T h2 hF2'
  rw [← htb] at T
  have H2 := hid h2
  have HT := hid T
  have HF2 := hid hF2'
  clear hD2 hF2 h1 h2 hF2' q8 hw2e htb
  unfold told5
  go_upto_region 3 with fail
  rw [← HW2.out, ← HTB.out]
  have t0 := T.cell (i := 0) rfl
  have t2 := T.cell (i := 2) rfl
  obtain ⟨-, -, -, q7, -, q9, -, -⟩ := H2.out.reads
  have hlk := run_lookup_im (P := Tryz.prog) (H2.out.im.drew) Tryz.underlying58 Tryz.underlying3 (obZero w2.drew) c false
  rw [HGM.out] at hlk
  simp only [Option.getD_some, obV, if_neg (show ¬ false = true by decide)] at hlk
  clear T
  go_upto_region 5 with fail
  refine wp_region_still_tail 17 (by kernel_rfl) (by kernel_rfl) ?_
  simp only [List.take_succ_cons, List.take_zero, List.drop_succ_cons, List.drop_zero]
  change wpStill _ _ (w2.drew) (fun a' => wpList _ _ _ _ a' (w2.drew)) _ _
  repeat still_step
  refine wpStill_nil ?_
  go_wp2_with fail
  have h2d := H2.out.step ((Fr.refl [] w2).drew)
  refine (HGV.out _ h2d.rm).mono ?_
  rintro e w3 ⟨rfl, hR3, hF3⟩
  have h3 := h2d.room hF3 HSV.out hR3
  have hFg3 : FrH D.B D.mp w w3 := (HF2.out.trans (FrH.of ((Fr.refl [] w2).drew))).trans (FrD.boolD h2d hF3).h
  have hT3 := (FrH.blk (B := D.B) (mp := D.mp) (FrD.boolD h2d hF3).h (HT.out.drew) ⟨by decide, by decide, by decide⟩ (fun e => nomap h2d.im HT.out.drew e))
  have H3 := hid h3
  have HF3 := hid hFg3
  have HT3 := hid hT3
  clear h2d hR3 hF3 h3 hFg3 hT3 t0 t2 q7 q9 hlk
  have q7 := H3.out.reads.2.2.2.1
  have t0 := HT3.out.cell (i := 0) rfl
  have HI := hid H3.out.im.drew
  unfold told3
  go_upto_region 6 with fail
  refine wp_region_still_tail 6 (by kernel_rfl) (by kernel_rfl) ?_
  simp only [List.take_succ_cons, List.take_zero, List.drop_succ_cons, List.drop_zero]
  change wpStill _ _ (w3.drew) (fun a' => wpList _ _ _ _ a' (w3.drew)) _ _
  repeat still_step
  refine wpStill_nil ?_
  refine wpList_delete_im w3.drew rfl (.tmp 43) (.tmp 45) _ _ rfl _ Tryz.underlying58 Tryz.underlying3 D.mp m rfl HI.out c rfl ?_
  intro w4 hI4 hF4
  have h4 := (H3.out.step ((Fr.refl [] w3).drew)).map hF4 HSV.out hI4
  have H4 := hid h4
  have HF4 := hid ((HF3.out.trans (FrH.of ((Fr.refl [] w3).drew))).trans (FrD.map (rsb := D.rsb) H3.out.lo.2.2 H3.out.apart.2.2.1 hF4).h)
  clear hI4 hF4 h4
  go_wp2_with fail
  go_ret
  exact ⟨rfl, H4.out, HF4.out⟩

end Go.Proofs.YtifillpcphiblaaGreat

namespace Go.Proofs.YtifillpcphiblaaGreat
open Go Go.Proofs Go.RowKit

/-! law06.HeapPlays: both heaps, call by call: frames; what a call names. -/

theorem FRep.frB {S : List Nat} {w w' : World} {fb B : Nat} {first : Int} {l : List Bool} (h : FRep w fb B first l) (hf : Fr S w w') (hS : ∀ x ∈ S, ∃ cs, Blk w x cs 38) : FRep w' fb B first l :=
  h.fr' hf (fun x hx => by obtain ⟨cs, h1⟩ := hS x hx; exact ⟨cs, _, h1, by decide, by decide⟩)
theorem DG.frB {w0 w w2 w' : World} {D : DL} {W Lg : Int} {cls : List Int} {Rs : List Rows} {bits : List Bool} {top par : Int} {m : List (Int × Value)} {obs : List Ob} {G : Int → Nat} {wd : Ob → Nat → Int} (h : DG w0 w2 D W Lg cls Rs bits top par m obs G wd) (hf : FrB w w2 w') (h0 : w0.heap.size ≤ w.heap.size) : DG w0 w' D W Lg cls Rs bits top par m obs G wd := by
  obtain ⟨S, hF, hS⟩ := hf
  have hf0 : Fr [] w0 w' := h.f0.step hF (fun b hb => .inr (Nat.le_trans h0 (hS b hb).1))
  have hS2 : ∀ x ∈ S, ∃ cs, Blk w2 x cs 38 := fun x hx => (hS x hx).2
  obtain ⟨cs2, h2⟩ := h.dh.rblk
  have key : ∀ {b : Nat} {cs : List Value} {T : TypeId}, Blk w2 b cs T → T ≠ 38 → b ∉ S := fun hb hT hc => by
    obtain ⟨cs', h3⟩ := hS2 _ hc
    exact blk_ne' hb h3 hT rfl
  refine ⟨hf0, h.q, { s := h.dh.s.fr hF (key h.dh.s (by decide)), cl := h.q.cl.fr hf0 (by simp), rs := h.dh.rs.fr hF (key h2 (by decide)) (fun x hx => by obtain ⟨cs, h3⟩ := hS2 x hx; exact .inr ⟨cs, _, h3, by decide⟩), len := h.dh.len, rm := h.dh.rm.frB hF hS2, im := h.dh.im.fr hF (fun hc => by obtain ⟨cs, h3⟩ := hS2 _ hc; exact nomap h.dh.im h3 rfl), lo := h.dh.lo }, h.ob.fr hF (fun o ho => key (h.ob.blk o ho).2 (by decide)) (fun _ _ _ _ => rfl)⟩
theorem PG.frB {w0 w w2 w' : World} {L : HL} {B : Nat} {W Lg : Int} {cls : List Int} {s : HS} {A : Rg} {z : Int → Int} {obs : List Ob} (h : PG w0 w2 L B W Lg cls s A z obs) (hf : FrB w w2 w') (h0 : w0.heap.size ≤ w.heap.size) (hB : B ≤ w.heap.size) : PG w0 w' L B W Lg cls s A z obs := by
  obtain ⟨S, hF, hS⟩ := hf
  refine ⟨h.f0.step hF (fun b hb => .inr (Nat.le_trans h0 (hS b hb).1)), h.low, h.lay, h.hr.fr hF (fun x hx hc => ?_), h.pi, h.ecls, h.ew, h.edge, h.xl⟩
  obtain ⟨h1, cs, h2⟩ := hS x hx
  by_cases e : x ∈ L.xlbs
  · obtain ⟨cs', h3⟩ := h.hr.xblk x e
    exact blk_ne' h2 h3 (by decide) rfl
  · have := h.lay x hc e
    omega
theorem JG.frB {w0 w w2 w' : World} {L : HL} {D : DL} {W Lg : Int} {cls : List Int} {s : HS} {A : Rg} {z : Int → Int} {bits : List Bool} {m : List (Int × Value)} {obs : List Ob} {G : Int → Nat} (h : JG w0 w2 L D W Lg cls s A z bits m obs G) (hf : FrB w w2 w') (h0 : w0.heap.size ≤ w.heap.size) (hB : D.B ≤ w.heap.size) : JG w0 w' L D W Lg cls s A z bits m obs G :=
  ⟨h.pg.frB hf h0 hB, h.dg.frB hf h0, h.same, h.bl⟩
/-- A call of the program's heap leaves boxes alone. -/
theorem PG.kp {w0 w w1 w2 : World} {L : HL} {B : Nat} {W Lg : Int} {cls : List Int} {s : HS} {A : Rg} {z : Int → Int} {obs : List Ob} (h : PG w0 w1 L B W Lg cls s A z obs) (hf : Fr L.fp w1 w2) (hB : B ≤ w.heap.size) : Kp w w1 w2 := by
  intro b cs hb hblk
  refine hblk.fr hf (fun hc => ?_)
  by_cases e : b ∈ L.xlbs
  · obtain ⟨cs', h3⟩ := h.hr.xblk b e
    exact blk_ne' hblk h3 (by decide) rfl
  · have := h.lay b (fpAll hc) e
    omega
/-- A call of the document's heap leaves boxes alone. -/
theorem FrG.kp {w w1 w2 : World} {B mp : Nat} {m : List (Int × Value)} (h : FrG B mp w1 w2) (hm : IM w1 mp m) : Kp w w1 w2 := by
  intro b cs _ hblk
  exact h.blk hblk ⟨by decide, by decide, by decide, by decide⟩ (nomap hm hblk)

/-! The number of an object's ring. -/
def qix (q : Option Nat) (n : Nat) : Nat := q.getD n
theorem clsIx_q {cls : List Int} {n : Int} {q : Option Nat} (h : q = qOf cls n) : clsIx cls n = (qix q cls.length : Nat) := by
  unfold clsIx qix
  by_cases e : ixGe cls n = -1
  · rw [if_pos e]
    have : q = none := by rw [h]; unfold qOf; rw [if_pos e]
    rw [this]; rfl
  · rw [if_neg e]
    have hr := ixGe_range cls n
    have : q = some (ixGe cls n).toNat := by rw [h]; unfold qOf; rw [if_neg e]
    rw [this]
    show _ = (((ixGe cls n).toNat : Nat) : Int)
    omega
theorem qOf_key {cls : List Int} {n : Int} {q : Option Nat} (h : q = qOf cls n) : Key cls.length q := by
  intro k hk
  have := ixGe_range cls n
  rw [h] at hk
  have := qOf_some hk
  omega
theorem rowsOf_q (A : Rg) {n : Nat} {q : Option Nat} (h : Key n q) : (rowsOf A n)[qix q n]? = some (A q) := by
  cases q with
  | none => exact rowsOf_none A n
  | some j => exact rowsOf_some A (h j rfl)
theorem rowsOf_upq (A : Rg) {n : Nat} {q : Option Nat} (h : Key n q) (R : Rows) : rowsOf (A.up q R) n = (rowsOf A n).set (qix q n) R := by
  cases q with
  | none => exact rowsOf_up_none A n R
  | some j => exact rowsOf_up_some A (h j rfl) R
theorem mem_rowsOf {A : Rg} {n : Nat} {R : Rows} (h : R ∈ rowsOf A n) : ∃ q, Key n q ∧ R = A q := by
  unfold rowsOf rowsTo at h
  rcases List.mem_append.1 h with h | h
  · obtain ⟨j, hj, rfl⟩ := List.mem_map.1 h
    exact ⟨some j, fun k e => by cases e; exact List.mem_range.1 hj, rfl⟩
  · exact ⟨none, (fun k e => by cases e), List.mem_singleton.1 h⟩
theorem rowsOf_mem (A : Rg) {n : Nat} {q : Option Nat} (h : Key n q) : A q ∈ rowsOf A n := List.mem_of_getElem? (rowsOf_q A h)
theorem HI.rowLen {s : HS} {A : Rg} {z : Int → Int} (h : HI s A z) (q : Option Nat) : (A q).W.length ≤ 65536 ∧ (A q).F.length ≤ 65536 ∧ (A q).G.length ≤ 65536 ∧ (A q).B.length ≤ 65536 := by
  have := h.allLen q
  simp [Rows.all] at this
  omega

/-! What a call names. -/
open Classical in
def liveB (A : Rg) (obs : List Ob) (p : Int) : Bool := decide (∃ o ∈ obs, o.p = p ∧ p ∉ (A o.q).W)
theorem liveB_iff {A : Rg} {obs : List Ob} {p : Int} : liveB A obs p = true ↔ ∃ o ∈ obs, o.p = p ∧ p ∉ (A o.q).W := by unfold liveB; simp

theorem DG.there {w0 w : World} {D : DL} {W Lg : Int} {cls : List Int} {A : Rg} {bits : List Bool} {top par : Int} {m : List (Int × Value)} {obs : List Ob} {G : Int → Nat} {wd : Ob → Nat → Int} (h : DG w0 w D W Lg cls (rowsOf A cls.length) bits top par m obs G wd) (hq : ∀ o ∈ obs, o.q = qOf cls o.n) (hone : ∀ o ∈ obs, ∀ o' ∈ obs, o.p = o'.p → o = o') (hl : ∀ q, (A q).W.length ≤ 65536) (p : Int) :
    Calls Tryz.prog 44 #[.pointer (some ⟨D.mb, 0, none⟩), .int .i64 p] w fun e w' => e = .returned (.bool (liveB A obs p)) ∧ Fr [] w w' := by
  by_cases hp : ∃ o ∈ obs, o.p = p
  · obtain ⟨o, ho, rfl⟩ := hp
    have hk := qOf_key (hq o ho)
    refine (dThere D W Lg cls _ bits top par m o.p o.k o.a o.m o.n (G o.p) (qix o.q cls.length) (A o.q) w h.dh h.q.n (h.ob.get o ho) (clsIx_q (hq o ho)) (rowsOf_q A hk) (hl _)).mono ?_
    rintro e w' ⟨rfl, hF⟩
    refine ⟨?_, hF⟩
    have e : decide (idxI (A o.q).W o.p < 0) = liveB A obs o.p := by
      rw [Bool.eq_iff_iff, liveB_iff]
      simp only [decide_eq_true_eq]
      constructor
      · intro h1
        refine ⟨o, ho, rfl, fun hc => ?_⟩
        unfold idxI at h1
        rw [if_pos hc] at h1
        omega
      · rintro ⟨o', ho', e1, h1⟩
        obtain rfl := hone o' ho' o ho e1
        rw [idxI_no h1]; decide
    rw [e]
  · refine (dThereNo D W Lg cls _ bits top par m p w h.dh (h.ob.none (fun o ho e => hp ⟨o, ho, e⟩))).mono ?_
    rintro e w' ⟨rfl, hF⟩
    refine ⟨?_, hF⟩
    have e : liveB A obs p = false := by
      rw [Bool.eq_false_iff]
      intro h1
      obtain ⟨o, ho, e, _⟩ := liveB_iff.1 h1
      exact hp ⟨o, ho, e⟩
    rw [e]
/-- What a number names. -/
def pickO (A : Rg) (obs : List Ob) (W : Int) (o : Int) : Int := pickI (liveTo (liveB A obs) (W.toNat - 1)) o
theorem DG.pick {w0 w : World} {D : DL} {W Lg : Int} {cls : List Int} {A : Rg} {bits : List Bool} {top par : Int} {m : List (Int × Value)} {obs : List Ob} {G : Int → Nat} {wd : Ob → Nat → Int} (h : DG w0 w D W Lg cls (rowsOf A cls.length) bits top par m obs G wd) (hq : ∀ o ∈ obs, o.q = qOf cls o.n) (hone : ∀ o ∈ obs, ∀ o' ∈ obs, o.p = o'.p → o = o') (hl : ∀ q, (A q).W.length ≤ 65536) (hW : 1 ≤ W) (n : Int) (w1 : World) (hF : Fr [] w w1) :
    Calls Tryz.prog 20 #[.pointer (some ⟨D.mb, 0, none⟩), .int .i64 n] w1 fun e w2 => e = .returned (.int .i64 (pickO A obs W n)) ∧ Fr [] w1 w2 := by
  have hW2 := h.q.W
  have h1 := h.step hF
  exact dPick D W Lg cls _ bits top par m n (liveB A obs) (W.toNat - 1) (by omega) (by omega) w1 h1.dh (fun p w2 hF2 => (h1.step hF2).there hq hone hl p)
theorem pickO_pos {A : Rg} {obs : List Ob} {W o : Int} (h : 0 < pickO A obs W o) : ∃ ob ∈ obs, ob.p = pickO A obs W o ∧ ob.p ∉ (A ob.q).W := by
  unfold pickO at h ⊢
  by_cases e : liveTo (liveB A obs) (W.toNat - 1) = []
  · unfold pickI at h; rw [if_pos e] at h; omega
  · obtain ⟨_, _, h3⟩ := mem_liveTo.1 (pickI_mem (n := o) e)
    obtain ⟨ob, h4, h5, h6⟩ := liveB_iff.1 h3
    exact ⟨ob, h4, h5, by rw [h5]; exact h6⟩
theorem PG.qs {w0 w : World} {L : HL} {B : Nat} {W Lg : Int} {cls : List Int} {s : HS} {A : Rg} {z : Int → Int} {obs : List Ob} (h : PG w0 w L B W Lg cls s A z obs) : ∀ o ∈ obs, o.q = qOf cls o.n := fun o ho => by rw [← h.ecls]; exact (h.pi.inn o ho).ring
end Go.Proofs.YtifillpcphiblaaGreat

namespace Go.Proofs.YtifillpcphiblaaGreat
open Go Go.Proofs Go.RowKit

/-! law06.HeapPlays: each call, told by both heaps alike. -/

def JPost (w0 : World) (L : HL) (D : DL) (W Lg : Int) (cls : List Int) (s : HS) (A : Rg) (bits : List Bool) (m : List (Int × Value)) (obs : List Ob) (G : Int → Nat) (act : Value) (e : Ending) (w1 : World) : Prop :=
  ∃ (wd a er : Int) (is : Bool) (L' : HL) (s' : HS) (A' : Rg) (z' : Int → Int) (obs' : List Ob), e = .returned (tldV wd a er is) ∧ L'.hb = L.hb ∧ PG w0 w1 L' D.B W Lg cls s' A' z' obs' ∧ DG w0 w1 D W Lg cls (rowsOf A cls.length) bits s.top s.parity m obs G s.wd ∧
    ∀ w2, Fr [] w1 w2 → Calls Tryz.prog 10 #[.pointer (some ⟨D.mb, 0, none⟩), act] w2 fun e w3 => e = .returned (tldV wd a er is) ∧ ∃ bits' m' G', JG w0 w3 L' D W Lg cls s' A' z' bits' m' obs' G'
theorem JPost.mk {w0 w : World} {L : HL} {D : DL} {W Lg : Int} {cls : List Int} {s : HS} {A : Rg} {z : Int → Int} {bits : List Bool} {m : List (Int × Value)} {obs : List Ob} {G : Int → Nat} (h : JG w0 w L D W Lg cls s A z bits m obs G) {wd a er : Int} {is : Bool} {L' : HL} {s' : HS} {A' : Rg} {z' : Int → Int} {obs' : List Ob} {act : Value} (hb : L'.hb = L.hb)
    (hdoc : ∀ w3, PG w0 w3 L' D.B W Lg cls s' A' z' obs' → DG w0 w3 D W Lg cls (rowsOf A cls.length) bits s.top s.parity m obs G s.wd → Calls Tryz.prog 10 #[.pointer (some ⟨D.mb, 0, none⟩), act] w3 (PostB w3 (fun w5 => ∃ bits' m' G', JG w0 w5 L' D W Lg cls s' A' z' bits' m' obs' G') (tldV wd a er is))) :
    ∀ e w1, PostB w (fun w2 => PG w0 w2 L' D.B W Lg cls s' A' z' obs' ∧ DG w0 w2 D W Lg cls (rowsOf A cls.length) bits s.top s.parity m obs G s.wd) (tldV wd a er is) e w1 → JPost w0 L D W Lg cls s A bits m obs G act e w1 := by
  rintro e w1 ⟨rfl, w2, ⟨hP, hD⟩, hB⟩
  have h0 := h.pg.f0.size
  have hBw := h.dg.dh.rs.le
  have hP1 := hP.frB hB h0 hBw
  have hD1 := hD.frB hB h0
  refine ⟨_, _, _, _, L', s', A', z', obs', rfl, hb, hP1, hD1, fun w3 hF3 => ?_⟩
  have hP3 := hP1.step hF3
  have hD3 := hD1.step hF3
  refine (hdoc w3 hP3 hD3).mono ?_
  rintro e w4 ⟨rfl, w5, ⟨bits', m', G', hJ⟩, hB4⟩
  exact ⟨rfl, bits', m', G', hJ.frB hB4 hD3.f0.size hD3.dh.rs.le⟩
/-- What the document's call leaves. -/
theorem docFin {w0 : World} {D : DL} {W Lg : Int} {cls : List Int} {s : HS} {A : Rg} {bits : List Bool} {m : List (Int × Value)} {obs : List Ob} {G : Int → Nat} {w3 w4 w5 : World} {L' : HL} {s' : HS} {A' : Rg} {z' : Int → Int} {obs' : List Ob} {bits' : List Bool} {m' : List (Int × Value)} {G' : Int → Nat} (hP : PG w0 w3 L' D.B W Lg cls s' A' z' obs') (hD : DG w0 w3 D W Lg cls (rowsOf A cls.length) bits s.top s.parity m obs G s.wd) (hF : Fr [] w3 w4) (hG : FrG D.B D.mp w4 w5)
    (hdh : DH w5 D W Lg cls (rowsOf A' cls.length) bits' s'.top s'.parity m') (hob : DOb w5 D.B m' obs' G' s'.wd) (hs : Same3 s'.edge bits' s'.x.l) (hbl : (bits'.length : Int) = Lg) : (∃ bits' m' G', JG w0 w5 L' D W Lg cls s' A' z' bits' m' obs' G') ∧ Kp w3 w4 w5 := by
  have hD4 := hD.step hF
  have hP5 := (hP.step hF).doc hG hD.q.dB hD4.dh.im
  exact ⟨⟨bits', m', G', hP5, ⟨hP5.f0, hD.q, hdh, hob⟩, hs, hbl⟩, hG.kp hD4.dh.im⟩
/-- The pick, wherever nothing has changed. -/
theorem JG.pk {w0 w : World} {L : HL} {D : DL} {W Lg : Int} {cls : List Int} {s : HS} {A : Rg} {z : Int → Int} {bits : List Bool} {m : List (Int × Value)} {obs : List Ob} {G : Int → Nat} (h : JG w0 w L D W Lg cls s A z bits m obs G) (hW : 1 ≤ W) (o : Int) {w1 : World} (hF : Fr [] w w1) : Calls Tryz.prog 20 #[.pointer (some ⟨D.mb, 0, none⟩), .int .i64 o] w1 fun e w2 => e = .returned (.int .i64 (pickO A obs W o)) ∧ Fr [] w1 w2 :=
  h.dg.pick h.pg.qs h.pg.pi.one (fun q => (h.pg.pi.hi.rowLen q).1) hW o w1 hF
theorem JG.pk' {w0 w : World} {L : HL} {D : DL} {W Lg : Int} {cls : List Int} {s : HS} {A : Rg} {z : Int → Int} {bits : List Bool} {m : List (Int × Value)} {obs : List Ob} {G : Int → Nat} (h : JG w0 w L D W Lg cls s A z bits m obs G) (hW : 1 ≤ W) (o : Int) {w1 w2 : World} (hD : DG w0 w1 D W Lg cls (rowsOf A cls.length) bits s.top s.parity m obs G s.wd) (hF : Fr [] w1 w2) : Calls Tryz.prog 20 #[.pointer (some ⟨D.mb, 0, none⟩), .int .i64 o] w2 fun e w3 => e = .returned (.int .i64 (pickO A obs W o)) ∧ Fr [] w2 w3 :=
  hD.pick h.pg.qs h.pg.pi.one (fun q => (h.pg.pi.hi.rowLen q).1) hW o w2 hF
theorem abfp {L : HL} : ∀ x ∈ [L.ab], x ∈ L.fp := by intro x hx; rw [List.mem_singleton.1 hx]; simp [HL.fp]
theorem abwbfp {L : HL} : ∀ x ∈ [L.ab, L.wb], x ∈ L.fp := by intro x hx; simp at hx; rcases hx with rfl | rfl <;> simp [HL.fp]
/-- What the program's call leaves. -/
theorem lawFin {w0 w : World} {L : HL} {D : DL} {W Lg : Int} {cls : List Int} {s : HS} {A : Rg} {z : Int → Int} {bits : List Bool} {m : List (Int × Value)} {obs : List Ob} {G : Int → Nat} (h : JG w0 w L D W Lg cls s A z bits m obs G) {w1 w2 : World} {s' : HS} {A' : Rg} {z' : Int → Int} {obs' : List Ob} (hF : Fr [] w w1) (hf : Fr L.fp w1 w2) (hr : HRep w2 L s') (hp : PI s' A' z' obs') (e1 : s'.cls = s.cls) (e2 : s'.ws.length = s.ws.length) (e3 : s'.edge = s.edge) : (PG w0 w2 L D.B W Lg cls s' A' z' obs' ∧ DG w0 w2 D W Lg cls (rowsOf A cls.length) bits s.top s.parity m obs G s.wd) ∧ Kp w w1 w2 := by
  have h1 := h.step hF
  exact ⟨⟨h1.pg.of hf hr hp e1 e2 e3, h1.dg.prog h1.pg.hr h1.pg.low h1.pg.lay hf⟩, h1.pg.kp hf h.dg.dh.rs.le⟩

theorem DOb.frH {w w' : World} {D : DL} {m m0 : List (Int × Value)} {obs : List Ob} {G : Int → Nat} {wd wd' : Ob → Nat → Int} (h : DOb w D.B m obs G wd) (hF : FrH D.B D.mp w w') (hm : IM w D.mp m0) (hw : ∀ o ∈ obs, ∀ j, j < o.n → wd' o j = wd o j) : DOb w' D.B m obs G wd' :=
  ⟨h.get, fun o ho => ⟨(h.blk o ho).1, by rw [wcs_congr o (hw o ho)]; exact hF.blk (h.blk o ho).2 ⟨by decide, by decide, by decide⟩ (nomap hm (h.blk o ho).2)⟩, h.inj, h.only, h.kn⟩

theorem DOb.fr0 {w w' : World} {D : DL} {m m0 : List (Int × Value)} {obs : List Ob} {G : Int → Nat} {wd : Ob → Nat → Int} (h : DOb w D.B m obs G wd) (hF : FrD D.B D.mp D.rsb w w') (hm : IM w D.mp m0) : DOb w' D.B m obs G wd :=
  h.frH hF.h hm (fun _ _ _ _ => rfl)

theorem jGet {w0 w : World} {L : HL} {D : DL} {W Lg : Int} {cls : List Int} {s : HS} {A : Rg} {z : Int → Int} {bits : List Bool} {m : List (Int × Value)} {obs : List Ob} {G : Int → Nat} (h : JG w0 w L D W Lg cls s A z bits m obs G) (hW1 : 1 ≤ W) (o a b n wd : Int) (hp : 0 < pickO A obs W o) :
    Calls Tryz.prog 9 #[.pointer (some ⟨L.hb, 0, none⟩), .pointer (some ⟨D.mb, 0, none⟩), actV 1 o a b n wd] w (JPost w0 L D W Lg cls s A bits m obs G (actV 1 o a b n wd)) := by
  obtain ⟨ob, hob, ep, -⟩ := pickO_pos hp
  have hin := h.pg.pi.inn ob hob
  have hbd := hin.bound h.pg.pi.hi
  by_cases hn : 0 ≤ n ∧ n < ob.n
  · obtain ⟨j, rfl⟩ := Int.eq_ofNat_of_zero_le hn.1
    have hj : j < ob.n := by omega
    refine (lawDo1 L.hb D.mb o a b j wd (pickO A obs W o) (s.wd ob j) 0 w _ (fun w1 hF1 => h.pk hW1 o hF1) (fun w1 hF1 => ?_)).mono (JPost.mk h rfl (A' := A) (z' := z) (obs' := obs) (s' := s.tick 2) (L' := L) (fun w3 hP hD => ?_))
    · rw [← ep]
      refine (hGet L s ob.p ob.k ob.n ob.a ob.m j w1 (h.step hF1).pg.hr (by omega) (by omega) hin.head hin.hd hn.1 hn.2).mono ?_
      rintro e w2 ⟨rfl, hH, hf⟩
      exact ⟨rfl, lawFin h hF1 (hf.here abfp) hH (h.pg.pi.tick 2) rfl rfl rfl⟩
    · refine docDo1 D.mb o a b j wd (pickO A obs W o) (s.wd ob j) 0 w3 _ (fun w4 hF4 => h.pk' hW1 o hD hF4) (fun w4 hF4 => ?_)
      have hD4 := hD.step hF4
      rw [← ep]
      refine (dGet D W Lg cls _ bits _ _ m ob.p ob.k ob.a ob.m (s.wd ob j) ob.n (G ob.p) j (wcs ob (s.wd ob)) w4 hD4.dh (hD4.ob.get ob hob) (hD4.ob.blk ob hob).2 hj ?_).mono ?_
      · unfold wcs
        rw [List.getElem?_map, List.getElem?_range hj]; rfl
      · rintro e w5 ⟨rfl, hF5⟩
        exact ⟨rfl, docFin hP hD hF4 (FrG.of hF5) (hD4.dh.step hF5) (hD4.ob.step hF5) h.same h.bl⟩
  · refine (lawDo1 L.hb D.mb o a b n wd (pickO A obs W o) 0 1 w _ (fun w1 hF1 => h.pk hW1 o hF1) (fun w1 hF1 => ?_)).mono (JPost.mk h rfl (A' := A) (z' := z) (obs' := obs) (s' := s.tick 1) (L' := L) (fun w3 hP hD => ?_))
    · rw [← ep]
      refine (hGetRange L s ob.p ob.k ob.n ob.a ob.m n w1 (h.step hF1).pg.hr (by omega) (by omega) hin.head hin.hd (by omega)).mono ?_
      rintro e w2 ⟨rfl, hH, hf⟩
      exact ⟨rfl, lawFin h hF1 (hf.here abfp) hH (h.pg.pi.tick 1) rfl rfl rfl⟩
    · refine docDo1 D.mb o a b n wd (pickO A obs W o) 0 1 w3 _ (fun w4 hF4 => h.pk' hW1 o hD hF4) (fun w4 hF4 => ?_)
      have hD4 := hD.step hF4
      rw [← ep]
      refine (dGetErr D W Lg cls _ bits _ _ m ob.p ob.k ob.a ob.m n ob.n (G ob.p) w4 hD4.dh (hD4.ob.get ob hob) (by omega)).mono ?_
      rintro e w5 ⟨rfl, hF5⟩
      exact ⟨rfl, docFin hP hD hF4 (FrG.of hF5) (hD4.dh.step hF5) (hD4.ob.step hF5) h.same h.bl⟩

theorem jSet {w0 w : World} {L : HL} {D : DL} {W Lg : Int} {cls : List Int} {s : HS} {A : Rg} {z : Int → Int} {bits : List Bool} {m : List (Int × Value)} {obs : List Ob} {G : Int → Nat} (h : JG w0 w L D W Lg cls s A z bits m obs G) (hW1 : 1 ≤ W) (o a b n wd : Int) (hp : 0 < pickO A obs W o) :
    Calls Tryz.prog 9 #[.pointer (some ⟨L.hb, 0, none⟩), .pointer (some ⟨D.mb, 0, none⟩), actV 2 o a b n wd] w (JPost w0 L D W Lg cls s A bits m obs G (actV 2 o a b n wd)) := by
  obtain ⟨ob, hob, ep, -⟩ := pickO_pos hp
  have hin := h.pg.pi.inn ob hob
  have hbd := hin.bound h.pg.pi.hi
  by_cases hn : 0 ≤ n ∧ n < ob.n
  · obtain ⟨j, rfl⟩ := Int.eq_ofNat_of_zero_le hn.1
    have hj : j < ob.n := by omega
    obtain ⟨hpi, hw1, hw2⟩ := h.pg.pi.put hob hj wd 2
    refine (lawDo2 L.hb D.mb o a b j wd (pickO A obs W o) 0 w _ (fun w1 hF1 => h.pk hW1 o hF1) (fun w1 hF1 => ?_)).mono (JPost.mk h rfl (A' := A) (z' := z) (obs' := obs) (s' := s.put (ob.p + 3 + j) wd 2) (L' := L) (fun w3 hP hD => ?_))
    · rw [← ep]
      refine (hSet L s ob.p ob.k ob.n ob.a ob.m j wd w1 (h.step hF1).pg.hr (by omega) (by omega) hin.head hin.hd hn.1 hn.2).mono ?_
      rintro e w2 ⟨rfl, hH, hf⟩
      exact ⟨rfl, lawFin h hF1 (hf.here abwbfp) hH hpi rfl (by simp [HS.put, sw_len]) rfl⟩
    · refine docDo2 D.mb o a b j wd (pickO A obs W o) 0 w3 _ (fun w4 hF4 => h.pk' hW1 o hD hF4) (fun w4 hF4 => ?_)
      have hD4 := hD.step hF4
      rw [← ep]
      have hbk := hD4.ob.blk ob hob
      refine (dSet D W Lg cls _ bits _ _ m ob.p ob.k ob.a ob.m wd ob.n (G ob.p) j (wcs ob (s.wd ob)) w4 hD4.dh (hD4.ob.get ob hob) hbk.2 (wcs_len _ _) hj (by have := hin.hd.s1; omega)).mono ?_
      rintro e w5 ⟨rfl, hF5, hB5⟩
      exact ⟨rfl, docFin hP hD hF4 (FrG.word hF5 hbk.1 hbk.2) (hD4.dh.word hF5 hbk.2 hbk.1 hD.q.svB) (hD4.ob.put h.pg.pi.one hob hF5 hB5 hw1 hw2) h.same h.bl⟩
  · refine (lawDo2 L.hb D.mb o a b n wd (pickO A obs W o) 1 w _ (fun w1 hF1 => h.pk hW1 o hF1) (fun w1 hF1 => ?_)).mono (JPost.mk h rfl (A' := A) (z' := z) (obs' := obs) (s' := s.tick 1) (L' := L) (fun w3 hP hD => ?_))
    · rw [← ep]
      refine (hSetRange L s ob.p ob.k ob.n ob.a ob.m n wd w1 (h.step hF1).pg.hr (by omega) (by omega) hin.head hin.hd (by omega)).mono ?_
      rintro e w2 ⟨rfl, hH, hf⟩
      exact ⟨rfl, lawFin h hF1 (hf.here abfp) hH (h.pg.pi.tick 1) rfl rfl rfl⟩
    · refine docDo2 D.mb o a b n wd (pickO A obs W o) 1 w3 _ (fun w4 hF4 => h.pk' hW1 o hD hF4) (fun w4 hF4 => ?_)
      have hD4 := hD.step hF4
      rw [← ep]
      refine (dSetErr D W Lg cls _ bits _ _ m ob.p ob.k ob.a ob.m n wd ob.n (G ob.p) w4 hD4.dh (hD4.ob.get ob hob) (by omega)).mono ?_
      rintro e w5 ⟨rfl, hF5⟩
      exact ⟨rfl, docFin hP hD hF4 (FrG.of hF5) (hD4.dh.step hF5) (hD4.ob.step hF5) h.same h.bl⟩

theorem jBecome {w0 w : World} {L : HL} {D : DL} {W Lg : Int} {cls : List Int} {s : HS} {A : Rg} {z : Int → Int} {bits : List Bool} {m : List (Int × Value)} {obs : List Ob} {G : Int → Nat} (h : JG w0 w L D W Lg cls s A z bits m obs G) (hW1 : 1 ≤ W) (o a b n wd : Int) (hp : 0 < pickO A obs W o) :
    Calls Tryz.prog 9 #[.pointer (some ⟨L.hb, 0, none⟩), .pointer (some ⟨D.mb, 0, none⟩), actV 3 o a b n wd] w (JPost w0 L D W Lg cls s A bits m obs G (actV 3 o a b n wd)) := by
  obtain ⟨ob, hob, ep, -⟩ := pickO_pos hp
  have hin := h.pg.pi.inn ob hob
  have hbd := hin.bound h.pg.pi.hi
  have hmk : ob.m = 0 ∨ ob.m = 1 := by have := hin.hd.m0; have := hin.hd.m1; omega
  by_cases he : dPackE a ob.n b = 0
  · have hd' : Hd a ob.n b ob.m := by
      have h1 := hin.hd
      unfold dPackE at he
      by_cases h2 : a < 0 ∨ 10 < a
      · rw [if_pos h2] at he; omega
      · rw [if_neg h2] at he
        by_cases h3 : (ob.n : Int) < 0 ∨ 31 < (ob.n : Int) ∨ b < 0 ∨ 16777215 < b
        · rw [if_pos h3] at he; omega
        · exact ⟨by omega, by omega, h1.m0, h1.m1, by omega, by omega, by omega, by omega⟩
    obtain ⟨hpi, hw1⟩ := h.pg.pi.turned hob hd' 2
    refine (lawDo3 L.hb D.mb o a b n wd (pickO A obs W o) 0 w _ (fun w1 hF1 => h.pk hW1 o hF1) (fun w1 hF1 => ?_)).mono (JPost.mk h rfl (A' := A) (z' := z) (obs' := updO obs ob.p fun o => { o with k := a, a := b }) (s' := s.put ob.p (packed a ob.n b ob.m) 2) (L' := L) (fun w3 hP hD => ?_))
    · rw [← ep]
      refine (hBecome L s ob.p ob.k ob.n ob.a ob.m a b w1 (h.step hF1).pg.hr (by omega) (by omega) hin.head hin.hd hd').mono ?_
      rintro e w2 ⟨rfl, hH, hf⟩
      exact ⟨rfl, lawFin h hF1 (hf.here abwbfp) hH hpi rfl (by simp [HS.put, sw_len]) rfl⟩
    · refine docDo3 D.mb o a b n wd (pickO A obs W o) 0 w3 _ (fun w4 hF4 => h.pk' hW1 o hD hF4) (fun w4 hF4 => ?_)
      have hD4 := hD.step hF4
      rw [← ep]
      refine (dBecome D W Lg cls _ bits _ _ m ob.p ob.k ob.a ob.m a b ob.n (G ob.p) w4 hD4.dh (hD4.ob.get ob hob) hmk he hD.q.svB).mono ?_
      rintro e w5 ⟨rfl, hdh, hF5⟩
      refine ⟨rfl, docFin hP hD hF4 hF5.g hdh (hD4.ob.upd (f := fun o => { o with k := a, a := b }) h.pg.pi.one (fun o ho => hF5.blk (hD4.ob.blk o ho).2 ⟨by decide, by decide, by decide⟩ (nomap hD4.dh.im (hD4.ob.blk o ho).2)) hob rfl rfl hw1 rfl) h.same h.bl⟩
  · refine (lawDo3 L.hb D.mb o a b n wd (pickO A obs W o) (dPackE a ob.n b) w _ (fun w1 hF1 => h.pk hW1 o hF1) (fun w1 hF1 => ?_)).mono (JPost.mk h rfl (A' := A) (z' := z) (obs' := obs) (s' := s.tick 1) (L' := L) (fun w3 hP hD => ?_))
    · rw [← ep]
      refine (hBecomeBad L s ob.p ob.k ob.n ob.a ob.m a b w1 (h.step hF1).pg.hr (by omega) (by omega) hin.head hin.hd he).mono ?_
      rintro e w2 ⟨rfl, hH, hf⟩
      exact ⟨rfl, lawFin h hF1 (hf.here abfp) hH (h.pg.pi.tick 1) rfl rfl rfl⟩
    · refine docDo3 D.mb o a b n wd (pickO A obs W o) (dPackE a ob.n b) w3 _ (fun w4 hF4 => h.pk' hW1 o hD hF4) (fun w4 hF4 => ?_)
      have hD4 := hD.step hF4
      rw [← ep]
      refine (dBecomeErr D W Lg cls _ bits _ _ m ob.p ob.k ob.a ob.m a b ob.n (G ob.p) w4 hD4.dh (hD4.ob.get ob hob) hmk he).mono ?_
      rintro e w5 ⟨rfl, hF5⟩
      exact ⟨rfl, docFin hP hD hF4 (FrG.of hF5) (hD4.dh.step hF5) (hD4.ob.step hF5) h.same h.bl⟩

theorem jShade {w0 w : World} {L : HL} {D : DL} {W Lg : Int} {cls : List Int} {s : HS} {A : Rg} {z : Int → Int} {bits : List Bool} {m : List (Int × Value)} {obs : List Ob} {G : Int → Nat} (h : JG w0 w L D W Lg cls s A z bits m obs G) (hW1 : 1 ≤ W) (o a b n wd : Int) (hp : 0 < pickO A obs W o) :
    Calls Tryz.prog 9 #[.pointer (some ⟨L.hb, 0, none⟩), .pointer (some ⟨D.mb, 0, none⟩), actV 4 o a b n wd] w (JPost w0 L D W Lg cls s A bits m obs G (actV 4 o a b n wd)) := by
  obtain ⟨ob, hob, ep, hnW⟩ := pickO_pos hp
  have hin := h.pg.pi.inn ob hob
  have hbd := hin.bound h.pg.pi.hi
  have hq := h.pg.qs ob hob
  have hk := qOf_key hq
  by_cases hm : ob.m = s.parity
  · refine (lawDo4 L.hb D.mb o a b n wd (pickO A obs W o) 0 false w _ (fun w1 hF1 => h.pk hW1 o hF1) (fun w1 hF1 => ?_)).mono (JPost.mk h rfl (A' := A) (z' := z) (obs' := obs) (s' := s.tick 1) (L' := L) (fun w3 hP hD => ?_))
    · rw [← ep]
      refine (hShadeNo L s ob.p ob.k ob.n ob.a w1 (h.step hF1).pg.hr (by omega) (by omega) (by rw [← hm]; exact hin.head) (by rw [← hm]; exact hin.hd)).mono ?_
      rintro e w2 ⟨rfl, hH, hf⟩
      exact ⟨rfl, lawFin h hF1 (hf.here abfp) hH (h.pg.pi.tick 1) rfl rfl rfl⟩
    · refine docDo4 D.mb o a b n wd (pickO A obs W o) false w3 _ (fun w4 hF4 => h.pk' hW1 o hD hF4) (fun w4 hF4 => ?_)
      have hD4 := hD.step hF4
      rw [← ep]
      refine (dShadeNo D W Lg cls _ bits _ _ m ob.p ob.k ob.a ob.m ob.n (G ob.p) w4 hD4.dh (hD4.ob.get ob hob) hm).mono ?_
      rintro e w5 ⟨rfl, hF5⟩
      exact ⟨rfl, docFin hP hD hF4 (FrG.of hF5) (hD4.dh.step hF5) (hD4.ob.step hF5) h.same h.bl⟩
  · have hmF : ob.p ∈ (A ob.q).F := by
      rcases mem_rows.1 hin.mem with h1 | h1 | h1 | h1
      · exact absurd h1 hnW
      · exact h1
      · exact absurd (h.pg.pi.colG ob hob (.inl h1)) hm
      · exact absurd (h.pg.pi.colG ob hob (.inr h1)) hm
    obtain ⟨F1, F2, hF⟩ := List.append_of_mem hmF
    have hpF : ob.p ∉ F1 := by
      have hnd := (rowsNd (h.pg.pi.hi.allNd ob.q)).1.2.1
      rw [hF, List.nodup_append] at hnd
      intro hc
      exact hnd.2.2 _ hc _ List.mem_cons_self rfl
    have hd' : Hd ob.k ob.n ob.a s.parity := by
      obtain ⟨d1, d2, d3, d4, d5, d6, d7, d8⟩ := hin.hd
      have := h.pg.pi.par
      exact ⟨d1, d2, by omega, by omega, d5, d6, d7, d8⟩
    have hrl := h.pg.pi.hi.rowLen ob.q
    refine (lawDo4 L.hb D.mb o a b n wd (pickO A obs W o) 0 true w (fun w2 => ∃ s', Shd s s' A z ob.q ob.p F1 F2 (packed ob.k ob.n ob.a s.parity) ∧ PG w0 w2 L D.B W Lg cls s' (A.up ob.q ⟨(A ob.q).W, F1 ++ F2, (A ob.q).G ++ [ob.p], (A ob.q).B⟩) z (updO obs ob.p fun o => { o with m := s.parity }) ∧ DG w0 w2 D W Lg cls (rowsOf A cls.length) bits s.top s.parity m obs G s.wd) (fun w1 hF1 => h.pk hW1 o hF1) (fun w1 hF1 => ?_)).mono ?_
    · rw [← ep]
      refine (hShadeAny L s A z ob.q ob.p ob.k ob.n ob.a ob.m F1 F2 w1 (h.step hF1).pg.hr h.pg.pi.hi hF hin.head hin.hd hd' hm hin.ring).mono ?_
      rintro e w2 ⟨rfl, ⟨s', hH, hS⟩, hf⟩
      obtain ⟨hpi, -⟩ := h.pg.pi.shaded hob hF hS
      obtain ⟨g1, g2⟩ := lawFin h hF1 hf hH hpi hS.st.cls hS.st.len hS.st.edge
      exact ⟨rfl, ⟨s', hS, g1⟩, g2⟩
    · rintro e w1 ⟨rfl, w2, ⟨s', hS, hPD⟩, hB⟩
      obtain ⟨-, hw1⟩ := h.pg.pi.shaded hob hF hS
      refine JPost.mk h rfl (A' := A.up ob.q ⟨(A ob.q).W, F1 ++ F2, (A ob.q).G ++ [ob.p], (A ob.q).B⟩) (z' := z) (obs' := updO obs ob.p fun o => { o with m := s.parity }) (s' := s') (L' := L) (fun w3 hP hD => ?_) _ _ ⟨rfl, w2, hPD, hB⟩
      refine docDo4 D.mb o a b n wd (pickO A obs W o) true w3 _ (fun w4 hF4 => h.pk' hW1 o hD hF4) (fun w4 hF4 => ?_)
      have hD4 := hD.step hF4
      rw [← ep]
      refine (dShade D W Lg cls _ bits _ _ m ob.p ob.k ob.a ob.m ob.n (G ob.p) (qix ob.q cls.length) (A ob.q) F1 F2 w4 hD4.dh (hD4.ob.get ob hob) hm hD.q.n (clsIx_q hq) (rowsOf_q A hk) hF hpF (by omega) hrl.2.1 hrl.2.2.1 hD.q.svB).mono ?_
      rintro e w5 ⟨rfl, hdh, hF5⟩
      rw [← rowsOf_upq A hk] at hdh
      have hob5 := hD4.ob.upd (w' := w5) (wd' := s'.wd) (f := fun o => { o with m := s.parity }) h.pg.pi.one (fun o ho => hF5.blk (hD4.ob.blk o ho).2 ⟨by decide, by decide, by decide⟩ (nomap hD4.dh.im (hD4.ob.blk o ho).2)) hob rfl rfl hw1 rfl
      refine ⟨rfl, docFin hP hD hF4 hF5.g ?_ hob5 (by rw [hS.st.edge, hS.st.x]; exact h.same) h.bl⟩
      rw [hS.st.top, hS.st.parity]
      exact hdh

theorem jNext {w0 w : World} {L : HL} {D : DL} {W Lg : Int} {cls : List Int} {s : HS} {A : Rg} {z : Int → Int} {bits : List Bool} {m : List (Int × Value)} {obs : List Ob} {G : Int → Nat} (h : JG w0 w L D W Lg cls s A z bits m obs G) (hW1 : 1 ≤ W) (o a b n wd : Int) :
    Calls Tryz.prog 9 #[.pointer (some ⟨L.hb, 0, none⟩), .pointer (some ⟨D.mb, 0, none⟩), actV 5 o a b n wd] w (JPost w0 L D W Lg cls s A bits m obs G (actV 5 o a b n wd)) := by
  have hi := h.pg.pi.hi
  by_cases hno : NoG A
  · refine (lawDo5n L.hb D.mb o a b n wd (pickO A obs W o) 0 w _ (fun w1 hF1 => h.pk hW1 o hF1) (fun w1 hF1 => ?_)).mono (JPost.mk h rfl (A' := A) (z' := z) (obs' := obs) (s' := s) (L' := L) (fun w3 hP hD => ?_))
    · refine (hNextRows L s A z w1 (h.step hF1).pg.hr hi).mono ?_
      rintro e w2 ⟨hf, ⟨rfl, hH, -⟩ | ⟨q, G0, c, hG, -⟩⟩
      · exact ⟨rfl, lawFin h hF1 (hf.here abfp) hH h.pg.pi rfl rfl rfl⟩
      · rw [hno q] at hG; simp at hG
    · refine docDo5n D.mb o a b n wd (pickO A obs W o) 0 w3 _ (fun w4 hF4 => h.pk' hW1 o hD hF4) (fun w4 hF4 => ?_)
      have hD4 := hD.step hF4
      refine (dNext D W Lg cls _ bits _ _ m w4 hD4.dh hD.q.svB hD.q.n (fun R hR => by obtain ⟨q, _, rfl⟩ := mem_rowsOf hR; exact (hi.rowLen q).2.2.1) 0 false (.inl ⟨rfl, rfl, fun R hR => by obtain ⟨q, _, rfl⟩ := mem_rowsOf hR; exact hno q⟩)).mono ?_
      rintro e w5 ⟨rfl, hdh, hF5⟩
      exact ⟨rfl, docFin hP hD hF4 hF5.g hdh (hD4.ob.frH hF5 hD4.dh.im (fun _ _ _ _ => rfl)) h.same h.bl⟩
  · refine (lawDo5y L.hb D.mb o a b n wd (pickO A obs W o) 0 w (fun v0 w2 => ∃ q G0, (A q).G = G0 ++ [v0] ∧ (∀ q', Ahead q' q → (A q').G = []) ∧ PG w0 w2 L D.B W Lg cls (s.tick 1) A z obs ∧ DG w0 w2 D W Lg cls (rowsOf A cls.length) bits s.top s.parity m obs G s.wd)
      (fun v0 w4 => ∃ q G0 s', (A q).G = G0 ++ [v0] ∧ (∀ q', Ahead q' q → (A q').G = []) ∧ Dne (s.tick 1) s' A z q v0 G0 ∧ PG w0 w4 L D.B W Lg cls s' (A.up q ⟨(A q).W, (A q).F, G0, v0 :: (A q).B⟩) z obs ∧ DG w0 w4 D W Lg cls (rowsOf A cls.length) bits s.top s.parity m obs G s.wd) (fun w1 hF1 => h.pk hW1 o hF1) (fun w1 hF1 => ?_) (fun v0 w2 w3 hQ hB => ?_)).mono ?_
    · refine (hNextRows L s A z w1 (h.step hF1).pg.hr hi).mono ?_
      rintro e w2 ⟨hf, ⟨-, -, hn⟩ | ⟨q, G0, c, hG, hah, rfl, hH⟩⟩
      · exact absurd hn hno
      · obtain ⟨g1, g2⟩ := lawFin h hF1 (hf.here abfp) hH (h.pg.pi.tick 1) rfl rfl rfl
        exact ⟨c, rfl, ⟨q, G0, hG, hah, g1⟩, g2⟩
    · obtain ⟨q, G0, hG, hah, hP, hD⟩ := hQ
      have hP3 := hP.frB hB h.pg.f0.size h.dg.dh.rs.le
      have hD3 := hD.frB hB h.pg.f0.size
      obtain ⟨ob, hob, e1, e2⟩ := hP.pi.all q v0 (.inr (.inl (by rw [hG]; simp)))
      have hin := hP.pi.inn ob hob
      have hbd := hin.bound hP.pi.hi
      have hlow := hin.low hP.pi.hi
      subst e1
      subst e2
      refine (hDoneAny L (s.tick 1) A z ob.q ob.p ob.p ob.k ob.n ob.a ob.m G0 w3 hP3.hr hP.pi.hi hG (by omega) (by omega) hlow hin.head hin.hd hin.ring).mono ?_
      rintro e w4 ⟨rfl, ⟨s', hH, hN⟩, hf⟩
      have hpi := hP.pi.done hG hN
      exact ⟨rfl, ⟨ob.q, G0, s', hG, hah, hN, hP3.of hf hH hpi hN.st.cls hN.st.len hN.st.edge, hD3.prog hP3.hr hP3.low hP3.lay hf⟩, hP3.kp hf h.dg.dh.rs.le⟩
    · rintro e w1 ⟨v0, rfl, w2, ⟨q, G0, s', hG, hah, hN, hPD⟩, hB⟩
      refine JPost.mk h rfl (A' := A.up q ⟨(A q).W, (A q).F, G0, v0 :: (A q).B⟩) (z' := z) (obs' := obs) (s' := s') (L' := L) (fun w3 hP hD => ?_) _ _ ⟨rfl, w2, hPD, hB⟩
      obtain ⟨ob, hob, e1, e2⟩ := h.pg.pi.all q v0 (.inr (.inl (by rw [hG]; simp)))
      have hq := h.pg.qs ob hob
      have hk : Key cls.length q := by rw [← e1]; exact qOf_key hq
      have hrl := hi.rowLen q
      refine docDo5y D.mb o a b n wd (pickO A obs W o) v0 0 w3 (fun w5 => PG w0 w5 L D.B W Lg cls s' (A.up q ⟨(A q).W, (A q).F, G0, v0 :: (A q).B⟩) z obs ∧ DG w0 w5 D W Lg cls (rowsOf A cls.length) bits s.top s.parity m obs G s.wd) _ (fun w4 hF4 => h.pk' hW1 o hD hF4) (fun w4 hF4 => ?_) (fun w5 w6 hQ hB6 => ?_)
      · have hD4 := hD.step hF4
        have hP4 := hP.step hF4
        refine (dNext D W Lg cls _ bits _ _ m w4 hD4.dh hD.q.svB hD.q.n (fun R hR => by obtain ⟨q, _, rfl⟩ := mem_rowsOf hR; exact (hi.rowLen q).2.2.1) v0 true (.inr ⟨rfl, qix q cls.length, A q, G0, rowsOf_q A hk, hG, fun i R' hi' hR' => ?_⟩)).mono ?_
        · have hin : i < cls.length := by
            cases q with
            | none => exact hi'
            | some j => have := hk j rfl; have : i < j := hi'; omega
          rw [rowsOf_some A hin] at hR'
          cases hR'
          refine hah (some i) ?_
          cases q with
          | none => trivial
          | some j => exact hi'
        · rintro e w5 ⟨rfl, hdh, hF5⟩
          exact ⟨rfl, ⟨hP4.doc hF5.g hD.q.dB hD4.dh.im, ⟨hF5.g.old hD4.f0 hD.q.dB, hD.q, hdh, hD4.ob.frH hF5 hD4.dh.im (fun _ _ _ _ => rfl)⟩⟩, hF5.g.kp hD4.dh.im⟩
      · obtain ⟨hP5, hD5⟩ := hQ
        have hD6 := hD5.frB hB6 hD.f0.size
        have hP6 := hP5.frB hB6 hD.f0.size hD.dh.rs.le
        subst e2
        refine (dDone D W Lg cls _ bits _ _ m ob.p ob.k ob.a ob.m ob.n (G ob.p) (qix q cls.length) (A q) G0 ob.p w6 hD6.dh (hD6.ob.get ob hob) hD.q.n (by rw [← e1]; exact clsIx_q hq) (rowsOf_q A hk) hG hrl.2.2.1 hrl.2.2.2 hD.q.svB).mono ?_
        rintro e w7 ⟨rfl, hdh, hF7⟩
        rw [← rowsOf_upq A hk] at hdh
        have hwd : ∀ ob : Ob, s'.wd ob = s.wd ob := fun ob => by
          funext j
          unfold HS.wd
          rw [hN.ws]; rfl
        obtain ⟨g1, g2⟩ := docFin (L' := L) (s' := s') (z' := z) hP6 hD6 (Fr.refl [] w6) hF7.g (by rw [hN.st.top, hN.st.parity]; exact hdh) (hD6.ob.frH hF7 hD6.dh.im (fun o _ _ _ => by rw [hwd o])) (by rw [hN.st.edge, hN.st.x]; exact h.same) h.bl
        exact ⟨rfl, g1, hF7.g.kp hD6.dh.im⟩

theorem rowsOf_begun (A : Rg) (n : Nat) : rowsOf A.begun n = (rowsOf A n).map Rows.bgn := by
  unfold rowsOf rowsTo
  rw [List.map_append, List.map_map]
  rfl
theorem rowsOf_ended (A : Rg) (n : Nat) : rowsOf A.ended n = (rowsOf A n).map Rows.edd := by
  unfold rowsOf rowsTo
  rw [List.map_append, List.map_map]
  rfl
theorem out_nil {s : HS} {A : Rg} {z : Int → Int} (h : HI s A z) {q : Option Nat} (hk : ¬ Key s.cls.length q) : (A q).F = [] ∧ (A q).G = [] := by
  cases q with
  | none => exact absurd (fun k e => by cases e) hk
  | some j =>
    have h1 : s.rs.length ≤ j := by
      rw [h.nrs]
      rcases Nat.lt_or_ge j s.cls.length with h2 | h2
      · exact absurd (fun k e => by cases e; exact h2) hk
      · exact h2
    have h2 := h.out j h1
    simp [Rows.all] at h2
    exact ⟨h2.2.1, h2.2.2.1⟩
theorem jBegin {w0 w : World} {L : HL} {D : DL} {W Lg : Int} {cls : List Int} {s : HS} {A : Rg} {z : Int → Int} {bits : List Bool} {m : List (Int × Value)} {obs : List Ob} {G : Int → Nat} (h : JG w0 w L D W Lg cls s A z bits m obs G) (hW1 : 1 ≤ W) (o a b n wd : Int) :
    Calls Tryz.prog 9 #[.pointer (some ⟨L.hb, 0, none⟩), .pointer (some ⟨D.mb, 0, none⟩), actV 6 o a b n wd] w (JPost w0 L D W Lg cls s A bits m obs G (actV 6 o a b n wd)) := by
  have hi := h.pg.pi.hi
  have hpar := h.pg.pi.par
  by_cases hno : NoFG A
  · refine (lawDo6 L.hb D.mb o a b n wd (pickO A obs W o) 0 w (fun w2 => ∃ s' : HS, (s'.ws = s.ws ∧ s'.edge = s.edge ∧ s'.top = s.top ∧ s'.x = s.x ∧ s'.parity = 1 - s.parity) ∧ PG w0 w2 L D.B W Lg cls s' A.begun z obs ∧ DG w0 w2 D W Lg cls (rowsOf A cls.length) bits s.top s.parity m obs G s.wd) (fun w1 hF1 => h.pk hW1 o hF1) (fun w1 hF1 => ?_)).mono ?_
    · refine (hBeginRows L s A z w1 (h.step hF1).pg.hr hi (by omega) (by omega)).mono ?_
      rintro e w2 ⟨hf, ⟨hn, -⟩ | ⟨-, rfl, s', hH, hI', e1, e2, e3, e4, e5, e6, e7⟩⟩
      · exact absurd hno hn
      · obtain ⟨g1, g2⟩ := lawFin h hF1 hf hH (h.pg.pi.begun hno hI' e1 e2 e3 e5 e7) e2 (by rw [e1]) e3
        exact ⟨rfl, ⟨s', ⟨e1, e3, e4, e5, e7⟩, g1⟩, g2⟩
    · rintro e w1 ⟨rfl, w2, ⟨s', ⟨e1, e3, e4, e5, e7⟩, hPD⟩, hB⟩
      refine JPost.mk h rfl (A' := A.begun) (z' := z) (obs' := obs) (s' := s') (L' := L) (fun w3 hP hD => ?_) _ _ ⟨rfl, w2, hPD, hB⟩
      refine docDo6 D.mb o a b n wd (pickO A obs W o) 0 w3 _ (fun w4 hF4 => h.pk' hW1 o hD hF4) (fun w4 hF4 => ?_)
      have hD4 := hD.step hF4
      refine (dBegin D W Lg cls _ bits _ _ m w4 hD4.dh hD.q.svB hD.q.n hpar (fun R hR => by obtain ⟨q, _, rfl⟩ := mem_rowsOf hR; exact hno q)).mono ?_
      rintro e w5 ⟨rfl, hdh, hF5⟩
      exact ⟨rfl, docFin hP hD hF4 hF5.g (by rw [rowsOf_begun, e4, e7]; exact hdh) (hD4.ob.frH hF5 hD4.dh.im (fun ob _ j _ => by unfold HS.wd; rw [e1])) (by rw [e3, e5]; exact h.same) h.bl⟩
  · refine (lawDo6 L.hb D.mb o a b n wd (pickO A obs W o) 18 w _ (fun w1 hF1 => h.pk hW1 o hF1) (fun w1 hF1 => ?_)).mono (JPost.mk h rfl (A' := A) (z' := z) (obs' := obs) (s' := s) (L' := L) (fun w3 hP hD => ?_))
    · refine (hBeginRows L s A z w1 (h.step hF1).pg.hr hi (by omega) (by omega)).mono ?_
      rintro e w2 ⟨hf, ⟨-, rfl, hH⟩ | ⟨hn, -⟩⟩
      · exact ⟨rfl, lawFin h hF1 hf hH h.pg.pi rfl rfl rfl⟩
      · exact absurd hn hno
    · refine docDo6 D.mb o a b n wd (pickO A obs W o) 18 w3 _ (fun w4 hF4 => h.pk' hW1 o hD hF4) (fun w4 hF4 => ?_)
      have hD4 := hD.step hF4
      refine (dBeginNo D W Lg cls _ bits _ _ m w4 hD4.dh (fun R hR => by obtain ⟨q, _, rfl⟩ := mem_rowsOf hR; exact ⟨(hi.rowLen q).2.2.1, (hi.rowLen q).2.1⟩) hD.q.n (fun hall => hno (fun q => ?_))).mono ?_
      · by_cases hk : Key cls.length q
        · exact hall _ (rowsOf_mem A hk)
        · exact out_nil hi (by rw [h.pg.ecls]; exact hk)
      · rintro e w5 ⟨rfl, hF5⟩
        exact ⟨rfl, docFin hP hD hF4 (FrG.of hF5) (hD4.dh.step hF5) (hD4.ob.step hF5) h.same h.bl⟩

theorem fromTo_mem {A : Rg} {n : Nat} {x : Int} : x ∈ fromTo (rowsOf A n) n ↔ ∃ j, j < n ∧ x ∈ (A (some j)).F := by
  have : (rowsOf A n).take n = rowsTo A n := by
    unfold rowsOf
    exact List.take_left' (rowsTo_len A n)
  unfold fromTo
  rw [this]
  unfold rowsTo
  simp only [List.map_map, List.mem_flatten, List.mem_map, List.mem_range, Function.comp]
  constructor
  · rintro ⟨l, ⟨j, hj, rfl⟩, hx⟩; exact ⟨j, hj, hx⟩
  · rintro ⟨j, hj, hx⟩; exact ⟨_, ⟨j, hj, rfl⟩, hx⟩
theorem jEnd {w0 w : World} {L : HL} {D : DL} {W Lg : Int} {cls : List Int} {s : HS} {A : Rg} {z : Int → Int} {bits : List Bool} {m : List (Int × Value)} {obs : List Ob} {G : Int → Nat} (h : JG w0 w L D W Lg cls s A z bits m obs G) (hW1 : 1 ≤ W) (o a b n wd : Int) :
    Calls Tryz.prog 9 #[.pointer (some ⟨L.hb, 0, none⟩), .pointer (some ⟨D.mb, 0, none⟩), actV 7 o a b n wd] w (JPost w0 L D W Lg cls s A bits m obs G (actV 7 o a b n wd)) := by
  have hi := h.pg.pi.hi
  by_cases hno : NoG A
  · refine (lawDo7 L.hb D.mb o a b n wd (pickO A obs W o) 0 w (fun w2 => ∃ s' : HS, (s'.ws = s.ws ∧ s'.edge = s.edge ∧ s'.top = s.top ∧ s'.x = s.x ∧ s'.parity = s.parity) ∧ PG w0 w2 L D.B W Lg cls s' A.ended z (endO A obs) ∧ DG w0 w2 D W Lg cls (rowsOf A cls.length) bits s.top s.parity m obs G s.wd) (fun w1 hF1 => h.pk hW1 o hF1) (fun w1 hF1 => ?_)).mono ?_
    · refine (hEndRows L s A z w1 (h.step hF1).pg.hr hi).mono ?_
      rintro e w2 ⟨hf, ⟨hn, -⟩ | ⟨-, rfl, s', hH, hI', e1, e2, e3, e4, e5, e6, e7⟩⟩
      · exact absurd hno hn
      · obtain ⟨g1, g2⟩ := lawFin h hF1 hf hH (h.pg.pi.ended hno hI' e1 e2 e3 e5 e7) e2 (by rw [e1]) e3
        exact ⟨rfl, ⟨s', ⟨e1, e3, e4, e5, e7⟩, g1⟩, g2⟩
    · rintro e w1 ⟨rfl, w2, ⟨s', ⟨e1, e3, e4, e5, e7⟩, hPD⟩, hB⟩
      refine JPost.mk h rfl (A' := A.ended) (z' := z) (obs' := endO A obs) (s' := s') (L' := L) (fun w3 hP hD => ?_) _ _ ⟨rfl, w2, hPD, hB⟩
      refine docDo7 D.mb o a b n wd (pickO A obs W o) 0 w3 _ (fun w4 hF4 => h.pk' hW1 o hD hF4) (fun w4 hF4 => ?_)
      have hD4 := hD.step hF4
      refine (dEnd D W Lg cls _ bits _ _ m w4 hD4.dh hD.q.svB hD.q.n (fun R hR => by obtain ⟨q, _, rfl⟩ := mem_rowsOf hR; exact hno q) (fun R hR => by obtain ⟨q, _, rfl⟩ := mem_rowsOf hR; exact ⟨(hi.rowLen q).1, (hi.rowLen q).2.1⟩)).mono ?_
      rintro e w5 ⟨rfl, hdh, hF5⟩
      refine ⟨rfl, docFin hP hD hF4 hF5.g (by rw [rowsOf_ended, e4, e7]; exact hdh) (hD4.ob.dels _ (fun ob => ?_) (fun ob hob => hF5.blk (hD4.ob.blk ob (mem_endO.1 hob).1).2 ⟨by decide, by decide, by decide⟩ (nomap hD4.dh.im (hD4.ob.blk ob (mem_endO.1 hob).1).2)) (fun ob _ j _ => by unfold HS.wd; rw [e1])) (by rw [e3, e5]; exact h.same) h.bl⟩
      rw [mem_endO]
      refine and_congr_right (fun hob => ?_)
      rw [fromTo_mem]
      constructor
      · rintro h1 ⟨j, hj, h2⟩
        obtain ⟨ob', hob', k1, k2⟩ := h.pg.pi.all (some j) ob.p (.inl h2)
        obtain rfl := h.pg.pi.one ob' hob' ob hob k2
        rcases h1 with h1 | h1
        · rw [k1] at h1; cases h1
        · rw [k1] at h1; exact h1 h2
      · intro h1
        cases hq : ob.q with
        | none => exact .inl rfl
        | some j =>
          refine .inr (fun hc => h1 ⟨j, qOf_key (h.pg.qs ob hob) j hq, hc⟩)
  · refine (lawDo7 L.hb D.mb o a b n wd (pickO A obs W o) 18 w _ (fun w1 hF1 => h.pk hW1 o hF1) (fun w1 hF1 => ?_)).mono (JPost.mk h rfl (A' := A) (z' := z) (obs' := obs) (s' := s) (L' := L) (fun w3 hP hD => ?_))
    · refine (hEndRows L s A z w1 (h.step hF1).pg.hr hi).mono ?_
      rintro e w2 ⟨hf, ⟨-, rfl, hH⟩ | ⟨hn, -⟩⟩
      · exact ⟨rfl, lawFin h hF1 hf hH h.pg.pi rfl rfl rfl⟩
      · exact absurd hn hno
    · refine docDo7 D.mb o a b n wd (pickO A obs W o) 18 w3 _ (fun w4 hF4 => h.pk' hW1 o hD hF4) (fun w4 hF4 => ?_)
      have hD4 := hD.step hF4
      refine (dEndNo D W Lg cls _ bits _ _ m w4 hD4.dh hD.q.n (fun hall => hno (fun q => ?_))).mono ?_
      · by_cases hk : Key cls.length q
        · exact hall _ (rowsOf_mem A hk)
        · exact (out_nil hi (by rw [h.pg.ecls]; exact hk)).2
      · rintro e w5 ⟨rfl, hF5⟩
        exact ⟨rfl, docFin hP hD hF4 (FrG.of hF5) (hD4.dh.step hF5) (hD4.ob.step hF5) h.same h.bl⟩

theorem jSweep {w0 w : World} {L : HL} {D : DL} {W Lg : Int} {cls : List Int} {s : HS} {A : Rg} {z : Int → Int} {bits : List Bool} {m : List (Int × Value)} {obs : List Ob} {G : Int → Nat} (h : JG w0 w L D W Lg cls s A z bits m obs G) (hW1 : 1 ≤ W) (kd o a b n wd : Int) (hk0 : (kd == 0) = false) (hk1 : (kd == 1) = false) (hk2 : (kd == 2) = false) (hk3 : (kd == 3) = false) (hk4 : (kd == 4) = false) (hk5 : (kd == 5) = false) (hk6 : (kd == 6) = false) (hk7 : (kd == 7) = false) :
    Calls Tryz.prog 9 #[.pointer (some ⟨L.hb, 0, none⟩), .pointer (some ⟨D.mb, 0, none⟩), actV kd o a b n wd] w (JPost w0 L D W Lg cls s A bits m obs G (actV kd o a b n wd)) := by
  have hi := h.pg.pi.hi
  cases hW : (A none).W with
  | nil =>
    refine (lawDo8 L.hb D.mb kd o a b n wd (pickO A obs W o) false hk0 hk1 hk2 hk3 hk4 hk5 hk6 hk7 w _ (fun w1 hF1 => h.pk hW1 o hF1) (fun w1 hF1 => ?_)).mono (JPost.mk h rfl (A' := A) (z' := z) (obs' := obs) (s' := s) (L' := L) (fun w3 hP hD => ?_))
    · refine (hSweepNo L s A z w1 (h.step hF1).pg.hr hi hW).mono ?_
      rintro e w2 ⟨rfl, rfl⟩
      exact ⟨rfl, lawFin h hF1 (Fr.refl _ w1) (h.step hF1).pg.hr h.pg.pi rfl rfl rfl⟩
    · refine docDo8 D.mb kd o a b n wd (pickO A obs W o) false hk0 hk1 hk2 hk3 hk4 hk5 hk6 hk7 w3 _ (fun w4 hF4 => h.pk' hW1 o hD hF4) (fun w4 hF4 => ?_)
      have hD4 := hD.step hF4
      refine (dSweepNo D W Lg cls _ bits _ _ m (A none) w4 hD4.dh hD.q.svB hD.q.n (rowsOf_none A _) hW).mono ?_
      rintro e w5 ⟨rfl, hdh, hF5⟩
      exact ⟨rfl, docFin hP hD hF4 hF5.g hdh (hD4.ob.frH hF5 hD4.dh.im (fun _ _ _ _ => rfl)) h.same h.bl⟩
  | cons c Wt =>
    obtain ⟨ob, hob, hq0, rfl⟩ := h.pg.pi.all none c (.inr (.inr (.inr ⟨rfl, by rw [hW]; simp⟩)))
    have hin := h.pg.pi.inn ob hob
    have hroom := hin.room
    rw [hq0] at hroom
    simp only [ln] at hroom
    have hmem : ob.p ∈ (A none).all := mem_rows.2 (.inl (by rw [hW]; simp))
    obtain ⟨l1, l2⟩ := hi.linn ob.p hmem
    have hed := h.pg.edge
    have hew := h.pg.ew
    have hn31 := hin.hd.s1
    have hbl := h.bl
    have he0 := hi.top1
    have he1 := hi.top2
    obtain ⟨b0, hb0⟩ := h.pg.xl (by omega)
    have hoff : Off ob.p (ob.n + 3) s.x.l := (hi.swept hW (by omega) hroom 0).2.1
    obtain ⟨kk, hkk⟩ : ∃ kk : Nat, ob.p = W - Lg + kk := ⟨(ob.p - (W - Lg)).toNat, by omega⟩
    have hsm := h.same
    rw [hed] at hsm
    have hn3 : ((ob.n + 3 : Nat) : Int) = (ob.n : Int) + 3 := by omega
    have hfree : ∀ j, j < ob.n + 3 → bitAt bits (kk + j) = false := by
      intro j hj
      rw [Bool.eq_false_iff]
      intro hc
      obtain ⟨x, hx, g1, g2⟩ := (hsm.bit (kk + j) (by omega)).1 hc
      have := hoff x hx
      omega
    have hgive := hsm.give (k := kk) (n := ob.n + 3) (by omega) (by omega) (by rw [hn3, ← hkk]; exact hoff)
    rw [hn3, ← hkk] at hgive
    refine (lawDo8 L.hb D.mb kd o a b n wd (pickO A obs W o) true hk0 hk1 hk2 hk3 hk4 hk5 hk6 hk7 w (fun w2 => ∃ b1 u', PG w0 w2 (L.newX b1) D.B W Lg cls (s.swept ob.p (ob.n + 3) u') (A.up none ⟨Wt, (A none).F, (A none).G, (A none).B⟩) z (delO obs ob.p) ∧ DG w0 w2 D W Lg cls (rowsOf A cls.length) bits s.top s.parity m obs G s.wd) (fun w1 hF1 => h.pk hW1 o hF1) (fun w1 hF1 => ?_)).mono ?_
    · have h1 := h.step hF1
      refine (hSweepYes L s A z ob.p Wt ob.k ob.n ob.a ob.m b0 w1 h1.pg.hr hi h.pg.pi.xok hb0 hW hin.head hin.hd hroom).mono ?_
      rintro e w2 ⟨rfl, ⟨b1, u', hb1, hH⟩, hf⟩
      obtain ⟨hpi, -⟩ := h.pg.pi.swept hW (show (1 : Int) ≤ ob.n + 3 by omega) hroom u'
      have hdg := h1.dg.prog h1.pg.hr h1.pg.low h1.pg.lay hf
      have hnd := h1.pg.hr.nd
      have e0 : L.all = [L.cb, L.rsb, L.hb, L.ab, L.wb, L.lb, L.xb] ++ b0 :: L.rbs := by simp [HL.all, HL.fp, hb0]
      have e1 : (L.newX b1).all = [L.cb, L.rsb, L.hb, L.ab, L.wb, L.lb, L.xb] ++ b1 :: L.rbs := by simp [HL.all, HL.fp, HL.newX]
      have hne : ∀ x ∈ [L.cb, L.rsb, L.hb, L.ab, L.wb, L.lb, L.xb] ++ L.rbs, x ∈ L.all ∧ x ∉ L.xlbs := by
        intro x hx
        refine ⟨?_, fun hc => ?_⟩
        · rw [e0]
          rcases List.mem_append.1 hx with hx | hx
          · exact List.mem_append.2 (.inl hx)
          · exact List.mem_append.2 (.inr (List.mem_cons_of_mem _ hx))
        · rw [hb0] at hc
          obtain rfl := List.mem_singleton.1 hc
          rw [e0, List.perm_middle.nodup_iff, List.nodup_cons] at hnd
          exact hnd.1 hx
      have hsplit : ∀ x ∈ (L.newX b1).all, x = b1 ∨ x ∈ [L.cb, L.rsb, L.hb, L.ab, L.wb, L.lb, L.xb] ++ L.rbs := by
        intro x hx
        rw [e1] at hx
        rcases List.mem_append.1 hx with hx | hx
        · exact .inr (List.mem_append.2 (.inl hx))
        · rcases List.mem_cons.1 hx with hx | hx
          · exact .inl hx
          · exact .inr (List.mem_append.2 (.inr hx))
      refine ⟨rfl, ⟨b1, u', ⟨h1.pg.f0.step hf (fun x hx => .inr (h.pg.low x (fpAll hx))), fun x hx => ?_, fun x hx hnx => ?_, hH, hpi, h.pg.ecls, by rw [show (s.swept ob.p (ob.n + 3) u').ws.length = s.ws.length from ct_len _ _]; exact hew, hed, fun _ => ⟨b1, rfl⟩⟩, hdg⟩, h1.pg.kp hf h.dg.dh.rs.le⟩
      · rcases hsplit x hx with rfl | hx
        · rcases hb1 with rfl | hb1
          · exact h.pg.low _ (by rw [e0]; simp)
          · have := h1.pg.f0.size; omega
        · exact h.pg.low x (hne x hx).1
      · rcases hsplit x hx with rfl | hx
        · exact absurd (show x ∈ (L.newX x).xlbs by simp [HL.newX]) hnx
        · exact h.pg.lay x (hne x hx).1 (hne x hx).2
    · rintro e w1 ⟨rfl, w2, ⟨b1, u', hPD⟩, hB⟩
      obtain ⟨-, hw1⟩ := h.pg.pi.swept hW (show (1 : Int) ≤ ob.n + 3 by omega) hroom u'
      refine JPost.mk h (L' := L.newX b1) rfl (A' := A.up none ⟨Wt, (A none).F, (A none).G, (A none).B⟩) (z' := z) (obs' := delO obs ob.p) (s' := s.swept ob.p (ob.n + 3) u') (fun w3 hP hD => ?_) _ _ ⟨rfl, w2, hPD, hB⟩
      refine docDo8 D.mb kd o a b n wd (pickO A obs W o) true hk0 hk1 hk2 hk3 hk4 hk5 hk6 hk7 w3 _ (fun w4 hF4 => h.pk' hW1 o hD hF4) (fun w4 hF4 => ?_)
      have hD4 := hD.step hF4
      have hqW := hD.q.W
      refine (dSweep D W Lg cls _ bits _ _ m (A none) ob.p Wt ob.k ob.a ob.m ob.n (G ob.p) kk w4 hD4.dh hD.q.svB hD.q.n (rowsOf_none A _) hW (hi.rowLen none).1 (hD4.ob.get ob hob) (by omega) hkk (by omega) hfree (by omega) (by omega)).mono ?_
      rintro e w5 ⟨rfl, hdh, hF5⟩
      rw [← rowsOf_up_none] at hdh
      refine ⟨rfl, docFin hP hD hF4 hF5.g hdh (hD4.ob.dels [ob.p] (fun o' => ?_) (fun o' ho' => hF5.blk (hD4.ob.blk o' (mem_delO.1 ho').1).2 ⟨by decide, by decide, by decide⟩ (nomap hD4.dh.im (hD4.ob.blk o' (mem_delO.1 ho').1).2)) hw1) ?_ (by rw [setT_len]; exact hbl)⟩
      · rw [mem_delO]; simp
      · show Same3 s.edge (setT bits kk (ob.n + 3)) (giveAt s.x.l (spotOf s.x.l ob.p) ob.p (ob.n + 3))
        rw [hed]
        exact hgive

theorem jAlloc {w0 w : World} {L : HL} {D : DL} {W Lg : Int} {cls : List Int} {s : HS} {A : Rg} {z : Int → Int} {bits : List Bool} {m : List (Int × Value)} {obs : List Ob} {G : Int → Nat} (h : JG w0 w L D W Lg cls s A z bits m obs G) (hW1 : 1 ≤ W) (o a b n wd : Int) :
    Calls Tryz.prog 9 #[.pointer (some ⟨L.hb, 0, none⟩), .pointer (some ⟨D.mb, 0, none⟩), actV 0 o a b n wd] w (JPost w0 L D W Lg cls s A bits m obs G (actV 0 o a b n wd)) := by
  have hi := h.pg.pi.hi
  have hpar := h.pg.pi.par
  by_cases he : dPackE a n b = 0
  · have hr : (0 ≤ a ∧ a ≤ 10) ∧ (0 ≤ n ∧ n ≤ 31) ∧ 0 ≤ b ∧ b ≤ 16777215 := by
      unfold dPackE at he
      by_cases h2 : a < 0 ∨ 10 < a
      · rw [if_pos h2] at he; omega
      · rw [if_neg h2] at he
        by_cases h3 : n < 0 ∨ 31 < n ∨ b < 0 ∨ 16777215 < b
        · rw [if_pos h3] at he; omega
        · omega
    obtain ⟨nn, rfl⟩ := Int.eq_ofNat_of_zero_le hr.2.1.1
    have hd : Hd a nn b s.parity := ⟨by omega, by omega, by omega, by omega, by omega, by omega, by omega, by omega⟩
    refine (lawDo0 L.hb D.mb o a b nn wd (pickO A obs W o) w (fun v0 er w2 => (v0 = 0 ∧ er = 2 ∧ NoCell s A nn ∧ PG w0 w2 L D.B W Lg cls s A z obs ∧ DG w0 w2 D W Lg cls (rowsOf A cls.length) bits s.top s.parity m obs G s.wd) ∨
        (∃ q s' A' z', er = 0 ∧ Alc s s' A A' z z' q v0 (packed a nn b s.parity) nn ∧ How s s' A z z' q v0 nn ∧ PG w0 w2 L D.B W Lg cls s' A' z' (obs ++ [⟨q, v0, a, nn, b, s.parity⟩]) ∧ DG w0 w2 D W Lg cls (rowsOf A cls.length) bits s.top s.parity m obs G s.wd)) (fun w1 hF1 => h.pk hW1 o hF1) (fun w1 hF1 => ?_)).mono ?_
    · refine (hAllocX L s A z a b nn w1 (h.step hF1).pg.hr hi hd).mono ?_
      rintro e w2 ⟨hf, ⟨rfl, hH, hno⟩ | ⟨q, p, s', A', z', rfl, hH, hA, hhow⟩⟩
      · obtain ⟨g1, g2⟩ := lawFin h hF1 hf hH h.pg.pi rfl rfl rfl
        exact ⟨0, 2, rfl, .inl ⟨rfl, rfl, hno, g1⟩, g2⟩
      · obtain ⟨hpi, -⟩ := h.pg.pi.alloc hA hhow hd
        obtain ⟨g1, g2⟩ := lawFin h hF1 hf hH hpi hA.cls hA.len hA.edge
        exact ⟨p, 0, rfl, .inr ⟨q, s', A', z', rfl, hA, hhow, g1⟩, g2⟩
    · rintro e w1 ⟨v0, er, rfl, w2, ⟨rfl, rfl, hno, hPD⟩ | ⟨q, s', A', z', rfl, hA, hhow, hPD⟩, hB⟩
      · refine JPost.mk h rfl (A' := A) (z' := z) (obs' := obs) (s' := s) (L' := L) (fun w3 hP hD => ?_) _ _ ⟨rfl, w2, hPD, hB⟩
        refine docDo0 D.mb o a b nn wd (pickO A obs W o) 0 2 w3 _ (fun w4 hF4 => h.pk' hW1 o hD hF4) (fun w4 hF4 => ?_)
        have hD4 := hD.step hF4
        have hjh : JH w4 D W Lg cls bits m s A z := ⟨hD4.dh, hi, hD.q.svB, h.pg.ecls, hD.q.n, h.pg.edge, h.pg.ew.symm, hD.q.lg, h.same, h.bl, hpar⟩
        refine (hjh.allocNo a b nn hd hno).mono ?_
        rintro e w5 ⟨rfl, hdh, hF5⟩
        exact ⟨rfl, docFin hP hD hF4 hF5.g hdh (hD4.ob.fr0 hF5 hD4.dh.im) h.same h.bl⟩
      · obtain ⟨-, k1, k2, k3⟩ := h.pg.pi.alloc hA hhow hd
        refine JPost.mk h rfl (A' := A') (z' := z') (obs' := obs ++ [⟨q, v0, a, nn, b, s.parity⟩]) (s' := s') (L' := L) (fun w3 hP hD => ?_) _ _ ⟨rfl, w2, hPD, hB⟩
        refine docDo0 D.mb o a b nn wd (pickO A obs W o) v0 0 w3 _ (fun w4 hF4 => h.pk' hW1 o hD hF4) (fun w4 hF4 => ?_)
        have hD4 := hD.step hF4
        have hjh : JH w4 D W Lg cls bits m s A z := ⟨hD4.dh, hi, hD.q.svB, h.pg.ecls, hD.q.n, h.pg.edge, h.pg.ew.symm, hD.q.lg, h.same, h.bl, hpar⟩
        obtain ⟨bits', hbl', hs', hcall⟩ := hjh.alloc a b nn hd hA hhow
        refine hcall.mono ?_
        rintro e w5 ⟨rfl, hF5, g, hg, hdh, hgb⟩
        have hob := hD4.ob.new (w' := w5) (wd' := s'.wd) (fun ob hob => hF5.blk (hD4.ob.blk ob hob).2 ⟨by decide, by decide, by decide⟩ (nomap hD4.dh.im (hD4.ob.blk ob hob).2)) ⟨q, v0, a, nn, b, s.parity⟩ g (Nat.le_trans hD4.dh.rs.le hg) (fun ob hob => ⟨k2 ob hob, fun e => by have := (hD4.ob.blk ob hob).2.lt; omega⟩) hgb k1 k3
        exact ⟨rfl, docFin hP hD hF4 hF5.g (by rw [hA.parity] at hdh ⊢; exact hdh) hob hs' hbl'⟩
  · have her : dPackE a n b = if a < 0 ∨ 10 < a then 6 else 1 := by
      unfold dPackE at he ⊢
      by_cases h2 : a < 0 ∨ 10 < a
      · rw [if_pos h2, if_pos h2]
      · rw [if_neg h2, if_neg h2] at *
        by_cases h3 : n < 0 ∨ 31 < n ∨ b < 0 ∨ 16777215 < b
        · rw [if_pos h3]
        · rw [if_neg h3] at he; omega
    have hcond : (a < 0 ∨ 10 < a) ∨ (n < 0 ∨ 32 ≤ n) ∨ (b < 0 ∨ 16777216 ≤ b) := by
      unfold dPackE at he
      by_cases h2 : a < 0 ∨ 10 < a
      · exact .inl h2
      · rw [if_neg h2] at he
        by_cases h3 : n < 0 ∨ 31 < n ∨ b < 0 ∨ 16777215 < b
        · omega
        · rw [if_neg h3] at he; omega
    refine (lawDo0 L.hb D.mb o a b n wd (pickO A obs W o) w (fun v0 er w2 => v0 = 0 ∧ er = dPackE a n b ∧ PG w0 w2 L D.B W Lg cls s A z obs ∧ DG w0 w2 D W Lg cls (rowsOf A cls.length) bits s.top s.parity m obs G s.wd) (fun w1 hF1 => h.pk hW1 o hF1) (fun w1 hF1 => ?_)).mono ?_
    · refine (hAllocBad L s a b n w1 (h.step hF1).pg.hr (by omega) hcond).mono ?_
      rintro e w2 ⟨rfl, hH, hf⟩
      obtain ⟨g1, g2⟩ := lawFin h hF1 (hf.here (by simp)) hH h.pg.pi rfl rfl rfl
      exact ⟨0, _, by rw [her], ⟨rfl, rfl, g1⟩, g2⟩
    · rintro e w1 ⟨v0, er, rfl, w2, ⟨rfl, rfl, hPD⟩, hB⟩
      refine JPost.mk h rfl (A' := A) (z' := z) (obs' := obs) (s' := s) (L' := L) (fun w3 hP hD => ?_) _ _ ⟨rfl, w2, hPD, hB⟩
      refine docDo0 D.mb o a b n wd (pickO A obs W o) 0 (dPackE a n b) w3 _ (fun w4 hF4 => h.pk' hW1 o hD hF4) (fun w4 hF4 => ?_)
      have hD4 := hD.step hF4
      refine (dAllocBadA D W Lg cls _ bits _ _ m a b n w4 hD4.dh hpar he).mono ?_
      rintro e w5 ⟨rfl, hdh, hF5⟩
      exact ⟨rfl, docFin hP hD hF4 hF5.g hdh (hD4.ob.fr0 hF5 hD4.dh.im) h.same h.bl⟩

/-- Any call that may be. -/
theorem jDo {w0 w : World} {L : HL} {D : DL} {W Lg : Int} {cls : List Int} {s : HS} {A : Rg} {z : Int → Int} {bits : List Bool} {m : List (Int × Value)} {obs : List Ob} {G : Int → Nat} (h : JG w0 w L D W Lg cls s A z bits m obs G) (hW1 : 1 ≤ W) (kd o a b n wd : Int) (hask : askB kd (pickO A obs W o) = true) :
    Calls Tryz.prog 9 #[.pointer (some ⟨L.hb, 0, none⟩), .pointer (some ⟨D.mb, 0, none⟩), actV kd o a b n wd] w (JPost w0 L D W Lg cls s A bits m obs G (actV kd o a b n wd)) := by
  have hp : 1 ≤ kd → kd ≤ 4 → 0 < pickO A obs W o := by
    intro h1 h2
    unfold askB at hask
    simp at hask
    omega
  by_cases k0 : kd = 0
  · subst k0; exact jAlloc h hW1 o a b n wd
  by_cases k1 : kd = 1
  · subst k1; exact jGet h hW1 o a b n wd (hp (by omega) (by omega))
  by_cases k2 : kd = 2
  · subst k2; exact jSet h hW1 o a b n wd (hp (by omega) (by omega))
  by_cases k3 : kd = 3
  · subst k3; exact jBecome h hW1 o a b n wd (hp (by omega) (by omega))
  by_cases k4 : kd = 4
  · subst k4; exact jShade h hW1 o a b n wd (hp (by omega) (by omega))
  by_cases k5 : kd = 5
  · subst k5; exact jNext h hW1 o a b n wd
  by_cases k6 : kd = 6
  · subst k6; exact jBegin h hW1 o a b n wd
  by_cases k7 : kd = 7
  · subst k7; exact jEnd h hW1 o a b n wd
  exact jSweep h hW1 kd o a b n wd (by simpa using k0) (by simpa using k1) (by simpa using k2) (by simpa using k3) (by simpa using k4) (by simpa using k5) (by simpa using k6) (by simpa using k7)
end Go.Proofs.YtifillpcphiblaaGreat

namespace Go.Proofs.YtifillpcphiblaaGreat
open Go Go.Proofs Go.RowKit

/-! law06.alike. -/

theorem dSame4 (B B' : Nat) (a0 a1 a2 a3 b0 b1 b2 b3 : Value) (R : Rows) (w : World) (h : DRow w B (a0, a1, a2, a3) R) (h' : DRow w B' (b0, b1, b2, b3) R) (hl : R.all.length ≤ 65536) :
    Calls Tryz.prog 42 #[.agg #[a0, a1, a2, a3], .agg #[b0, b1, b2, b3]] w fun e w' => e = .returned (.bool true) ∧ Fr [] w w' := dSame B B' (a0, a1, a2, a3) (b0, b1, b2, b3) R w h h' hl
theorem JG.tick {w0 w w' : World} {L : HL} {D : DL} {W Lg : Int} {cls : List Int} {s : HS} {A : Rg} {z : Int → Int} {bits : List Bool} {m : List (Int × Value)} {obs : List Ob} {G : Int → Nat} (h : JG w0 w L D W Lg cls s A z bits m obs G) {k : Int} (hf : Fr L.fp w w') (hr : HRep w' L (s.tick k)) : JG w0 w' L D W Lg cls (s.tick k) A z bits m obs G := by
  obtain ⟨⟨g1, g2⟩, -⟩ := lawFin h (Fr.refl [] w) hf hr (h.pg.pi.tick k) rfl rfl rfl
  exact ⟨g1, g2, h.same, h.bl⟩
theorem hParityT (L : HL) (s : HS) (w : World) (k : Int) (hH : HRep w L (s.tick k)) :
    Calls Tryz.prog 41 #[.pointer (some ⟨L.hb, 0, none⟩)] w fun e w' => e = .returned (.int .i64 s.parity) ∧ w = w' := hParity L (s.tick k) w hH

theorem tick_tickI (s : HS) (a b : Int) : (s.tick a).tick b = s.tick (a + b) := by simp [HS.tick, Int.add_assoc]
theorem PG.keepB {w0 w w' : World} {L : HL} {B : Nat} {W Lg : Int} {cls : List Int} {s : HS} {A : Rg} {z : Int → Int} {obs : List Ob} (h : PG w0 w L B W Lg cls s A z obs) (hf : Fr L.fp w w') {b : Nat} {cs : List Value} {T : TypeId} (hb : Blk w b cs T) (hB : B ≤ b) (hT : T ≠ 115) : Blk w' b cs T := by
  refine hb.fr hf (fun hc => ?_)
  by_cases e : b ∈ L.xlbs
  · obtain ⟨cs', h3⟩ := h.hr.xblk b e
    exact blk_ne' hb h3 hT rfl
  · have := h.lay b (fpAll hc) e
    omega
theorem SegsI.at {W : World} {base n : Nat} {p : Option Addr} {c : Nat} {Rs : List Rows} (h : SegsI W base (.slice p n c) Rs) (hn : n = Rs.length) {i : Nat} {R : Rows} (hR : Rs[i]? = some R) : ∃ g v0 v1 v2 v3, p = some ⟨g, 0, none⟩ ∧ W.cell? ⟨g, i * 4, none⟩ = some v0 ∧ W.cell? ⟨g, i * 4 + 1, none⟩ = some v1 ∧ W.cell? ⟨g, i * 4 + 2, none⟩ = some v2 ∧ W.cell? ⟨g, i * 4 + 3, none⟩ = some v3 ∧ DRow W base (v0, v1, v2, v3) R := by
  subst hn
  obtain ⟨segs, h1, h2, h3⟩ := h.ex
  have hi := (List.getElem?_eq_some_iff.1 hR).1
  obtain ⟨g, hg, hc⟩ := own_cell h1 (by omega)
  obtain ⟨sg, hsg⟩ : ∃ sg, segs[i]? = some sg := ⟨_, List.getElem?_eq_getElem (by omega)⟩
  have h4 : ∀ sg ∈ segs, sg.length = 4 := by
    intro sg hs
    obtain ⟨k, hk, rfl⟩ := List.getElem_of_mem hs
    obtain ⟨v0, v1, v2, v3, e, _⟩ := (h3 k _ Rs[k] (List.getElem?_eq_getElem hk) (List.getElem?_eq_getElem (by omega))).ex
    have := congrArg (fun v : Value => match v with | .agg a => a.size | _ => 0) e
    simpa using this
  obtain ⟨v0, v1, v2, v3, e, g0, g1, g2, g3⟩ := (h3 i sg R hsg hR).ex
  have e2 : sg = [v0, v1, v2, v3] := by
    have := congrArg (fun v : Value => match v with | .agg a => a.toList | _ => []) e
    simpa using this
  refine ⟨g, v0, v1, v2, v3, hg, hc _ _ ?_, hc _ _ ?_, hc _ _ ?_, hc _ _ ?_, ⟨g0, g1, g2, g3⟩⟩
  · have := flatten4 h4 i 0 sg hsg (by decide)
    rw [Nat.add_zero] at this
    rw [this, e2]; rfl
  · rw [flatten4 h4 i 1 sg hsg (by decide), e2]; rfl
  · rw [flatten4 h4 i 2 sg hsg (by decide), e2]; rfl
  · rw [flatten4 h4 i 3 sg hsg (by decide), e2]; rfl

set_option maxRecDepth 100000 in
set_option maxHeartbeats 6400000 in
theorem lAlike {w0 w : World} {L : HL} {D : DL} {W Lg : Int} {cls : List Int} {s : HS} {A : Rg} {z : Int → Int} {bits : List Bool} {m : List (Int × Value)} {obs : List Ob} {G : Int → Nat} (h : JG w0 w L D W Lg cls s A z bits m obs G) (hW1 : 1 ≤ W) :
    Calls Tryz.prog 11 #[.pointer (some ⟨L.hb, 0, none⟩), .pointer (some ⟨D.mb, 0, none⟩)] w fun e w' => e = .returned (.bool true) ∧ ∃ k : Int, JG w0 w' L D W Lg cls (s.tick k) A z bits m obs G := by
  have hi := h.pg.pi.hi
  have hrl := fun q => hi.allLen q
  have hab : L.ab < D.B := h.pg.lay _ (by simp [HL.all, HL.fp]) (fun hc => by
    have := h.pg.hr.nd
    simp only [HL.all, HL.fp, List.nodup_cons, List.mem_cons, List.mem_append, not_or] at this
    exact this.2.2.2.1.2.2.2.1 hc)
  have hecls := h.pg.ecls
  have HI := hid hi
  have HJ := hid h
  have HRL := hid hrl
  obtain ⟨N, hN⟩ : ∃ N, N = cls.length := ⟨_, rfl⟩
  have hN100 : N ≤ 100 := by rw [hN]; exact h.dg.q.n
  have HN := hid hN
  have HE := hid hecls
  have hrr := hRings L s A z w h.pg.hr hi
  rw [hecls, ← hN] at hrr
  have HRR := hid hrr
  clear h hi hrl hN hecls hrr
  go_enter Tryz.func11, Tryz.ntmps11
  go_wp2_with fail
  refine HRR.out.mono ?_
  rintro e w1 ⟨⟨v, rfl, hS1⟩, ⟨k1, hH1⟩, hF1⟩
  obtain ⟨segs, hown, -, -⟩ := hS1.ex
  obtain ⟨vp, vc, rfl⟩ := own_shape hown
  rw [rowsTo_len] at hS1 ⊢
  have hJ1 := HJ.out.tick (hF1.here abfp) hH1
  have HS1 := hid hS1
  have hjd := hJ1.step ((Fr.refl [] w1).drew)
  obtain ⟨-, -, -, -, q8, -, -, q11⟩ := hjd.dg.dh.reads
  have hpp : (s.tick k1).parity = s.parity := rfl
  rw [hpp] at q11
  have hlen := hjd.dg.dh.len
  obtain ⟨⟨v0, v1, v2, v3⟩, hd, hc, hz, hlt, -⟩ := hjd.dg.dh.rs.at (rowsOf_none A cls.length)
  rw [← HN.out] at q8 hc
  have r0 : w1.drew.cell? ⟨D.rsb, N * 5, none⟩ = some v0 := by have := hc 0 v0 rfl; rw [Nat.mul_comm]; simpa using this
  have r1 : w1.drew.cell? ⟨D.rsb, N * 5 + 1, none⟩ = some v1 := by have := hc 1 v1 rfl; rw [Nat.mul_comm]; simpa using this
  have r2 : w1.drew.cell? ⟨D.rsb, N * 5 + 2, none⟩ = some v2 := by have := hc 2 v2 rfl; rw [Nat.mul_comm]; simpa using this
  have r3 : w1.drew.cell? ⟨D.rsb, N * 5 + 3, none⟩ = some v3 := by have := hc 3 v3 rfl; rw [Nat.mul_comm]; simpa using this
  obtain ⟨A0, c0, A1, c1, A2, c2, A3, c3, ev⟩ := hd.forms
  simp only [Prod.mk.injEq] at ev
  obtain ⟨rfl, rfl, rfl, rfl⟩ := ev
  have hmbl := hjd.dg.dh.s.lt
  have hrsl : D.rsb < w1.drew.heap.size := hlt
  have hmb : D.mb ∉ [L.ab] := by have := hjd.dg.dh.lo.1; simp; omega
  have hrs : D.rsb ∉ [L.ab] := by have := hjd.dg.dh.lo.2.1; simp; omega
  have HJD := hid hjd
  have HD := hid hd
  have hH1d := hjd.pg.hr
  have HJ1 := hid hJ1
  have hw1 : IntKind.i64.wrap ((N : Int) + 1 - 1) = (N : Int) := by rw [IntKind.wrap_i64]; omega
  have hw2 : IntKind.i64.wrap (N : Int) = (N : Int) := by rw [IntKind.wrap_i64]; omega
  have i1 : (0 : Int) ≤ (N : Int) := by omega
  have i2 : (N : Int) < (N : Int) + 1 := by omega
  have HAB := hid hab
  clear hS1 hH1 hF1 hown hJ1 hjd hd hc hz hlt hlen hpp hab
  go_upto_region 2 with fail
  go_cut [48] (fun bv wx => bv = .bool false ∧ Fr [L.ab] w1 wx ∧ Hid (∃ k : Int, JG w0 wx L D W Lg cls (s.tick k) A z bits m obs G))
  case first =>
    go_region_held3 (fun w' => w'.cell? ⟨D.mb, 8, none⟩ = some (.slice (some ⟨D.rsb, 0, none⟩) (N + 1) D.cap) ∧ w'.cell? ⟨D.mb, 11, none⟩ = some (.int .i64 s.parity) ∧ w'.cell? ⟨D.rsb, N * 5, none⟩ = some (.slice A0 (A none).W.length c0) ∧ w'.cell? ⟨D.rsb, N * 5 + 1, none⟩ = some (.slice A1 (A none).F.length c1) ∧ w'.cell? ⟨D.rsb, N * 5 + 2, none⟩ = some (.slice A2 (A none).G.length c2) ∧ w'.cell? ⟨D.rsb, N * 5 + 3, none⟩ = some (.slice A3 (A none).B.length c3))
      (first
        | (with_reducible exact ⟨q8, q11, r0, r1, r2, r3⟩)
        | (with_reducible exact ⟨(cell_fr hF4 hmb hmbl 8).trans q8, (cell_fr hF4 hmb hmbl 11).trans q11, (cell_fr hF4 hrs hrsl _).trans r0, (cell_fr hF4 hrs hrsl _).trans r1, (cell_fr hF4 hrs hrsl _).trans r2, (cell_fr hF4 hrs hrsl _).trans r3⟩)
        | (with_reducible exact ⟨(cell_fr hF45 hmb hmbl 8).trans q8, (cell_fr hF45 hmb hmbl 11).trans q11, (cell_fr hF45 hrs hrsl _).trans r0, (cell_fr hF45 hrs hrsl _).trans r1, (cell_fr hF45 hrs hrsl _).trans r2, (cell_fr hF45 hrs hrsl _).trans r3⟩)
        | go_keep)
      (first
        | (go_at_call 41; (with_reducible refine (hParityT L s w1.drew k1 hH1d).mono ?_); rintro e w4 ⟨rfl, rfl⟩)
        | (go_at_call 43; (with_reducible refine (hLarge L (s.tick k1) A z w1.drew hH1d (HI.out.tick k1)).mono ?_); rintro e w4 ⟨⟨sv, rfl, hSV⟩, ⟨k4, hH4⟩, hF4⟩; obtain ⟨y0, y1, y2, y3, rfl, g0, g1, g2, g3⟩ := hSV.ex; have hu : DRow w4 w1.drew.heap.size (y0, y1, y2, y3) (A none) := ⟨g0, g1, g2, g3⟩; have hd4 := HD.out.fr hF4 (fun x hx => .inl (by rw [List.mem_singleton.1 hx]; exact HAB.out)))
        | (go_at_call 42; (refine (dSame4 _ _ _ _ _ _ _ _ _ _ (A none) w4 hu hd4 (by have := HRL.out none; omega)).mono ?_); rintro e w5 ⟨rfl, hF5⟩; have hF45 := hF4.trans (hF5.here (fun x hx => absurd hx (by simp) : ∀ x ∈ [], x ∈ [L.ab]))))
    all_goals
      go_wp2_with fail
      go_meet
      case rel =>
        have hJ4 := HJD.out.tick (hF4.here abfp) hH4
        rw [tick_tickI] at hJ4
        exact ⟨rfl, ((Fr.refl [L.ab] w1).drew).trans hF45, hid ⟨_, hJ4.step hF5⟩⟩
  case rest =>
    obtain ⟨rfl, hF5, hJ5⟩ := hcut
    obtain ⟨k5, hJ5⟩ := hJ5
    have hS5 := HS1.out.fr hF5 (fun b hb => by rw [List.mem_singleton.1 hb]; exact all_lt HJ.out.pg.hr (by simp [HL.all, HL.fp]))
    have HS5 := hid hS5
    have HJ5 := hid hJ5
    obtain ⟨wb, hwb⟩ : ∃ wb, wb = wc := ⟨_, rfl⟩
    rw [← hwb] at HS5 HJ5 ⊢
    clear hwb hF5 hJ5 hS5 q8 q11 r0 r1 r2 r3 hH1d hmb hrs hmbl hrsl HJD HD HJ1 HS1
    go_wp2_with fail
    go_loopw [6] (fun iv wr => ∃ j : Nat, j ≤ N ∧ iv = .int .i64 j ∧ Fr [] wb wr) (fun iv _ => N - (intOf iv).toNat)
    case atStart => exact ⟨0, Nat.zero_le _, rfl, Fr.refl _ _⟩
    case round =>
      obtain ⟨j, hj, rfl, hF⟩ := hrel
      have HF := hid hF
      by_cases hlt : (j : Int) < (N : Int)
      · have hSr := HS5.out.fr hF (by simp)
        have hJr := HJ5.out.step hF
        obtain ⟨g, x0, x1, x2, x3, rfl, y0, y1, y2, y3, hu⟩ := hSr.at (rowsTo_len A N).symm (i := j) (R := A (some j)) (by unfold rowsTo; rw [List.getElem?_map, List.getElem?_range (by omega)]; rfl)
        obtain ⟨a0, b0, a1, b1, a2, b2, a3, b3, eu⟩ := hu.forms
        simp only [Prod.mk.injEq] at eu
        obtain ⟨rfl, rfl, rfl, rfl⟩ := eu
        have q8 := hJr.dg.dh.reads.2.2.2.2.1
        obtain ⟨⟨v0, v1, v2, v3⟩, hd, hc, hz, hlt', -⟩ := hJr.dg.dh.rs.at (rowsOf_some A (n := cls.length) (j := j) (by have := HN.out; omega))
        rw [← HN.out] at q8
        have r0 : wr.cell? ⟨D.rsb, j * 5, none⟩ = some v0 := by have := hc 0 v0 rfl; rw [Nat.mul_comm]; simpa using this
        have r1 : wr.cell? ⟨D.rsb, j * 5 + 1, none⟩ = some v1 := by have := hc 1 v1 rfl; rw [Nat.mul_comm]; simpa using this
        have r2 : wr.cell? ⟨D.rsb, j * 5 + 2, none⟩ = some v2 := by have := hc 2 v2 rfl; rw [Nat.mul_comm]; simpa using this
        have r3 : wr.cell? ⟨D.rsb, j * 5 + 3, none⟩ = some v3 := by have := hc 3 v3 rfl; rw [Nat.mul_comm]; simpa using this
        obtain ⟨A0, c0, A1, c1, A2, c2, A3, c3, ev⟩ := hd.forms
        simp only [Prod.mk.injEq] at ev
        obtain ⟨rfl, rfl, rfl, rfl⟩ := ev
        have hsm := fun (wx : World) (hx : Fr [] wr wx) => dSame4 _ _ _ _ _ _ _ _ _ _ (A (some j)) wx (hu.fr hx (by simp)) (hd.fr hx (by simp)) (by have := HRL.out (some j); omega)
        have HSM := hid hsm
        have j1 : (0 : Int) ≤ (j : Int) := by omega
        have j2 : (j : Int) < (N : Int) + 1 := by omega
        clear hSr hJr hu hd hc hz hsm hF
        go_wp2_with fail
        refine wp_region_still_tail 12 (by kernel_rfl) (by kernel_rfl) ?_
        simp only [List.take_succ_cons, List.take_zero, List.drop_succ_cons, List.drop_zero]
        change wpStill _ _ (wr.drew) (fun a' => wpList _ _ _ _ a' (wr.drew)) _ _
        repeat still_step
        refine wpStill_nil ?_
        clear y0 y1 y2 y3 q8 r0 r1 r2 r3
        go_wp2_with fail
        refine (HSM.out wr.drew ((Fr.refl [] wr).drew)).mono ?_
        rintro e w6 ⟨rfl, hF6⟩
        have HF6 := hid (HF.out.trans (((Fr.refl [] wr).drew).trans hF6))
        clear hF6
        go_wp2_with fail
        go_roundw
        case rel => exact ⟨j + 1, by omega, by go_num, HF6.out⟩
        case measure => simp [intOf]; omega
      · have hJr := HJ5.out.step hF
        have HJr := hid hJr
        obtain ⟨wb2, hwb2⟩ : ∃ wb2, wb2 = wr := ⟨_, rfl⟩
        rw [← hwb2] at HJr ⊢
        clear hwb2 hJr hF
        obtain ⟨WN, hWN⟩ : ∃ WN : Nat, W = (WN : Int) + 1 := ⟨(W - 1).toNat, by omega⟩
        have hW65 := HJr.out.dg.q.W
        have hWN65 : WN ≤ 65535 := by omega
        have HWN := hid hWN
        clear hWN hW65
        go_wp2_with fail
        go_loopw [7] (fun iv wr => ∃ k : Nat, k ≤ WN ∧ iv = .int .i64 ((k : Int) + 1) ∧ Hid (∃ u : Int, JG w0 wr L D W Lg cls (s.tick u) A z bits m obs G)) (fun iv _ => WN + 1 - (intOf iv).toNat)
        case atStart => exact ⟨0, Nat.zero_le _, rfl, hid ⟨_, HJr.out⟩⟩
        case round =>
          obtain ⟨k, hk, rfl, hjj⟩ := hrel
          obtain ⟨u, hJ⟩ := hjj.out
          have q0 := hJ.dg.dh.reads.1
          rw [HWN.out] at q0
          by_cases hlt : (k : Int) + 1 < (WN : Int) + 1
          · have hth := hJ.dg.there hJ.pg.qs hJ.pg.pi.one (fun q => (hJ.pg.pi.hi.rowLen q).1) ((k : Int) + 1)
            have hwr1 : IntKind.i64.wrap ((k : Int) + 1 + 1) = (k : Int) + 1 + 1 := by rw [IntKind.wrap_i64]; omega
            have HTH := hid hth
            have HJK := hid hJ
            clear hth hJ hjj
            go_wp2_with fail
            refine HTH.out.mono ?_
            rintro e w2 ⟨rfl, hF2⟩
            have hJ2 := HJK.out.step hF2
            by_cases hlv : liveB A obs ((k : Int) + 1) = true
            · obtain ⟨ob, hob, ep, -⟩ := liveB_iff.1 hlv
              have hin := hJ2.pg.pi.inn ob hob
              have hbd : 1 ≤ ob.p ∧ ob.p + 3 + (ob.n : Int) ≤ s.ws.length := hin.bound hJ2.pg.pi.hi
              have hn31 := hin.hd.s1
              have q7 := hJ2.dg.dh.reads.2.2.2.1
              have hlk := run_lookup_im (P := Tryz.prog) hJ2.dg.dh.im Tryz.underlying58 Tryz.underlying3 (obZero w2) ((k : Int) + 1) false
              rw [← ep, hJ2.dg.ob.get ob hob] at hlk
              simp only [Option.getD_some, obV, if_neg (show ¬ false = true by decide)] at hlk
              obtain ⟨gp, hgp⟩ : ∃ gp, gp = G ob.p := ⟨_, rfl⟩
              rw [← hgp, ep] at hlk
              have HGP := hid hgp
              have hcb := hJ2.dg.ob.blk ob hob
              obtain ⟨nn, hnn⟩ : ∃ nn, nn = ob.n := ⟨_, rfl⟩
              have HNN := hid hnn
              have B3 := Blk.new w2 [.int .i64 ob.k, .int .i64 nn, .int .i64 ob.a, .int .i64 ob.m, .slice (some ⟨gp, 0, none⟩) nn nn] 95
              have hF3 : Fr [] w2 (w2.alloc (.cells #[.int .i64 ob.k, .int .i64 nn, .int .i64 ob.a, .int .i64 ob.m, .slice (some ⟨gp, 0, none⟩) nn nn] 95)) := (Fr.refl _ w2).alloc _
              rw [← hnn] at hlk
              have hJ3 := hJ2.step hF3
              have hDB := hJ2.dg.dh.rs.le
              obtain ⟨tb, htb⟩ : ∃ tb, tb = w2.heap.size := ⟨_, rfl⟩
              obtain ⟨w3, hw3⟩ : ∃ w3, w3 = w2.alloc (.cells #[.int .i64 ob.k, .int .i64 nn, .int .i64 ob.a, .int .i64 ob.m, .slice (some ⟨gp, 0, none⟩) nn nn] 95) := ⟨_, rfl⟩
              have HTB := hid htb
              have HW3 := hid hw3
              rw [← hw3] at B3 hJ3
              rw [← htb] at B3 hDB
              have HB3 := hid B3
              have HJ3 := hid hJ3
              have HIN := hid hin
              have HOB := hid hob
              have HEP := hid ep
              rw [hlv]
              clear hJ2 B3 hJ3 hF3 hcb hin hob ep hnn htb hw3 hF2 hlv hgp
              go_upto_region 14 with fail
              rw [← HW3.out, ← HTB.out]
              clear q7 hlk
              have hcl := hCell L (s.tick u) ob.p ob.k ob.n ob.a ob.m w3 HJ3.out.pg.hr (by omega) (by show ob.p < (s.ws.length : Int); omega) HIN.out.head HIN.out.hd
              rw [HEP.out, ← HNN.out] at hcl
              have HCL := hid hcl
              clear hcl
              go_wp2_with fail
              refine HCL.out.mono ?_
              rintro e w4 ⟨rfl, hH4, hF4⟩
              have hJ4 := HJ3.out.tick (hF4.here abfp) hH4
              have hB4 := HJ3.out.pg.keepB (hF4.here abfp) HB3.out hDB (by decide)
              have C4 := Blk.new w4 [.int .i64 ob.k, .int .i64 nn, .int .i64 ob.a, .int .i64 ob.m] 96
              have hF5 : Fr [] w4 (w4.alloc (.cells #[.int .i64 ob.k, .int .i64 nn, .int .i64 ob.a, .int .i64 ob.m] 96)) := (Fr.refl _ w4).alloc _
              have hJ5 := hJ4.step hF5
              have hB5 := hB4.fr hF5 (by simp)
              rw [tick_tickI] at hJ5
              obtain ⟨w5, hw5⟩ : ∃ w5, w5 = w4.alloc (.cells #[.int .i64 ob.k, .int .i64 nn, .int .i64 ob.a, .int .i64 ob.m] 96) := ⟨_, rfl⟩
              obtain ⟨cb, hcb⟩ : ∃ cb, cb = w4.heap.size := ⟨_, rfl⟩
              rw [← hw5] at C4 hJ5 hB5
              rw [← hcb] at C4
              have HW5 := hid hw5
              have HCB := hid hcb
              have HJ5b := hid hJ5
              have HB5 := hid hB5
              have c0 := C4.cell (i := 0) rfl
              have c1 := C4.cell (i := 1) rfl
              have c2 := C4.cell (i := 2) rfl
              have c3 := C4.cell (i := 3) rfl
              have b0 := hB5.cell (i := 0) rfl
              have b1 := hB5.cell (i := 1) rfl
              have b2 := hB5.cell (i := 2) rfl
              have b3 := hB5.cell (i := 3) rfl
              clear hJ4 hB4 C4 hF5 hJ5 hB5 hw5 hcb hH4 hF4
              go_upto_region 15 with fail
              rw [← HW5.out, ← HCB.out]
              go_wp2_with fail
              go_loopw [11] (fun iv wr => ∃ q : Nat, q ≤ nn ∧ iv = .int .i64 q ∧ Hid (∃ u : Int, JG w0 wr L D W Lg cls (s.tick u) A z bits m obs G) ∧ Blk wr tb [.int .i64 ob.k, .int .i64 nn, .int .i64 ob.a, .int .i64 ob.m, .slice (some ⟨gp, 0, none⟩) nn nn] 95) (fun iv _ => nn - (intOf iv).toNat)
              case atStart => exact ⟨0, Nat.zero_le _, rfl, hid ⟨_, HJ5b.out⟩, HB5.out⟩
              case round =>
                obtain ⟨q, hq, rfl, hjq, hBq⟩ := hrel
                obtain ⟨u2, hJq⟩ := hjq.out
                have b4 := hBq.cell (i := 4) rfl
                have HBQ := hid hBq
                have HJQ := hid hJq
                clear hjq hBq hJq c0 c1 c2 c3 b0 b1 b2 b3
                by_cases hqn : (q : Int) < (nn : Int)
                · have hgt := hGet L (s.tick u2) ob.p ob.k ob.n ob.a ob.m q wr HJQ.out.pg.hr (by omega) (by show ob.p + 3 + (ob.n : Int) ≤ s.ws.length; omega) HIN.out.head HIN.out.hd (by omega) (by have := HNN.out; omega)
                  rw [HEP.out] at hgt
                  obtain ⟨gv, hgv⟩ : ∃ gv, gv = s.wd ob q := ⟨_, rfl⟩
                  have hgv2 : gw (s.tick u2).ws ((k : Int) + 1 + 3 + q) = gv := by rw [hgv, ← HEP.out]; rfl
                  rw [hgv2] at hgt
                  have HGT := hid hgt
                  have HGV := hid hgv
                  have q1 : (0 : Int) ≤ (q : Int) := by omega
                  have hwq : IntKind.i64.wrap ((q : Int) + 1) = (q : Int) + 1 := by have := HNN.out; rw [IntKind.wrap_i64]; omega
                  clear hgt hgv hgv2
                  go_wp2_with fail
                  refine HGT.out.mono ?_
                  rintro e w6 ⟨rfl, hH6, hF6⟩
                  have hJ6 := HJQ.out.tick (hF6.here abfp) hH6
                  have hB6 := HJQ.out.pg.keepB (hF6.here abfp) HBQ.out hDB (by decide)
                  rw [tick_tickI] at hJ6
                  have b4' := hB6.cell (i := 4) rfl
                  have w4c : w6.cell? ⟨gp, q, none⟩ = some (.int .i64 gv) := by
                    rw [HGP.out]
                    exact (hJ6.dg.ob.blk ob HOB.out).2.cell (by
                    unfold wcs
                    rw [List.getElem?_map, List.getElem?_range (by have := HNN.out; omega), HGV.out]; rfl)
                  have HJ6 := hid hJ6
                  have HB6 := hid hB6
                  clear hJ6 hB6 hH6 hF6 b4
                  go_wp2_with fail
                  go_roundw
                  case rel => exact ⟨q + 1, by omega, by go_num, hid ⟨_, HJ6.out⟩, HB6.out⟩
                  case measure => simp [intOf]; omega
                · go_wp2_with fail
                  go_roundw
                  case rel => exact ⟨k + 1, by omega, by go_num, hid ⟨_, HJQ.out⟩⟩
                  case measure => simp [intOf]; omega
            · have hlv' : liveB A obs ((k : Int) + 1) = false := by simpa using hlv
              rw [hlv']
              have HJ2 := hid hJ2
              clear hJ2 hF2 hlv hlv'
              go_wp2_with fail
              go_roundw
              case rel => exact ⟨k + 1, by omega, by go_num, hid ⟨_, HJ2.out⟩⟩
              case measure => simp [intOf]; omega
          · go_wp2_with fail
            go_ret
            exact ⟨rfl, _, hJ⟩
end Go.Proofs.YtifillpcphiblaaGreat

namespace Go.Proofs.YtifillpcphiblaaGreat
open Go Go.Proofs Go.RowKit

/-! law06.HeapPlays: both heaps at the beginning. -/

theorem xok_new {W Lg : Nat} {cls : List Int} : XOk (HS.new W Lg cls) := by
  unfold XOk
  simp [HS.new]
theorem JG.new {W Lg : Nat} {cls : List Int} {a b c d : Int} {sv : Value} {w w1 w2 : World} {L : HL} {mb : Nat} (hR : RightC W Lg cls) (hH1 : HRep w1 L (HS.new W Lg cls)) (hF1 : Fr [] w w1) (hL : ∀ b ∈ L.all, w.heap.size ≤ b) (hsl : SlArg w sv cls)
    (hM : MNew w2 mb w1.heap.size W Lg a b c d sv cls.length) (hF2 : Fr [] w1 w2) :
    ∃ D : DL, D.mb = mb ∧ JG w w2 L D W Lg cls (HS.new W Lg cls) (fun _ => ⟨[], [], [], []⟩) (fun _ => 0) (List.replicate Lg true) [] [] (fun _ => 0) := by
  obtain ⟨mp, rv, fb, g1, g2, g3, g4, g5⟩ := hM.s
  obtain ⟨hrv, h0 | ⟨g, cap, cur, e1, e2, e3, e4, e5, e6, e7⟩⟩ := g3
  · omega
  subst e1
  have hsvb : ∀ b o c n, sv = .slice (some ⟨b, o, none⟩) n c → b < w.heap.size := by
    intro b o c n e
    have hn1 := hR.n1
    rcases hsl with ⟨_, h2⟩ | ⟨_, _, _, h2⟩ | ⟨b', o', cap', e', hr, _⟩
    · rw [h2] at hn1; simp at hn1
    · rw [h2] at hn1; simp at hn1
    · rw [e] at e'; cases e'; exact hr.1
  have hmb := hM.b
  have hn2 := hR.n2
  have hw2 := hR.w2
  have hf12 := hF1.trans hF2
  have hcur : cur.toList = (List.replicate (cls.length + 1) ((.slice none 0 0, .slice none 0 0, .slice none 0 0, .slice none 0 0) : V4)).flatMap (ringCells W) ++ cur.toList.drop ((cls.length + 1) * 5) := by
    have hc : cur.toList.take ((cls.length + 1) * 5) = emptyRows W (cls.length + 1) := e7
    have e : (List.replicate (cls.length + 1) ((.slice none 0 0, .slice none 0 0, .slice none 0 0, .slice none 0 0) : V4)).flatMap (ringCells W) = emptyRows W (cls.length + 1) := by
      rw [emptyRows, List.flatMap_def, List.map_replicate]
      rfl
    rw [e, ← hc, List.take_append_drop]
  refine ⟨⟨w1.heap.size, mb, g, mp, fb, a, b, c, d, sv, cap⟩, rfl, ⟨hf12, hL, fun x hx _ => all_lt hH1 hx, hH1.fr hF2 (by simp), PI.new hR xok_new, rfl, by simp [HS.new], rfl, fun hne => ?_⟩, ⟨hf12, ⟨hsl, hsvb, hF1.size, by omega, by omega, hw2⟩, ?_, ⟨fun o ho => (by cases ho), fun o ho => (by cases ho), fun o ho => (by cases ho), fun p hp => (by simp [mget] at hp), by simp [KN]⟩⟩, same3_new _ Lg, by simp⟩
  · obtain ⟨v, hxb, ⟨_, _, hx⟩ | ⟨b0, _, _, e, _⟩⟩ := hH1.x
    · have : (HS.new W Lg cls).x.l = [((W : Int) - Lg, (Lg : Int))] := by simp [HS.new]; omega
      rw [this] at hx; cases hx
    · exact ⟨b0, e⟩
  · refine ⟨g1, hsl.fr (hF1.trans hF2) (by simp), ⟨⟨List.replicate (cls.length + 1) (.slice none 0 0, .slice none 0 0, .slice none 0 0, .slice none 0 0), cur.toList.drop ((cls.length + 1) * 5), ?_, ?_, ?_⟩, hF2.size⟩, ?_, g4, ⟨#[], 0, g2, rfl, by simp [Stm]⟩, ⟨hmb, e2, g5⟩⟩
    · rw [← hcur]
      unfold Blk
      rw [e3]
    · rw [rowsOf_len]; simp
    · intro i v R hv hR'
      have hv' : v = (.slice none 0 0, .slice none 0 0, .slice none 0 0, .slice none 0 0) := by
        rw [List.getElem?_replicate] at hv
        split at hv
        · exact (Option.some.inj hv).symm
        · cases hv
      have hR2 : R = ⟨[], [], [], []⟩ := by
        have hi := (List.getElem?_eq_some_iff.1 hR').1
        rw [rowsOf_len] at hi
        by_cases hlt : i < cls.length
        · rw [rowsOf_some _ hlt] at hR'; exact (Option.some.inj hR').symm
        · have : i = cls.length := by omega
          subst this
          rw [rowsOf_none] at hR'; exact (Option.some.inj hR').symm
      subst hv'
      subst hR2
      exact ⟨Rowi.nil _ _, Rowi.nil _ _, Rowi.nil _ _, Rowi.nil _ _⟩
    · rw [rowsOf_len]
end Go.Proofs.YtifillpcphiblaaGreat
