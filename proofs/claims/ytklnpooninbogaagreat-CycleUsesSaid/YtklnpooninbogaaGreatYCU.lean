
import Derived.Test.YtklnpooninbogaaGreatMYPPop
import Derived.Test.YtklnpooninbogaaGreatYPStep
import Derived.Test.YtklnpooninbogaaGreatMYPick
import Derived.Deep.CutBlock
namespace Go.Proofs.YtklnpooninbogaaGreat
open Go Go.Proofs Go.RowKit
set_option maxRecDepth 100000 in
set_option maxHeartbeats 6400000 in
theorem lawCUses (W Lg a b c d : Int) (gb : Nat) (sv v : Value) (cls l : List Int) (w : World) (hs : SlArg w sv cls) (hl : SlArg w v l) (hgb : gb < 256) (hlx : ∀ x ∈ l, -9223372036854775808 ≤ x ∧ x ≤ 9223372036854775807) :
    Calls Tryz.prog 3 #[.agg #[.int .i64 W, .int .i64 Lg, .int .i64 a, .int .i64 b, .int .i64 c, .int .i64 d, sv], .int .u8 gb, v] w fun e w' => e = .returned (.bool true) ∧ Fr [] w w' := by
  obtain ⟨lp, lcap, rfl⟩ := slForm hl
  obtain ⟨N, hN⟩ : ∃ N, N = l.length := ⟨_, rfl⟩
  have B0 := Blk.new w [.int .i64 W, .int .i64 Lg, .int .i64 a, .int .i64 b, .int .i64 c, .int .i64 d, sv] 24
  have HB0 := hid B0
  have hF0 : Fr [] w (w.alloc (.cells #[.int .i64 W, .int .i64 Lg, .int .i64 a, .int .i64 b, .int .i64 c, .int .i64 d, sv] 24)) := (Fr.refl _ w).alloc _
  have HF0 := hid hF0
  have HSL := hid hs
  have HLL := hid hl
  rw [← hN] at hl ⊢
  have HLX := hid hlx
  have HN := hid hN
  clear B0 hF0 hs hl hN hlx
  go_enter Tryz.func3, Tryz.ntmps3
  go_wp2_with fail
  refine (yAwake _).mono ?_
  rintro e w1 ⟨rfl, hF1⟩
  have hF1' := HF0.out.trans hF1
  have hB1 := HB0.out.fr hF1 (by simp)
  have c0 := hB1.cell (i := 0) rfl
  have c1 := hB1.cell (i := 1) rfl
  have c2 := hB1.cell (i := 2) rfl
  have c3 := hB1.cell (i := 3) rfl
  have c4 := hB1.cell (i := 4) rfl
  have c5 := hB1.cell (i := 5) rfl
  have c6 := hB1.cell (i := 6) rfl
  have HF1 := hid hF1'
  have HB1 := hid hB1
  clear hF1 hF1' hB1
  go_wp2_with fail
  refine (yFew W Lg a b c d sv _ cls l w1 (HSL.out.fr HF1.out (by simp)) (by rw [HN.out]; exact HLL.out.fr HF1.out (by simp))).mono ?_
  rintro e w2 ⟨rfl, hF2⟩
  have hF2' := HF1.out.trans hF2
  have HF2 := hid hF2'
  have hB2 := HB1.out.fr hF2 (by simp)
  have HB2 := hid hB2
  clear c0 c1 c2 c3 c4 c5 c6
  have c0 := hB2.cell (i := 0) rfl
  have c1 := hB2.cell (i := 1) rfl
  have c2 := hB2.cell (i := 2) rfl
  have c3 := hB2.cell (i := 3) rfl
  have c4 := hB2.cell (i := 4) rfl
  have c5 := hB2.cell (i := 5) rfl
  have c6 := hB2.cell (i := 6) rfl
  clear hB2 hF2 hF2'
  cases hfew : few18 W Lg cls l.length with
  | false =>
    clear hfew
    go_wp2_with fail
    go_ret
    exact ⟨rfl, HF2.out⟩
  | true =>
    unfold few18 at hfew
    rw [Bool.and_eq_true, Bool.and_eq_true, rightB_iff, decide_eq_true_eq, decide_eq_true_eq] at hfew
    obtain ⟨⟨hR, hW⟩, hl80⟩ := hfew
    obtain ⟨Wn, rfl⟩ := Int.eq_ofNat_of_zero_le (show 0 ≤ W by have := hR.w1; omega)
    obtain ⟨Ln, rfl⟩ := Int.eq_ofNat_of_zero_le hR.l1
    obtain ⟨sp, scap, rfl⟩ := slForm HSL.out
    obtain ⟨cb, so, rfl, hrd⟩ := slRead HSL.out (by have := hR.n1; omega)
    have HM := hid (yMade Wn Ln a b c d cls cb so scap (gb % 6) w2 hR (hrd.fr HF2.out (by simp)) (by omega) (fun _ _ => none) (List.range _) (fun _ _ _ h => by cases h) (fun b hb => List.mem_range.1 hb) (fun k hk => List.mem_range.2 hk))
    have HL80 := hid hl80
    clear hR hW hl80 hrd
    go_wp2_with fail
    refine HM.out.mono ?_
    rintro e w3 ⟨E, A, S, D, rfl, hq, -, hgl, hw0⟩
    have HQ := hid hq
    have HGL := hid hgl
    have HW0 := hid hw0
    clear hq hgl hw0 c0 c1 c2 c3 c4 c5 c6
    have p2 := Blk.cell (HQ.out.pb (FrP.refl _ _)) (i := 2) rfl
    have hk6 : w3.cell? ⟨E.kb, 6, none⟩ = some (.int .i64 0) := by
      have := Blk.cell HQ.out.j.cr.c (i := 6) rfl
      rw [HQ.out.j.ci.ph] at this
      exact this
    have HID := hid (cIdle E.kb S.L.hb 5 (by decide) w3 (Blk.lt HQ.out.j.cr.c) hk6 (Blk.cell HQ.out.j.cr.c (i := 0) rfl))
    have HKL := hid (Blk.lt HQ.out.j.cr.c)
    have HK6 := hid hk6
    clear hk6
    go_wp2_with fail
    refine HID.out.mono ?_
    rintro e w3i ⟨rfl, hFi⟩
    have HPH := hid (cPhase E.kb 0 w3i ((cell_fr hFi (by simp) HKL.out 6).trans HK6.out))
    have HQ := hid (HQ.out.calm hFi)
    clear HID p2 hFi
    have p2 := Blk.cell (HQ.out.pb (FrP.refl _ _)) (i := 2) rfl
    go_wp2_with fail
    refine HPH.out.mono ?_
    rintro e w3j ⟨rfl, he⟩
    subst he
    clear p2
    go_upto_block 0 with fail
    go_cut [9] (fun iv wx => ∃ (i : Nat) (S : CY) (D : DPs), iv = .int .i64 i ∧ Hid (i ≤ N ∧ PQ E A (gb % 6 + i) S D wx))
    case first =>
      go_wp2_with fail
      go_loopw [9] (fun iv wr => ∃ (i : Nat) (S : CY) (D : DPs), iv = .int .i64 i ∧ i ≤ N ∧ PQ E A (gb % 6 + i) S D wr) (fun iv _ => N - (intOf iv).toNat)
      case atStart => exact ⟨0, S, D, rfl, Nat.zero_le _, HQ.out⟩
      case round =>
        obtain ⟨i, S1, D1, rfl, hi, hq⟩ := hrel
        have HQ1 := hid hq
        have p6 := Blk.cell (hq.pb (FrP.refl _ _)) (i := 6) rfl
        have hfr := hq.frame (FrP.refl _ wr)
        rw [HW0.out] at hfr
        have HFR := hid (HF2.out.trans hfr)
        have HI := hid hi
        clear hq hfr
        have p2 := Blk.cell (HQ1.out.pb (FrP.refl _ _)) (i := 2) rfl
        have hN80 : N ≤ 80 := by have := HL80.out; have := HN.out; omega
        by_cases hgo : i < N ∧ D1.full = false
        · obtain ⟨hlt, hfull⟩ := hgo
          have hlt' : (i : Int) < (N : Int) := by omega
          rw [hfull] at p6
          obtain ⟨lb, lo, rfl, hrd⟩ := slRead (HLL.out.fr HFR.out (by simp)) (by have := HN.out; omega)
          obtain ⟨x, hx⟩ : ∃ x, l[i]? = some x := ⟨_, List.getElem?_eq_getElem (by have := HN.out; omega)⟩
          have hcx := hrd.2 i (.int .i64 x) (by rw [List.getElem?_map, hx]; rfl)
          have HST := hid (yStep E A (gb % 6 + i) S1 D1 wr HQ1.out (by have := HL80.out; have := HN.out; omega) x (HLX.out x (List.mem_of_getElem? hx)))
          clear hrd hx p2
          go_wp2_with fail
          refine HST.out.mono ?_
          rintro e w4 ⟨rfl, S4, D4, hq4⟩
          have HQ4 := hid hq4
          clear hq4 hcx p6
          go_wp2_with fail
          go_roundw
          case rel => exact ⟨i + 1, S4, D4, by go_num, by omega, HQ4.out⟩
          case measure => simp [intOf]; omega
        · have hor : ((i : Int) < (N : Int) ∧ D1.full = true) ∨ (¬ (i : Int) < (N : Int) ∧ D1.full = true) ∨ (¬ (i : Int) < (N : Int) ∧ D1.full = false) := by
            cases hf : D1.full <;> by_cases hl : i < N
            · exact absurd ⟨hl, hf⟩ hgo
            · exact .inr (.inr ⟨by omega, rfl⟩)
            · exact .inl ⟨by omega, rfl⟩
            · exact .inr (.inl ⟨by omega, rfl⟩)
          clear hgo
          rcases hor with ⟨hlt', hfull⟩ | ⟨hlt', hfull⟩ | ⟨hlt', hfull⟩
          all_goals
            rw [hfull] at p6
            go_wp2_with fail
            go_meet
            case rel => exact ⟨i, S1, D1, rfl, hid ⟨HI.out, HQ1.out⟩⟩
    case rest =>
      obtain ⟨i, S1, D1, rfl, hh⟩ := hcut
      obtain ⟨wr, hwr⟩ : ∃ wr, wr = wc := ⟨_, rfl⟩
      subst hwr
      obtain ⟨hi, hq⟩ := hh.out
      clear hh
      have HQ1 := hid hq
      have HI := hid hi
      have p2 := Blk.cell (hq.pb (FrP.refl _ _)) (i := 2) rfl
      have hfr := hq.frame (FrP.refl _ wr)
      rw [HW0.out] at hfr
      have HFR := hid (HF2.out.trans hfr)
      clear hq hfr
      have hN80 : N ≤ 80 := by have := HL80.out; have := HN.out; omega
      have HST := hid (pStartAll HQ1.out (by have := HI.out; have := HL80.out; have := HN.out; omega))
      have HM3 : Hid (M0 E S1 (gAll E S1 D1.regs) ≤ 2990) := hid (by have := HQ1.out.m0 (gAll E S1 D1.regs); have := HI.out; omega)
      go_wp2_with fail
      refine HST.out.mono ?_
      rintro e w4 ⟨rfl, hF4, hx, hinv⟩
      have q2 := Blk.cell (HQ1.out.pb hF4) (i := 2) rfl
      have HX := hid hx
      have HF4 := hid hF4
      have HIN := hid hinv
      have HBZ := hid (cStartBusy E.kb 1 (by decide) w4 ((eEng E _ _ HX.out).k _ _ _ _ HIN.out).1)
      have HPH1 := hid (cPhase E.kb 1 w4 ((eEng E _ _ HX.out).k _ _ _ _ HIN.out).1)
      clear p2 hF4 hx hinv
      obtain ⟨w5, hw5⟩ : ∃ w5, w5 = wr := ⟨_, rfl⟩
      subst hw5
      go_wp2_with fail
      refine HBZ.out.mono ?_
      rintro e w6 ⟨rfl, he⟩
      subst he
      go_wp2_with fail
      refine HPH1.out.mono ?_
      rintro e w6 ⟨rfl, he⟩
      subst he
      clear q2
      go_wp2_with fail
      go_loopw [10, 11] (fun pv kv wx => ∃ (k : Nat) (O : Nat → Prop) (M ph : Nat), kv = .int .i64 k ∧ pv = .int .i64 ph ∧ 1 ≤ ph ∧ k + M ≤ M0 E S1 (gAll E S1 D1.regs) ∧ FrP (FB E S1) w5 wx ∧ (∀ x, O x → FB E S1 x ∨ w5.heap.size ≤ x) ∧ EInv E (gAll E S1 D1.regs) (XB E S1 False D1.regs) O M ph wx) (fun _ kv _ => 3000 - (intOf kv).toNat)
      case atStart => exact ⟨0, _, _, 1, rfl, rfl, Nat.le_refl _, Nat.le_of_eq (Nat.zero_add _), HF4.out, fun x h => .inl h, HIN.out⟩
      case round =>
        obtain ⟨k, O, M, ph, rfl, rfl, hp1, hkM, hF9, hO, hinv⟩ := hrel
        have p0 := Blk.cell (HQ1.out.pb hF9) (i := 0) rfl
        have p2 := Blk.cell (HQ1.out.pb hF9) (i := 2) rfl
        obtain ⟨L, s, hH, hhb, hc⟩ := hinv.count
        have h0 := hH.reads.1
        rw [hhb] at h0
        have HFP := hid hF9
        have HO := hid hO
        have HC := hid hc
        have HU := hid (yUses L s wr hH)
        have HKM := hid hkM
        have HP1 := hid hp1
        have hk3 : (k : Int) < 3000 := by have := HM3.out; omega
        clear hF9 hO hinv hc hkM hH hhb hp1
        go_wp2_with fail
        refine HU.out.mono ?_
        rintro e w6 ⟨rfl, he⟩
        subst he
        go_wp2_with fail
        refine (cWork (eEng E _ _ (HX.out.count _)) O M ph 1 (by decide) wr HC.out).mono ?_
        rintro e w7 ⟨d, O7, M7, ph7, rfl, hd, hF7, hO7, hi7, hm7, hd0, hph7, -⟩
        obtain ⟨L7, s7, hH7, hhb7, hu1, hu2, hi8⟩ := EInv.told hi7 none rfl
        have HF7 := hid (HFP.out.step hF7 HO.out)
        have HO7 : Hid (∀ x, O7 x → FB E S1 x ∨ w5.heap.size ≤ x) := hid (fun x hx => (hO7 x hx).elim (HO.out x) (fun h => .inr (by have := HFP.out.size; omega)))
        have HI8 : Hid (EInv E (gAll E S1 D1.regs) (XB E S1 False D1.regs) O7 M7 ph7 w7) := hid hi8
        have HU7 := hid (yUses L7 s7 w7 hH7)
        have h07 := hH7.reads.1
        rw [hhb7] at h07
        have q0 := Blk.cell (HQ1.out.pb HF7.out) (i := 0) rfl
        have q2 := Blk.cell (HQ1.out.pb HF7.out) (i := 2) rfl
        have HPH7 := hid (cPhase E.kb ph7 w7 ((eEng E _ _ HX.out).k _ _ _ _ HI8.out).1)
        have HEND : Hid (Fr [] w w7) := hid (HF2.out.trans (by rw [← HW0.out]; exact HQ1.out.frame HF7.out))
        obtain ⟨δ, hδ⟩ : ∃ δ : Nat, s7.u = s.u + δ := ⟨(s7.u - s.u).toNat, by omega⟩
        have hδ2 : (δ : Int) ≤ 40 * (d : Int) + 36 := by omega
        have eδ : wrap64 (wrap64 s7.u - wrap64 s.u) = (δ : Int) := by
          rw [hδ]
          unfold wrap64
          omega
        have HM7 := hid hm7
        have hd01 : d = 0 ∨ d = 1 := by omega
        clear hi7 hH7 hhb7 hu1 hu2 hi8 hF7 hO7 hm7 hδ p0 p2 h0 hd
        have hz : ph7 = 0 → ∀ dd : Int, dd = 0 ∨ dd = 1 → True := fun _ _ _ => trivial
        clear hz
        rcases hd01 with rfl | rfl
        · obtain rfl : ph7 = 0 := hd0 (by decide)
          have hle : ¬ (100 : Int) < (δ : Int) := by omega
          clear hd0 hph7 hδ2
          go_wp2_with fail
          refine HU7.out.mono ?_
          rintro e w8 ⟨rfl, he⟩
          subst he
          go_wp2_with fail
          refine HPH7.out.mono ?_
          rintro e w8 ⟨rfl, he⟩
          subst he
          go_wp2_with fail
          go_ret
          exact ⟨rfl, HEND.out⟩
        · have hle : ¬ (200 : Int) < (δ : Int) := by omega
          have HPP := hid hph7
          clear hd0 hph7 hδ2
          by_cases hz : ph7 = 0
          · subst hz
            go_wp2_with fail
            refine HU7.out.mono ?_
            rintro e w8 ⟨rfl, he⟩
            subst he
            go_wp2_with fail
            refine HPH7.out.mono ?_
            rintro e w8 ⟨rfl, he⟩
            subst he
            go_wp2_with fail
            go_ret
            exact ⟨rfl, HEND.out⟩
          · have hz' : ¬ (ph7 : Int) = 0 := by omega
            have hlt' : ¬ (ph7 : Int) < (ph : Int) := by have := HPP.out; omega
            go_wp2_with fail
            refine HU7.out.mono ?_
            rintro e w8 ⟨rfl, he⟩
            subst he
            go_wp2_with fail
            refine HPH7.out.mono ?_
            rintro e w8 ⟨rfl, he⟩
            subst he
            go_wp2_with fail
            go_roundw
            case rel => exact ⟨k + 1, O7, M7, ph7, by go_num, rfl, by omega, by have := HM7.out; have := HKM.out; omega, HF7.out, HO7.out, HI8.out⟩
            case measure => simp [intOf]; omega
end Go.Proofs.YtklnpooninbogaaGreat
