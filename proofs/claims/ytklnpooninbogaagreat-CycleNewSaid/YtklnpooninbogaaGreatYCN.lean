
import Derived.Test.YtklnpooninbogaaGreatMYPPop
import Derived.Test.YtklnpooninbogaaGreatYPStep
import Derived.Test.YtklnpooninbogaaGreatMYPick
import Derived.Test.YtklnpooninbogaaGreatMDJoin
import Derived.Deep.CutBlock
namespace Go.Proofs.YtklnpooninbogaaGreat
open Go Go.Proofs Go.RowKit
theorem EInv.fr {E : CE} {g : MG} {X : CX} {O : Nat → Prop} {M ph : Nat} {w w' : World} {Sl : List Nat} (h : EInv E g X O M ph w) (hf : Fr Sl w w') (hSl : ∀ x ∈ Sl, ¬ O x) : EInv E g X O M ph w' := by
  obtain ⟨S, hC, hQ, hp, rfl, hm⟩ := h
  exact ⟨S, hC.fr hf (fun x hx => ⟨fun hc => hSl x hx (.inl hc), fun hc => hSl x hx (.inr (.inl hc)), fun hc => hSl x hx (.inr (.inr hc))⟩), hQ, hp, rfl, hm⟩
theorem Rowi.frp {S : Nat → Prop} {w w' : World} {B : Nat} {v : Value} {l : List Int} (h : Rowi w B v l) (hf : FrP S w w') (hS : ∀ g, v.ownBlock = some g → ¬ S g) : Rowi w' B v l := by
  refine ⟨h.1, ?_⟩
  rcases h.2 with h0 | ⟨g, cap, cur, e1, e2, e3, e4⟩
  · exact .inl h0
  · subst e1
    refine .inr ⟨g, cap, cur, rfl, e2, ?_, e4⟩
    rw [hf.block g (Array.getElem?_eq_some_iff.1 e3).1 (hS g rfl)]
    exact e3
theorem FrP.stepl {S : Nat → Prop} {w w1 w2 : World} {l : List Nat} (h : FrP S w w1) (hf : Fr l w1 w2) (hl : ∀ x ∈ l, S x ∨ w.heap.size ≤ x) : FrP S w w2 := h.step (FrP.of (S := fun x => x ∈ l) hf (fun x hx => .inl hx)) hl
def KsI (K : List Ob) (i : Nat) : Prop := K.length ≤ i ∧ ∀ o ∈ K, o.a = 77
set_option maxRecDepth 100000 in
set_option maxHeartbeats 6400000 in
theorem lawCNew (W Lg a b c d : Int) (gb : Nat) (sv v zv : Value) (cls l szs : List Int) (w : World) (hs : SlArg w sv cls) (hl : SlArg w v l) (hz : SlArg w zv szs) (hgb : gb < 256) (hlx : ∀ x ∈ l, -9223372036854775808 ≤ x ∧ x ≤ 9223372036854775807) :
    Calls Tryz.prog 4 #[.agg #[.int .i64 W, .int .i64 Lg, .int .i64 a, .int .i64 b, .int .i64 c, .int .i64 d, sv], .int .u8 gb, v, zv] w fun e w' => e = .returned (.bool true) ∧ Fr [] w w' := by
  obtain ⟨lp, lcap, rfl⟩ := slForm hl
  obtain ⟨zp, zcap, rfl⟩ := slForm hz
  obtain ⟨N, hN⟩ : ∃ N, N = l.length := ⟨_, rfl⟩
  obtain ⟨P, hP⟩ : ∃ P, P = szs.length := ⟨_, rfl⟩
  have B0 := Blk.new w [.int .i64 W, .int .i64 Lg, .int .i64 a, .int .i64 b, .int .i64 c, .int .i64 d, sv] 24
  have HB0 := hid B0
  have hF0 : Fr [] w (w.alloc (.cells #[.int .i64 W, .int .i64 Lg, .int .i64 a, .int .i64 b, .int .i64 c, .int .i64 d, sv] 24)) := (Fr.refl _ w).alloc _
  have HF0 := hid hF0
  have HSL := hid hs
  have HLL := hid hl
  have HZZ := hid hz
  rw [← hN] at hl ⊢
  rw [← hP] at hz ⊢
  have HLX := hid hlx
  have HN := hid hN
  have HP := hid hP
  clear B0 hF0 hs hl hz hN hP hlx
  go_enter Tryz.func4, Tryz.ntmps4
  go_wp2_with fail
  refine (yAwake _).mono ?_
  rintro e w1 ⟨rfl, hF1⟩
  have hF1' := HF0.out.trans hF1
  have hB1 := HB0.out.fr hF1 (by simp)
  have c0 := hB1.cell (i := 0) rfl
  have c1 := hB1.cell (i := 1) rfl
  have c2 := hB1.cell (i := 2) rfl
  have c3 := hB1.cell (i := 3) rfl
  have c4 := hB1.cell (i := 4) rfl
  have c5 := hB1.cell (i := 5) rfl
  have c6 := hB1.cell (i := 6) rfl
  have HF1 := hid hF1'
  have HB1 := hid hB1
  clear hF1 hF1' hB1
  go_wp2_with fail
  refine (yFew W Lg a b c d sv _ cls l w1 (HSL.out.fr HF1.out (by simp)) (by rw [HN.out]; exact HLL.out.fr HF1.out (by simp))).mono ?_
  rintro e w2 ⟨rfl, hF2⟩
  have hF2' := HF1.out.trans hF2
  have HF2 := hid hF2'
  have hB2 := HB1.out.fr hF2 (by simp)
  have HB2 := hid hB2
  clear c0 c1 c2 c3 c4 c5 c6
  have c0 := hB2.cell (i := 0) rfl
  have c1 := hB2.cell (i := 1) rfl
  have c2 := hB2.cell (i := 2) rfl
  have c3 := hB2.cell (i := 3) rfl
  have c4 := hB2.cell (i := 4) rfl
  have c5 := hB2.cell (i := 5) rfl
  have c6 := hB2.cell (i := 6) rfl
  clear hB2 hF2 hF2'
  cases hfew : few18 W Lg cls l.length with
  | false =>
    clear hfew
    go_wp2_with fail
    go_ret
    exact ⟨rfl, HF2.out⟩
  | true =>
    by_cases hp20 : 20 < P
    · have hp20' : (20 : Int) < (P : Int) := by omega
      go_wp2_with fail
      go_ret
      exact ⟨rfl, HF2.out⟩
    · have hp20' : ¬ (20 : Int) < (P : Int) := by omega
      unfold few18 at hfew
      rw [Bool.and_eq_true, Bool.and_eq_true, rightB_iff, decide_eq_true_eq, decide_eq_true_eq] at hfew
      obtain ⟨⟨hR, hW⟩, hl80⟩ := hfew
      obtain ⟨Wn, rfl⟩ := Int.eq_ofNat_of_zero_le (show 0 ≤ W by have := hR.w1; omega)
      obtain ⟨Ln, rfl⟩ := Int.eq_ofNat_of_zero_le hR.l1
      obtain ⟨sp, scap, rfl⟩ := slForm HSL.out
      obtain ⟨cb, so, rfl, hrd⟩ := slRead HSL.out (by have := hR.n1; omega)
      have HM := hid (yMade Wn Ln a b c d cls cb so scap (gb % 6) w2 hR (hrd.fr HF2.out (by simp)) (by omega) (fun _ _ => none) (List.range _) (fun _ _ _ h => by cases h) (fun b hb => List.mem_range.1 hb) (fun k hk => List.mem_range.2 hk))
      have HL80 := hid hl80
      have HP20 := hid hp20
      clear hR hW hl80 hrd hp20
      go_wp2_with fail
      refine HM.out.mono ?_
      rintro e w3 ⟨E, A, S, D, rfl, hq, -, hgl, hw0⟩
      have HQ := hid hq
      have HGL := hid hgl
      have HW0 := hid hw0
      clear hq hgl hw0 c0 c1 c2 c3 c4 c5 c6
      go_upto_block 0 with fail
      go_cut [11] (fun iv wx => ∃ (i : Nat) (S : CY) (D : DPs), iv = .int .i64 i ∧ Hid (i ≤ N ∧ PQ E A (gb % 6 + i) S D wx))
      case first =>
        go_wp2_with fail
        go_loopw [11] (fun iv wr => ∃ (i : Nat) (S : CY) (D : DPs), iv = .int .i64 i ∧ i ≤ N ∧ PQ E A (gb % 6 + i) S D wr) (fun iv _ => N - (intOf iv).toNat)
        case atStart => exact ⟨0, S, D, rfl, Nat.zero_le _, HQ.out⟩
        case round =>
          obtain ⟨i, S1, D1, rfl, hi, hq⟩ := hrel
          have HQ1 := hid hq
          have p6 := Blk.cell (hq.pb (FrP.refl _ _)) (i := 6) rfl
          have hfr := hq.frame (FrP.refl _ wr)
          rw [HW0.out] at hfr
          have HFR := hid (HF2.out.trans hfr)
          have HI := hid hi
          clear hq hfr
          have p2 := Blk.cell (HQ1.out.pb (FrP.refl _ _)) (i := 2) rfl
          have hN80 : N ≤ 80 := by have := HL80.out; have := HN.out; omega
          by_cases hgo : i < N ∧ D1.full = false
          · obtain ⟨hlt, hfull⟩ := hgo
            have hlt' : (i : Int) < (N : Int) := by omega
            rw [hfull] at p6
            obtain ⟨lb, lo, rfl, hrd⟩ := slRead (HLL.out.fr HFR.out (by simp)) (by have := HN.out; omega)
            obtain ⟨x, hx⟩ : ∃ x, l[i]? = some x := ⟨_, List.getElem?_eq_getElem (by have := HN.out; omega)⟩
            have hcx := hrd.2 i (.int .i64 x) (by rw [List.getElem?_map, hx]; rfl)
            have HST := hid (yStep E A (gb % 6 + i) S1 D1 wr HQ1.out (by have := HL80.out; have := HN.out; omega) x (HLX.out x (List.mem_of_getElem? hx)))
            clear hrd hx p2
            go_wp2_with fail
            refine HST.out.mono ?_
            rintro e w4 ⟨rfl, S4, D4, hq4⟩
            have HQ4 := hid hq4
            clear hq4 hcx p6
            go_wp2_with fail
            go_roundw
            case rel => exact ⟨i + 1, S4, D4, by go_num, by omega, HQ4.out⟩
            case measure => simp [intOf]; omega
          · have hor : ((i : Int) < (N : Int) ∧ D1.full = true) ∨ (¬ (i : Int) < (N : Int) ∧ D1.full = true) ∨ (¬ (i : Int) < (N : Int) ∧ D1.full = false) := by
              cases hf : D1.full <;> by_cases hl : i < N
              · exact absurd ⟨hl, hf⟩ hgo
              · exact .inr (.inr ⟨by omega, rfl⟩)
              · exact .inl ⟨by omega, rfl⟩
              · exact .inr (.inl ⟨by omega, rfl⟩)
            clear hgo
            rcases hor with ⟨hlt', hfull⟩ | ⟨hlt', hfull⟩ | ⟨hlt', hfull⟩
            all_goals
              rw [hfull] at p6
              go_wp2_with fail
              go_meet
              case rel => exact ⟨i, S1, D1, rfl, hid ⟨HI.out, HQ1.out⟩⟩
      case rest =>
        obtain ⟨i, S1, D1, rfl, hh⟩ := hcut
        obtain ⟨wr, hwr⟩ : ∃ wr, wr = wc := ⟨_, rfl⟩
        subst hwr
        obtain ⟨hi, hq⟩ := hh.out
        clear hh
        have HQ1 := hid hq
        have HI := hid hi
        have p2 := Blk.cell (hq.pb (FrP.refl _ _)) (i := 2) rfl
        have hfr := hq.frame (FrP.refl _ wr)
        rw [HW0.out] at hfr
        have HFR := hid (HF2.out.trans hfr)
        clear hq hfr
        have hN80 : N ≤ 80 := by have := HL80.out; have := HN.out; omega
        have HST := hid (pStartAll HQ1.out (by have := HI.out; have := HL80.out; have := HN.out; omega))
        have HRG := hid (HQ1.out.t.rg HQ1.out.j.ci (by have := HI.out; have := HL80.out; have := HN.out; omega) (fun f hf => (HQ1.out.j.fr2 f hf).2.2))
        go_wp2_with fail
        refine HST.out.mono ?_
        rintro e w4 ⟨rfl, hF4, hx, hinv⟩
        have HX := hid hx
        have HF4 := hid hF4
        have HIN := hid hinv
        clear p2 hF4 hx hinv
        obtain ⟨w5, hw5⟩ : ∃ w5, w5 = wr := ⟨_, rfl⟩
        subst hw5
        go_wp2_with fail
        go_loopw [12, 13] (fun atv iv w9 => ∃ (i : Nat) (Ks : List Ob) (O : Nat → Prop) (M ph : Nat), iv = .int .i64 i ∧ i ≤ P ∧ KsI Ks i ∧ Rowi w9 0 atv (Ks.map Ob.p) ∧ (∀ b, atv.ownBlock = some b → ¬ O b ∧ w5.heap.size ≤ b) ∧ EInv E (gAll E S1 D1.regs) { XB E S1 False D1.regs with K := Ks } O M ph w9 ∧ FrP (FB E S1) w5 w9 ∧ (∀ x, O x → FB E S1 x ∨ w5.heap.size ≤ x) ∧ M ≤ M0 E S1 (gAll E S1 D1.regs)) (fun _ iv _ => P - (intOf iv).toNat)
        case atStart => exact ⟨0, [], _, _, _, rfl, Nat.zero_le _, ⟨Nat.le_refl _, fun o ho => (by cases ho)⟩, Rowi.nil _ _, fun b hb => (by cases hb), HIN.out, HF4.out, fun x hx => .inl hx, Nat.le_refl _⟩
        case round =>
          obtain ⟨j, Ks, O, M, ph, rfl, hj, hKl, hrow, hown, hinv, hfr9, hO, hM⟩ := hrel
          have p0 := Blk.cell (HQ1.out.pb hfr9) (i := 0) rfl
          have p2 := Blk.cell (HQ1.out.pb hfr9) (i := 2) rfl
          have hf9 := HQ1.out.frame hfr9
          rw [HW0.out] at hf9
          have HFR9 := hid (HF2.out.trans hf9)
          have HROW := hid hrow
          have HOWN := hid hown
          have HINV := hid hinv
          have HFP9 := hid hfr9
          have HO := hid hO
          have HM9 := hid hM
          have HKL := hid hKl
          have HX9 : Hid (CXK (gAll E S1 D1.regs) { XB E S1 False D1.regs with K := Ks }) := hid ⟨HX.out.r1, HX.out.r2, HX.out.nd⟩
          clear hrow hown hinv hfr9 hO hM hKl hf9
          by_cases hlt : j < P
          · have hlt' : (j : Int) < (P : Int) := by omega
            obtain ⟨zb, zo, rfl, hrd⟩ := slRead (HZZ.out.fr HFR9.out (by simp)) (by have := HP.out; omega)
            obtain ⟨x, hx⟩ : ∃ x, szs[j]? = some x := ⟨_, List.getElem?_eq_getElem (by have := HP.out; omega)⟩
            have hcx := hrd.2 j (.int .i64 x) (by rw [List.getElem?_map, hx]; rfl)
            have HAL : Hid (∀ wx, Fr [] wr wx → Calls Tryz.prog 16 #[.pointer (some ⟨E.hb, 0, none⟩), .int .i64 7, .int .i64 77, .int .i64 x] wx fun e w' => ∃ (at' er : Int) (K' : List Ob), e = .returned (.tuple #[.int .i64 at', .int .i64 er]) ∧ FrP O wr w' ∧ EInv E (gAll E S1 D1.regs) { XB E S1 False D1.regs with K := K' } O M ph w' ∧ ((er ≠ 0 ∧ K' = Ks) ∨ (er = 0 ∧ K'.map Ob.p = Ks.map Ob.p ++ [at'] ∧ KsI K' (j + 1)))) := hid (fun wx hf => (eAlloc ((eEng E _ _ HX9.out).calm _ _ _ _ _ HINV.out hf) HX9.out (fun _ => trivial) (fun h => h) HRG.out.wr x).mono (by
              rintro e w' ⟨hF, hres⟩
              have hF' : FrP O wr w' := (FrP.of (l := []) hf (by simp)).step hF (fun x hx => .inl hx)
              rcases hres with ⟨er, h0, rfl, h2⟩ | ⟨n, q, p, rfl, h2⟩
              · exact ⟨0, er, Ks, rfl, hF', h2, .inl ⟨h0, rfl⟩⟩
              · exact ⟨p, 0, _, rfl, hF', h2, .inr ⟨rfl, by simp, by have := HKL.out.1; simp; omega, fun o ho => (List.mem_append.1 ho).elim (HKL.out.2 o) (fun h => by rw [List.mem_singleton.1 h])⟩⟩))
            clear hrd hx
            go_upto_region 19 with fail
            go_cut [14, 15] (fun pv ev wx => ∃ (at' er : Int) (K' : List Ob), pv = .int .i64 at' ∧ ev = .int .i64 er ∧ Hid (FrP O wr wx ∧ EInv E (gAll E S1 D1.regs) { XB E S1 False D1.regs with K := K' } O M ph wx ∧ ((er ≠ 0 ∧ K' = Ks) ∨ (er = 0 ∧ K'.map Ob.p = Ks.map Ob.p ++ [at'] ∧ KsI K' (j + 1)))))
            case first =>
              go_region_with ((go_at_call 16; refine (HAL.out _ ((Fr.refl _ wr).drew)).mono ?_; rintro e w10 ⟨at', er, K', rfl, hF10, hinv, hrow⟩))
              all_goals
                go_wp2_with fail
                go_meet
                case rel => exact ⟨at', er, K', rfl, rfl, hid ⟨hF10, hinv, hrow⟩⟩
            case rest =>
              obtain ⟨at', er, K', rfl, rfl, hh⟩ := hcut
              obtain ⟨w10, hw10⟩ : ∃ w10, w10 = wc := ⟨_, rfl⟩
              subst hw10
              obtain ⟨hF10, hinv, hrow⟩ := hh.out
              clear hh
              have HF10 := hid hF10
              have HI10 := hid hinv
              clear hF10 hinv hcx
              have HXK : Hid (CXK (gAll E S1 D1.regs) { XB E S1 False D1.regs with K := K' }) := hid ⟨HX.out.r1, HX.out.r2, HX.out.nd⟩
              have HROWN : Hid (∀ b, u12.ownBlock = some b → b < wr.heap.size) := hid (fun b hb => (HROW.out.lt b hb).2)
              clear p0 p2
              rcases hrow with ⟨h0, hK'⟩ | ⟨hK0, hK', hKI⟩
              · have hd0 : decide (er = 0) = false := by simpa using h0
                have q2 := Blk.cell (HQ1.out.pb (HFP9.out.step HF10.out HO.out)) (i := 2) rfl
                have HR11 : Hid (Rowi w10 0 u12 (K'.map Ob.p)) := hid (by rw [hK']; exact HROW.out.frp HF10.out (fun b hb => (HOWN.out b hb).1))
                have HO11 := hid HOWN.out
                have HF11 := hid HF10.out
                have HI11 := hid HI10.out
                have HKL11 : Hid (KsI K' (j + 1)) := hid (by rw [hK']; exact ⟨by have := HKL.out.1; omega, HKL.out.2⟩)
                have HB11 : Hid (FrP (FB E S1) w5 w10) := hid (HFP9.out.step HF10.out HO.out)
                obtain ⟨w11, hw11⟩ : ∃ w11, w11 = w10 := ⟨_, rfl⟩
                subst hw11
                obtain ⟨v11, hv11⟩ : ∃ v11, v11 = u12 := ⟨_, rfl⟩
                subst hv11
                clear hK'
                go_wp2_with fail
                refine (cPhase E.kb ph w11 ((eEng E _ _ HXK.out).k _ _ _ _ HI11.out).1).mono ?_
                rintro e w12 ⟨rfl, he⟩
                subst he
                by_cases hph : ph = 0
                · have hph' : (ph : Int) = 0 := by omega
                  have HEND : Hid (Fr [] w w11) := hid (HF2.out.trans (by rw [← HW0.out]; exact HQ1.out.frame HB11.out))
                  go_wp2_with fail
                  go_ret
                  exact ⟨rfl, HEND.out⟩
                · have hph' : ¬ (ph : Int) = 0 := by omega
                  go_wp2_with fail
                  refine (cWork (eEng E _ _ HXK.out) O M ph 1 (by decide) w11 HI11.out).mono ?_
                  rintro e w13 ⟨d, O', M', ph', rfl, hd, hF13, hO', hI13, hM13, -, -, -⟩
                  have HREL : Hid (∃ (i : Nat) (Ks : List Ob) (O : Nat → Prop) (M ph : Nat), ((j : Int) + 1 = i ∧ i ≤ P ∧ KsI Ks i) ∧ Rowi w13 0 v11 (Ks.map Ob.p) ∧ (∀ b, v11.ownBlock = some b → ¬ O b ∧ w5.heap.size ≤ b) ∧ EInv E (gAll E S1 D1.regs) { XB E S1 False D1.regs with K := Ks } O M ph w13 ∧ FrP (FB E S1) w5 w13 ∧ (∀ x, O x → FB E S1 x ∨ w5.heap.size ≤ x) ∧ M ≤ M0 E S1 (gAll E S1 D1.regs)) := hid (by
                    refine ⟨j + 1, K', O', M', ph', ⟨by omega, by omega, HKL11.out⟩, HR11.out.frp hF13 (fun b hb => (HO11.out b hb).1), fun b hb => ⟨fun hc => ?_, (HO11.out b hb).2⟩, hI13, HB11.out.step hF13 HO.out, fun x hx => ?_, by have := HM9.out; omega⟩
                    · have := (HR11.out.lt b hb).2
                      exact (hO' b hc).elim (HO11.out b hb).1 (fun h => by omega)
                    · have := HB11.out.size
                      exact (hO' x hx).elim (HO.out x) (fun h => .inr (by omega)))
                  clear hd hF13 hO' hI13 hM13
                  go_wp2_with fail
                  go_roundw
                  case rel =>
                    obtain ⟨i9, K9, O9, M9, p9, ⟨r1, r2, r3⟩, r4, r5, r6, r7, r8, r9⟩ := HREL.out
                    exact ⟨i9, K9, O9, M9, p9, by go_num, r2, r3, r4, r5, r6, r7, r8, r9⟩
                  case measure => simp [intOf]; omega
              · subst hK0
                have HSRC : Hid (Srci (w10.alloc (.cells #[.int .i64 at'] 3)) (some ⟨w10.heap.size, 0, none⟩) 1 [at']) := hid ((Rowi.one w10 at' (Nat.zero_le _)).src)
                have HRA : Hid (Rowi (w10.alloc (.cells #[.int .i64 at'] 3)) 0 u12 (Ks.map Ob.p)) := hid ((HROW.out.frp HF10.out (fun b hb => (HOWN.out b hb).1)).fr ((Fr.refl [] _).alloc _) (by simp))
                go_wp2_with (at_builtin; refine wpList_appi rfl _ _ rfl 0 u12 (Ks.map Ob.p) rfl HRA.out (some ⟨w10.heap.size, 0, none⟩) 1 1 [at'] rfl HSRC.out (by simp) (by have := HKL.out.1; simp; omega) (Nat.zero_le _) ?_)
                intro v11 w11 hr11 hF11 ho11
                have hFa : Fr u12.ownBlock.toList w10 w11 := (((Fr.refl [] w10).alloc (.cells #[.int .i64 at'] 3)).here (by simp)).trans hF11
                have hm : ∀ x ∈ u12.ownBlock.toList, ¬ O x ∧ w5.heap.size ≤ x := fun x hx => HOWN.out x (by simpa using hx)
                have HI11 : Hid (EInv E (gAll E S1 D1.regs) { XB E S1 False D1.regs with K := K' } O M ph w11) := hid (HI10.out.fr hFa (fun x hx => (hm x hx).1))
                have HB11 : Hid (FrP (FB E S1) w5 w11) := hid ((HFP9.out.step HF10.out HO.out).step (FrP.of (S := fun x => x ∈ u12.ownBlock.toList) hFa (fun x hx => .inl hx)) (fun x hx => .inr (hm x hx).2))
                have q2 := Blk.cell (HQ1.out.pb HB11.out) (i := 2) rfl
                have HR11 : Hid (Rowi w11 0 v11 (K'.map Ob.p)) := hid (by rw [hK']; exact hr11)
                have HO11 : Hid (∀ b, v11.ownBlock = some b → ¬ O b ∧ w5.heap.size ≤ b) := hid (fun b hb => by
                  rcases ho11 with h1 | h1
                  · exact HOWN.out b (h1.symm.trans hb)
                  · rw [h1] at hb
                    cases hb
                    have h2 := HF10.out.size
                    have h3 := HFP9.out.size
                    refine ⟨fun hc => ?_, by first | omega | (simp; omega)⟩
                    have := ((eEng E _ _ HXK.out).lt _ _ _ _ HI10.out).1 _ hc
                    first | omega | (simp at this; omega))
                have HKL11 : Hid (KsI K' (j + 1)) := hid hKI
                clear hr11 hF11 ho11 hFa hm hK' hKI
                go_wp2_with fail
                refine (cPhase E.kb ph w11 ((eEng E _ _ HXK.out).k _ _ _ _ HI11.out).1).mono ?_
                rintro e w12 ⟨rfl, he⟩
                subst he
                by_cases hph : ph = 0
                · have hph' : (ph : Int) = 0 := by omega
                  have HEND : Hid (Fr [] w w11) := hid (HF2.out.trans (by rw [← HW0.out]; exact HQ1.out.frame HB11.out))
                  go_wp2_with fail
                  go_ret
                  exact ⟨rfl, HEND.out⟩
                · have hph' : ¬ (ph : Int) = 0 := by omega
                  go_wp2_with fail
                  refine (cWork (eEng E _ _ HXK.out) O M ph 1 (by decide) w11 HI11.out).mono ?_
                  rintro e w13 ⟨d, O', M', ph', rfl, hd, hF13, hO', hI13, hM13, -, -, -⟩
                  have HREL : Hid (∃ (i : Nat) (Ks : List Ob) (O : Nat → Prop) (M ph : Nat), ((j : Int) + 1 = i ∧ i ≤ P ∧ KsI Ks i) ∧ Rowi w13 0 v11 (Ks.map Ob.p) ∧ (∀ b, v11.ownBlock = some b → ¬ O b ∧ w5.heap.size ≤ b) ∧ EInv E (gAll E S1 D1.regs) { XB E S1 False D1.regs with K := Ks } O M ph w13 ∧ FrP (FB E S1) w5 w13 ∧ (∀ x, O x → FB E S1 x ∨ w5.heap.size ≤ x) ∧ M ≤ M0 E S1 (gAll E S1 D1.regs)) := hid (by
                    refine ⟨j + 1, K', O', M', ph', ⟨by omega, by omega, HKL11.out⟩, HR11.out.frp hF13 (fun b hb => (HO11.out b hb).1), fun b hb => ⟨fun hc => ?_, (HO11.out b hb).2⟩, hI13, HB11.out.step hF13 HO.out, fun x hx => ?_, by have := HM9.out; omega⟩
                    · have := (HR11.out.lt b hb).2
                      exact (hO' b hc).elim (HO11.out b hb).1 (fun h => by omega)
                    · have := HB11.out.size
                      exact (hO' x hx).elim (HO.out x) (fun h => .inr (by omega)))
                  clear hd hF13 hO' hI13 hM13
                  go_wp2_with fail
                  go_roundw
                  case rel =>
                    obtain ⟨i9, K9, O9, M9, p9, ⟨r1, r2, r3⟩, r4, r5, r6, r7, r8, r9⟩ := HREL.out
                    exact ⟨i9, K9, O9, M9, p9, by go_num, r2, r3, r4, r5, r6, r7, r8, r9⟩
                  case measure => simp [intOf]; omega
          · have hlt' : ¬ (j : Int) < (P : Int) := by omega
            have hM3 : M ≤ 2990 := by
              have := HM9.out
              have := HQ1.out.m0 (gAll E S1 D1.regs)
              have := HI.out
              have := HL80.out
              have := HN.out
              omega
            have hpb := HQ1.out.nco (b := A.pb) (by rw [HQ1.out.j.dr.lp]; decide)
            have hpo : ¬ O A.pb := fun hc => (HO.out _ hc).elim hpb.1 (fun h => by have := hpb.2; omega)
            have hpl : A.pb < wr.heap.size := Nat.lt_of_lt_of_le hpb.2 HFP9.out.size
            have HCY := hid (fun hph => yCycle (eEng E _ _ HX9.out) O M ph 9 hph wr HINV.out hM3 hpo hpl p2)
            have HPO := hid (And.intro hpo hpl)
            clear hpb hpo hpl hM3
            go_wp2_with fail
            refine (cPhase E.kb ph wr ((eEng E _ _ HX9.out).k _ _ _ _ HINV.out).1).mono ?_
            rintro e w12 ⟨rfl, he⟩
            subst he
            by_cases hph : ph = 0
            · have hph' : (ph : Int) = 0 := by omega
              go_wp2_with fail
              go_ret
              exact ⟨rfl, HFR9.out⟩
            · have hph' : ¬ (ph : Int) = 0 := by omega
              go_wp2_with fail
              refine (HCY.out (by decide)).mono ?_
              rintro e w13 ⟨u, O', M', rfl, hF13, hO', hI13, hM13⟩
              obtain ⟨S5, hC5, hQ5, hp5, rfl, -, -, -⟩ := hI13
              have HPO' : ¬ FB E S5 A.pb ∧ A.pb < w13.heap.size := ⟨fun hc => (hO' _ hc).elim HPO.out.1 (fun h => by have := HPO.out.2; omega), Nat.lt_of_lt_of_le HPO.out.2 hF13.size⟩
              have HFP13 := hid (HFP9.out.step hF13 HO.out)
              have p0' : w13.cell? ⟨A.pb, 0, none⟩ = some (.pointer (some ⟨S5.L.hb, 0, none⟩)) := by rw [hC5.hb]; exact (cell_frp hF13 HPO.out.1 HPO.out.2 0).trans p0
              have hrow13 : Rowi w13 0 u12 (Ks.map Ob.p) := HROW.out.frp hF13 (fun b hb => (HOWN.out b hb).1)
              have hown13 : ∀ b, u12.ownBlock = some b → b ∉ S5.L.all := fun b hb hc => (hO' b (.inr (.inl hc))).elim (HOWN.out b hb).1 (fun h => by have := (HROW.out.lt b hb).2; omega)
              have hkeep : ∀ o ∈ Ks, ∃ o' ∈ S5.obs, o'.p = o.p ∧ o'.a = 77 ∧ o'.p ∈ (S5.A o'.q).B := fun o ho => by
                obtain ⟨-, o', h1, h2, -, h4, -, h6⟩ := hQ5.keep o ho
                refine ⟨o', h1, h2, h4.trans (HKL.out.2 o ho), h6.resolve_left ?_⟩
                rw [((hQ5.black (.inr hp5)) o'.q).2]
                exact List.not_mem_nil
              have hmh := hQ5.mh
              have habo : S5.L.ab ∈ S5.L.all := by simp [HL.all, HL.fp]
              have habl : S5.L.ab < w13.heap.size := hC5.all_lt habo
              have habF : FB E S1 S5.L.ab ∨ w5.heap.size ≤ S5.L.ab := (hO' _ (.inr (.inl habo))).elim (HO.out _) (fun h => .inr (by have := HFP9.out.size; omega))
              have hpab : A.pb ∉ [S5.L.ab] := fun hc => HPO'.1 (.inr (.inl (by rw [List.mem_singleton.1 hc]; exact habo)))
              have hH13 := hC5.hr
              obtain ⟨L5, hL5⟩ : ∃ L5, L5 = S5.L := ⟨_, rfl⟩
              obtain ⟨s5, hs5⟩ : ∃ s5, s5 = S5.s := ⟨_, rfl⟩
              obtain ⟨A5, hA5⟩ : ∃ A5, A5 = S5.A := ⟨_, rfl⟩
              rw [← hL5] at p0' hown13 habl hpab habo hH13 habF
              rw [← hs5] at hmh hH13
              rw [← hA5] at hmh hkeep
              have HH13 := hid hH13
              have HMH := hid hmh
              have HKEEP := hid hkeep
              have HROW13 := hid hrow13
              have HOWN13 := hid hown13
              have HPL := hid HPO'.2
              have HAB := hid habo
              have HABL := hid habl
              have HABF := hid habF
              obtain ⟨aA, ac, hatv⟩ := HROW13.out.form
              obtain ⟨KN, hKN⟩ : ∃ KN, KN = (Ks.map Ob.p).length := ⟨_, rfl⟩
              rw [← hKN] at hatv
              subst hatv
              have hkn20 : KN ≤ 20 := by have := HKL.out.1; have := HP20.out; rw [List.length_map] at hKN; omega
              have HKN := hid hKN
              have HPAB := hid hpab
              clear p0 p2 hF13 hO' hM13 hC5 hQ5 hp5 HPO' hrow13 hown13 hkeep hmh habo habl hpab hH13 habF hKN hL5 hs5 hA5
              go_upto_region 30 with fail
              go_cut [18] (fun mv wx => ∃ mp, mv = .map (some mp) ∧ Hid (mp = w13.heap.size ∧ IM wx mp [] ∧ Fr [] w13 wx))
              case first =>
                have hmm := @run_makeMap Tryz.prog
                go_wp2_with fail
                go_meet
                case rel => exact ⟨_, rfl, hid ⟨rfl, IM.new _, (Fr.refl _ _).alloc _⟩⟩
              case rest =>
                obtain ⟨mp, rfl, hh⟩ := hcut
                obtain ⟨w14, hw14⟩ : ∃ w14, w14 = wc := ⟨_, rfl⟩
                subst hw14
                obtain ⟨hmp, him14, hF14⟩ := hh.out
                clear hh
                have q0 := (cell_fr hF14 (by simp) HPL.out 0).trans p0'
                have hH14 := HH13.out.fr hF14 (by simp)
                have HIM14 := hid him14
                have HH14 := hid hH14
                have HP0 := hid q0
                have HF14 := hid hF14
                have HMP := hid hmp
                have hl14 := hF14.size
                have hpl14 : A.pb < w14.heap.size := Nat.lt_of_lt_of_le HPL.out hl14
                have HPL14 := hid hpl14
                have HABL14 : Hid (∀ b ∈ [L5.ab], b < w14.heap.size) := hid (fun b hb => by rw [List.mem_singleton.1 hb]; exact Nat.lt_of_lt_of_le HABL.out hl14)
                obtain ⟨NC, hNC⟩ : ∃ NC, NC = s5.cls.length := ⟨_, rfl⟩
                obtain ⟨NN, hNN⟩ : ∃ NN, NN = NC + 1 := ⟨_, rfl⟩
                have hN3 := hH14.n3
                rw [← hNC] at hN3
                have HNC := hid hNC
                have HNN := hid hNN
                clear hNC hNN hmp him14 hF14 p0' hH14 hl14 hpl14
                go_upto_region 31 with fail
                go_cut [19] (fun rv wx => ∃ g c, rv = .slice (some ⟨g, 0, none⟩) NN c ∧ Hid (RGS w14 wx L5 s5 A5 rv))
                case first =>
                  go_region_law (first
                    | (go_simp; go_at_call 18; refine (hRings L5 s5 A5 _ w14.drew HH14.out.drew HMH.out.hi).mono ?_; rintro e w15 ⟨⟨rv, rfl, hS15⟩, ⟨k15, hH15⟩, hF15⟩; have r0 := (cell_fr hF15 HPAB.out HPL14.out 0).trans q0; have hsz15 := hF15.size)
                    | (go_simp; go_at_call 19; refine (hLarge L5 (s5.tick k15) A5 _ w15 hH15 (HMH.out.hi.tick k15)).mono ?_; rintro e w16 ⟨⟨lv, rfl, hS16⟩, ⟨k16, hH16⟩, hF16⟩; obtain ⟨x0, y0, z0, x1, y1, z1, x2, y2, z2, x3, y3, z3, rfl⟩ := hS16.parts; have hS16' := hS15.fr hF16 HABL14.out; have hsz16 := hF16.size)
                    | (refine step_segs (by rfl) _ _ (by rfl) w14.heap.size rv (rowsTo A5 s5.cls.length) (A5 none) NC (by rw [rowsTo_len]; exact HNC.out) (by rfl) (hS16'.fr ((Fr.refl [] w16).alloc _) (by simp)) ⟨w16.heap.size, 0, none⟩ 1 (.slice x0 y0 z0) (.slice x1 y1 z1) (.slice x2 y2 z2) (.slice x3 y3 z3) (by rfl) (World.news_of_block (cs := #[.slice x0 y0 z0, .slice x1 y1 z1, .slice x2 y2 z2, .slice x3 y3 z3]) (t := 57) (fr := (0, 0)) (heap_alloc_new w16 _)) (by simp [Value.oneCell']) ((hS16.base hsz15).fr ((Fr.refl [] w16).alloc _) (by simp)) (by omega) (by simp; exact Nat.le_succ_of_le (Nat.le_trans hsz15 hsz16)) ?_; intro g cap w17 l17 hS17 hF17 hl17 hg17))
                  all_goals
                    go_wp2_with fail
                    go_meet
                    case rel => exact ⟨g, cap, by rw [HNN.out], hid (RGS.mk' HH14.out hF15 hF16 hH16 hS17 hF17 hl17)⟩
                case rest =>
                  obtain ⟨g, cg, rfl, hh⟩ := hcut
                  obtain ⟨wq, hwq⟩ : ∃ wq, wq = wc := ⟨_, rfl⟩
                  subst hwq
                  have HG := hh
                  clear hh q0
                  have him17 : IM wq mp [] := HIM14.out.fr HG.out.fr (fun hc => by have := HMP.out; have := HABL.out; have := List.mem_singleton.1 hc; omega)
                  have HIM17 := hid him17
                  have HNL : Hid (NN = (allRs A5 s5.cls.length).length) := hid (by rw [allRs_len, HNN.out, HNC.out])
                  have HMPL : Hid (∀ b ∈ [mp], b < w14.heap.size) := hid (fun b hb => by rw [List.mem_singleton.1 hb]; exact HIM14.out.lt)
                  clear him17
                  go_wp2_with fail
                  go_loopw [20] (fun iv wr => ∃ (i : Nat) (m : List (Int × Value)), iv = .int .i64 i ∧ i ≤ NN ∧ IM wr mp m ∧ Fr [mp] wq wr ∧ BkI (allRs A5 s5.cls.length) i m) (fun iv _ => NN - (intOf iv).toNat)
                  case atStart => exact ⟨0, [], rfl, Nat.zero_le _, HIM17.out, Fr.refl _ _, fun j R hj => by omega⟩
                  case round =>
                    obtain ⟨i, m, rfl, hi, him, hfr, hbk⟩ := hrel
                    have HIM := hid him
                    have HFQ := hid hfr
                    have HBK := hid hbk
                    have hi30 : NN ≤ 101 := by have := HNN.out; omega
                    clear him hfr hbk
                    by_cases hlt : i < NN
                    · obtain ⟨R, hR⟩ : ∃ R, (allRs A5 s5.cls.length)[i]? = some R := ⟨_, List.getElem?_eq_getElem (by have := HNL.out; omega)⟩
                      have HR5 := hid hR
                      obtain ⟨BL, hBL⟩ : ∃ BL, BL = R.B.length := ⟨_, rfl⟩
                      have hbm : BL ≤ 9223372036854775807 := by rw [hBL]; exact HG.out.segs.bmax hR
                      have HBL := hid hBL
                      clear hR hBL
                      have hlt' : (i : Int) < (NN : Int) := by omega
                      go_wp2_with fail
                      go_loopw [21] (fun kv wr => ∃ (k : Nat) (m : List (Int × Value)), kv = .int .i64 k ∧ k ≤ BL ∧ IM wr mp m ∧ Fr [mp] wq wr ∧ BkI (allRs A5 s5.cls.length) i m ∧ ∀ j c, j < k → R.B[j]? = some c → mget m c = some (.bool true)) (fun kv _ => BL - (intOf kv).toNat)
                      case atStart => exact ⟨0, m, rfl, Nat.zero_le _, HIM.out, HFQ.out, HBK.out, fun j c hj => by omega⟩
                      case round =>
                        obtain ⟨k, m2, rfl, hk, him2, hfr2, hbk2, hin2⟩ := hrel
                        have hseg := HG.out.segs.fr hfr2 HMPL.out
                        obtain ⟨g', eg, -, -, x0, c0, x1, c1, x2, c2, x3, c3, -, -, -, q3, hq⟩ := hseg.at_ HNL.out HR5.out
                        cases eg
                        rw [← HBL.out] at q3
                        have HIM2 := hid him2
                        have HFR2 := hid hfr2
                        have HBK2 := hid hbk2
                        have HIN2 := hid hin2
                        have HQ := hid hq
                        clear him2 hfr2 hbk2 hin2 hq hseg
                        by_cases hkb : k < BL
                        · have hkb' : (k : Int) < (BL : Int) := by omega
                          obtain ⟨y, hy⟩ : ∃ y, R.B[k]? = some y := ⟨_, List.getElem?_eq_getElem (by have := HBL.out; omega)⟩
                          obtain ⟨gb, rfl, -, qb⟩ := HQ.out k y hy
                          have HY := hid hy
                          clear hy
                          go_wp2_with (at_mapUpdate; refine wpList_mapUpdate_im _ rfl _ _ _ 53 rfl _ _ Tryz.underlying53 Tryz.underlying3 mp _ rfl HIM2.out y rfl (.bool true) rfl ?_)
                          intro w18 him18 hF18
                          have HREL : Hid (∃ (k' : Nat) (m : List (Int × Value)), ((k : Int) + 1 = k' ∧ k' ≤ BL) ∧ IM w18 mp m ∧ Fr [mp] wq w18 ∧ BkI (allRs A5 s5.cls.length) i m ∧ ∀ j c, j < k' → R.B[j]? = some c → mget m c = some (.bool true)) := hid ⟨k + 1, _, ⟨by omega, by omega⟩, him18, HFR2.out.trans hF18, HBK2.out.put y, fun j c hj hc => by
                            rcases Nat.lt_or_ge j k with h1 | h1
                            · exact mget_true (HIN2.out j c h1 hc)
                            · have e : j = k := by omega
                              rw [e, HY.out] at hc
                              cases hc
                              exact mget_mput_same _ _ _⟩
                          clear him18 hF18 q3 qb
                          go_wp2_with fail
                          go_roundw
                          case rel =>
                            obtain ⟨k9, m9, ⟨r1, r2⟩, r3, r4, r5, r6⟩ := HREL.out
                            exact ⟨k9, m9, by go_num, r2, r3, r4, r5, r6⟩
                          case measure => simp [intOf]; omega
                        · have hkb' : ¬ (k : Int) < (BL : Int) := by omega
                          go_wp2_with fail
                          go_roundw
                          case rel => exact ⟨i + 1, m2, by go_num, by omega, HIM2.out, HFR2.out, HBK2.out.snoc HR5.out (by have := HBL.out; omega) HIN2.out⟩
                          case measure => simp [intOf]; omega
                    · have hlt' : ¬ (i : Int) < (NN : Int) := by omega
                      have hall : ∀ o ∈ Ks, mget m o.p = some (.bool true) := fun o ho => by
                        obtain ⟨o', h1, h2, h3, h4⟩ := HKEEP.out o ho
                        obtain ⟨i0, hi0⟩ := allRs_has HMH.out.hi (q := o'.q) (c := o'.p) (by simp [Rows.all, h4])
                        have := HBK.out i0 _ (by have := (List.getElem?_eq_some_iff.1 hi0).1; have := HNL.out; omega) hi0 o'.p h4
                        rwa [h2] at this
                      have HALL := hid hall
                      obtain ⟨wz, hwz⟩ : ∃ wz, wz = wr := ⟨_, rfl⟩
                      subst hwz
                      clear hall
                      obtain ⟨kg, hkg⟩ := HG.out.hr
                      have hrz : HRep wz L5 (s5.tick kg) := hkg.fr HFQ.out (fun x hx hc => by have := HMP.out; have := all_lt HH13.out hc; have := List.mem_singleton.1 hx; omega)
                      have HRZ := hid hrz
                      clear hkg hrz
                      go_wp2_with fail
                      go_loopw [22] (fun iv wx => ∃ (i k : Nat), iv = .int .i64 i ∧ i ≤ KN ∧ HRep wx L5 (s5.tick k) ∧ Fr [L5.ab] wz wx) (fun iv _ => KN - (intOf iv).toNat)
                      case atStart => exact ⟨0, kg, rfl, Nat.zero_le _, HRZ.out, Fr.refl _ _⟩
                      case round =>
                        obtain ⟨ic, k, rfl, hi, hrx, hfx⟩ := hrel
                        have HRX := hid hrx
                        have HFX := hid hfx
                        clear hrx hfx
                        by_cases hic : ic < KN
                        · have hic' : (ic : Int) < (KN : Int) := by omega
                          obtain ⟨o, ho⟩ : ∃ o, Ks[ic]? = some o := ⟨_, List.getElem?_eq_getElem (by have := HKN.out; simp at this; omega)⟩
                          have hom := List.mem_of_getElem? ho
                          obtain ⟨o', h1, h2, h3, h4⟩ := HKEEP.out o hom
                          obtain ⟨cm, hcm⟩ := mhCell HMH.out h1 L5
                          rw [h2, h3] at hcm
                          have hcm' := hcm k
                          have HC := hid hcm'
                          obtain ⟨ck, hck⟩ : ∃ ck, ck = o'.k := ⟨_, rfl⟩
                          obtain ⟨cn, hcn⟩ : ∃ cn, cn = o'.n := ⟨_, rfl⟩
                          obtain ⟨op, hop⟩ : ∃ op, op = o.p := ⟨_, rfl⟩
                          rw [← hck, ← hcn, ← hop] at HC
                          have hall := HALL.out o hom
                          rw [← hop] at hall
                          have hlook : ∀ wy, IM wy mp m → (Instr.lookup 53 (.map (some mp)) (.int .i64 op) false).run Tryz.prog wy = .ok (.bool true) wy := fun wy hm => by
                            have := run_lookup_im (P := Tryz.prog) hm Tryz.underlying53 Tryz.underlying3 (z := .bool false) (by kernel_rfl) op false
                            simpa [hall] using this
                          have HLOOK := hid hlook
                          have hmpn : ∀ g, g < w13.heap.size → g ∉ [mp] := fun g hg hc => by have := HMP.out; have := List.mem_singleton.1 hc; omega
                          have habn : ∀ g, g ∉ L5.all → g ∉ [L5.ab] := fun g hg hc => hg (by rw [List.mem_singleton.1 hc]; exact HAB.out)
                          have hrowx := (((HROW13.out.fr HF14.out (by simp)).fr HG.out.fr (fun g hg => habn g (HOWN13.out g hg))).fr HFQ.out (fun g hg => hmpn g (HROW13.out.lt g hg).2)).fr HFX.out (fun g hg => habn g (HOWN13.out g hg))
                          obtain ⟨ga, eg, -, hgl, -, -, -, hga⟩ := hrowx.at (by have := HKN.out; omega)
                          subst eg
                          have q1 : wr.cell? ⟨ga, ic, none⟩ = some (.int .i64 op) := hga ic op (by rw [List.getElem?_map, ho, hop]; rfl)
                          have hpz := Nat.lt_of_lt_of_le HPL14.out HG.out.fr.size
                          have q0 : wr.cell? ⟨A.pb, 0, none⟩ = some (.pointer (some ⟨L5.hb, 0, none⟩)) := (cell_fr HFX.out HPAB.out (Nat.lt_of_lt_of_le hpz HFQ.out.size) 0).trans ((cell_fr HFQ.out (hmpn _ HPL.out) hpz 0).trans ((cell_fr HG.out.fr HPAB.out HPL14.out 0).trans HP0.out))
                          have HSZ : Hid (A.pb < wr.heap.size ∧ ga < wr.heap.size) := hid ⟨Nat.lt_of_lt_of_le hpz (Nat.le_trans HFQ.out.size HFX.out.size), hgl⟩
                          have HNA : Hid (A.pb ∉ [L5.ab] ∧ ga ∉ [L5.ab]) := hid ⟨HPAB.out, habn ga (HOWN13.out ga rfl)⟩
                          have q0p : (wr.alloc (.cells #[.int .i64 0, .int .i64 0, .int .i64 0, .int .i64 0] 60)).cell? ⟨A.pb, 0, none⟩ = some (.pointer (some ⟨L5.hb, 0, none⟩)) := cellA' _ q0
                          have q1p : (wr.alloc (.cells #[.int .i64 0, .int .i64 0, .int .i64 0, .int .i64 0] 60)).cell? ⟨ga, ic, none⟩ = some (.int .i64 op) := cellA' _ q1
                          have hIMx : IM wr mp m := HIM.out.fr HFX.out (fun hc => by have := HMP.out; have := HABL.out; have := List.mem_singleton.1 hc; omega)
                          have HIMX := hid hIMx
                          have HNEW : Hid (wr.heap.size ∉ L5.all) := hid (new_apart HRX.out)
                          have hnC : wr.heap.size ∉ [L5.ab] := habn _ HNEW.out
                          have HMPX : Hid (mp < wr.heap.size) := hid hIMx.lt
                          clear ho hom h1 h2 h3 h4 hcm hcm' hck hcn hop hall hlook hmpn habn hrowx hgl hga hpz hIMx
                          go_upto_region 42 with fail
                          go_cut [23, 24] (fun bv ev wy => ∃ b, bv = .pointer (some ⟨b, 0, none⟩) ∧ ev = .int .i64 0 ∧ Hid (wy.cell? ⟨b, 2, none⟩ = some (.int .i64 77) ∧ HRep wy L5 (s5.tick (k + 1 : Nat)) ∧ Fr [L5.ab] wr wy))
                          case first =>
                            go_region_held3 (fun w' => w'.cell? ⟨A.pb, 0, none⟩ = some (.pointer (some ⟨L5.hb, 0, none⟩)) ∧ w'.cell? ⟨ga, ic, none⟩ = some (.int .i64 op))
                              (first
                                | ((with_reducible refine ⟨Eq.trans (cell_fr hF1 HNA.out.1 (by have := HSZ.out; simp; omega) 0) ?_, Eq.trans (cell_fr hF1 HNA.out.2 (by have := HSZ.out; simp; omega) ic) ?_⟩); exact q0; exact q1)
                                | ((with_reducible refine ⟨Eq.trans (cell_fr hF1 HNA.out.1 (by have := HSZ.out; simp; omega) 0) ?_, Eq.trans (cell_fr hF1 HNA.out.2 (by have := HSZ.out; simp; omega) ic) ?_⟩); exact q0p; exact q1p)
                                | ((with_reducible refine ⟨cellA' _ (Eq.trans (cell_fr hF1 HNA.out.1 (by have := HSZ.out; simp; omega) 0) ?_), cellA' _ (Eq.trans (cell_fr hF1 HNA.out.2 (by have := HSZ.out; simp; omega) ic) ?_)⟩); exact q0; exact q1)
                                | (have hsz := HSZ.out; (refine ⟨?_, ?_⟩ <;> (repeat rw [cell_set_ne _ (by simp; omega)])); (with_reducible refine Eq.trans (cell_fr hF1 HNA.out.1 (by have := HSZ.out; simp; omega) 0) ?_); exact q0p; (with_reducible refine Eq.trans (cell_fr hF1 HNA.out.2 (by have := HSZ.out; simp; omega) ic) ?_); exact q1p)
                                | go_keep)
                              (first
                                | (go_at_call 20; (with_reducible refine (HC.out wr.drew HRX.out.drew).mono ?_); rintro e w1 ⟨rfl, hH1, hF1⟩)
                                | (go_at_call 20; (with_reducible refine (HC.out ((wr.alloc (.cells #[.int .i64 0, .int .i64 0, .int .i64 0, .int .i64 0] 60)).drew) ((HRX.out.alloc (.cells #[.int .i64 0, .int .i64 0, .int .i64 0, .int .i64 0] 60)).drew)).mono ?_); rintro e w1 ⟨rfl, hH1, hF1⟩; have C1 := ((Blk.new wr [.int .i64 0, .int .i64 0, .int .i64 0, .int .i64 0] 60).drew).fr hF1 hnC; have e0 := C1.cell (i := 0) rfl; have e1 := C1.cell (i := 1) rfl; have e2 := C1.cell (i := 2) rfl; have e3 := C1.cell (i := 3) rfl; have f0 := C1.frozen 0; have f1 := C1.frozen 1; have f2 := C1.frozen 2; have f3 := C1.frozen 3))
                            all_goals first
                              | (have hC2 := (Blk.new w1 [.int .i64 ck, .int .i64 cn, .int .i64 77, .int .i64 cm] 60).cell (i := 2) rfl
                                 have hH2 := hH1.alloc (.cells #[.int .i64 ck, .int .i64 cn, .int .i64 77, .int .i64 cm] 60)
                                 have hF2 : Fr [L5.ab] wr (w1.alloc (.cells #[.int .i64 ck, .int .i64 cn, .int .i64 77, .int .i64 cm] 60)) := (((Fr.refl [L5.ab] wr).drew).trans hF1).alloc _
                                 obtain ⟨W2, hW2⟩ : ∃ W2, W2 = w1.alloc (.cells #[.int .i64 ck, .int .i64 cn, .int .i64 77, .int .i64 cm] 60) := ⟨_, rfl⟩
                                 rw [← hW2] at hC2 hH2 hF2 ⊢
                                 clear hW2 hF1 hH1 q0 q1 q0p q1p)
                              | (have hC2 := ((((C1.set 0 (.int .i64 ck)).set 1 (.int .i64 cn)).set 2 (.int .i64 77)).set 3 (.int .i64 cm)).cell (i := 2) rfl
                                 have hH2 := (((hH1.other (a := ⟨wr.heap.size, 0, none⟩) HNEW.out (.int .i64 ck)).other (a := ⟨wr.heap.size, 1, none⟩) HNEW.out (.int .i64 cn)).other (a := ⟨wr.heap.size, 2, none⟩) HNEW.out (.int .i64 77)).other (a := ⟨wr.heap.size, 3, none⟩) HNEW.out (.int .i64 cm)
                                 have hF2 : Fr [L5.ab] wr ((((w1.setCell ⟨wr.heap.size, 0, none⟩ (.int .i64 ck)).setCell ⟨wr.heap.size, 1, none⟩ (.int .i64 cn)).setCell ⟨wr.heap.size, 2, none⟩ (.int .i64 77)).setCell ⟨wr.heap.size, 3, none⟩ (.int .i64 cm)) := by
                                   have h1 : Fr [L5.ab, wr.heap.size] wr w1 := (((Fr.refl [L5.ab, wr.heap.size] wr).alloc _).drew).trans (hF1.here (by simp))
                                   have h2 : Fr [L5.ab, wr.heap.size] wr ((((w1.setCell ⟨wr.heap.size, 0, none⟩ (.int .i64 ck)).setCell ⟨wr.heap.size, 1, none⟩ (.int .i64 cn)).setCell ⟨wr.heap.size, 2, none⟩ (.int .i64 77)).setCell ⟨wr.heap.size, 3, none⟩ (.int .i64 cm)) := (((h1.set (by simp) _).set (by simp) _).set (by simp) _).set (by simp) _
                                   exact ⟨h2.os, h2.tape, h2.output, h2.size, fun k hk hn => h2.block k hk (by simp at hn ⊢; exact ⟨hn, by omega⟩)⟩
                                 obtain ⟨W2, hW2⟩ : ∃ W2, W2 = (((w1.setCell ⟨wr.heap.size, 0, none⟩ (.int .i64 ck)).setCell ⟨wr.heap.size, 1, none⟩ (.int .i64 cn)).setCell ⟨wr.heap.size, 2, none⟩ (.int .i64 77)).setCell ⟨wr.heap.size, 3, none⟩ (.int .i64 cm) := ⟨_, rfl⟩
                                 rw [← hW2] at hC2 hH2 hF2 ⊢
                                 clear hW2 hF1 hH1 C1 e0 e1 e2 e3 f0 f1 f2 f3 q0 q1 q0p q1p)
                            all_goals
                              go_wp2_with fail
                              go_meet
                              case rel => exact ⟨_, rfl, rfl, hid ⟨hC2, hH2, hF2⟩⟩
                          case rest =>
                            obtain ⟨bx, rfl, rfl, hh⟩ := hcut
                            obtain ⟨wy, hwy⟩ : ∃ wy, wy = wc := ⟨_, rfl⟩
                            subst hwy
                            obtain ⟨b2, hH2, hF2⟩ := hh.out
                            clear hh
                            have q1' := (cell_fr hF2 HNA.out.2 HSZ.out.2 ic).trans q1
                            have hlk := HLOOK.out wy (HIMX.out.fr hF2 (fun hc => by have := HMP.out; have := HABL.out; have := List.mem_singleton.1 hc; omega))
                            have HH2 := hid hH2
                            have HF2' := hid (HFX.out.trans hF2)
                            clear hH2 hF2 q0 q1 q0p q1p
                            go_wp2_with fail
                            go_roundw
                            case rel => exact ⟨ic + 1, k + 1, by go_num, by omega, HH2.out, HF2'.out⟩
                            case measure => simp [intOf]; omega
                        · have hic' : ¬ (ic : Int) < (KN : Int) := by omega
                          have habF : ∀ x ∈ [L5.ab], FB E S1 x ∨ w5.heap.size ≤ x := fun x hx => by rw [List.mem_singleton.1 hx]; exact HABF.out
                          have hmpF : ∀ x ∈ [mp], FB E S1 x ∨ w5.heap.size ≤ x := fun x hx => .inr (by have := HMP.out; have := HFP13.out.size; have := List.mem_singleton.1 hx; omega)
                          have HEND : Hid (Fr [] w wr) := hid (HF2.out.trans (by rw [← HW0.out]; exact HQ1.out.frame ((((HFP13.out.stepl HF14.out (by simp)).stepl HG.out.fr habF).stepl HFQ.out hmpF).stepl HFX.out habF)))
                          clear habF hmpF
                          go_wp2_with fail
                          go_ret
                          exact ⟨rfl, HEND.out⟩
end Go.Proofs.YtklnpooninbogaaGreat
