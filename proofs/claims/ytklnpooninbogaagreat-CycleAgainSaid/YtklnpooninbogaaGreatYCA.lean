
import Derived.Test.YtklnpooninbogaaGreatMYPPop
import Derived.Test.YtklnpooninbogaaGreatYPStep
import Derived.Test.YtklnpooninbogaaGreatMYPick
import Derived.Test.YtklnpooninbogaaGreatMDJoin
import Derived.Deep.CutBlock
namespace Go.Proofs.YtklnpooninbogaaGreat
open Go Go.Proofs Go.RowKit
theorem FrP.toFr {S : Nat → Prop} {w w' : World} (h : FrP S w w') : ∃ l, Fr l w w' ∧ ∀ x ∈ l, S x := by
  classical
  refine ⟨(List.range w.heap.size).filter fun x => decide (S x), ⟨h.os, h.tape, h.output, h.size, fun k hk hn => h.block k hk (fun hc => hn ?_)⟩, fun x hx => ?_⟩
  · rw [List.mem_filter]
    exact ⟨List.mem_range.2 hk, by simpa using hc⟩
  · rw [List.mem_filter] at hx
    simpa using hx.2
set_option maxRecDepth 100000 in
set_option maxHeartbeats 6400000 in
theorem lawCAgain (W Lg a b c d : Int) (gb : Nat) (sv v : Value) (cls l : List Int) (w : World) (hs : SlArg w sv cls) (hl : SlArg w v l) (hgb : gb < 256) (hlx : ∀ x ∈ l, -9223372036854775808 ≤ x ∧ x ≤ 9223372036854775807) :
    Calls Tryz.prog 6 #[.agg #[.int .i64 W, .int .i64 Lg, .int .i64 a, .int .i64 b, .int .i64 c, .int .i64 d, sv], .int .u8 gb, v] w fun e w' => e = .returned (.bool true) ∧ Fr [] w w' := by
  obtain ⟨lp, lcap, rfl⟩ := slForm hl
  obtain ⟨N, hN⟩ : ∃ N, N = l.length := ⟨_, rfl⟩
  have B0 := Blk.new w [.int .i64 W, .int .i64 Lg, .int .i64 a, .int .i64 b, .int .i64 c, .int .i64 d, sv] 24
  have HB0 := hid B0
  have hF0 : Fr [] w (w.alloc (.cells #[.int .i64 W, .int .i64 Lg, .int .i64 a, .int .i64 b, .int .i64 c, .int .i64 d, sv] 24)) := (Fr.refl _ w).alloc _
  have HF0 := hid hF0
  have HSL := hid hs
  have HLL := hid hl
  rw [← hN] at hl ⊢
  have HLX := hid hlx
  have HN := hid hN
  clear B0 hF0 hs hl hN hlx
  go_enter Tryz.func6, Tryz.ntmps6
  go_wp2_with fail
  refine (yAwake _).mono ?_
  rintro e w1 ⟨rfl, hF1⟩
  have hF1' := HF0.out.trans hF1
  have hB1 := HB0.out.fr hF1 (by simp)
  have c0 := hB1.cell (i := 0) rfl
  have c1 := hB1.cell (i := 1) rfl
  have c2 := hB1.cell (i := 2) rfl
  have c3 := hB1.cell (i := 3) rfl
  have c4 := hB1.cell (i := 4) rfl
  have c5 := hB1.cell (i := 5) rfl
  have c6 := hB1.cell (i := 6) rfl
  have HF1 := hid hF1'
  have HB1 := hid hB1
  clear hF1 hF1' hB1
  go_wp2_with fail
  refine (yFew W Lg a b c d sv _ cls l w1 (HSL.out.fr HF1.out (by simp)) (by rw [HN.out]; exact HLL.out.fr HF1.out (by simp))).mono ?_
  rintro e w2 ⟨rfl, hF2⟩
  have hF2' := HF1.out.trans hF2
  have HF2 := hid hF2'
  have hB2 := HB1.out.fr hF2 (by simp)
  have HB2 := hid hB2
  clear c0 c1 c2 c3 c4 c5 c6
  have c0 := hB2.cell (i := 0) rfl
  have c1 := hB2.cell (i := 1) rfl
  have c2 := hB2.cell (i := 2) rfl
  have c3 := hB2.cell (i := 3) rfl
  have c4 := hB2.cell (i := 4) rfl
  have c5 := hB2.cell (i := 5) rfl
  have c6 := hB2.cell (i := 6) rfl
  clear hB2 hF2 hF2'
  cases hfew : few18 W Lg cls l.length with
  | false =>
    clear hfew
    go_wp2_with fail
    go_ret
    exact ⟨rfl, HF2.out⟩
  | true =>
    unfold few18 at hfew
    rw [Bool.and_eq_true, Bool.and_eq_true, rightB_iff, decide_eq_true_eq, decide_eq_true_eq] at hfew
    obtain ⟨⟨hR, hW⟩, hl80⟩ := hfew
    obtain ⟨Wn, rfl⟩ := Int.eq_ofNat_of_zero_le (show 0 ≤ W by have := hR.w1; omega)
    obtain ⟨Ln, rfl⟩ := Int.eq_ofNat_of_zero_le hR.l1
    obtain ⟨sp, scap, rfl⟩ := slForm HSL.out
    obtain ⟨cb, so, rfl, hrd⟩ := slRead HSL.out (by have := hR.n1; omega)
    have HM := hid (yMade Wn Ln a b c d cls cb so scap (gb % 6) w2 hR (hrd.fr HF2.out (by simp)) (by omega) (fun _ _ => none) (List.range _) (fun _ _ _ h => by cases h) (fun b hb => List.mem_range.1 hb) (fun k hk => List.mem_range.2 hk))
    have HL80 := hid hl80
    clear hR hW hl80 hrd
    go_wp2_with fail
    refine HM.out.mono ?_
    rintro e w3 ⟨E, A, S, D, rfl, hq, -, hgl, hw0⟩
    have HQ := hid hq
    have HGL := hid hgl
    have HW0 := hid hw0
    clear hq hgl hw0 c0 c1 c2 c3 c4 c5 c6
    go_upto_block 0 with fail
    go_cut [9] (fun iv wx => ∃ (i : Nat) (S : CY) (D : DPs), iv = .int .i64 i ∧ Hid (i ≤ N ∧ PQ E A (gb % 6 + i) S D wx))
    case first =>
      go_wp2_with fail
      go_loopw [9] (fun iv wr => ∃ (i : Nat) (S : CY) (D : DPs), iv = .int .i64 i ∧ i ≤ N ∧ PQ E A (gb % 6 + i) S D wr) (fun iv _ => N - (intOf iv).toNat)
      case atStart => exact ⟨0, S, D, rfl, Nat.zero_le _, HQ.out⟩
      case round =>
        obtain ⟨i, S1, D1, rfl, hi, hq⟩ := hrel
        have HQ1 := hid hq
        have p6 := Blk.cell (hq.pb (FrP.refl _ _)) (i := 6) rfl
        have hfr := hq.frame (FrP.refl _ wr)
        rw [HW0.out] at hfr
        have HFR := hid (HF2.out.trans hfr)
        have HI := hid hi
        clear hq hfr
        have p2 := Blk.cell (HQ1.out.pb (FrP.refl _ _)) (i := 2) rfl
        have hN80 : N ≤ 80 := by have := HL80.out; have := HN.out; omega
        by_cases hgo : i < N ∧ D1.full = false
        · obtain ⟨hlt, hfull⟩ := hgo
          have hlt' : (i : Int) < (N : Int) := by omega
          rw [hfull] at p6
          obtain ⟨lb, lo, rfl, hrd⟩ := slRead (HLL.out.fr HFR.out (by simp)) (by have := HN.out; omega)
          obtain ⟨x, hx⟩ : ∃ x, l[i]? = some x := ⟨_, List.getElem?_eq_getElem (by have := HN.out; omega)⟩
          have hcx := hrd.2 i (.int .i64 x) (by rw [List.getElem?_map, hx]; rfl)
          have HST := hid (yStep E A (gb % 6 + i) S1 D1 wr HQ1.out (by have := HL80.out; have := HN.out; omega) x (HLX.out x (List.mem_of_getElem? hx)))
          clear hrd hx p2
          go_wp2_with fail
          refine HST.out.mono ?_
          rintro e w4 ⟨rfl, S4, D4, hq4⟩
          have HQ4 := hid hq4
          clear hq4 hcx p6
          go_wp2_with fail
          go_roundw
          case rel => exact ⟨i + 1, S4, D4, by go_num, by omega, HQ4.out⟩
          case measure => simp [intOf]; omega
        · have hor : ((i : Int) < (N : Int) ∧ D1.full = true) ∨ (¬ (i : Int) < (N : Int) ∧ D1.full = true) ∨ (¬ (i : Int) < (N : Int) ∧ D1.full = false) := by
            cases hf : D1.full <;> by_cases hl : i < N
            · exact absurd ⟨hl, hf⟩ hgo
            · exact .inr (.inr ⟨by omega, rfl⟩)
            · exact .inl ⟨by omega, rfl⟩
            · exact .inr (.inl ⟨by omega, rfl⟩)
          clear hgo
          rcases hor with ⟨hlt', hfull⟩ | ⟨hlt', hfull⟩ | ⟨hlt', hfull⟩
          all_goals
            rw [hfull] at p6
            go_wp2_with fail
            go_meet
            case rel => exact ⟨i, S1, D1, rfl, hid ⟨HI.out, HQ1.out⟩⟩
    case rest =>
      obtain ⟨i, S1, D1, rfl, hh⟩ := hcut
      obtain ⟨wr, hwr⟩ : ∃ wr, wr = wc := ⟨_, rfl⟩
      subst hwr
      obtain ⟨hi, hq⟩ := hh.out
      clear hh
      have HQ1 := hid hq
      have HI := hid hi
      have p2 := Blk.cell (hq.pb (FrP.refl _ _)) (i := 2) rfl
      have hfr := hq.frame (FrP.refl _ wr)
      rw [HW0.out] at hfr
      have HFR := hid (HF2.out.trans hfr)
      clear hq hfr
      have hN80 : N ≤ 80 := by have := HL80.out; have := HN.out; omega
      have HST := hid (pStartExact HQ1.out (by have := HI.out; have := HL80.out; have := HN.out; omega))
      go_wp2_with fail
      refine HST.out.mono ?_
      rintro e w4 ⟨rfl, hF4, hx, hinv⟩
      have hM3 : M0 E S1 (gExact E S1 D1.regs) ≤ 2990 := by
        have := HQ1.out.m0 (gExact E S1 D1.regs)
        have := HI.out
        have := HL80.out
        have := HN.out
        omega
      have hpb := HQ1.out.ncb (b := A.pb) (by rw [HQ1.out.j.dr.lp]; decide)
      have HCY := hid (yCycle (eEng E _ _ hx) _ _ 1 7 (by decide) w4 hinv hM3 hpb.1 (Nat.lt_of_lt_of_le hpb.2 hF4.size) (Blk.cell (HQ1.out.pb hF4) (i := 2) rfl))
      have HF4 := hid hF4
      have HPB := hid hpb
      clear p2 hF4 hx hinv hM3 hpb
      go_wp2_with fail
      refine HCY.out.mono ?_
      rintro e w5 ⟨u5, O5, M5, rfl, hF5, hO5, hI5, hM5⟩
      obtain ⟨S5, hC5, hQ5, rfl, hfst⟩ := hI5.fst
      have hF15 : FrP (FB E S1) wr w5 := HF4.out.step hF5 (fun x hx => .inl hx)
      have hO15 : ∀ x, FB E S5 x → FB E S1 x ∨ wr.heap.size ≤ x := fun x hx => (hO5 x hx).imp id (fun h => Nat.le_trans HF4.out.size h)
      have p2 := Blk.cell (HQ1.out.pb hF15) (i := 2) rfl
      obtain ⟨bA, bcap, hbv⟩ := hC5.b.form
      obtain ⟨BN, hBN⟩ : ∃ BN, BN = S5.bl.length := ⟨_, rfl⟩
      rw [← hBN] at hbv
      have hbu := cBuried E.kb S5.L.hb E.mb E.tb S5.c w5 hC5.c
      rw [hbv] at hbu
      have HBU := hid hbu
      have HBN := hid hBN
      have HFST := hid hfst
      have HC5 := hid hC5
      have HF15 := hid hF15
      have HO15 := hid hO15
      clear hF5 hO5 hI5 hM5 hC5 hQ5 hfst hF15 hO15 hbv hBN hbu
      go_upto_region 18 with fail
      go_cut [12] (fun bv wx => ∃ bb, bv = .bool bb ∧ Hid ((bb = false → BN = 0) ∧ CBlk wx E.kb S5.L.hb E.mb E.tb { S5.c with bv := .slice none 0 0 } ∧ Fr [E.kb] w5 wx))
      case first =>
        go_wp2_with fail
        refine HBU.out.mono ?_
        rintro e w6 ⟨rfl, hc6, hF6⟩
        go_wp2_with fail
        go_meet
        case rel => exact ⟨_, rfl, hid ⟨fun h => by have := of_decide_eq_false h; omega, hc6, hF6⟩⟩
      case rest =>
        obtain ⟨bb, rfl, hh⟩ := hcut
        obtain ⟨w6, hw6⟩ : ∃ w6, w6 = wc := ⟨_, rfl⟩
        subst hw6
        obtain ⟨hbb, hc6, hF6⟩ := hh.out
        clear hh p2
        have hab5 : S5.L.ab ∈ S5.L.all := by simp [HL.all, HL.fp]
        have hF16 : FrP (FB E S1) wr w6 := HF15.out.step (FrP.of (S := fun x => x = E.kb) hF6 (fun x hx => .inl (List.mem_singleton.1 hx))) (fun x hx => HO15.out x (.inl (.inl hx)))
        have p0 : w6.cell? ⟨A.pb, 0, none⟩ = some (.pointer (some ⟨S5.L.hb, 0, none⟩)) := by rw [HC5.out.hb]; exact Blk.cell (HQ1.out.pb hF16) (i := 0) rfl
        have HRp1 : Hid (HRep w6 S5.L S5.s) := hid (HC5.out.hr.fr hF6 (fun x hx => by rw [List.mem_singleton.1 hx]; exact HC5.out.ka))
        have HHI1 := hid HFST.out.ci.mh.hi
        have HPL1 : Hid (A.pb < w6.heap.size) := hid (Nat.lt_of_lt_of_le HPB.out.2 hF16.size)
        have HPA1 : Hid (A.pb ∉ [S5.L.ab]) := hid (fun hc => (HO15.out A.pb (.inr (.inl (by rw [List.mem_singleton.1 hc]; exact hab5)))).elim HPB.out.1 (fun h => by have := HPB.out.2; omega))
        have HAB1 : Hid (∀ b ∈ [S5.L.ab], b < w6.heap.size) := hid (fun b hb => by rw [List.mem_singleton.1 hb]; exact Nat.lt_of_lt_of_le (HC5.out.all_lt hab5) hF6.size)
        have HC6 := hid hc6
        have HF6 := hid hF6
        have HBB := hid hbb
        clear hbb hc6 hF6 hab5 hF16
        obtain ⟨NC1, hNC1⟩ : ∃ NC, NC = S5.s.cls.length := ⟨_, rfl⟩
        obtain ⟨NN1, hNN1⟩ : ∃ NN, NN = NC1 + 1 := ⟨_, rfl⟩
        have hN1 := HRp1.out.n3
        rw [← hNC1] at hN1
        have HNC1 := hid hNC1
        have HNN1 := hid hNN1
        clear hNC1 hNN1
        go_upto_region 19 with fail
        go_cut [13] (fun rv wx => ∃ g c, rv = .slice (some ⟨g, 0, none⟩) NN1 c ∧ Hid (RGS w6 wx S5.L S5.s S5.A rv))
        case first =>
          go_region_law (first
            | (go_simp; go_at_call 18; refine (hRings S5.L S5.s S5.A _ w6.drew HRp1.out.drew HHI1.out).mono ?_; rintro e w15 ⟨⟨rv, rfl, hS15⟩, ⟨k15, hH15⟩, hF15⟩; have r0 := (cell_fr hF15 HPA1.out HPL1.out 0).trans p0; have hsz15 := hF15.size)
            | (go_simp; go_at_call 19; refine (hLarge S5.L (S5.s.tick k15) S5.A _ w15 hH15 (HHI1.out.tick k15)).mono ?_; rintro e w16 ⟨⟨lv, rfl, hS16⟩, ⟨k16, hH16⟩, hF16⟩; obtain ⟨x0, y0, z0, x1, y1, z1, x2, y2, z2, x3, y3, z3, rfl⟩ := hS16.parts; have hS16' := hS15.fr hF16 HAB1.out; have hsz16 := hF16.size)
            | (refine step_segs (by rfl) _ _ (by rfl) w6.heap.size rv (rowsTo S5.A S5.s.cls.length) (S5.A none) NC1 (by rw [rowsTo_len]; exact HNC1.out) (by rfl) (hS16'.fr ((Fr.refl [] w16).alloc _) (by simp)) ⟨w16.heap.size, 0, none⟩ 1 (.slice x0 y0 z0) (.slice x1 y1 z1) (.slice x2 y2 z2) (.slice x3 y3 z3) (by rfl) (World.news_of_block (cs := #[.slice x0 y0 z0, .slice x1 y1 z1, .slice x2 y2 z2, .slice x3 y3 z3]) (t := 57) (fr := (0, 0)) (heap_alloc_new w16 _)) (by simp [Value.oneCell']) ((hS16.base hsz15).fr ((Fr.refl [] w16).alloc _) (by simp)) (by omega) (by simp; exact Nat.le_succ_of_le (Nat.le_trans hsz15 hsz16)) ?_; intro g cap w17 l17 hS17 hF17 hl17 hg17))
          all_goals
            go_wp2_with fail
            go_meet
            case rel => exact ⟨g, cap, by rw [HNN1.out], hid (RGS.mk' HRp1.out hF15 hF16 hH16 hS17 hF17 hl17)⟩
        case rest =>
          obtain ⟨g1, cg1, rfl, hh⟩ := hcut
          obtain ⟨W1, hW1⟩ : ∃ W1, W1 = wc := ⟨_, rfl⟩
          subst hW1
          have HG1 := hh
          clear hh p0
          obtain ⟨k7, hr7⟩ := HG1.out.hr
          obtain ⟨hC7, hF57, hsub7⟩ := HC5.out.again HC6.out HF6.out hr7 HG1.out.fr
          have hF17 : FrP (FB E S1) wr W1 := HF15.out.step hF57 HO15.out
          have hO17 : ∀ x, FB E (S5.again k7) x → FB E S1 x ∨ wr.heap.size ≤ x := fun x hx => HO15.out x (hsub7 x hx)
          have hAG := pAgain HQ1.out (by have := HI.out; have := HL80.out; have := HN.out; omega) HFST.out k7 hC7 hF17 hO17
          have p2 := Blk.cell (HQ1.out.pb hF17) (i := 2) rfl
          have HF17 := hid hF17
          have HO17 := hid hO17
          have HAG := hid hAG
          have hl7 := hC7.ltF
          have HLT7 : Hid (∀ b, FB E (S5.again k7) b → b < w6.heap.size) := hid (fun b hb => Nat.lt_of_lt_of_le (HC5.out.ltF b (hsub7 b hb)) HF6.out.size)
          clear hr7 hC7 hF57 hsub7 hF17 hO17 hAG hl7
          go_wp2_with fail
          refine HAG.out.mono ?_
          rintro e w8 ⟨rfl, hF8, hx8, hinv8⟩
          have hF18 : FrP (FB E S1) wr w8 := HF17.out.step hF8 HO17.out
          have hpo8 : ¬ FB E (S5.again k7) A.pb := fun hc => (HO17.out _ hc).elim HPB.out.1 (fun h => by have := HPB.out.2; omega)
          have hM8 : M0 E (S5.again k7) (gExact E (S5.again k7) D1.regs) ≤ 2990 := by
            have := HFST.out.m0 HQ1.out k7 (gExact E (S5.again k7) D1.regs)
            have := HI.out
            have := HL80.out
            have := HN.out
            omega
          have HCY8 := hid (yCycle (eEng E _ _ hx8) _ _ 1 50 (by decide) w8 hinv8 hM8 hpo8 (Nat.lt_of_lt_of_le HPB.out.2 hF18.size) (Blk.cell (HQ1.out.pb hF18) (i := 2) rfl))
          have HF18 := hid hF18
          have HF8 := hid hF8
          clear p2 hF8 hx8 hinv8 hF18 hpo8 hM8
          go_wp2_with fail
          refine HCY8.out.mono ?_
          rintro e w9 ⟨u9, O9, M9, rfl, hF9, hO9, hI9, hM9⟩
          obtain ⟨S8, hC8, hQ8, rfl, hfst8⟩ := hI9.fst
          have hF19 : FrP (FB E S1) wr w9 := HF18.out.step hF9 HO17.out
          have hO19 : ∀ x, FB E S8 x → FB E S1 x ∨ wr.heap.size ≤ x := fun x hx => (hO9 x hx).elim (HO17.out x) (fun h => .inr (Nat.le_trans HF18.out.size h))
          have hab8 : S8.L.ab ∈ S8.L.all := by simp [HL.all, HL.fp]
          have habl8 : S8.L.ab < w9.heap.size := hC8.all_lt hab8
          have hnew8 : FB E (S5.again k7) S8.L.ab ∨ W1.heap.size ≤ S8.L.ab := (hO9 _ (.inr (.inl hab8))).imp id (fun h => Nat.le_trans HF8.out.size h)
          have p0 : w9.cell? ⟨A.pb, 0, none⟩ = some (.pointer (some ⟨S8.L.hb, 0, none⟩)) := by rw [hC8.hb]; exact Blk.cell (HQ1.out.pb hF19) (i := 0) rfl
          have p2 := Blk.cell (HQ1.out.pb hF19) (i := 2) rfl
          have hcc := cCycles E.kb S8.L.hb E.mb E.tb S8.c w9 hC8.c
          have hcy2 : S8.c.cyc = 2 := by
            rw [hfst8.cyc]
            show S5.c.cyc + 1 = 2
            rw [HFST.out.cyc, HQ1.out.j.rvv.2]
          rw [hcy2] at hcc
          have HCC := hid hcc
          have HRp2 := hid hC8.hr
          have HHI2 := hid hfst8.ci.mh.hi
          have HPL2 : Hid (A.pb < w9.heap.size) := hid (Nat.lt_of_lt_of_le HPB.out.2 hF19.size)
          have HPA2 : Hid (A.pb ∉ [S8.L.ab]) := hid (fun hc => (hO19 A.pb (.inr (.inl (by rw [List.mem_singleton.1 hc]; exact hab8)))).elim HPB.out.1 (fun h => by have := HPB.out.2; omega))
          have HAB2 : Hid (∀ b ∈ [S8.L.ab], b < w9.heap.size) := hid (fun b hb => by rw [List.mem_singleton.1 hb]; exact habl8)
          have HF79 := hid (HF8.out.step hF9 (fun x hx => .inl hx))
          have HABX := hid hnew8
          have HFST8 := hid hfst8
          have HF19 := hid hF19
          have HO19 := hid hO19
          have HAB8 := hid hab8
          clear hF9 hO9 hI9 hM9 hC8 hQ8 hF19 hO19 hab8 habl8 hnew8 hcc hcy2 hfst8
          go_wp2_with fail
          refine HCC.out.mono ?_
          rintro e w10 ⟨rfl, hw10⟩
          subst hw10
          clear p2
          obtain ⟨NC2, hNC2⟩ : ∃ NC, NC = S8.s.cls.length := ⟨_, rfl⟩
          obtain ⟨NN2, hNN2⟩ : ∃ NN, NN = NC2 + 1 := ⟨_, rfl⟩
          have hN2 := HRp2.out.n3
          rw [← hNC2] at hN2
          have HNC2 := hid hNC2
          have HNN2 := hid hNN2
          clear hNC2 hNN2
          go_upto_region 25 with fail
          go_cut [16] (fun rv wx => ∃ g c, rv = .slice (some ⟨g, 0, none⟩) NN2 c ∧ Hid (RGS w9 wx S8.L S8.s S8.A rv))
          case first =>
            go_region_law (first
              | (go_simp; go_at_call 18; refine (hRings S8.L S8.s S8.A _ w9.drew HRp2.out.drew HHI2.out).mono ?_; rintro e w15 ⟨⟨rv, rfl, hS15⟩, ⟨k15, hH15⟩, hF15⟩; have r0 := (cell_fr hF15 HPA2.out HPL2.out 0).trans p0; have hsz15 := hF15.size)
              | (go_simp; go_at_call 19; refine (hLarge S8.L (S8.s.tick k15) S8.A _ w15 hH15 (HHI2.out.tick k15)).mono ?_; rintro e w16 ⟨⟨lv, rfl, hS16⟩, ⟨k16, hH16⟩, hF16⟩; obtain ⟨x0, y0, z0, x1, y1, z1, x2, y2, z2, x3, y3, z3, rfl⟩ := hS16.parts; have hS16' := hS15.fr hF16 HAB2.out; have hsz16 := hF16.size)
              | (refine step_segs (by rfl) _ _ (by rfl) w9.heap.size rv (rowsTo S8.A S8.s.cls.length) (S8.A none) NC2 (by rw [rowsTo_len]; exact HNC2.out) (by rfl) (hS16'.fr ((Fr.refl [] w16).alloc _) (by simp)) ⟨w16.heap.size, 0, none⟩ 1 (.slice x0 y0 z0) (.slice x1 y1 z1) (.slice x2 y2 z2) (.slice x3 y3 z3) (by rfl) (World.news_of_block (cs := #[.slice x0 y0 z0, .slice x1 y1 z1, .slice x2 y2 z2, .slice x3 y3 z3]) (t := 57) (fr := (0, 0)) (heap_alloc_new w16 _)) (by simp [Value.oneCell']) ((hS16.base hsz15).fr ((Fr.refl [] w16).alloc _) (by simp)) (by omega) (by simp; exact Nat.le_succ_of_le (Nat.le_trans hsz15 hsz16)) ?_; intro g cap w17 l17 hS17 hF17 hl17 hg17))
            all_goals
              go_wp2_with fail
              go_meet
              case rel => exact ⟨g, cap, by rw [HNN2.out], hid (RGS.mk' HRp2.out hF15 hF16 hH16 hS17 hF17 hl17)⟩
          case rest =>
            obtain ⟨g2, cg2, rfl, hh⟩ := hcut
            obtain ⟨W2, hW2⟩ : ∃ W2, W2 = wc := ⟨_, rfl⟩
            subst hW2
            have HG2 := hh
            clear hh p0
            have hcl8 : S8.s.cls = S5.s.cls := HFST8.out.cls
            have HN45 : Hid (NN2 = NN1) := hid (by rw [HNN2.out, HNN1.out, HNC2.out, HNC1.out, hcl8])
            have HNL1 : Hid (NN1 = (allRs S5.A S5.s.cls.length).length) := hid (by rw [allRs_len, HNN1.out, HNC1.out])
            have HNL2 : Hid (NN2 = (allRs S8.A S5.s.cls.length).length) := hid (by rw [allRs_len, HN45.out, HNN1.out, HNC1.out])
            have hseg2 := HG2.out.segs
            rw [hcl8] at hseg2
            obtain ⟨l9, hl9, hlS⟩ := (HF79.out.step (FrP.of (S := fun x => x ∈ [S8.L.ab]) HG2.out.fr (fun x hx => .inl hx)) (fun x hx => by rw [List.mem_singleton.1 hx]; exact HABX.out)).toFr
            have hseg1 := HG1.out.segs.fr hl9 (fun b hb => HLT7.out b (hlS b hb))
            have HSG1 := hid hseg1
            have HSG2 := hid hseg2
            have HCI8 := hid HFST8.out.ci
            have hn101 : NN1 ≤ 101 := by have := HNN1.out; omega
            have HLE : Hid (∀ q, (S8.A q).B.length ≤ (S5.A q).B.length) := hid (fun q => again_le (HFST.out.ci.again k7) HFST8.out q)
            have HEQ : Hid (bb = false → ∀ q, (S5.A q).B.length ≤ (S8.A q).B.length) := hid (fun hb q => again_eq (fun x hx y hy e => HQ1.out.j.ci.mh.one hx hy e) HFST.out k7 HFST8.out (by
              have h1 := HBB.out hb
              rw [HBN.out] at h1
              rw [HQ1.out.j.bl]
              exact List.eq_nil_of_length_eq_zero h1) q)
            clear hcl8 hseg1 hseg2 hl9 hlS
            cases bb with
            | true =>
              go_wp2_with fail
              go_loopw [17] (fun iv wx => ∃ i : Nat, iv = .int .i64 i ∧ i ≤ NN1 ∧ Fr [] W2 wx) (fun iv _ => NN1 - (intOf iv).toNat)
              case atStart => exact ⟨0, rfl, Nat.zero_le _, Fr.refl _ _⟩
              case round =>
                obtain ⟨ic, rfl, hic, hfx⟩ := hrel
                have HFX := hid hfx
                by_cases hlt : ic < NN1
                · have hlt' : (ic : Int) < (NN1 : Int) := by omega
                  have hlt2 : (ic : Int) < (NN2 : Int) := by have := HN45.out; omega
                  obtain ⟨R1, hR1⟩ : ∃ R, (allRs S5.A S5.s.cls.length)[ic]? = some R := ⟨_, List.getElem?_eq_getElem (by have := HNL1.out; omega)⟩
                  obtain ⟨R2, hR2⟩ : ∃ R, (allRs S8.A S5.s.cls.length)[ic]? = some R := ⟨_, List.getElem?_eq_getElem (by have := HNL2.out; omega)⟩
                  have hR12 : ∃ q, R1 = S5.A q ∧ R2 = S8.A q := by
                    obtain ⟨q, e1, e2, e3⟩ := allRs_get hR1
                    obtain ⟨q', f1, f2, f3⟩ := allRs_get hR2
                    by_cases hq : ic = S5.s.cls.length
                    · exact ⟨none, by rw [e1, e2.2 hq], by rw [f1, f2.2 hq]⟩
                    · have h1 := allRs_some (A := S5.A) (n := S5.s.cls.length) (k := ic) (by omega)
                      have h2 := allRs_some (A := S8.A) (n := S5.s.cls.length) (k := ic) (by omega)
                      rw [hR1] at h1
                      rw [hR2] at h2
                      exact ⟨some ic, Option.some.inj h1, Option.some.inj h2⟩
                  obtain ⟨ga, ea, -, -, a0, a0c, a1, a1c, a2, a2c, a3, a3c, -, -, -, qa, -⟩ := (HSG1.out.fr HFX.out (by simp)).at_ HNL1.out hR1
                  obtain ⟨gb2, eb, -, -, b0, b0c, b1, b1c, b2, b2c, b3, b3c, -, qb1, qb2, qb3, -⟩ := (HSG2.out.fr HFX.out (by simp)).at_ HNL2.out hR2
                  cases ea
                  cases eb
                  obtain ⟨q, rfl, rfl⟩ := hR12
                  have hno := HCI8.out.black q
                  rw [hno.1] at qb1
                  rw [hno.2] at qb2
                  simp only [List.length_nil] at qb1 qb2
                  have hle := HLE.out q
                  obtain ⟨X1, hX1⟩ : ∃ X1, X1 = (S5.A q).B.length := ⟨_, rfl⟩
                  obtain ⟨X2, hX2⟩ : ∃ X2, X2 = (S8.A q).B.length := ⟨_, rfl⟩
                  rw [← hX1] at qa hle
                  rw [← hX2] at qb3 hle
                  have hgt : ¬ (X1 : Int) < (X2 : Int) := by omega
                  clear hno hR1 hR2 hX1 hX2 hfx
                  go_upto_region 29 with fail
                  go_cut [172] (fun v wx => v = .bool false ∧ Fr [] W2 wx)
                  case first =>
                    have cb : decide ((X1 : Int) < (X2 : Int)) = false := decide_eq_false hgt
                    go_quiet (fail)
                    go_wp2_with fail
                    go_meet
                    case rel => exact ⟨rfl, HFX.out.drewN _⟩
                  case rest =>
                    obtain ⟨rfl, hfw⟩ := hcut
                    have HFW := hid hfw
                    clear hfw qa qb1 qb2 qb3
                    go_wp2_with fail
                    go_roundw
                    case rel => exact ⟨ic + 1, by go_num, by omega, HFW.out⟩
                    case measure => simp [intOf]; omega
                · have hlt' : ¬ (ic : Int) < (NN1 : Int) := by omega
                  have HEND : Hid (Fr [] w wr) := hid (HF2.out.trans (by
                    rw [← HW0.out]
                    exact HQ1.out.frame ((HF19.out.step (FrP.of (S := fun x => x ∈ [S8.L.ab]) HG2.out.fr (fun x hx => .inl hx)) (fun x hx => HO19.out x (by rw [List.mem_singleton.1 hx]; exact .inr (.inl HAB8.out)))).step (FrP.of (S := fun _ => False) HFX.out (by simp)) (fun x hx => hx.elim))))
                  clear hfx
                  go_wp2_with fail
                  go_ret
                  exact ⟨rfl, HEND.out⟩
            | false =>
              go_wp2_with fail
              go_loopw [17] (fun iv wx => ∃ i : Nat, iv = .int .i64 i ∧ i ≤ NN1 ∧ Fr [] W2 wx) (fun iv _ => NN1 - (intOf iv).toNat)
              case atStart => exact ⟨0, rfl, Nat.zero_le _, Fr.refl _ _⟩
              case round =>
                obtain ⟨ic, rfl, hic, hfx⟩ := hrel
                have HFX := hid hfx
                by_cases hlt : ic < NN1
                · have hlt' : (ic : Int) < (NN1 : Int) := by omega
                  have hlt2 : (ic : Int) < (NN2 : Int) := by have := HN45.out; omega
                  obtain ⟨R1, hR1⟩ : ∃ R, (allRs S5.A S5.s.cls.length)[ic]? = some R := ⟨_, List.getElem?_eq_getElem (by have := HNL1.out; omega)⟩
                  obtain ⟨R2, hR2⟩ : ∃ R, (allRs S8.A S5.s.cls.length)[ic]? = some R := ⟨_, List.getElem?_eq_getElem (by have := HNL2.out; omega)⟩
                  have hR12 : ∃ q, R1 = S5.A q ∧ R2 = S8.A q := by
                    obtain ⟨q, e1, e2, e3⟩ := allRs_get hR1
                    obtain ⟨q', f1, f2, f3⟩ := allRs_get hR2
                    by_cases hq : ic = S5.s.cls.length
                    · exact ⟨none, by rw [e1, e2.2 hq], by rw [f1, f2.2 hq]⟩
                    · have h1 := allRs_some (A := S5.A) (n := S5.s.cls.length) (k := ic) (by omega)
                      have h2 := allRs_some (A := S8.A) (n := S5.s.cls.length) (k := ic) (by omega)
                      rw [hR1] at h1
                      rw [hR2] at h2
                      exact ⟨some ic, Option.some.inj h1, Option.some.inj h2⟩
                  obtain ⟨ga, ea, -, -, a0, a0c, a1, a1c, a2, a2c, a3, a3c, -, -, -, qa, -⟩ := (HSG1.out.fr HFX.out (by simp)).at_ HNL1.out hR1
                  obtain ⟨gb2, eb, -, -, b0, b0c, b1, b1c, b2, b2c, b3, b3c, -, qb1, qb2, qb3, -⟩ := (HSG2.out.fr HFX.out (by simp)).at_ HNL2.out hR2
                  cases ea
                  cases eb
                  obtain ⟨q, rfl, rfl⟩ := hR12
                  have hno := HCI8.out.black q
                  rw [hno.1] at qb1
                  rw [hno.2] at qb2
                  simp only [List.length_nil] at qb1 qb2
                  have hle := HLE.out q
                  have heq := fun hb => HEQ.out hb q
                  obtain ⟨X1, hX1⟩ : ∃ X1, X1 = (S5.A q).B.length := ⟨_, rfl⟩
                  obtain ⟨X2, hX2⟩ : ∃ X2, X2 = (S8.A q).B.length := ⟨_, rfl⟩
                  rw [← hX1] at qa hle heq
                  rw [← hX2] at qb3 hle heq
                  have hHEQ := hid heq
                  have hgt : ¬ (X1 : Int) < (X2 : Int) := by omega
                  clear hno hR1 hR2 hX1 hX2 hfx heq
                  go_upto_region 29 with fail
                  go_cut [172] (fun v wx => v = .bool false ∧ Fr [] W2 wx)
                  case first =>
                    have he : X2 = X1 := by have := hHEQ.out trivial; omega
                    subst he
                    have cb : decide ((X2 : Int) < (X2 : Int)) = false := decide_eq_false hgt
                    have ce : ((X2 : Int) != (X2 : Int)) = false := by simp
                    go_quiet (fail)
                    go_wp2_with fail
                    go_meet
                    case rel => exact ⟨rfl, HFX.out.drewN _⟩
                  case rest =>
                    obtain ⟨rfl, hfw⟩ := hcut
                    have HFW := hid hfw
                    clear hfw qa qb1 qb2 qb3
                    go_wp2_with fail
                    go_roundw
                    case rel => exact ⟨ic + 1, by go_num, by omega, HFW.out⟩
                    case measure => simp [intOf]; omega
                · have hlt' : ¬ (ic : Int) < (NN1 : Int) := by omega
                  have HEND : Hid (Fr [] w wr) := hid (HF2.out.trans (by
                    rw [← HW0.out]
                    exact HQ1.out.frame ((HF19.out.step (FrP.of (S := fun x => x ∈ [S8.L.ab]) HG2.out.fr (fun x hx => .inl hx)) (fun x hx => HO19.out x (by rw [List.mem_singleton.1 hx]; exact .inr (.inl HAB8.out)))).step (FrP.of (S := fun _ => False) HFX.out (by simp)) (fun x hx => hx.elim))))
                  clear hfx
                  go_wp2_with fail
                  go_ret
                  exact ⟨rfl, HEND.out⟩
end Go.Proofs.YtklnpooninbogaaGreat
