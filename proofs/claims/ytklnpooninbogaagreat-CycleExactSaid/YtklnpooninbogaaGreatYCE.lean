
import Derived.Test.YtklnpooninbogaaGreatMYPPop
import Derived.Test.YtklnpooninbogaaGreatYPStep
import Derived.Test.YtklnpooninbogaaGreatMYPick
import Derived.Deep.CutBlock
namespace Go.Proofs.YtklnpooninbogaaGreat
open Go Go.Proofs Go.RowKit
set_option maxRecDepth 100000 in
set_option maxHeartbeats 6400000 in
theorem lawCExact (W Lg a b c d : Int) (gb pc : Nat) (sv v : Value) (cls l : List Int) (w : World) (hs : SlArg w sv cls) (hl : SlArg w v l) (hgb : gb < 256) (hpc : pc < 256) (hlx : ∀ x ∈ l, -9223372036854775808 ≤ x ∧ x ≤ 9223372036854775807) :
    Calls Tryz.prog 5 #[.agg #[.int .i64 W, .int .i64 Lg, .int .i64 a, .int .i64 b, .int .i64 c, .int .i64 d, sv], .int .u8 gb, v, .int .u8 pc] w fun e w' => e = .returned (.bool true) ∧ Fr [] w w' := by
  obtain ⟨lp, lcap, rfl⟩ := slForm hl
  obtain ⟨N, hN⟩ : ∃ N, N = l.length := ⟨_, rfl⟩
  have B0 := Blk.new w [.int .i64 W, .int .i64 Lg, .int .i64 a, .int .i64 b, .int .i64 c, .int .i64 d, sv] 24
  have HB0 := hid B0
  have hF0 : Fr [] w (w.alloc (.cells #[.int .i64 W, .int .i64 Lg, .int .i64 a, .int .i64 b, .int .i64 c, .int .i64 d, sv] 24)) := (Fr.refl _ w).alloc _
  have HF0 := hid hF0
  have HSL := hid hs
  have HLL := hid hl
  rw [← hN] at hl ⊢
  have HLX := hid hlx
  have HN := hid hN
  clear B0 hF0 hs hl hN hlx
  go_enter Tryz.func5, Tryz.ntmps5
  go_wp2_with fail
  refine (yAwake _).mono ?_
  rintro e w1 ⟨rfl, hF1⟩
  have hF1' := HF0.out.trans hF1
  have hB1 := HB0.out.fr hF1 (by simp)
  have c0 := hB1.cell (i := 0) rfl
  have c1 := hB1.cell (i := 1) rfl
  have c2 := hB1.cell (i := 2) rfl
  have c3 := hB1.cell (i := 3) rfl
  have c4 := hB1.cell (i := 4) rfl
  have c5 := hB1.cell (i := 5) rfl
  have c6 := hB1.cell (i := 6) rfl
  have HF1 := hid hF1'
  have HB1 := hid hB1
  clear hF1 hF1' hB1
  go_wp2_with fail
  refine (yFew W Lg a b c d sv _ cls l w1 (HSL.out.fr HF1.out (by simp)) (by rw [HN.out]; exact HLL.out.fr HF1.out (by simp))).mono ?_
  rintro e w2 ⟨rfl, hF2⟩
  have hF2' := HF1.out.trans hF2
  have HF2 := hid hF2'
  have hB2 := HB1.out.fr hF2 (by simp)
  have HB2 := hid hB2
  clear c0 c1 c2 c3 c4 c5 c6
  have c0 := hB2.cell (i := 0) rfl
  have c1 := hB2.cell (i := 1) rfl
  have c2 := hB2.cell (i := 2) rfl
  have c3 := hB2.cell (i := 3) rfl
  have c4 := hB2.cell (i := 4) rfl
  have c5 := hB2.cell (i := 5) rfl
  have c6 := hB2.cell (i := 6) rfl
  clear hB2 hF2 hF2'
  cases hfew : few18 W Lg cls l.length with
  | false =>
    clear hfew
    go_wp2_with fail
    go_ret
    exact ⟨rfl, HF2.out⟩
  | true =>
    unfold few18 at hfew
    rw [Bool.and_eq_true, Bool.and_eq_true, rightB_iff, decide_eq_true_eq, decide_eq_true_eq] at hfew
    obtain ⟨⟨hR, hW⟩, hl80⟩ := hfew
    obtain ⟨Wn, rfl⟩ := Int.eq_ofNat_of_zero_le (show 0 ≤ W by have := hR.w1; omega)
    obtain ⟨Ln, rfl⟩ := Int.eq_ofNat_of_zero_le hR.l1
    obtain ⟨sp, scap, rfl⟩ := slForm HSL.out
    obtain ⟨cb, so, rfl, hrd⟩ := slRead HSL.out (by have := hR.n1; omega)
    have HM := hid (yMade Wn Ln a b c d cls cb so scap (gb % 6) w2 hR (hrd.fr HF2.out (by simp)) (by omega) (fun _ _ => none) (List.range _) (fun _ _ _ h => by cases h) (fun b hb => List.mem_range.1 hb) (fun k hk => List.mem_range.2 hk))
    have HL80 := hid hl80
    clear hR hW hl80 hrd
    go_wp2_with fail
    refine HM.out.mono ?_
    rintro e w3 ⟨E, A, S, D, rfl, hq, -, hgl, hw0⟩
    have HQ := hid hq
    have HGL := hid hgl
    have HW0 := hid hw0
    clear hq hgl hw0 c0 c1 c2 c3 c4 c5 c6
    go_upto_block 0 with fail
    go_cut [11] (fun iv wx => ∃ (i : Nat) (S : CY) (D : DPs), iv = .int .i64 i ∧ Hid (i ≤ N ∧ PQ E A (gb % 6 + i) S D wx))
    case first =>
     as_aux_lemma =>
      go_wp2_with fail
      go_loopw [11] (fun iv wr => ∃ (i : Nat) (S : CY) (D : DPs), iv = .int .i64 i ∧ i ≤ N ∧ PQ E A (gb % 6 + i) S D wr) (fun iv _ => N - (intOf iv).toNat)
      case atStart => exact ⟨0, S, D, rfl, Nat.zero_le _, HQ.out⟩
      case round =>
        obtain ⟨i, S1, D1, rfl, hi, hq⟩ := hrel
        have HQ1 := hid hq
        have p6 := Blk.cell (hq.pb (FrP.refl _ _)) (i := 6) rfl
        have hfr := hq.frame (FrP.refl _ wr)
        rw [HW0.out] at hfr
        have HFR := hid (HF2.out.trans hfr)
        have HI := hid hi
        clear hq hfr
        have p2 := Blk.cell (HQ1.out.pb (FrP.refl _ _)) (i := 2) rfl
        have hN80 : N ≤ 80 := by have := HL80.out; have := HN.out; omega
        by_cases hgo : i < N ∧ D1.full = false
        · obtain ⟨hlt, hfull⟩ := hgo
          have hlt' : (i : Int) < (N : Int) := by omega
          rw [hfull] at p6
          obtain ⟨lb, lo, rfl, hrd⟩ := slRead (HLL.out.fr HFR.out (by simp)) (by have := HN.out; omega)
          obtain ⟨x, hx⟩ : ∃ x, l[i]? = some x := ⟨_, List.getElem?_eq_getElem (by have := HN.out; omega)⟩
          have hcx := hrd.2 i (.int .i64 x) (by rw [List.getElem?_map, hx]; rfl)
          have HST := hid (yStep E A (gb % 6 + i) S1 D1 wr HQ1.out (by have := HL80.out; have := HN.out; omega) x (HLX.out x (List.mem_of_getElem? hx)))
          clear hrd hx p2
          go_wp2_with fail
          refine HST.out.mono ?_
          rintro e w4 ⟨rfl, S4, D4, hq4⟩
          have HQ4 := hid hq4
          clear hq4 hcx p6
          go_wp2_with fail
          go_roundw
          case rel => exact ⟨i + 1, S4, D4, by go_num, by omega, HQ4.out⟩
          case measure => simp [intOf]; omega
        · have hor : ((i : Int) < (N : Int) ∧ D1.full = true) ∨ (¬ (i : Int) < (N : Int) ∧ D1.full = true) ∨ (¬ (i : Int) < (N : Int) ∧ D1.full = false) := by
            cases hf : D1.full <;> by_cases hl : i < N
            · exact absurd ⟨hl, hf⟩ hgo
            · exact .inr (.inr ⟨by omega, rfl⟩)
            · exact .inl ⟨by omega, rfl⟩
            · exact .inr (.inl ⟨by omega, rfl⟩)
          clear hgo
          rcases hor with ⟨hlt', hfull⟩ | ⟨hlt', hfull⟩ | ⟨hlt', hfull⟩
          all_goals
            rw [hfull] at p6
            go_wp2_with fail
            go_meet
            case rel => exact ⟨i, S1, D1, rfl, hid ⟨HI.out, HQ1.out⟩⟩
    case rest =>
      obtain ⟨i, S1, D1, rfl, hh⟩ := hcut
      obtain ⟨wr, hwr⟩ : ∃ wr, wr = wc := ⟨_, rfl⟩
      subst hwr
      obtain ⟨hi, hq⟩ := hh.out
      clear hh
      have HQ1 := hid hq
      have HI := hid hi
      have p2 := Blk.cell (hq.pb (FrP.refl _ _)) (i := 2) rfl
      have hfr := hq.frame (FrP.refl _ wr)
      rw [HW0.out] at hfr
      have HFR := hid (HF2.out.trans hfr)
      clear hq hfr
      have hN80 : N ≤ 80 := by have := HL80.out; have := HN.out; omega
      have HRC := hid (HQ1.out.j.reached (HQ1.out.t.rg HQ1.out.j.ci (by have := HI.out; have := HL80.out; have := HN.out; omega) (fun f hf => (HQ1.out.j.fr2 f hf).2.2)) (Fr.refl [] wr) (by simp))
      have p3 := Blk.cell (HQ1.out.pb (FrP.refl _ _)) (i := 3) rfl
      clear p2
      go_wp2_with fail
      refine HRC.out.mono ?_
      rintro e w4 ⟨om, lk, Lv, rfl, hom, him, hnd, hsub, hiff, hlk, hF4⟩
      have hq4 := HQ1.out.calm hF4
      have p3' := Blk.cell (hq4.pb (FrP.refl _ _)) (i := 3) rfl
      have w3 := Blk.cell hq4.j.dr.wb (i := 3) rfl
      have hlab : ∀ b, D1.lab b = 2 → b < w4.heap.size := fun b hb => (hq4.j.dr.sep b (by rw [hb]; decide)).1
      have hfs : S1.k.fs.length ≤ 100 := hq4.j.fcnt
      have hrd := ((hq4.j.dr.fv).mono (fun b (hb : D1.lab b = 2) => (show D1.lab b ≠ 0 by rw [hb]; decide))).rdss (fun g hg => by rw [hq4.j.dr.lf g hg]; decide) (by rw [List.length_map]; omega)
      obtain ⟨fA, fc, hfv, hfl, hfat⟩ := hrd
      obtain ⟨NF, hNF⟩ : ∃ NF, NF = S1.k.fs.length := ⟨_, rfl⟩
      rw [List.length_map, ← hNF] at hfv
      rw [hfv] at w3
      have HQ4 := hid hq4
      have HNF := hid hNF
      have HFAT := hid hfat
      have HIM4 := hid him
      have HLV := hid (show Lv.Nodup ∧ (∀ o ∈ Lv, o ∈ S1.obs) ∧ (∀ o ∈ S1.obs, o ∈ Lv ↔ Rch S1.obs (W0of S1.s) (rootsL E.gl D1.regs (S1.k.fs.map Fm.l) (S1.rw.map Ob.p) []) o.p) from ⟨hnd, hsub, hiff⟩)
      have HLK := hid hlk
      have HOM := hid hom
      have HF4 := hid hF4
      have hnf100 : NF ≤ 100 := by omega
      have HFV := hid hfv
      obtain ⟨w5, hw5⟩ : ∃ w5, w5 = w4 := ⟨_, rfl⟩
      subst hw5
      clear hq4 hfv hNF hfat him hnd hsub hiff hlk hom hF4 hlab hfl p3
      go_wp2_with fail
      go_loopw [14, 15] (fun wv iv wx => ∃ i : Nat, iv = .int .i64 i ∧ i ≤ NF ∧ wv = .int .i64 (scanN S1.k.fs i) ∧ wx = w5) (fun _ iv _ => NF - (intOf iv).toNat)
      case atStart => exact ⟨0, rfl, Nat.zero_le _, by simp [scanN], rfl⟩
      case round =>
        obtain ⟨j, rfl, hj, rfl, hwj⟩ := hrel
        subst hwj
        have hs3 : ∀ n, scanN S1.k.fs n ≤ 300 := scan_le (fun f hf => (HQ4.out.j.fr2 f hf).2.2) HQ4.out.j.fcnt
        by_cases hlt : j < NF
        · have hlt' : (j : Int) < (NF : Int) := by omega
          obtain ⟨f, hf⟩ : ∃ f, S1.k.fs[j]? = some f := ⟨_, List.getElem?_eq_getElem (by have := HNF.out; omega)⟩
          obtain ⟨fg, fo, fsv, rfl, -, -, fcell, hfsv⟩ := HFAT.out j f.l (by rw [List.getElem?_map, hf]; rfl)
          obtain ⟨gA, gc, rfl, hgl, -⟩ := hfsv
          have hsu := scanN_succ hf
          have hb1 := hs3 j
          have hb2 := hs3 (j + 1)
          obtain ⟨FL, hFL⟩ : ∃ FL, FL = f.l.length := ⟨_, rfl⟩
          rw [← hFL] at fcell hsu hgl
          obtain ⟨SN, hSN⟩ : ∃ SN, SN = scanN S1.k.fs j := ⟨_, rfl⟩
          rw [← hSN] at hsu hb1 ⊢
          have hbb : SN + (1 + FL) ≤ 300 := by rw [← hsu]; exact hb2
          have HSU := hid hsu
          clear hf hsu hb2 hFL hSN hs3
          go_wp2_with fail
          go_roundw
          case rel => exact ⟨j + 1, by go_num, by omega, by rw [HSU.out]; go_num, trivial⟩
          case measure => simp [intOf]; omega
        · have hlt' : ¬ (j : Int) < (NF : Int) := by omega
          obtain rfl : j = NF := by omega
          obtain ⟨w5, hw5⟩ : ∃ w5, w5 = wr := ⟨_, rfl⟩
          subst hw5
          have p0 := Blk.cell (HQ4.out.pb (FrP.refl _ _)) (i := 0) rfl
          have hlg := hLarge S1.L S1.s S1.A _ w5 HQ4.out.j.cr.hr HQ4.out.j.ci.mh.hi
          rw [HQ4.out.j.cr.hb] at hlg
          have HLG := hid hlg
          obtain ⟨SW, hSW⟩ : ∃ SW, SW = scanN S1.k.fs j := ⟨_, rfl⟩
          have hsw : SW ≤ 300 := by rw [hSW]; exact hs3 j
          rw [← hSW]
          have HSW := hid hSW
          clear hlg hs3 hSW
          go_wp2_with fail
          refine HLG.out.mono ?_
          rintro e w6 ⟨⟨lv, rfl, hS6⟩, ⟨k6, hH6⟩, hF6⟩
          obtain ⟨x0, y0, z0, x1, y1, z1, x2, y2, z2, x3, y3, z3, rfl⟩ := hS6.parts
          have hq6 := HQ4.out.tk hH6 hF6
          have HQ6 := hid (hq6.calm ((Fr.refl [] w6).alloc (.cells #[.slice x0 y0 z0, .slice x1 y1 z1, .slice x2 y2 z2, .slice x3 y3 z3] 57)))
          have HAR := hid (dAround _ _ _ _ (S1.A none) w5.heap.size _ (hS6.fr ((Fr.refl [] w6).alloc (.cells #[.slice x0 y0 z0, .slice x1 y1 z1, .slice x2 y2 z2, .slice x3 y3 z3] 57)) (by simp)) (by have := all_len HQ4.out.j.ci.mh.hi none; omega))
          have hIM6 := ((HIM4.out.fr hF6 (fun hc => by have := HQ1.out.j.cr.ltF _ (.inr (.inl (show S1.L.ab ∈ S1.L.all by simp [HL.all, HL.fp]))); have := HOM.out; have := List.mem_singleton.1 hc; omega)).alloc (.cells #[.slice x0 y0 z0, .slice x1 y1 z1, .slice x2 y2 z2, .slice x3 y3 z3] 57))
          have C6 := Blk.new w6 [.slice x0 y0 z0, .slice x1 y1 z1, .slice x2 y2 z2, .slice x3 y3 z3] 57
          have g0 := C6.cell (i := 0) rfl
          have g1 := C6.cell (i := 1) rfl
          have g2 := C6.cell (i := 2) rfl
          have g3 := C6.cell (i := 3) rfl
          have HIM6 := hid hIM6
          clear p0 hS6 hH6 hF6 hq6 hIM6 C6 w3 p3'
          go_wp2_with fail
          refine HAR.out.mono ?_
          rintro e w7 ⟨v7, l7, rfl, hl7, hr7, hF7⟩
          obtain ⟨a7, c7, rfl⟩ := hr7.form
          obtain ⟨n7, hn7⟩ : ∃ n7, n7 = l7.length := ⟨_, rfl⟩
          rw [← hn7]
          have hn7b : n7 ≤ 65537 := by rw [hn7, hl7]; exact all_len HQ4.out.j.ci.mh.hi none
          have HN7 : Hid ((S1.A none).B.length ≤ n7) := hid (by rw [hn7, hl7]; unfold Rows.all; simp only [List.length_append]; omega)
          have hq7a := HQ6.out.calm hF7
          have hq7 := hq7a.calm ((Fr.refl [] w7).alloc (.cells #[] 3))
          have HIM7 := hid (HIM6.out.fr hF7 (by simp))
          have p3 := Blk.cell (hq7.pb (FrP.refl _ _)) (i := 3) rfl
          have w4 := Blk.cell hq7.j.dr.wb (i := 4) rfl
          obtain ⟨aR, cR, hrv⟩ := hq7.j.dr.row.form
          obtain ⟨RW, hRW⟩ : ∃ RW, RW = S1.rw.map Ob.p := ⟨_, rfl⟩
          obtain ⟨NR, hNR⟩ : ∃ NR, NR = RW.length := ⟨_, rfl⟩
          have hrowR := hq7.j.dr.row
          rw [hrv, show ((S1.tk k6).rw.map Ob.p) = RW from hRW.symm, ← hNR] at hrowR
          rw [hrv, show ((S1.tk k6).rw.map Ob.p) = RW from hRW.symm, ← hNR] at w4
          have hnr100 : NR ≤ 110 := by
            have h1 := HQ4.out.t.rwl
            have h2 := HQ4.out.t.cnt
            have := HI.out
            have := HL80.out
            have := HN.out
            rw [hNR, hRW, List.length_map]
            omega
          have HSR := hid (srcOf hrowR).1
          have HZR := hid (srcOf hrowR).2.1
          have HMR : Hid (([] : List Int).length + NR ≤ 1000000) := hid (by simp; omega)
          have HBR : Hid (w7.heap.size ≤ (w7.alloc (.cells #[] 3)).heap.size) := hid (by simp)
          have HE : Hid (Rowi (w7.alloc (.cells #[] 3)) w7.heap.size (.slice (some ⟨w7.heap.size, 0, none⟩) 0 0) []) := hid (by
            refine ⟨rfl, .inr ⟨w7.heap.size, 0, #[], rfl, Nat.le_refl _, ?_, Nat.le_refl _, Nat.zero_le _, rfl, rfl⟩⟩
            exact heap_alloc_new w7 _)
          have HQ7 := hid hq7a
          have HRW := hid hRW
          have HNR := hid hNR
          clear hl7 hr7 hn7 hF7 hq7 hq7a hrv hRW hNR hrowR g0 g1 g2 g3
          go_wp2_with (at_builtin; refine wpList_appi rfl _ _ rfl w7.heap.size _ [] rfl HE.out aR NR cR RW rfl HSR.out HZR.out HMR.out HBR.out ?_)
          intro v8 w8 hr8 hF8 ho8
          have hr8' : Rowi w8 w7.heap.size v8 RW := by simpa using hr8
          have hF78 : Fr [] w7 w8 := ((Fr.refl [] w7).alloc (.cells #[] 3)).step hF8 (fun x hx => by
            have hx' : x = w7.heap.size := by simpa [Value.ownBlock] using hx
            exact .inr (by omega))
          obtain ⟨a8, c8, rfl⟩ := hr8'.form
          rw [← HNR.out] at hr8' ⊢
          have HQ8 := hid (HQ7.out.calm hF78)
          have HIM8 := hid (HIM7.out.fr hF78 (by simp))
          have HROW8 := hid hr8'
          have HF78 := hid hF78
          obtain ⟨S2, hS2⟩ : ∃ S2, S2 = S1.tk k6 := ⟨_, rfl⟩
          have HLV2 : Hid (Lv.Nodup ∧ (∀ o ∈ Lv, o ∈ S2.obs) ∧ (∀ o ∈ S2.obs, o ∈ Lv ↔ Rch S2.obs (W0of S2.s) (rootsL E.gl D1.regs (S2.k.fs.map Fm.l) (S2.rw.map Ob.p) []) o.p)) := by rw [hS2]; exact HLV
          have HRW2 : Hid (RW = S2.rw.map Ob.p) := by rw [hS2]; exact HRW
          have HSW2 : Hid (SW = scanN S2.k.fs S2.k.fs.length) := hid (by rw [hS2]; exact HSW.out.trans (by rw [HNF.out]; rfl))
          have HN72 : Hid ((S2.A none).B.length ≤ n7) := by rw [hS2]; exact HN7
          have HLTF : Hid (∀ b, FB E S2 b → b < om) := hid (fun b hb => by rw [hS2] at hb; have := HQ1.out.j.cr.ltF b hb; have := HOM.out; omega)
          rw [← hS2] at HQ8
          clear hS2 hr8 hr8' hF8 ho8 hF78 p3 w4
          have p2 := Blk.cell (HQ8.out.pb (FrP.refl _ _)) (i := 2) rfl
          have HST := hid (pStartExact HQ8.out (by have := HI.out; have := HL80.out; have := HN.out; omega))
          go_wp2_with fail
          refine HST.out.mono ?_
          rintro e w9 ⟨rfl, hF9, hx, hinv⟩
          have hM3 : M0 E S2 (gExact E S2 D1.regs) ≤ 2990 := by
            have := HQ8.out.m0 (gExact E S2 D1.regs)
            have := HI.out
            have := HL80.out
            have := HN.out
            omega
          have hpb := HQ8.out.ncb (b := A.pb) (by rw [HQ8.out.j.dr.lp]; decide)
          have hcy := yCycle (eEng E _ _ hx) _ _ 1 (pc % 9 + 1) (by omega) w9 hinv hM3 hpb.1 (Nat.lt_of_lt_of_le hpb.2 hF9.size) (Blk.cell (HQ8.out.pb hF9) (i := 2) rfl)
          rw [show ((pc % 9 + 1 : Nat) : Int) = (pc : Int) % 9 + 1 by omega] at hcy
          have HCY := hid hcy
          have HF9 := hid hF9
          have HPB := hid hpb
          have hpc9 : (pc : Int) % 9 < 9 := by omega
          clear p2 hF9 hx hinv hM3 hpb hcy
          go_wp2_with fail
          refine HCY.out.mono ?_
          rintro e w10 ⟨u5, O5, M5, rfl, hF10, hO10, hI10, hM10⟩
          obtain ⟨S5, hC5, hQ5, rfl, hfst⟩ := hI10.fst
          have hF8x : FrP (FB E S2) w8 w10 := HF9.out.step hF10 (fun x hx => .inl hx)
          have hO8x : ∀ x, FB E S5 x → FB E S2 x ∨ w8.heap.size ≤ x := fun x hx => (hO10 x hx).imp id (fun h => Nat.le_trans HF9.out.size h)
          have hun := HQ8.out.units HLV2.out.1 HLV2.out.2.1 HLV2.out.2.2
          obtain ⟨bur, hexa, hbin, hbur⟩ := HQ8.out.exact HLV2.out.1 HLV2.out.2.1 HLV2.out.2.2 hfst hQ5
          have hcy1 : S5.c.cyc = 1 := by rw [hfst.cyc, HQ8.out.j.rvv.2]
          have kw := HQ8.out.ncb (b := A.wb) (by rw [HQ8.out.j.dr.lw]; decide)
          have hWB := Blk.frp HQ8.out.j.dr.wb hF8x kw.1
          have w1 := Blk.cell hWB (i := 1) rfl
          obtain ⟨aG, cG, hgv⟩ := HQ8.out.j.dr.gv.form
          obtain ⟨GL, hGL⟩ : ∃ GL, GL = E.gl.length := ⟨_, rfl⟩
          rw [hgv, ← hGL] at w1
          obtain ⟨LN, hLN⟩ : ∃ LN, LN = Lv.length := ⟨_, rfl⟩
          have hnom : om < w8.heap.size ∧ ¬ FB E S2 om := ⟨HIM8.out.lt, fun hc => by have := HLTF.out _ hc; omega⟩
          have HIM10 : Hid (IM w10 om ((Lv.map Ob.p).map fun x => (x, .bool true))) := hid (by
            obtain ⟨l9, hl9, hlS⟩ := hF8x.toFr
            exact HIM8.out.fr hl9 (fun hc => hnom.2 (hlS _ hc)))
          have hlen : ((Lv.map Ob.p).map fun x => (x, (Value.bool true))).length = LN := by simp [hLN]
          have hu : u5 ≤ GL + SW + LN + lk + NR + n7 := by
            have h1 := HSW2.out
            have h2 := HN72.out
            have h3 := HLK.out
            have h4 : NR = S2.rw.length := by rw [HNR.out, HRW2.out, List.length_map]
            rw [hun] at hM10
            omega
          obtain ⟨hb1, hb2⟩ : LN ≤ 110 ∧ lk ≤ 1100 := by
            have h1 := HQ8.out.lv HLV2.out.1 HLV2.out.2.1
            have := HI.out
            have := HL80.out
            have := HN.out
            have := HLK.out
            exact ⟨by omega, by omega⟩
          have hb3 : GL ≤ 10 := by rw [hGL]; exact HQ8.out.t.gll
          have HFST := hid hfst
          have HEXA := hid hexa
          have HBUR := hid (And.intro hbin hbur)
          have HC5 := hid hC5
          have HF8X := hid hF8x
          have HO8X := hid hO8x
          have HLN := hid hLN
          have HLEN := hid hlen
          have p2 := Blk.cell (HQ8.out.pb hF8x) (i := 2) rfl
          have p3 := Blk.cell (HQ8.out.pb hF8x) (i := 3) rfl
          have HCY1 := hid hcy1
          have hum : u5 ≤ 80000 := by omega
          have cb : decide ((GL : Int) + SW + LN + lk + NR + n7 < (u5 : Int)) = false := decide_eq_false (by omega)
          have HWB := hid hWB
          have HNOM := hid hnom
          clear hF10 hO10 hI10 hM10 hC5 hQ5 hfst hF8x hO8x hun hexa hbin hbur hcy1 kw hgv hGL hLN hlen hnom hWB hu
          go_upto_region 25 with fail
          go_cut [165] (fun v wx => v = .bool false ∧ Fr [] w10 wx)
          case first =>
           as_aux_lemma =>
            have hlenm : ∀ ty n, (Builtin.len_ #[53] ty #[.map (some om)]).run Tryz.prog (w10.drewN n) = .ok (.int .i64 LN) (w10.drewN n) := fun ty n => by
              have := run_len_im (P := Tryz.prog) (HIM10.out.drewN n) Tryz.underlying53 ty
              rw [HLEN.out] at this
              exact this
            go_quiet ((go_at_call 23; exact Calls.quiet_of_same (cCycles1 E.kb S5.L.hb E.mb E.tb S5.c 1 _ (Blk.fr HC5.out.c ((Fr.refl [] w10).drewN _) (by simp)) HCY1.out)))
            all_goals
              go_wp2_with fail
              go_meet
              case rel => exact ⟨rfl, (Fr.refl [] w10).drewN _⟩
          case rest =>
            obtain ⟨rfl, hF11⟩ := hcut
            obtain ⟨w11, hw11⟩ : ∃ w11, w11 = wc := ⟨_, rfl⟩
            subst hw11
            have hF8y : FrP (FB E S2) w8 w11 := HF8X.out.step (FrP.of (S := fun _ => False) hF11 (by simp)) (fun x hx => hx.elim)
            have hab5 : S5.L.ab ∈ S5.L.all := by simp [HL.all, HL.fp]
            have p0 : w11.cell? ⟨A.pb, 0, none⟩ = some (.pointer (some ⟨S5.L.hb, 0, none⟩)) := by rw [HC5.out.hb]; exact Blk.cell (HQ8.out.pb hF8y) (i := 0) rfl
            have HRp1 : Hid (HRep w11 S5.L S5.s) := hid (HC5.out.hr.fr hF11 (by simp))
            have HHI1 := hid HFST.out.ci.mh.hi
            have HPL1 : Hid (A.pb < w11.heap.size) := hid (Nat.lt_of_lt_of_le HPB.out.2 hF8y.size)
            have HPA1 : Hid (A.pb ∉ [S5.L.ab]) := hid (fun hc => (HO8X.out A.pb (.inr (.inl (by rw [List.mem_singleton.1 hc]; exact hab5)))).elim HPB.out.1 (fun h => by have := HPB.out.2; omega))
            have HAB1 : Hid (∀ b ∈ [S5.L.ab], b < w11.heap.size) := hid (fun b hb => by rw [List.mem_singleton.1 hb]; exact Nat.lt_of_lt_of_le (HC5.out.all_lt hab5) hF11.size)
            have HIM11 := hid (HIM10.out.fr hF11 (by simp))
            have HF11 := hid hF11
            have HF8Y := hid hF8y
            clear p2 p3 w1 hF11 hF8y hab5
            obtain ⟨NC1, hNC1⟩ : ∃ NC, NC = S5.s.cls.length := ⟨_, rfl⟩
            obtain ⟨NN1, hNN1⟩ : ∃ NN, NN = NC1 + 1 := ⟨_, rfl⟩
            have hN1 := HRp1.out.n3
            rw [← hNC1] at hN1
            have HNC1 := hid hNC1
            have HNN1 := hid hNN1
            clear hNC1 hNN1
            go_upto_region 28 with fail
            go_cut [22] (fun rv wx => ∃ g c, rv = .slice (some ⟨g, 0, none⟩) NN1 c ∧ Hid (RGS w11 wx S5.L S5.s S5.A rv))
            case first =>
              go_region_law (first
                | (go_simp; go_at_call 18; refine (hRings S5.L S5.s S5.A _ w11.drew HRp1.out.drew HHI1.out).mono ?_; rintro e w15 ⟨⟨rv, rfl, hS15⟩, ⟨k15, hH15⟩, hF15⟩; have r0 := (cell_fr hF15 HPA1.out HPL1.out 0).trans p0; have hsz15 := hF15.size)
                | (go_simp; go_at_call 19; refine (hLarge S5.L (S5.s.tick k15) S5.A _ w15 hH15 (HHI1.out.tick k15)).mono ?_; rintro e w16 ⟨⟨lv, rfl, hS16⟩, ⟨k16, hH16⟩, hF16⟩; obtain ⟨x0, y0, z0, x1, y1, z1, x2, y2, z2, x3, y3, z3, rfl⟩ := hS16.parts; have hS16' := hS15.fr hF16 HAB1.out; have hsz16 := hF16.size)
                | (refine step_segs (by rfl) _ _ (by rfl) w11.heap.size rv (rowsTo S5.A S5.s.cls.length) (S5.A none) NC1 (by rw [rowsTo_len]; exact HNC1.out) (by rfl) (hS16'.fr ((Fr.refl [] w16).alloc _) (by simp)) ⟨w16.heap.size, 0, none⟩ 1 (.slice x0 y0 z0) (.slice x1 y1 z1) (.slice x2 y2 z2) (.slice x3 y3 z3) (by rfl) (World.news_of_block (cs := #[.slice x0 y0 z0, .slice x1 y1 z1, .slice x2 y2 z2, .slice x3 y3 z3]) (t := 57) (fr := (0, 0)) (heap_alloc_new w16 _)) (by simp [Value.oneCell']) ((hS16.base hsz15).fr ((Fr.refl [] w16).alloc _) (by simp)) (by omega) (by simp; exact Nat.le_succ_of_le (Nat.le_trans hsz15 hsz16)) ?_; intro g cap w17 l17 hS17 hF17 hl17 hg17))
              all_goals
                as_aux_lemma =>
                 go_wp2_with fail
                 go_meet
                 case rel => exact ⟨g, cap, by rw [HNN1.out], hid (RGS.mk' HRp1.out hF15 hF16 hH16 hS17 hF17 hl17)⟩
            case rest =>
              obtain ⟨g1, cg1, rfl, hh⟩ := hcut
              obtain ⟨W1, hW1⟩ : ∃ W1, W1 = wc := ⟨_, rfl⟩
              subst hW1
              have HG1 := hh
              clear hh p0
              have HSEG := hid HG1.out.segs
              have HNL : Hid (NN1 = (allRs S5.A S5.s.cls.length).length) := hid (by rw [allRs_len, HNN1.out, HNC1.out])
              have HOM1 : Hid (IM W1 om ((Lv.map Ob.p).map fun x => (x, .bool true))) := hid (HIM11.out.fr HG1.out.fr (fun hc => by
                have e := List.mem_singleton.1 hc
                have h1 := HO8X.out S5.L.ab (.inr (.inl (by simp [HL.all, HL.fp])))
                rw [← e] at h1
                exact h1.elim HNOM.out.2 (fun h => by have := HNOM.out.1; omega)))
              have hn101 : NN1 ≤ 101 := by have := HNN1.out; omega
              have hw1 : IntKind.i64.wrap ((NN1 : Int) - 1) = (NN1 : Int) - 1 := by rw [IntKind.wrap_i64]; have := HNN1.out; omega
              have HCNT : Hid (blackTo (allRs S5.A S5.s.cls.length) NN1 = LN) := hid (by
                rw [HNL.out]
                unfold blackTo
                rw [List.take_length, HLN.out]
                exact HEXA.out.cnt)
              have HBLE := hid (blackTo_le (allRs S5.A S5.s.cls.length))
              have HBALL : Hid (blackTo (allRs S5.A S5.s.cls.length) (allRs S5.A S5.s.cls.length).length = LN) := hid (by rw [← HNL.out]; exact HCNT.out)
              go_wp2_with fail
              go_loopw [21, 23] (fun cv iv wx => ∃ i : Nat, iv = .int .i64 i ∧ i ≤ NN1 ∧ cv = .int .i64 (blackTo (allRs S5.A S5.s.cls.length) i : Nat) ∧ Fr [] W1 wx) (fun _ iv _ => NN1 - (intOf iv).toNat)
              case atStart => exact ⟨0, rfl, Nat.zero_le _, by simp [blackTo], Fr.refl _ _⟩
              case round =>
                obtain ⟨ic, rfl, hic, rfl, hfx⟩ := hrel
                have HFX := hid hfx
                clear hfx
                by_cases hlt : ic < NN1
                · as_aux_lemma =>
                  have hlt' : (ic : Int) < (NN1 : Int) := by omega
                  obtain ⟨R, hR⟩ : ∃ R, (allRs S5.A S5.s.cls.length)[ic]? = some R := ⟨_, List.getElem?_eq_getElem (by have := HNL.out; omega)⟩
                  obtain ⟨q, hRq, hqn, -⟩ := allRs_get hR
                  have hqn' : (ic : Int) = (NN1 : Int) - 1 → q = none := fun e => hqn.2 (by have := HNN1.out; have := HNC1.out; omega)
                  subst hRq
                  obtain ⟨ga, ea, -, -, a0, a0c, a1, a1c, a2, a2c, a3, a3c, qa0, qa1, qa2, qa3, qat⟩ := (HSEG.out.fr HFX.out (by simp)).at_ HNL.out hR
                  cases ea
                  rw [(HEXA.out.no q).1] at qa1
                  rw [(HEXA.out.no q).2] at qa2
                  simp only [List.length_nil] at qa1 qa2
                  have HR := hid hR
                  have HQN := hid hqn'
                  have HQA3 := hid qa3
                  have HQA0 := hid qa0
                  obtain ⟨T, hT⟩ : ∃ T, T = blackTo (allRs S5.A S5.s.cls.length) ic := ⟨_, rfl⟩
                  have hTb : T ≤ 110 := by rw [hT]; have := HBLE.out ic; have := HBALL.out; omega
                  have HT := hid hT
                  rw [← hT]
                  clear hR hqn hqn' qat hT qa3 qa0
                  go_upto_region 32 with fail
                  go_cut [213] (fun v wx => v = .bool false ∧ Fr [] W1 wx)
                  case first =>
                    by_cases hl : (ic : Int) = (NN1 : Int) - 1
                    · have hq := HQN.out hl
                      have qa0 := HQA0.out
                      rw [hq, HEXA.out.wn] at qa0
                      simp only [List.length_nil] at qa0
                      have ceq : ((ic : Int) == (NN1 : Int) - 1) = true := by simp [hl]
                      have HLH := hid hl
                      clear hl hq
                      go_quiet (fail)
                      go_wp2_with fail
                      go_meet
                      case rel => exact ⟨rfl, HFX.out.drewN _⟩
                    · have ceq : ((ic : Int) == (NN1 : Int) - 1) = false := by simp [hl]
                      go_quiet (fail)
                      go_wp2_with fail
                      go_meet
                      case rel => exact ⟨rfl, HFX.out.drewN _⟩
                  case rest =>
                    obtain ⟨rfl, hfw⟩ := hcut
                    have HFW := hid hfw
                    obtain ⟨BL, hBL⟩ : ∃ BL, BL = (S5.A q).B.length := ⟨_, rfl⟩
                    have hsu := blackTo_succ HR.out
                    rw [← HT.out, ← hBL] at hsu
                    have hTB : T + BL ≤ 110 := by rw [← hsu]; have := HBLE.out (ic + 1); have := HBALL.out; omega
                    have HSU := hid hsu
                    have HBL := hid hBL
                    clear hfw hsu hBL qa1 qa2
                    go_wp2_with fail
                    go_loopw [21, 24] (fun cv kv wx => ∃ k : Nat, kv = .int .i64 k ∧ k ≤ BL ∧ cv = .int .i64 ((T : Int) + (k : Int)) ∧ Fr [] W1 wx) (fun _ kv _ => BL - (intOf kv).toNat)
                    case atStart => exact ⟨0, rfl, Nat.zero_le _, by simp, HFW.out⟩
                    case round =>
                      obtain ⟨k, rfl, hk, rfl, hfk⟩ := hrel
                      have HFK := hid hfk
                      obtain ⟨ga, ea, -, -, a0, a0c, a1, a1c, a2, a2c, a3, a3c, -, -, -, qa3, qat⟩ := (HSEG.out.fr hfk (by simp)).at_ HNL.out HR.out
                      cases ea
                      rw [← HBL.out] at qa3
                      clear hfk
                      by_cases hkb : k < BL
                      · have hkb' : (k : Int) < (BL : Int) := by omega
                        obtain ⟨y, hy⟩ : ∃ y, (S5.A q).B[k]? = some y := ⟨_, List.getElem?_eq_getElem (by have := HBL.out; omega)⟩
                        obtain ⟨gb, rfl, -, qb⟩ := qat k y hy
                        have hyL := HEXA.out.sub q y (List.mem_of_getElem? hy)
                        have hlk := run_lookup_im (P := Tryz.prog) (HOM1.out.fr HFK.out (by simp)) Tryz.underlying53 Tryz.underlying3 (z := .bool false) (by kernel_rfl) y false
                        have hlk' : (Instr.lookup 53 (.map (some om)) (.int .i64 y) false).run Tryz.prog wr = .ok (.bool true) wr := by
                          rw [hlk, mget_tr, if_pos hyL]
                          rfl
                        clear hy hyL hlk qat
                        go_wp2_with fail
                        go_roundw
                        case rel => exact ⟨k + 1, by go_num, by omega, by go_num, HFK.out⟩
                        case measure => simp [intOf]; omega
                      · have hkb' : ¬ (k : Int) < (BL : Int) := by omega
                        obtain rfl : k = BL := by omega
                        clear qat
                        go_wp2_with fail
                        go_roundw
                        case rel => exact ⟨ic + 1, by go_num, by omega, by rw [HSU.out]; simp, HFK.out⟩
                        case measure => simp [intOf]; omega
                · have hlt' : ¬ (ic : Int) < (NN1 : Int) := by omega
                  obtain rfl : ic = NN1 := by omega
                  rw [HCNT.out]
                  obtain ⟨wr, hwr⟩ : ∃ wy, wy = wr := ⟨_, rfl⟩
                  subst hwr
                  have hab5 : S5.L.ab ∈ S5.L.all := by simp [HL.all, HL.fp]
                  have hFa : Fr [S5.L.ab] w10 wr := ((((Fr.refl [S5.L.ab] w10).step HF11.out (by simp)).trans HG1.out.fr).step HFX.out (by simp))
                  have hFp : FrP (FB E S2) w8 wr := HF8X.out.step (FrP.of (S := fun x => x ∈ [S5.L.ab]) hFa (fun x hx => .inl hx)) (fun x hx => HO8X.out x (by rw [List.mem_singleton.1 hx]; exact .inr (.inl hab5)))
                  have HFA := hid hFa
                  have HFP := hid hFp
                  have HAB5 := hid hab5
                  have HOMR := hid (HOM1.out.fr HFX.out (by simp))
                  clear hFa hFp hab5
                  go_upto_region 40 with fail
                  go_cut [25] (fun mv wx => ∃ mp, mv = .map (some mp) ∧ Hid (mp = wr.heap.size ∧ IM wx mp [] ∧ Fr [] wr wx))
                  case first =>
                    have hmm := @run_makeMap Tryz.prog
                    go_wp2_with fail
                    go_meet
                    case rel => exact ⟨_, rfl, hid ⟨rfl, IM.new _, (Fr.refl _ _).alloc _⟩⟩
                  case rest =>
                   as_aux_lemma =>
                    obtain ⟨mp, rfl, hh⟩ := hcut
                    obtain ⟨w12, hw12⟩ : ∃ w12, w12 = wc := ⟨_, rfl⟩
                    subst hw12
                    obtain ⟨hmp, him12, hF12⟩ := hh.out
                    clear hh
                    have hFa12 : Fr [S5.L.ab] w10 w12 := HFA.out.step hF12 (by simp)
                    have hFp12 : FrP (FB E S2) w8 w12 := HFP.out.step (FrP.of (S := fun _ => False) hF12 (by simp)) (fun x hx => hx.elim)
                    have hc12 := HC5.out.c.fr hFa12 (fun hc => HC5.out.ka (by rw [List.mem_singleton.1 hc]; exact HAB5.out))
                    have hb12 := HC5.out.b.fr hFa12 (fun g hg hc => (HC5.out.bo g hg).2.2.2.2 (by rw [List.mem_singleton.1 hc]; exact HAB5.out))
                    obtain ⟨bA, bcap, hbv⟩ := hb12.form
                    obtain ⟨BN, hBN⟩ : ∃ BN, BN = S5.bl.length := ⟨_, rfl⟩
                    rw [← hBN] at hbv
                    have hbu := cBuried E.kb S5.L.hb E.mb E.tb S5.c w12 hc12
                    rw [hbv] at hbu
                    rw [hbv] at hb12
                    have hbo : ∀ g, (Value.slice bA BN bcap).ownBlock = some g → g ≠ E.kb ∧ g < mp := fun g hg => ⟨(HC5.out.bo g (by rw [hbv]; exact hg)).1, by have := (HC5.out.b.lt g (by rw [hbv]; exact hg)).2; have := HFA.out.size; omega⟩
                    have p2 := Blk.cell (HQ8.out.pb hFp12) (i := 2) rfl
                    have hbn110 : BN ≤ 110 := by
                      have h1 := HEXA.out.bl
                      have h2 := HQ8.out.t.rwl
                      have h3 := HQ8.out.t.cnt
                      have h4 := sub_len (m := S2.rw.map Ob.p) (map_nodup_of (l := bur) (obs := S2.obs) (nodup_of_map HEXA.out.bnd) (fun x hx => (HQ8.out.j.ci.rin x (HBUR.out.1 x hx)).1) (fun x hx y hy e => HQ8.out.j.ci.mh.one hx hy e)) (fun c hc => by
                        obtain ⟨o, ho, rfl⟩ := List.mem_map.1 hc
                        exact List.mem_map_of_mem (HBUR.out.1 o ho))
                      rw [List.length_map, List.length_map] at h4
                      rw [hBN, h1, List.length_map]
                      have := HI.out
                      have := HL80.out
                      have := HN.out
                      omega
                    have HBU := hid hbu
                    have HB12 := hid hb12
                    have HBO := hid hbo
                    have HBN := hid hBN
                    have HIM12 := hid him12
                    have HF12 := hid hF12
                    have HFP12 := hid hFp12
                    have HMP := hid hmp
                    clear hmp him12 hF12 hFa12 hFp12 hc12 hb12 hbv hbu hbo hBN
                    go_wp2_with fail
                    refine HBU.out.mono ?_
                    rintro e w13 ⟨rfl, -, hF13⟩
                    have hkbF : FB E S2 E.kb := .inl (.inl rfl)
                    have hb13 := HB12.out.fr hF13 (fun g hg hc => (HBO.out g hg).1 (List.mem_singleton.1 hc))
                    have him13 := HIM12.out.fr hF13 (fun hc => by have h1 := HQ8.out.j.cr.ltF _ hkbF; have := HFP.out.size; have := HMP.out; have := List.mem_singleton.1 hc; omega)
                    have hom13 := (HOMR.out.fr HF12.out (by simp)).fr hF13 (fun hc => HNOM.out.2 (by rw [List.mem_singleton.1 hc]; exact hkbF))
                    have hFp13 : FrP (FB E S2) w8 w13 := HFP12.out.step (FrP.of (S := fun x => x = E.kb) hF13 (fun x hx => .inl (List.mem_singleton.1 hx))) (fun x hx => .inl (by rw [hx]; exact hkbF))
                    have HB13 := hid hb13
                    have HIM13 := hid him13
                    have HOM13 := hid hom13
                    have HFP13 := hid hFp13
                    clear hkbF hb13 him13 hom13 hFp13 hF13 p2
                    go_wp2_with fail
                    go_loopw [27] (fun iv wx => ∃ i : Nat, iv = .int .i64 i ∧ i ≤ BN ∧ IM wx mp ((S5.bl.take i).map fun x => (x, .bool true)) ∧ Fr [mp] w13 wx) (fun iv _ => BN - (intOf iv).toNat)
                    case atStart => exact ⟨0, rfl, Nat.zero_le _, HIM13.out, Fr.refl _ _⟩
                    case round =>
                      obtain ⟨ib, rfl, hib, himb, hfb⟩ := hrel
                      have HIMB := hid himb
                      have HFB := hid hfb
                      clear himb hfb
                      by_cases hlt : ib < BN
                      · have hlt' : (ib : Int) < (BN : Int) := by omega
                        obtain ⟨x, hx⟩ : ∃ x, S5.bl[ib]? = some x := ⟨_, List.getElem?_eq_getElem (by have := HBN.out; omega)⟩
                        have hrb := HB13.out.fr HFB.out (fun g hg hc => by have := (HBO.out g hg).2; have := List.mem_singleton.1 hc; omega)
                        obtain ⟨gb, eb, -, -, -, -, -, hgb⟩ := hrb.at (by have := HBN.out; omega)
                        subst eb
                        have qb := hgb ib x hx
                        have hnd5 : S5.bl.Nodup := by rw [HEXA.out.bl]; exact HEXA.out.bnd
                        obtain ⟨n1, n2⟩ := take_new hnd5 hx
                        have HNB2 : Hid (S5.bl.take (ib + 1) = S5.bl.take ib ++ [x]) := hid n2
                        obtain ⟨ml, hml⟩ : ∃ ml, ml = ((S5.bl.take ib).map fun x => (x, Value.bool true)) := ⟨_, rfl⟩
                        have HN1 : Hid (mget ml x = none) := hid (by rw [hml, mget_tr, if_neg n1])
                        have HIML : Hid (IM wr mp ml) := hid (by rw [hml]; exact HIMB.out)
                        have HML := hid hml
                        clear hx hrb hgb hnd5 n1 n2 hml
                        go_wp2_with (at_mapUpdate; refine wpList_mapUpdate_im _ rfl _ _ _ 53 rfl _ _ Tryz.underlying53 Tryz.underlying3 mp _ rfl HIML.out x rfl (.bool true) rfl ?_)
                        intro w14 him14 hF14
                        have HREL : Hid (∃ i' : Nat, ((ib : Int) + 1 = i' ∧ i' ≤ BN) ∧ IM w14 mp ((S5.bl.take i').map fun x => (x, .bool true)) ∧ Fr [mp] w13 w14) := hid ⟨ib + 1, ⟨by omega, by omega⟩, by
                          have h14 := him14
                          rw [mput_new (.bool true) HN1.out] at h14
                          rw [show S5.bl.take (ib + 1) = S5.bl.take ib ++ [x] from HNB2.out, List.map_append, ← HML.out]
                          exact h14, HFB.out.trans hF14⟩
                        clear him14 hF14 qb
                        go_wp2_with fail
                        go_roundw
                        case rel =>
                          obtain ⟨i9, ⟨r1, r2⟩, r3, r4⟩ := HREL.out
                          exact ⟨i9, by go_num, r2, r3, r4⟩
                        case measure => simp [intOf]; omega
                      · have hlt' : ¬ (ib : Int) < (BN : Int) := by omega
                        obtain rfl : BN = ib := by omega
                        obtain ⟨wz, hwz⟩ : ∃ wy, wy = wr := ⟨_, rfl⟩
                        subst hwz
                        have himz : IM wz mp (S5.bl.map fun x => (x, .bool true)) := by have := HIMB.out; rw [HBN.out, List.take_length] at this; exact this
                        have hmp8 : w8.heap.size ≤ mp := by have := HMP.out; have := HFP.out.size; omega
                        have hFpz : FrP (FB E S2) w8 wz := HFP13.out.step (FrP.of (S := fun x => x = mp) HFB.out (fun x hx => .inl (List.mem_singleton.1 hx))) (fun x hx => .inr (by rw [hx]; exact hmp8))
                        have homz := HOM13.out.fr HFB.out (fun hc => by have := HNOM.out.1; have := List.mem_singleton.1 hc; omega)
                        have kw := HQ8.out.ncb (b := A.wb) (by rw [HQ8.out.j.dr.lw]; decide)
                        have kk := HQ8.out.ncb (b := D1.km) (by rw [HQ8.out.j.dr.lk]; decide)
                        have km := HQ8.out.ncb (b := D1.c.mp) (by rw [HQ8.out.j.dr.lm]; decide)
                        have hW := Blk.frp HQ8.out.j.dr.wb hFpz kw.1
                        obtain ⟨lz, hlz, hlS⟩ := hFpz.toFr
                        have hobj := HQ8.out.j.dr.im.fr hlz (fun hc => km.1 (hlS _ hc))
                        have hkey := HQ8.out.j.dr.kim.fr hlz (fun hc => kk.1 (hlS _ hc))
                        have hrow := HROW8.out.fr hlz (fun g hg hc => by have h1 := (HROW8.out.lt g hg).1; have h2 := HLTF.out g (hlS _ hc); have h3 := HIM7.out.lt; omega)
                        have HBN' : Hid ((S5.bl.map fun x => (x, (Value.bool true))).length = BN) := hid (by rw [List.length_map]; exact HBN.out.symm)
                        have HIMZ := hid himz
                        have HOMZ := hid homz
                        have HFPZ := hid hFpz
                        have HWZ := hid hW
                        have HOBJ := hid hobj
                        have HKEY := hid hkey
                        have HROWZ := hid hrow
                        clear himz homz hFpz kw kk km hW hlz hlS hobj hkey hrow
                        go_wp2_with fail
                        go_loopw [28] (fun iv wx => ∃ i : Nat, iv = .int .i64 i ∧ i ≤ NR ∧ Fr [] wz wx) (fun iv _ => NR - (intOf iv).toNat)
                        case atStart => exact ⟨0, rfl, Nat.zero_le _, Fr.refl _ _⟩
                        case round =>
                          obtain ⟨ir, rfl, hir, hfr⟩ := hrel
                          have HFR9 := hid hfr
                          have hFpr : FrP (FB E S2) w8 wr := HFPZ.out.step (FrP.of (S := fun _ => False) hfr (by simp)) (fun x hx => hx.elim)
                          have HFPR := hid hFpr
                          by_cases hlt : ir < NR
                          · have hlt' : (ir : Int) < (NR : Int) := by omega
                            obtain ⟨o, ho⟩ : ∃ o, S2.rw[ir]? = some o := ⟨_, List.getElem?_eq_getElem (by have h1 := HNR.out; rw [HRW2.out, List.length_map] at h1; omega)⟩
                            have hom := List.mem_of_getElem? ho
                            have hoo := (HQ8.out.j.ci.rin o hom).1
                            obtain ⟨gr, er, -, -, -, -, -, hgr⟩ := (HROWZ.out.fr hfr (by simp)).at (by have := HNR.out; omega)
                            subst er
                            have qr := hgr ir o.p (by rw [HRW2.out, List.getElem?_map, ho]; rfl)
                            obtain ⟨j0, hj0⟩ := List.getElem?_of_mem (List.mem_reverse.2 hom)
                            obtain ⟨ha, hkm⟩ := HQ8.out.t.num j0 o hj0
                            obtain ⟨op, hop⟩ : ∃ op, op = o.p := ⟨_, rfl⟩
                            obtain ⟨oa, hoa⟩ : ∃ oa, oa = o.a := ⟨_, rfl⟩
                            obtain ⟨ok, hok⟩ : ∃ ok, ok = o.k := ⟨_, rfl⟩
                            obtain ⟨on, hon⟩ : ∃ on, on = o.n := ⟨_, rfl⟩
                            obtain ⟨key, hkey⟩ : ∃ key, key = S2.s.wd o 0 := ⟨_, rfl⟩
                            obtain ⟨og, hog⟩ : ∃ og, og = D1.G o.p := ⟨_, rfl⟩
                            have hget := HQ8.out.j.dr.dob.get o hoo
                            rw [← hop, ← hok, ← hon, ← hoa] at hget
                            rw [← hop] at qr hog
                            rw [← hog] at hget
                            rw [← ha, ← hoa, ← hkey] at hkm
                            have hobur := HBUR.out.2 o hom
                            rw [← hkey] at hobur
                            have hbu1 : o ∈ bur ↔ oa ∈ S5.bl := by
                              rw [HEXA.out.bl, List.mem_map]
                              constructor
                              · intro h; exact ⟨o, h, hoa.symm⟩
                              · rintro ⟨o', h1, h2⟩
                                obtain ⟨i1, hi1⟩ := List.getElem?_of_mem (List.mem_reverse.2 (HBUR.out.1 o' h1))
                                have e1 := (HQ8.out.t.num i1 o' hi1).1
                                have e2 : i1 = j0 := by omega
                                subst e2
                                rw [hj0] at hi1
                                cases hi1
                                exact h1
                            have hlkO : ∀ n, (Instr.lookup 66 (.map (some D1.c.mp)) (.int .i64 op) false).run Tryz.prog (wr.drewN n) = .ok (.agg #[.int .i64 ok, .int .i64 on, .int .i64 oa, .int .i64 0, .slice (some ⟨og, 0, none⟩) on on]) (wr.drewN n) := fun n => by
                              have := run_lookup_im (P := Tryz.prog) ((HOBJ.out.fr HFR9.out (by simp)).drewN n) Tryz.underlying66 Tryz.underlying3 (obZero _) op false
                              rw [this, hget]
                              rfl
                            have HLKO := hid hlkO
                            have HGK := hid hkm
                            have HOB := hid hobur
                            have HB1 := hid hbu1
                            clear ho hom hoo hgr hj0 ha hkm hop hoa hok hon hkey hog hget hobur hbu1 hlkO hfr hFpr
                            have p3 := Blk.cell (HQ8.out.pb HFPR.out) (i := 3) rfl
                            have w0 := cell_fr HFR9.out (by simp) (Blk.lt HWZ.out) 0 |>.trans (Blk.cell HWZ.out (i := 0) rfl)
                            go_upto_region 49 with fail
                            go_cut [29] (fun v wx => v = .int .i64 oa ∧ Fr [] wz wx)
                            case first =>
                              have hlkO := HLKO.out
                              have hfc := fieldC ok on oa 0 og on
                              have hfa := fieldA ok on oa 0
                              go_quiet (fail)
                              go_wp2_with fail
                              go_meet
                              case rel => exact ⟨rfl, HFR9.out.drewN _⟩
                            case rest =>
                              obtain ⟨rfl, hfw⟩ := hcut
                              obtain ⟨wy, hwy⟩ : ∃ wy, wy = wc := ⟨_, rfl⟩
                              subst hwy
                              have HFW := hid hfw
                              have hFpy : FrP (FB E S2) w8 wy := HFPZ.out.step (FrP.of (S := fun _ => False) hfw (by simp)) (fun x hx => hx.elim)
                              have p5 := Blk.cell (HQ8.out.pb hFpy) (i := 5) rfl
                              have hlkK : ∀ n, (Instr.lookup 34 (.map (some D1.km)) (.int .i64 oa) false).run Tryz.prog (wy.drewN n) = .ok (.int .i64 key) (wy.drewN n) := fun n => by
                                have := run_lookup_im (P := Tryz.prog) ((HKEY.out.fr HFW.out (by simp)).drewN n) Tryz.underlying34 Tryz.underlying3 (z := .int .i64 0) (by kernel_rfl) oa false
                                rw [this, HGK.out]
                                rfl
                              have HFPY := hid hFpy
                              clear hfw hFpy qr p3 w0
                              go_upto_region 50 with fail
                              go_cut [286] (fun v wx => v = .bool false ∧ Fr [] wz wx)
                              case first =>
                                by_cases hb : key ∈ Lv.map Ob.p
                                · have hnb : oa ∉ S5.bl := fun hc => (HOB.out.1 (HB1.out.2 hc)) hb
                                  have hlkR : ∀ n, (Instr.lookup 53 (.map (some om)) (.int .i64 key) false).run Tryz.prog (wy.drewN n) = .ok (.bool true) (wy.drewN n) := fun n => by
                                    have := run_lookup_im (P := Tryz.prog) ((HOMZ.out.fr HFW.out (by simp)).drewN n) Tryz.underlying53 Tryz.underlying3 (z := .bool false) (by kernel_rfl) key false
                                    rw [this, mget_tr, if_pos hb]
                                    rfl
                                  have hlkB : ∀ n, (Instr.lookup 53 (.map (some mp)) (.int .i64 oa) false).run Tryz.prog (wy.drewN n) = .ok (.bool false) (wy.drewN n) := fun n => by
                                    have := run_lookup_im (P := Tryz.prog) ((HIMZ.out.fr HFW.out (by simp)).drewN n) Tryz.underlying53 Tryz.underlying3 (z := .bool false) (by kernel_rfl) oa false
                                    rw [this, mget_tr, if_neg hnb]
                                    rfl
                                  clear hb hnb
                                  go_quiet (fail)
                                  go_wp2_with fail
                                  go_meet
                                  case rel => exact ⟨rfl, HFW.out.drewN _⟩
                                · have hnb : oa ∈ S5.bl := HB1.out.1 (HOB.out.2 hb)
                                  have hlkR : ∀ n, (Instr.lookup 53 (.map (some om)) (.int .i64 key) false).run Tryz.prog (wy.drewN n) = .ok (.bool false) (wy.drewN n) := fun n => by
                                    have := run_lookup_im (P := Tryz.prog) ((HOMZ.out.fr HFW.out (by simp)).drewN n) Tryz.underlying53 Tryz.underlying3 (z := .bool false) (by kernel_rfl) key false
                                    rw [this, mget_tr, if_neg hb]
                                    rfl
                                  have hlkB : ∀ n, (Instr.lookup 53 (.map (some mp)) (.int .i64 oa) false).run Tryz.prog (wy.drewN n) = .ok (.bool true) (wy.drewN n) := fun n => by
                                    have := run_lookup_im (P := Tryz.prog) ((HIMZ.out.fr HFW.out (by simp)).drewN n) Tryz.underlying53 Tryz.underlying3 (z := .bool false) (by kernel_rfl) oa false
                                    rw [this, mget_tr, if_pos hnb]
                                    rfl
                                  clear hb hnb
                                  go_quiet (fail)
                                  go_wp2_with fail
                                  go_meet
                                  case rel => exact ⟨rfl, HFW.out.drewN _⟩
                              case rest =>
                                obtain ⟨rfl, hfv⟩ := hcut
                                have HFV9 := hid hfv
                                clear hfv hlkK p5
                                go_wp2_with fail
                                go_roundw
                                case rel => exact ⟨ir + 1, by go_num, by omega, HFV9.out⟩
                                case measure => simp [intOf]; omega
                          · have hlt' : ¬ (ir : Int) < (NR : Int) := by omega
                            have hl1 : ∀ ty, (Builtin.len_ #[53] ty #[.map (some om)]).run Tryz.prog wr = .ok (.int .i64 LN) wr := fun ty => by
                              have := run_len_im (P := Tryz.prog) (HOMZ.out.fr HFR9.out (by simp)) Tryz.underlying53 ty
                              rw [HLEN.out] at this
                              exact this
                            have hl2 : ∀ ty, (Builtin.len_ #[53] ty #[.map (some mp)]).run Tryz.prog wr = .ok (.int .i64 BN) wr := fun ty => by
                              have := run_len_im (P := Tryz.prog) (HIMZ.out.fr HFR9.out (by simp)) Tryz.underlying53 ty
                              rw [HBN'.out] at this
                              exact this
                            have HEND : Hid (Fr [] w wr) := hid (HF2.out.trans (by rw [← HW0.out]; exact HQ8.out.frame HFPR.out))
                            clear hfr hFpr
                            go_wp2_with fail
                            go_ret
                            exact ⟨rfl, HEND.out⟩
end Go.Proofs.YtklnpooninbogaaGreat
