import Derived.Deep.RegionHeld3
import Derived.Laws.StructEq
import Derived.Test.YtifillpcphiblaaGreatMDOps3
import Derived.Test.YtifillpcphiblaaGreatCfgAct
namespace Go.Proofs.YtifillpcphiblaaGreat
open Go Go.Proofs Go.RowKit

/-! law06.HeapPlays. -/

theorem told_neq (wd a er : Int) (is : Bool) (w : World) : (binOp .neq 38 (.agg #[.int .i64 wd, .int .i64 a, .int .i64 er, .bool is]) (.agg #[.int .i64 wd, .int .i64 a, .int .i64 er, .bool is])).run Tryz.prog w = .ok (.bool false) w := by
  have u2 := Tryz.underlying2
  have a2 := Tryz.isAgg2
  have z2 := Tryz.sizeOf2
  have u3 := Tryz.underlying3
  have a3 := Tryz.isAgg3
  have z3 := Tryz.sizeOf3
  have u4 := Tryz.underlying4
  have a4 := Tryz.isAgg4
  have z4 := Tryz.sizeOf4
  have hS : Tryz.prog.underlying 38 = some (.struct (Tryz.prog.fieldsOf 38)) := by kernel_rfl
  have hp : Tryz.prog.stoodInHeld 38 = false := by kernel_rfl
  rw [run_neq_struct, show (10000 : Nat) = 9999 + 1 from rfl, run_equalIn_agg w 9999 38 _ _ hS hp]
  simp only [Program.fieldsOf, Tryz.underlying38]
  go_simp
theorem ptr_eql (w : World) : (binOp .eql 27 (.pointer none) (.pointer none)).run Tryz.prog w = .ok (.bool true) w := by kernel_rfl

theorem lAlikeAt {w0 w : World} {L : HL} {D : DL} {W Lg : Int} {cls : List Int} {s : HS} {A : Rg} {z : Int → Int} {bits : List Bool} {m : List (Int × Value)} {obs : List Ob} {G : Int → Nat} {hb : Nat} (h : JG w0 w L D W Lg cls s A z bits m obs G) (hW1 : 1 ≤ W) (hh : L.hb = hb) :
    Calls Tryz.prog 11 #[.pointer (some ⟨hb, 0, none⟩), .pointer (some ⟨D.mb, 0, none⟩)] w fun e w' => e = .returned (.bool true) ∧ ∃ k : Int, JG w0 w' L D W Lg cls (s.tick k) A z bits m obs G := by
  rw [← hh]
  exact lAlike h hW1
def JS (w0 wr : World) (hb : Nat) (D : DL) (W Lg : Int) (cls : List Int) : Prop := ∃ L s A z bits m obs G, L.hb = hb ∧ JG w0 wr L D W Lg cls s A z bits m obs G

set_option maxRecDepth 200000 in
set_option maxHeartbeats 6400000 in
theorem lawHeapPlays (W Lg a b c d : Int) (sv av : Value) (cls : List Int) (acts : List Ac6) (w : World) (hs : SlArg w sv cls) (ha : AcArg w av acts) :
    Calls Tryz.prog 3 #[.agg #[.int .i64 W, .int .i64 Lg, .int .i64 a, .int .i64 b, .int .i64 c, .int .i64 d, sv], av] w fun e w' => e = .returned (.bool true) ∧ Fr [] w w' := by
  have hsv : ∃ p cap, sv = .slice p cls.length cap := by
    rcases hs with ⟨e1, e2⟩ | ⟨p, cap, e1, e2⟩ | ⟨p, o, cap, e, _⟩
    · exact ⟨none, 0, by rw [e1, e2]; rfl⟩
    · exact ⟨some p, cap, by rw [e1, e2]; rfl⟩
    · exact ⟨_, cap, e⟩
  obtain ⟨p, cap, rfl⟩ := hsv
  obtain ⟨ap, acap, rfl⟩ := ha.form
  obtain ⟨M, hM⟩ : ∃ M, M = acts.length := ⟨_, rfl⟩
  rw [← hM] at ha ⊢
  have HM := hid hM
  have HA := hid ha
  clear hM ha
  have B0 := Blk.new w [.int .i64 W, .int .i64 Lg, .int .i64 a, .int .i64 b, .int .i64 c, .int .i64 d, .slice p cls.length cap] 24
  have hs0 := hs.fr ((Fr.refl [] w).alloc (.cells #[.int .i64 W, .int .i64 Lg, .int .i64 a, .int .i64 b, .int .i64 c, .int .i64 d, .slice p cls.length cap] 24)) (by simp)
  go_enter Tryz.func3, Tryz.ntmps3
  go_wp2_with fail
  refine (awake6 _).mono ?_
  rintro e w1 ⟨rfl, hF1⟩
  have B1 := B0.fr hF1 (by simp)
  have hs1 := hs0.fr hF1 (by simp)
  have hF1' : Fr [] w w1 := ((Fr.refl _ w).alloc _).trans hF1
  clear B0 hs0 hF1 hs
  have c0 := B1.cell (i := 0) rfl
  have c1 := B1.cell (i := 1) rfl
  have c2 := B1.cell (i := 2) rfl
  have c3 := B1.cell (i := 3) rfl
  have c4 := B1.cell (i := 4) rfl
  have c5 := B1.cell (i := 5) rfl
  have c6 := B1.cell (i := 6) rfl
  have HF1 := hid hF1'
  have HS1 := hid hs1
  have HB1 := hid B1
  clear hF1' hs1 B1
  by_cases k1 : (300 < W ∧ W ≤ 65536) ∨ 40 < (M : Int) ∨ 20 < (cls.length : Int)
  · by_cases g1 : (300 < W ∧ W ≤ 65536)
    · obtain ⟨g2, g3⟩ := g1
      have e1 : decide (300 < W) = true := by simpa using g2
      have e2 : decide (W ≤ 65536) = true := by simpa using g3
      clear g2 g3 k1
      go_wp2_with fail
      go_ret
      exact ⟨rfl, HF1.out⟩
    · have k2 : 40 < (M : Int) ∨ 20 < (cls.length : Int) := by rcases k1 with k | k; (· exact absurd k g1); (· exact k)
      clear k1
      by_cases g2 : 300 < W
      · have e1 : decide (300 < W) = true := by simpa using g2
        have e2 : decide (W ≤ 65536) = false := by simp; omega
        clear g1 g2
        by_cases g3 : 40 < (M : Int)
        · have e3 : decide (40 < (M : Int)) = true := by simp; omega
          clear k2 g3
          go_wp2_with fail
          go_ret
          exact ⟨rfl, HF1.out⟩
        · have e3 : decide (40 < (M : Int)) = false := by simp; omega
          have e4 : decide (20 < (cls.length : Int)) = true := by simp; omega
          clear k2 g3
          go_wp2_with fail
          go_ret
          exact ⟨rfl, HF1.out⟩
      · have e1 : decide (300 < W) = false := by simpa using g2
        clear g1 g2
        by_cases g3 : 40 < (M : Int)
        · have e3 : decide (40 < (M : Int)) = true := by simp; omega
          clear k2 g3
          go_wp2_with fail
          go_ret
          exact ⟨rfl, HF1.out⟩
        · have e3 : decide (40 < (M : Int)) = false := by simp; omega
          have e4 : decide (20 < (cls.length : Int)) = true := by simp; omega
          clear k2 g3
          go_wp2_with fail
          go_ret
          exact ⟨rfl, HF1.out⟩
  have hM40 : M ≤ 40 := by omega
  go_upto_region 3 with fail
  go_cut [29] (fun bv wx => bv = .bool false ∧ w1 = wx)
  case first =>
    have e3 : decide (40 < (M : Int)) = false := by simp; omega
    have e4 : decide (20 < (cls.length : Int)) = false := by simp; omega
    by_cases g2 : 300 < W
    · have e1 : decide (300 < W) = true := by simpa using g2
      have e2 : decide (W ≤ 65536) = false := by simp; omega
      clear k1 g2
      go_wp2_with fail
      go_meet
      case rel => exact ⟨rfl, rfl⟩
    · have e1 : decide (300 < W) = false := by simpa using g2
      clear k1 g2
      go_wp2_with fail
      go_meet
      case rel => exact ⟨rfl, rfl⟩
  case rest =>
    obtain ⟨rfl, rfl⟩ := hcut
    by_cases hB' : rightB W Lg cls = false
    · have hnn := hNewNo W Lg a b c d _ cls w1 HS1.out hB'
      have HNN := hid hnn
      have HBF := hid hB'
      have hpe := ptr_eql
      clear hnn hB' k1
      go_wp2_with fail
      refine HNN.out.mono ?_
      rintro e w2 ⟨rfl, hF2⟩
      have B2 := HB1.out.fr hF2 (by simp)
      have hrr := refRight W Lg a b c d _ cls w2 (HS1.out.fr hF2 (by simp))
      rw [HBF.out] at hrr
      have HRR := hid hrr
      have HF2 := hid (HF1.out.trans hF2)
      clear hrr hF2 c0 c1 c2 c3 c4 c5 c6
      have c0 := B2.cell (i := 0) rfl
      have c1 := B2.cell (i := 1) rfl
      have c2 := B2.cell (i := 2) rfl
      have c3 := B2.cell (i := 3) rfl
      have c4 := B2.cell (i := 4) rfl
      have c5 := B2.cell (i := 5) rfl
      have c6 := B2.cell (i := 6) rfl
      clear B2
      go_wp2_with fail
      refine HRR.out.mono ?_
      rintro e w3 ⟨rfl, hF3⟩
      have HF3 := hid (HF2.out.trans hF3)
      clear hF3 c0 c1 c2 c3 c4 c5 c6
      go_wp2_with fail
      go_ret
      exact ⟨rfl, HF3.out⟩
    have hB : rightB W Lg cls = true := by simpa using hB'
    clear hB'
    have hR := (rightB_iff _ _ _).1 hB
    have HBT := hid hB
    clear hB
    have k1' := hR.w1
    have k2 := hR.l1
    have k3 := hR.n1
    obtain ⟨W, rfl⟩ := Int.eq_ofNat_of_zero_le (show 0 ≤ W by omega)
    obtain ⟨Lg, rfl⟩ := Int.eq_ofNat_of_zero_le k2
    have hs2' := HS1.out
    rcases hs2' with ⟨_, e⟩ | ⟨_, _, _, e⟩ | ⟨bb, o, cap', e, hr, hm⟩
    · rw [e] at k3; simp at k3
    · rw [e] at k3; simp at k3
    cases e
    have HR := hid hR
    have hnw := hNew W Lg a b c d cls bb o cap w1 hR hr
    have HNW := hid hnw
    clear hnw hR hr hm k1 k1' k2 k3
    have hpn : ∀ (hb : Nat) (w : World), (binOp .eql 27 (.pointer (some ⟨hb, 0, none⟩)) (.pointer none)).run Tryz.prog w = .ok (.bool false) w := fun _ _ => by kernel_rfl
    go_wp2_with fail
    refine HNW.out.mono ?_
    rintro e w2 ⟨L, rfl, hH2, hF2, hLb⟩
    have B2 := HB1.out.fr hF2 (by simp)
    have hs2 := HS1.out.fr hF2 (by simp)
    have hrr := refRight W Lg a b c d _ cls w2 hs2
    rw [HBT.out] at hrr
    have HRR := hid hrr
    have HH2 := hid hH2
    have HF2 := hid hF2
    have HLB := hid hLb
    have HB2 := hid B2
    clear hrr hH2 hF2 hLb hs2 c0 c1 c2 c3 c4 c5 c6
    have c0 := B2.cell (i := 0) rfl
    have c1 := B2.cell (i := 1) rfl
    have c2 := B2.cell (i := 2) rfl
    have c3 := B2.cell (i := 3) rfl
    have c4 := B2.cell (i := 4) rfl
    have c5 := B2.cell (i := 5) rfl
    have c6 := B2.cell (i := 6) rfl
    clear B2
    have hpL := hpn L.hb
    clear hpn
    go_wp2_with fail
    refine HRR.out.mono ?_
    rintro e w3 ⟨rfl, hF3⟩
    have B3 := HB2.out.fr hF3 (by simp)
    have hmn := mNew W Lg a b c d _ cls w3 HR.out (HS1.out.fr (HF2.out.trans hF3) (by simp))
    have HMN := hid hmn
    have HF3 := hid hF3
    clear hmn hF3 c0 c1 c2 c3 c4 c5 c6
    have c0 := B3.cell (i := 0) rfl
    have c1 := B3.cell (i := 1) rfl
    have c2 := B3.cell (i := 2) rfl
    have c3 := B3.cell (i := 3) rfl
    have c4 := B3.cell (i := 4) rfl
    have c5 := B3.cell (i := 5) rfl
    have c6 := B3.cell (i := 6) rfl
    clear B3
    go_wp2_with fail
    refine HMN.out.mono ?_
    rintro e w4 ⟨mb, rfl, hMN, hF4⟩
    obtain ⟨D, hDm, hJ⟩ := JG.new HR.out (HH2.out.fr HF3.out (by simp)) (HF2.out.trans HF3.out) HLB.out HS1.out hMN hF4
    subst hDm
    obtain ⟨hb, hhb⟩ : ∃ hb, hb = L.hb := ⟨_, rfl⟩
    rw [← hhb] at hpL ⊢
    have HJS := hid (show JS w1 w4 hb D W Lg cls from ⟨L, _, _, _, _, _, _, _, hhb.symm, hJ⟩)
    have hAw1 := HA.out.fr HF1.out
    have HA1 := hid hAw1
    have hW1 := HR.out.w1
    have HW1 := hid hW1
    clear hMN hF4 hJ hhb c0 c1 c2 c3 c4 c5 c6 hAw1 hW1
    go_wp2_with fail
    go_loopw [8] (fun iv wr => ∃ i : Nat, i ≤ M ∧ iv = .int .i64 i ∧ Hid (JS w1 wr hb D W Lg cls)) (fun iv _ => M - (intOf iv).toNat)
    case atStart => exact ⟨0, Nat.zero_le _, rfl, HJS⟩
    case round =>
      obtain ⟨i, hi, rfl, hjs⟩ := hrel
      obtain ⟨L, s, A, z, bits, m, obs, G, hLh, hJ⟩ := hjs.out
      by_cases hlt : (i : Int) < (M : Int)
      · obtain ⟨x, hx⟩ : ∃ x, acts[i]? = some x := ⟨_, List.getElem?_eq_getElem (by have := HM.out; omega)⟩
        obtain ⟨ab, ao, rfl, hcx⟩ := (HA1.out.fr hJ.pg.f0).at hx
        obtain ⟨x0, x1, x2, x3, x4, x5⟩ := hcx
        have hask := lAsked D.mb x.kd x.o x.a x.b x.n x.wd (pickO A obs W x.o) wr (fun w' hF' => hJ.pk HW1.out x.o hF')
        unfold actV at hask
        have j1 : (0 : Int) ≤ (i : Int) := by omega
        have HASK := hid hask
        have HJ := hid hJ
        have HLH := hid hLh
        have HX := hid hx
        clear hask hJ hjs hx hLh
        have habl := World.block_lt_of_cell? wr _ x0
        go_wp2_with fail
        refine HASK.out.mono ?_
        rintro e w5 ⟨rfl, hF5⟩
        have hJ5 := HJ.out.step hF5
        have y0 := (cell_fr hF5 (by simp) habl _).trans x0
        have y1 := (cell_fr hF5 (by simp) habl _).trans x1
        have y2 := (cell_fr hF5 (by simp) habl _).trans x2
        have y3 := (cell_fr hF5 (by simp) habl _).trans x3
        have y4 := (cell_fr hF5 (by simp) habl _).trans x4
        have y5 := (cell_fr hF5 (by simp) habl _).trans x5
        have HJ5 := hid hJ5
        clear hJ5 hF5 x0 x1 x2 x3 x4 x5 habl
        by_cases hk : askB x.kd (pickO A obs W x.o) = true
        · rw [hk]
          have HK := hid hk
          clear hk
          have hjd := jDo (HJ5.out.step ((Fr.refl [] w5).drew)) HW1.out x.kd x.o x.a x.b x.n x.wd HK.out
          unfold JPost at hjd
          simp only [tldV, actV] at hjd
          rw [HLH.out] at hjd
          have HJD := hid hjd
          have hneq := told_neq
          have y0' : w5.drew.cell? ⟨ab, ao + i * 6, none⟩ = some (.int .i64 x.kd) := y0
          have y1' : w5.drew.cell? ⟨ab, ao + i * 6 + 1, none⟩ = some (.int .i64 x.o) := y1
          have y2' : w5.drew.cell? ⟨ab, ao + i * 6 + 2, none⟩ = some (.int .i64 x.a) := y2
          have y3' : w5.drew.cell? ⟨ab, ao + i * 6 + 3, none⟩ = some (.int .i64 x.b) := y3
          have y4' : w5.drew.cell? ⟨ab, ao + i * 6 + 4, none⟩ = some (.int .i64 x.n) := y4
          have y5' : w5.drew.cell? ⟨ab, ao + i * 6 + 5, none⟩ = some (.int .i64 x.wd) := y5
          obtain ⟨ab1, ao1, e1, hz⟩ := HA1.out.at HX.out
          cases e1
          obtain ⟨z0, z1, z2, z3, z4, z5⟩ := hz
          have hl1 := World.block_lt_of_cell? w1 _ z0
          have hkeep : ∀ wx, Fr [] w1 wx → (wx.cell? ⟨ab, ao + i * 6, none⟩ = some (.int .i64 x.kd) ∧ wx.cell? ⟨ab, ao + i * 6 + 1, none⟩ = some (.int .i64 x.o) ∧ wx.cell? ⟨ab, ao + i * 6 + 2, none⟩ = some (.int .i64 x.a) ∧ wx.cell? ⟨ab, ao + i * 6 + 3, none⟩ = some (.int .i64 x.b) ∧ wx.cell? ⟨ab, ao + i * 6 + 4, none⟩ = some (.int .i64 x.n) ∧ wx.cell? ⟨ab, ao + i * 6 + 5, none⟩ = some (.int .i64 x.wd)) := fun wx hx => ⟨(cell_fr hx (by simp) hl1 _).trans z0, (cell_fr hx (by simp) hl1 _).trans z1, (cell_fr hx (by simp) hl1 _).trans z2, (cell_fr hx (by simp) hl1 _).trans z3, (cell_fr hx (by simp) hl1 _).trans z4, (cell_fr hx (by simp) hl1 _).trans z5⟩
          have HKEEP := hid hkeep
          clear hjd y0 y1 y2 y3 y4 y5 z0 z1 z2 z3 z4 z5 hkeep
          go_upto_region 15 with fail
          go_region_held3 (fun w' => w'.cell? ⟨ab, ao + i * 6, none⟩ = some (.int .i64 x.kd) ∧ w'.cell? ⟨ab, ao + i * 6 + 1, none⟩ = some (.int .i64 x.o) ∧ w'.cell? ⟨ab, ao + i * 6 + 2, none⟩ = some (.int .i64 x.a) ∧ w'.cell? ⟨ab, ao + i * 6 + 3, none⟩ = some (.int .i64 x.b) ∧ w'.cell? ⟨ab, ao + i * 6 + 4, none⟩ = some (.int .i64 x.n) ∧ w'.cell? ⟨ab, ao + i * 6 + 5, none⟩ = some (.int .i64 x.wd))
            (first
              | (with_reducible exact ⟨y0', y1', y2', y3', y4', y5'⟩)
              | (with_reducible exact HKEEP.out _ hJ8.pg.f0)
              | (with_reducible exact HKEEP.out _ hJ7.pg.f0)
              | (with_reducible exact HKEEP.out _ hP6.f0)
              | go_keep)
            (first
              | (go_at_call 9; (with_reducible refine HJD.out.mono ?_); rintro e w6 ⟨wd6, a6, er6, is6, L6, s6, A6, z6, obs6, rfl, hh6, hP6, hD6, hdoc6⟩)
              | (go_at_call 10; (with_reducible refine (hdoc6 w6 (Fr.refl [] w6)).mono ?_); rintro e w7 ⟨rfl, bits7, m7, G7, hJ7⟩)
              | (go_at_call 11; (refine (lAlikeAt hJ7 HW1.out hh6).mono ?_); rintro e w8 ⟨rfl, k8, hJ8⟩))
          all_goals
            go_wp2_with fail
            go_roundw
            case rel => exact ⟨i + 1, by omega, by go_num, hid ⟨L6, _, A6, z6, bits7, m7, obs6, G7, hh6, hJ8⟩⟩
            case measure => simp [intOf]; omega
        · have hk' : askB x.kd (pickO A obs W x.o) = false := by simpa using hk
          rw [hk']
          clear hk hk' y0 y1 y2 y3 y4 y5
          go_wp2_with fail
          go_roundw
          case rel => exact ⟨i + 1, by omega, by go_num, hid ⟨L, s, A, z, bits, m, obs, G, HLH.out, HJ5.out⟩⟩
          case measure => simp [intOf]; omega
      · have hla := lAlikeAt hJ HW1.out hLh
        have HLA := hid hla
        clear hla hJ hjs hLh
        go_wp2_with fail
        refine HLA.out.mono ?_
        rintro e w6 ⟨rfl, k6, hJ6⟩
        have HJ6 := hid (HF1.out.trans hJ6.pg.f0)
        clear hJ6
        go_wp2_with fail
        go_ret
        exact ⟨rfl, HJ6.out⟩
end Go.Proofs.YtifillpcphiblaaGreat
