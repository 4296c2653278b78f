import Derived.Test.YtifillpcphiblaaGreatMPRuns2
import Derived.Test.YtifillpcphiblaaGreatMDRoom
import Derived.Deep.QuietTactic
import Derived.Deep.DeepCutAuto
import Derived.BigQuiet
namespace Go.Proofs.YtifillpcphiblaaGreat
open Go Go.Proofs Go.RowKit

/-! The document's room: Give. -/

set_option maxRecDepth 100000 in
set_option maxHeartbeats 6400000 in
theorem dGive (fb B : Nat) (first : Int) (bits : List Bool) (at0 n : Int) (kk nn : Nat) (hn : n = nn) (h1 : 1 ≤ nn) (hk : at0 = first + kk) (hkn : kk + nn ≤ bits.length) (hfree : ∀ j, j < nn → bitAt bits (kk + j) = false) (w : World) (h : FRep w fb B first bits) (hf0 : 0 ≤ first) (hf : first + bits.length ≤ 65536) :
    Calls Tryz.prog 70 #[.pointer (some ⟨fb, 0, none⟩), .agg #[.int .i64 1, .int .i64 at0, .int .i64 n]] w (TakePost w fb B first (setT bits kk nn) (told3 0 0)) := by
  have X0 := (Blk.new w [.int .i64 1, .int .i64 at0, .int .i64 n] 145).alloc (.cells #[.int .i64 0, .int .i64 0] 142)
  have T0 := Blk.new (w.alloc (.cells #[.int .i64 1, .int .i64 at0, .int .i64 n] 145)) [.int .i64 0, .int .i64 0] 142
  have hF0 : Fr [] w ((w.alloc (.cells #[.int .i64 1, .int .i64 at0, .int .i64 n] 145)).alloc (.cells #[.int .i64 0, .int .i64 0] 142)) := ((Fr.refl _ w).alloc _).alloc _
  have hR0 := h.fr hF0 (by simp)
  have hsz : (w.alloc (.cells #[.int .i64 1, .int .i64 at0, .int .i64 n] 145)).heap.size = w.heap.size + 1 := by simp
  rw [hsz] at T0
  have hfl : fb < w.heap.size := by obtain ⟨fv, hb, _⟩ := h.s; exact hb.lt
  obtain ⟨wa, hwa⟩ : ∃ wa, wa = (w.alloc (.cells #[.int .i64 1, .int .i64 at0, .int .i64 n] 145)).alloc (.cells #[.int .i64 0, .int .i64 0] 142) := ⟨_, rfl⟩
  have HWA := hid hwa
  rw [← hwa] at X0 T0 hR0 hF0
  obtain ⟨M, hM⟩ : ∃ M, M = bits.length := ⟨_, rfl⟩
  obtain ⟨g, c, hB, hBg, hgl, hMc, hbit, hz⟩ := hR0.reads (by omega)
  rw [← hM] at hB
  have x0 := X0.cell (i := 0) rfl
  have x1 := X0.cell (i := 1) rfl
  have x2 := X0.cell (i := 2) rfl
  have b0 := hB.cell (i := 0) rfl
  have b1 := hB.cell (i := 1) rfl
  have HB := hid hB
  have HX := hid X0
  have HT := hid T0
  have HR0 := hid hR0
  have HF0 := hid hF0
  have HFREE := hid hfree
  have hw1 : IntKind.i64.wrap (at0 - first) = (kk : Int) := by rw [IntKind.wrap_i64]; omega
  have hw2 : IntKind.i64.wrap ((M : Int) - n) = (M : Int) - n := by rw [IntKind.wrap_i64]; omega
  have d1 : decide (n < 1) = false := by simp; omega
  have d2 : decide ((M : Int) < n) = false := by simp; omega
  have d3 : decide (at0 < first) = false := by simp; omega
  have d4 : decide ((M : Int) - n < (kk : Int)) = false := by simp; omega
  have e1 : ¬ n < 1 := by omega
  have e2 : ¬ (M : Int) < n := by omega
  have e3 : ¬ at0 < first := by omega
  have e4 : ¬ (M : Int) - n < (kk : Int) := by omega
  have hkb : kk + nn ≤ 65536 := by omega
  have HM := hid hM
  have HKN := hid hkn
  have HNN := hid hn
  clear X0 T0 hR0 hF0 hsz h hwa hB hbit hz hfree hM hkn hk hn e1 e2 e3 e4
  go_enter Tryz.func70, Tryz.ntmps70
  go_upto_region 1 with fail
  rw [← HWA.out]
  go_wp2_with fail
  go_quiet (fail)
  obtain ⟨wb, hwb⟩ : ∃ wb, wb = wa.drewN nq := ⟨_, rfl⟩
  have hFb : Fr [] wa wb := by rw [hwb]; exact (Fr.refl [] wa).drewN nq
  rw [← hwb]
  clear hwb x0 x1 x2 b0 b1
  have HFB := hid hFb
  clear hFb
  go_wp2_with fail
  go_loopw [8] (fun i wr => ∃ q : Nat, q ≤ nn ∧ i = .int .i64 q ∧ Fr [] wa wr) (fun i _ => nn - (intOf i).toNat)
  case atStart => exact ⟨0, Nat.zero_le _, rfl, HFB.out⟩
  case round =>
    obtain ⟨q, hq, rfl, hFr⟩ := hrel
    have hXr := HX.out.fr hFr (by simp)
    have hTr := HT.out.fr hFr (by simp)
    have hBr := HB.out.fr hFr (by simp)
    have hRr := HR0.out.fr hFr (by simp)
    have x1 := hXr.cell (i := 1) rfl
    have x2 := hXr.cell (i := 2) rfl
    have b0 := hBr.cell (i := 0) rfl
    have b1 := hBr.cell (i := 1) rfl
    obtain ⟨g8, c8, hB8, _, hg8, hl8, hb8, hz8⟩ := hRr.reads (by have := HM.out; have := HKN.out; omega)
    have e8 : (⟨g8, 0, none⟩ : Addr) = ⟨g, 0, none⟩ := by
      have a := hB8.cell (i := 1) rfl
      rw [b1] at a
      simp at a
      rw [a.1]
    cases e8
    have HFR := hid hFr
    have HTR := hid hTr
    have HXR := hid hXr
    have HBR := hid hBr
    have HRR := hid hRr
    have HB8 := hid hb8
    have hbB := HBR.out.fr (Fr.refl [] wr) (by simp)
    have HHB := hid hbB
    clear hXr hTr hBr hRr hB8 hFr hb8 hz8 hbB
    by_cases hqi : (q : Int) < n
    · have hql : q < nn := by have := HNN.out; omega
      have bq := HB8.out (kk + q) (by have := HM.out; have := HKN.out; omega)
      rw [HFREE.out q hql] at bq
      have hsum : IntKind.i64.wrap ((kk : Int) + q) = (kk : Int) + q := by rw [IntKind.wrap_i64]; omega
      have u1 : (0 : Int) ≤ (kk : Int) + q := by omega
      have u2 : ((kk : Int) + q).toNat = kk + q := by omega
      have u3 : (kk : Int) + q < (M : Int) := by have := HM.out; have := HKN.out; omega
      go_wp2_with fail
      go_quiet (fail)
      go_wp2_with fail
      go_roundw
      case rel => exact ⟨q + 1, by omega, by go_num, HFR.out.drewN _⟩
      case measure => simp [intOf]; omega
    · obtain ⟨wc, hwc⟩ : ∃ wc, wc = wr := ⟨_, rfl⟩
      have HHX := hid HXR.out
      rw [← hwc] at HTR HXR HBR HRR HFR x1 x2 b0 b1 hg8 HHB ⊢
      clear hwc
      go_wp2_with fail
      go_loopw [9] (fun i wr => ∃ q : Nat, q ≤ nn ∧ i = .int .i64 q ∧ FRep wr fb B first (setT bits kk q) ∧ Fr [g] wc wr) (fun i _ => nn - (intOf i).toNat)
      case atStart => exact ⟨0, Nat.zero_le _, rfl, HRR.out, Fr.refl _ _⟩
      case round =>
        obtain ⟨q, hq, rfl, hRr, hFg⟩ := hrel
        have hgs : (∃ cs, Blk wc g cs 4) := (HRR.out.set (g := g) (c := c) (by rw [← HM.out]; exact HBR.out) (by have := HM.out; have := HKN.out; omega) 0 true).2.1
        have hgw : g ≠ w.heap.size ∧ g ≠ w.heap.size + 1 ∧ g ≠ fb := by
          obtain ⟨cs, hcs⟩ := hgs
          exact ⟨blk_ne hcs HXR.out (by decide), blk_ne hcs HTR.out (by decide), blk_ne hcs HBR.out (by decide)⟩
        have hXr := HXR.out.fr hFg (by simp; omega)
        have hTr := HTR.out.fr hFg (by simp; omega)
        have hB1r := HBR.out.fr hFg (by simp; omega)
        have x1 := hXr.cell (i := 1) rfl
        have x2 := hXr.cell (i := 2) rfl
        have b0 := hB1r.cell (i := 0) rfl
        have b1 := hB1r.cell (i := 1) rfl
        have HTr := hid hTr
        have HRr := hid hRr
        have HB1r := hid hB1r
        have HFg := hid hFg
        have HGS := hid hgs
        clear hXr hTr hB1r hRr hFg hgs
        by_cases hqi : (q : Int) < n
        · have hql : q < nn := by have := HNN.out; omega
          have hset := HRr.out.set (g := g) (c := c) (by rw [setT_len, ← HM.out]; exact HB1r.out) (by rw [setT_len]; have := HM.out; have := HKN.out; omega) (kk + q) true
          have hcl := setT_len bits kk q
          obtain ⟨g8, c8, hB8, _, hg8, hl8, hb8, hz8⟩ := HRr.out.reads (by rw [setT_len]; have := HM.out; have := HKN.out; omega)
          have e8 : (⟨g8, 0, none⟩ : Addr) = ⟨g, 0, none⟩ := by
            have a := hB8.cell (i := 1) rfl
            rw [b1] at a
            simp at a
            rw [a.1]
          cases e8
          have bq := hb8 (kk + q) (by rw [hcl]; have := HM.out; have := HKN.out; omega)
          have zq := hz8 (kk + q)
          have HSET := hid hset
          have hsum : IntKind.i64.wrap ((kk : Int) + q) = (kk : Int) + q := by rw [IntKind.wrap_i64]; omega
          have u1 : (0 : Int) ≤ (kk : Int) + q := by omega
          have u2 : ((kk : Int) + q).toNat = kk + q := by omega
          have u3 : (kk : Int) + q < (M : Int) := by have := HM.out; have := HKN.out; omega
          clear hset hcl hB8 hl8 hb8 hz8
          go_wp2_with fail
          go_region
          go_wp2_with fail
          go_roundw
          case rel =>
            refine ⟨q + 1, by omega, by go_num, ?_, (HFg.out.set (by simp) _).drew⟩
            exact HSET.out.1.fr (S := []) ((Fr.refl _ _).drew) (by simp)
          case measure => simp [intOf]; omega
        · have eq : q = nn := by have := HNN.out; omega
          subst eq
          have t0 := HTr.out.cell (i := 0) rfl
          have t1 := HTr.out.cell (i := 1) rfl
          have f0 := HTr.out.frozen 0
          have f1 := HTr.out.frozen 1
          go_wp2_with fail
          have hfin : TakePost w fb B first (setT bits kk q) (told3 0 0) (.returned (told3 0 0)) (told3W wr (w.heap.size + 1) 0 0) := by
            refine ⟨rfl, ?_, ?_⟩
            · exact HRr.out.fr' (S := [w.heap.size + 1]) (told3W_fr (Fr.refl _ wr) (by simp) 0 0) (fun x hx => by obtain rfl := List.mem_singleton.1 hx; exact ⟨_, _, HTr.out, by decide, by decide⟩)
            · obtain ⟨cs, hcs⟩ := HGS.out
              have hFwc : Fr [] w wc := HF0.out.trans HFR.out
              refine ⟨[g], told3W_fr ((hFwc.here (by simp)).trans HFg.out) (.inr (by omega)) 0 0, fun b hb => ?_⟩
              obtain rfl := List.mem_singleton.1 hb
              refine ⟨hBg, fun hl => ⟨cs, ?_⟩⟩
              unfold Blk at hcs ⊢
              rw [← hFwc.block _ hl (by simp)]
              exact hcs
          refine bodyPost_ret (v := told3 0 0) ?_ rfl hfin
          have k0 := (told3W_blk HTr.out 0 0).cell (i := 0) rfl
          have k1 := (told3W_blk HTr.out 0 0).cell (i := 1) rfl
          simp only [told3W] at k0 k1
          simp [results, Tryz.results70, go_sem, k0, k1, told3]
end Go.Proofs.YtifillpcphiblaaGreat
