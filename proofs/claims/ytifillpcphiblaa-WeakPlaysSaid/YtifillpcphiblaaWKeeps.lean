import Derived.Test.YtifillpcphiblaaWLaw5
import Derived.Test.YtifillpcphiblaaWLate
namespace Go.Proofs.Ytifillpcphiblaa
open Go Go.Proofs Go.RowKit

/-! WeakKeeps. -/

theorem WR.bs {w0 w : World} {l : LL} {p : LP} (h : WR w0 w l p) : l.base ≤ w.heap.size ∧ l.vb < l.base := by
  obtain ⟨kv, wv, mv, sv, hws⟩ := h.ws
  exact ⟨hws.hb, hws.b2⟩

/-- The world with a row that was told once. -/
structure KI (w0 wr : World) (l : LL) (B : Nat) (rv : Value) (L0 : List Int) (old : Nat) (p : LP) : Prop where
  r : WR w0 wr l p
  row : wr.ownsRow B 3 1 rv old (intv L0)
  hB : l.base ≤ B
  n : p.n = old
  par : p.s.parity = 1
  L : (dn 0 old).map (plc p.ks) = L0

theorem KI.step {w0 wr w' : World} {l : LL} {B : Nat} {rv : Value} {L0 : List Int} {old : Nat} {p p' : LP} (h : KI w0 wr l B rv L0 old p) (h' : WR w0 w' l p') (hQ : FrQ l.L l.tb l.vb l.base wr w') (hn : p'.n = p.n) (hp : p'.s.parity = p.s.parity) (hk : ∀ i, (p'.ks i).o.p = (p.ks i).o.p) : KI w0 w' l B rv L0 old p' :=
  ⟨h', own_q h.r.ok h.r.bs.2 h.row h.hB hQ, h.hB, hn.trans h.n, hp.trans h.par, by rw [← h.L]; exact List.map_congr_left (fun i _ => hk i)⟩

theorem upk_op {ks : Nat → Wk} {i : Nat} {k : Wk} (h : k.o.p = (ks i).o.p) : ∀ j, (upk ks i k j).o.p = (ks j).o.p := by
  intro j
  by_cases e : j = i
  · subst e; rw [upk_same]; exact h
  · rw [upk_ne _ _ e]
theorem upk_km {ks : Nat → Wk} {i : Nat} {k : Wk} (h : k.ko.m = (ks i).ko.m) : ∀ j, (upk ks i k j).ko.m = (ks j).ko.m := by
  intro j
  by_cases e : j = i
  · subst e; rw [upk_same]; exact h
  · rw [upk_ne _ _ e]

theorem km_marked (ks : Nat → Wk) (i : Nat) (m : Int) : ∀ j, (upk ks i { ks i with ko := { (ks i).ko with m := m } } j).ko.m = if j = i then m else (ks j).ko.m := by
  intro j
  by_cases e : j = i
  · subst e; rw [upk_same, if_pos rfl]
  · rw [upk_ne _ _ e, if_neg e]

theorem dn_drop (old : Nat) : ∀ k, k ≤ old → (dn 0 old).drop k = dn 0 (old - k)
  | 0, _ => by simp
  | k + 1, h => by
    have ih := dn_drop old k (by omega)
    have e : old - k = (old - (k + 1)) + 1 := by omega
    rw [← List.drop_drop, ih, e]
    simp [dn]

set_option maxRecDepth 100000 in
set_option maxHeartbeats 8000000 in
theorem lawWeakKeeps (n : Nat) (b : Bool) (hn : n < 256) (w : World) :
    Calls Try.prog 7 #[.int .u8 n, .bool b] w fun e w' => e = .returned (.bool true) ∧ Fr [] w w' := by
  go_enter Try.func7, Try.ntmps7
  go_wp2_with fail
  refine (wAwake _).mono ?_
  rintro e w0 ⟨rfl, hF0⟩
  go_wp2_with fail
  refine (wMade' _).mono ?_
  rintro e w1 ⟨l, p, rfl, h0, hp0⟩
  have g0 : G1 p 0 := by subst hp0; exact G1.new
  clear hp0
  go_wp2_with fail
  go_loopw [7] (fun i wr => ∃ (k : Nat) (p : LP), (k : Int) ≤ (n : Int) % 15 ∧ i = .int .i64 k ∧ WR w0 wr l p ∧ G1 p k) (fun i _ => 15 - (intOf i).toNat)
  case atStart => exact ⟨0, p, by omega, rfl, h0, g0⟩
  case round =>
    obtain ⟨k, p, hk, rfl, hr, gr⟩ := hrel
    clear h0 g0
    by_cases hlt : (k : Int) < (n : Int) % 15
    · go_wp2_with fail
      refine (wAdd' w0 _ l p hr (by rw [gr.n]; omega) (by rw [gr.top, gr.edge]; omega) (by rw [gr.M]; omega) (by rw [gr.R]; omega)).mono ?_
      rintro e w2 ⟨rfl, p2, x, h2, d2⟩
      go_wp2_with fail
      go_roundw
      case rel => exact ⟨k + 1, p2, by omega, by go_num, h2, gr.add d2⟩
      case measure => simp [intOf]; omega
    · obtain ⟨old, hold⟩ : ∃ old, old = k := ⟨_, rfl⟩
      have ho15 : old < 15 := by omega
      rw [← hold] at gr
      have c0 := hr.cells.2.1
      go_wp2_with fail
      refine (wRow w0 _ l p hr (by rw [gr.n]; omega)).mono ?_
      rintro e w2 ⟨⟨sv, rfl, hown⟩, ⟨k2, h2⟩, hF2⟩
      rw [gr.pre, gr.walk, List.append_nil, dn_len] at hown
      obtain ⟨pr, cr, rfl⟩ := own_len hown
      obtain ⟨L0, hL0⟩ : ∃ L0, (dn 0 old).map (plc p.ks) = L0 := ⟨_, rfl⟩
      rw [hL0] at hown
      have hbs := hr.bs
      obtain ⟨B, hBe⟩ : ∃ B, B = wr.heap.size := ⟨_, rfl⟩
      rw [← hBe] at hown hbs
      clear hBe
      have c1 := h2.cells.1
      have HL0 := hid hL0
      clear c0 hL0 hold hk hlt
      obtain ⟨p2, h2, e2⟩ : ∃ p2, WR w0 w2 l p2 ∧ p2.n = old ∧ p2.pre = dn 0 old ∧ p2.walk = [] ∧ p2.queue = [] ∧ p2.S = [] ∧ p2.s.parity = 0 ∧ NoFG p2.A ∧ (∀ i, i < old → (p2.ks i).ko.m = 0) ∧ (dn 0 old).map (plc p2.ks) = L0 := ⟨_, h2, gr.n, gr.pre, gr.walk, gr.queue, gr.S, gr.par, gr.nofg, gr.km, HL0.out⟩
      have E2 := hid e2
      clear e2
      go_wp2_with fail
      refine (wHBeginQ w0 _ l p2 h2 E2.out.2.2.2.2.2.2.1).mono ?_
      rintro e w3 ⟨rfl, hQ3, s3, h3, par3, top3, edge3, u3⟩
      obtain ⟨e1, e2, e3, e4, e5, e6, e7, e8, e9⟩ := E2.out
      have r3 := own_q hr.ok hbs.2 hown hbs.1 hQ3
      obtain ⟨p3, h3, pre3, walk3, queue3, S3, km3⟩ : ∃ p3, KI w0 w3 l B (.slice pr old cr) L0 old p3 ∧ p3.pre = dn 0 old ∧ p3.walk = [] ∧ p3.queue = [] ∧ p3.S = [] ∧ (∀ i, i < old → (p3.ks i).ko.m = 0) :=
        ⟨_, ⟨h3, r3, hbs.1, e1, by show s3.parity = 1; rw [par3, e6]; rfl, e9⟩, e2, e3, e4, e5, e8⟩
      clear c1 e1 e2 e3 e4 e5 e6 e7 e8 e9 E2 h2 hr gr r3 hQ3 par3 top3 edge3 u3 hown hF2 HL0
      cases b with
      | false =>
        obtain ⟨kv, wv, mv, sv, hws⟩ := h3.r.ws
        have hK := hws.row 0 _ _ rfl rfl
        rw [keysOf_len, h3.n] at hK
        obtain ⟨pk, ck, rfl⟩ := own_len hK
        have c4 := hws.cell.2.2.2.1
        have c3 := h3.r.cells.2.1
        clear hK hws
        go_wp2_with fail
        go_loopw [9] (fun i wr => i = .int .i64 0 ∧ wr = w3) (fun _ _ => 0)
        case atStart => exact ⟨rfl, rfl⟩
        case round =>
          obtain ⟨rfl, rfl⟩ := hrel
          by_cases ho : (0 : Int) < old
          all_goals (
            go_wp2_with fail
            clear ho
            refine (wTBeginQ w0 _ l p3 h3.r).mono ?_
            rintro e w4 ⟨rfl, hQ4, h4⟩
            obtain ⟨p4, h4, e4⟩ : ∃ p4, KI w0 w4 l B (.slice pr old cr) L0 old p4 ∧ p4.pre = [] ∧ p4.walk = dn 0 (old - 0) ∧ p4.queue ++ p4.walk = dn 0 old ∧ p4.S = [] ∧ (∀ i, i < old → (p4.ks i).ko.m = 0) :=
              ⟨_, h3.step h4 hQ4 rfl rfl (fun _ => rfl), rfl, by show p3.pre ++ p3.walk = _; rw [pre3, walk3]; simp, by show p3.queue ++ (p3.pre ++ p3.walk) = _; rw [pre3, walk3, queue3]; simp, S3, km3⟩
            clear c3 c4
            go_wp2_with fail
            go_loopw [10] (fun i wr => ∃ (k : Nat) (p : LP), k ≤ old ∧ i = .int .i64 k ∧ KI w0 wr l B (.slice pr old cr) L0 old p ∧ p.pre = [] ∧ p.walk = dn 0 (old - k) ∧ p.queue ++ p.walk = dn 0 old ∧ p.S = [] ∧ (∀ i, i < old → (p.ks i).ko.m = 0)) (fun i _ => old - (intOf i).toNat)
            case atStart => exact ⟨0, p4, Nat.zero_le _, rfl, h4, e4⟩
            case round =>
              obtain ⟨k, p5, hk, rfl, h5, e5⟩ := hrel
              clear h4 e4
              have E5 := hid e5
              have c5 := h5.r.cells.2.1
              clear e5
              by_cases hlt : k < old
              · first
                  | (exfalso; omega)
                  | (
                    obtain ⟨c, hc⟩ : ∃ c, old - k = c + 1 := ⟨old - k - 1, by omega⟩
                    have HWK := hid (show p5.walk = c :: dn 0 c by rw [E5.out.2.1, hc]; simp [dn])
                    have HKM := hid (show (p5.ks c).ko.m ≠ p5.s.parity by rw [E5.out.2.2.2.2 c (by omega), h5.par]; decide)
                    have HC := hid hc
                    clear hc
                    go_wp2_with fail
                    refine (wStepBuryQ w0 _ l p5 c (dn 0 c) h5.r HWK.out HKM.out).mono ?_
                    rintro e w6 ⟨rfl, hQ6, s6, t6, h6, st6⟩
                    obtain ⟨p6, h6, e6⟩ : ∃ p6, KI w0 w6 l B (.slice pr old cr) L0 old p6 ∧ p6.pre = [] ∧ p6.walk = dn 0 (old - (k + 1)) ∧ p6.queue ++ p6.walk = dn 0 old ∧ p6.S = [] ∧ (∀ i, i < old → (p6.ks i).ko.m = 0) :=
                      ⟨_, h5.step h6 hQ6 rfl st6.parity (upk_op rfl), E5.out.1, by have hc := HC.out; show dn 0 c = _; congr 1; omega, by have := E5.out.2.2.1; rw [HWK.out] at this; show (p5.queue ++ [c]) ++ dn 0 c = _; rw [← this]; simp, E5.out.2.2.2.1, fun i hi => by rw [upk_km (by rfl) i]; exact E5.out.2.2.2.2 i hi⟩
                    have e7 : (c : Int) = (old : Int) - 1 - k := by have hc := HC.out; omega
                    clear c5 st6
                    go_wp2_with fail
                    go_roundw
                    case rel => exact ⟨k + 1, p6, by omega, by go_num, h6, e6⟩
                    case measure => simp [intOf]; omega)
              · have hko : k = old := by omega
                have HWK := hid (show p5.walk = [] by rw [E5.out.2.1, hko, Nat.sub_self]; rfl)
                have HQU := hid (show p5.queue = dn 0 old by have := E5.out.2.2.1; rw [HWK.out, List.append_nil] at this; exact this)
                go_wp2_with fail
                refine (wStep0Q w0 _ l p5 h5.r HWK.out).mono ?_
                rintro e w6 ⟨rfl, hQ6, h6⟩
                obtain ⟨p6, h6, e6⟩ : ∃ p6, KI w0 w6 l B (.slice pr old cr) L0 old p6 ∧ p6.pre = [] ∧ p6.walk = [] ∧ p6.queue = dn 0 old ∧ p6.S = [] := ⟨_, h5.step h6 hQ6 rfl rfl (fun _ => rfl), E5.out.1, rfl, HQU.out, E5.out.2.2.2.1⟩
                have E6 := hid e6
                have c6 := h6.r.cells.2.1
                clear c5 e6 E5 HWK HQU
                go_wp2_with fail
                refine (wRow w0 _ l p6 h6.r (by have := h6.n; omega)).mono ?_
                rintro e w7 ⟨⟨sv7, rfl, hown7⟩, ⟨k7, h7⟩, hF7⟩
                rw [E6.out.1, E6.out.2.1] at hown7
                obtain ⟨pr7, cr7, rfl⟩ := own_len hown7
                obtain ⟨p7, h7, e7⟩ : ∃ p7, KI w0 w7 l B (.slice pr old cr) L0 old p7 ∧ p7.queue = dn 0 old ∧ p7.S = [] := ⟨_, h6.step h7 (frq_ab hF7) rfl rfl (fun _ => rfl), E6.out.2.2.1, E6.out.2.2.2⟩
                have E7 := hid e7
                have c7 := h7.r.cells.2.1
                clear c6 e7 E6
                go_wp2_with fail
                refine (wQueue w0 _ l p7 h7.r (by have := h7.n; omega)).mono ?_
                rintro e w8 ⟨⟨sv8, rfl, hown8⟩, ⟨k8, h8⟩, hF8⟩
                rw [E7.out.1, dn_len, h7.L] at hown8
                obtain ⟨pr8, cr8, rfl⟩ := own_len hown8
                obtain ⟨p8, h8, e8⟩ : ∃ p8, KI w0 w8 l B (.slice pr old cr) L0 old p8 ∧ p8.queue = dn 0 old ∧ p8.S = [] := ⟨_, h7.step h8 (frq_ab hF8) rfl rfl (fun _ => rfl), E7.out.1, E7.out.2⟩
                have E8 := hid e8
                have hL0l : old = L0.length := by rw [← h8.L, List.length_map, dn_len]
                have a1 : SlArg w8 (.slice pr8 old cr8) L0 := own_arg (by rw [← hL0l]; exact hown8)
                have a2 : SlArg w8 (.slice pr old cr) L0 := own_arg (by rw [← hL0l]; exact h8.row)
                have HL := hid hL0l
                clear c7 e8 E7 hL0l
                go_wp2_with fail
                refine (intsSame pr8 pr old cr8 cr L0 _ HL.out a1 a2 (by omega)).mono ?_
                rintro e w9 ⟨rfl, hF9⟩
                obtain ⟨p9, h9, e9⟩ : ∃ p9, KI w0 w9 l B (.slice pr old cr) L0 old p9 ∧ p9.queue = dn 0 (old - 0) ∧ p9.S.length = 2 * 0 := ⟨p8, h8.step (h8.r.frnil hF9) (frq_nil hF9) rfl rfl (fun _ => rfl), E8.out.1, by rw [E8.out.2]; rfl⟩
                clear E8 a1 a2
                go_wp2_with fail
                go_loopw [17] (fun i wr => ∃ (k : Nat) (p : LP), k ≤ old ∧ i = .int .i64 k ∧ KI w0 wr l B (.slice pr old cr) L0 old p ∧ p.queue = dn 0 (old - k) ∧ p.S.length = 2 * k) (fun i _ => old - (intOf i).toNat)
                case atStart => exact ⟨0, p9, Nat.zero_le _, rfl, h9, e9⟩
                case round =>
                  obtain ⟨j, p10, hj, rfl, h10, e10⟩ := hrel
                  clear h9 e9
                  have E10 := hid e10
                  have c10 := h10.r.cells.2.1
                  clear e10
                  by_cases hjl : j < old
                  · first
                      | (exfalso; omega)
                      | (
                        obtain ⟨c, hc⟩ : ∃ c, old - j = c + 1 := ⟨old - j - 1, by omega⟩
                        have HQU := hid (show p10.queue = c :: dn 0 c by rw [E10.out.1, hc]; simp [dn])
                        have HC := hid hc
                        clear hc
                        go_wp2_with fail
                        refine (wTakeQ w0 _ l p10 c (dn 0 c) h10.r HQU.out (by have := E10.out.2; omega)).mono ?_
                        rintro e w11 ⟨rfl, hQ11, s11, t11, h11, st11, -, -, -⟩
                        obtain ⟨p11, h11, k11, e11⟩ : ∃ p11, KI w0 w11 l B (.slice pr old cr) L0 old p11 ∧ p11.ks = p10.ks ∧ p11.queue = dn 0 (old - (j + 1)) ∧ p11.S.length = 2 * (j + 1) :=
                          ⟨_, h10.step h11 hQ11 rfl st11.parity (fun _ => rfl), rfl, by have hc := HC.out; show dn 0 c = _; congr 1; omega, by show (p10.S ++ [_] ++ [_]).length = _; simp; have := E10.out.2; omega⟩
                        rw [← k11]
                        obtain ⟨gr', rfl, hcr⟩ := own_cell h11.row (by omega)
                        have q0 := hcr j (.int .i64 (p11.ks c).o.p) (by
                          have := h11.L
                          rw [← this]
                          have e := dn_get 0 old j hjl
                          have e2 : 0 + (old - 1 - j) = c := by have hc := HC.out; omega
                          rw [e2] at e
                          simp [intv, e, plc])
                        have E11 := hid e11
                        clear c10 hcr k11 e11 E10 st11
                        go_wp2_with fail
                        go_roundw
                        case rel => exact ⟨j + 1, p11, by omega, by go_num, h11, E11.out⟩
                        case measure => simp [intOf]; omega)
                  · have hjo : j = old := by omega
                    have HQU := hid (show p10.queue = [] by rw [E10.out.1, hjo, Nat.sub_self]; rfl)
                    go_wp2_with fail
                    refine (wQueue w0 _ l p10 h10.r (by have := h10.n; omega)).mono ?_
                    rintro e w11 ⟨⟨sv11, rfl, hown11⟩, ⟨k11, h11⟩, hF11⟩
                    rw [HQU.out] at hown11
                    obtain ⟨pr11, cr11, rfl⟩ := own_len hown11
                    have hfr := h11.fr
                    clear c10 h11
                    go_wp2_with fail
                    go_ret
                    exact ⟨rfl, hF0.trans hfr⟩)
      | true =>
        go_wp2_with fail
        go_loopw [9] (fun i wr => ∃ (k : Nat) (p : LP), k ≤ old ∧ i = .int .i64 k ∧ KI w0 wr l B (.slice pr old cr) L0 old p ∧ p.pre = dn 0 old ∧ p.walk = [] ∧ p.queue = [] ∧ (∀ i, i < k → (p.ks i).ko.m = 1) ∧ (∀ i, k ≤ i → i < old → (p.ks i).ko.m = 0)) (fun i _ => old - (intOf i).toNat)
        case atStart => exact ⟨0, p3, Nat.zero_le _, rfl, h3, pre3, walk3, queue3, fun i hi => absurd hi (Nat.not_lt_zero i), fun i _ hi => km3 i hi⟩
        case round =>
          obtain ⟨k, p4, hk, rfl, h4, e4⟩ := hrel
          clear h3 pre3 walk3 queue3 S3 km3
          have E4 := hid e4
          clear e4
          obtain ⟨kv, wv, mv, sv, hws⟩ := h4.r.ws
          have hK := hws.row 0 _ _ rfl rfl
          rw [keysOf_len, h4.n] at hK
          obtain ⟨pk, ck, rfl⟩ := own_len hK
          have c3 := hws.cell.2.2.2.1
          have c0 := hws.cell.1
          have c1 := hws.cell.2.1
          by_cases hlt : k < old
          · obtain ⟨gk, rfl, hcell⟩ := own_cell hK (by omega)
            have q0 := hcell k (.int .i64 (p4.ks k).ko.p) (by simp only [intv, List.getElem?_map, keysOf_get hlt]; rfl)
            have HKM := hid (show (p4.ks k).ko.m ≠ p4.s.parity by rw [E4.out.2.2.2.2 k (Nat.le_refl _) hlt, h4.par]; decide)
            clear hws hK hcell
            go_wp2_with fail
            refine wp_region_still_tail 11 (by kernel_rfl) (by kernel_rfl) ?_
            simp only [List.take_succ_cons, List.take_zero, List.drop_succ_cons, List.drop_zero]
            change wpStill _ _ wr.drew (fun a' => wpList _ _ _ _ a' wr.drew) _ _
            repeat still_step
            refine wpStill_nil ?_
            go_wp2_with fail
            refine (wShadeYesQ w0 _ l p4 k h4.r.drew (by rw [h4.n]; exact hlt) HKM.out).mono ?_
            rintro e w5 ⟨rfl, hQ5, s5, A5, h5, st5⟩
            obtain ⟨p5, h5, e5⟩ : ∃ p5, KI w0 w5 l B (.slice pr old cr) L0 old p5 ∧ p5.pre = dn 0 old ∧ p5.walk = [] ∧ p5.queue = [] ∧ (∀ i, i < k + 1 → (p5.ks i).ko.m = 1) ∧ (∀ i, k + 1 ≤ i → i < old → (p5.ks i).ko.m = 0) :=
              ⟨_, h4.step h5 ((frq_nil ((Fr.refl [] wr).drew)).trans hQ5) rfl st5.parity (upk_op rfl), E4.out.1, E4.out.2.1, E4.out.2.2.1, fun i hi => (km_marked p4.ks k p4.s.parity i).trans (by
                by_cases e : i = k
                · rw [if_pos e]; exact h4.par
                · rw [if_neg e]; exact E4.out.2.2.2.1 i (by omega)), fun i h1 h2 => (km_marked p4.ks k p4.s.parity i).trans (by
                rw [if_neg (by omega)]; exact E4.out.2.2.2.2 i (by omega) h2)⟩
            clear q0 c0 c1 c3 st5
            go_wp2_with fail
            go_roundw
            case rel => exact ⟨k + 1, p5, by omega, by go_num, h5, e5⟩
            case measure => simp [intOf]; omega
          · have hko : k = old := by omega
            have HKM := hid (show ∀ i, i < old → (p4.ks i).ko.m = 1 from fun i hi => E4.out.2.2.2.1 i (by omega))
            clear hws hK
            go_wp2_with fail
            refine (wTBeginQ w0 _ l p4 h4.r).mono ?_
            rintro e w5 ⟨rfl, hQ5, h5⟩
            obtain ⟨p5, h5, e5⟩ : ∃ p5, KI w0 w5 l B (.slice pr old cr) L0 old p5 ∧ p5.pre ++ p5.walk = dn 0 old ∧ p5.walk = dn 0 (old - 0) ∧ p5.queue = [] ∧ (∀ i, i < old → (p5.ks i).ko.m = 1) :=
              ⟨_, h4.step h5 hQ5 rfl rfl (fun _ => rfl), by show [] ++ (p4.pre ++ p4.walk) = _; rw [E4.out.1, E4.out.2.1]; simp, by show p4.pre ++ p4.walk = _; rw [E4.out.1, E4.out.2.1]; simp, E4.out.2.2.1, HKM.out⟩
            clear c0 c1 c3 E4 HKM
            go_wp2_with fail
            go_loopw [10] (fun i wr => ∃ (k : Nat) (p : LP), k ≤ old ∧ i = .int .i64 k ∧ KI w0 wr l B (.slice pr old cr) L0 old p ∧ p.pre ++ p.walk = dn 0 old ∧ p.walk = dn 0 (old - k) ∧ p.queue = [] ∧ (∀ i, i < old → (p.ks i).ko.m = 1)) (fun i _ => old - (intOf i).toNat)
            case atStart => exact ⟨0, p5, Nat.zero_le _, rfl, h5, e5⟩
            case round =>
              obtain ⟨j, p6, hj, rfl, h6, e6⟩ := hrel
              clear h5 e5
              have E6 := hid e6
              have c6 := h6.r.cells.2.1
              clear e6
              by_cases hjl : j < old
              · obtain ⟨c, hc⟩ : ∃ c, old - j = c + 1 := ⟨old - j - 1, by omega⟩
                have HWK := hid (show p6.walk = c :: dn 0 c by rw [E6.out.2.1, hc]; simp [dn])
                have HKM := hid (show (p6.ks c).ko.m = p6.s.parity by rw [E6.out.2.2.2 c (by omega), h6.par])
                have HC := hid hc
                clear hc
                go_wp2_with fail
                refine (wStepKeepQ w0 _ l p6 c (dn 0 c) h6.r HWK.out HKM.out).mono ?_
                rintro e w7 ⟨rfl, hQ7, t7, h7⟩
                obtain ⟨p7, h7, e7⟩ : ∃ p7, KI w0 w7 l B (.slice pr old cr) L0 old p7 ∧ p7.pre ++ p7.walk = dn 0 old ∧ p7.walk = dn 0 (old - (j + 1)) ∧ p7.queue = [] ∧ (∀ i, i < old → (p7.ks i).ko.m = 1) :=
                  ⟨_, h6.step h7 hQ7 rfl rfl (fun _ => rfl), by have := E6.out.1; rw [HWK.out] at this; show (p6.pre ++ [c]) ++ dn 0 c = _; rw [← this]; simp, by have hc := HC.out; show dn 0 c = _; congr 1; omega, E6.out.2.2.1, E6.out.2.2.2⟩
                have e9 : (c : Int) = (old : Int) - 1 - j := by have hc := HC.out; omega
                clear c6
                go_wp2_with fail
                go_roundw
                case rel => exact ⟨j + 1, p7, by omega, by go_num, h7, e7⟩
                case measure => simp [intOf]; omega
              · have hjo : j = old := by omega
                have HWK := hid (show p6.walk = [] by rw [E6.out.2.1, hjo, Nat.sub_self]; rfl)
                go_wp2_with fail
                refine (wStep0Q w0 _ l p6 h6.r HWK.out).mono ?_
                rintro e w7 ⟨rfl, hQ7, h7⟩
                obtain ⟨p7, h7, e7⟩ : ∃ p7, KI w0 w7 l B (.slice pr old cr) L0 old p7 ∧ p7.pre ++ p7.walk = dn 0 old ∧ p7.queue = [] := ⟨_, h6.step h7 hQ7 rfl rfl (fun _ => rfl), by show p6.pre ++ [] = _; have := E6.out.1; rw [HWK.out] at this; exact this, E6.out.2.2.1⟩
                have E7 := hid e7
                have c7 := h7.r.cells.2.1
                clear c6 e7 E6 HWK
                go_wp2_with fail
                refine (wRow w0 _ l p7 h7.r (by have := h7.n; omega)).mono ?_
                rintro e w8 ⟨⟨sv8, rfl, hown8⟩, ⟨k8, h8⟩, hF8⟩
                rw [E7.out.1, dn_len, h7.L] at hown8
                obtain ⟨pr8, cr8, rfl⟩ := own_len hown8
                obtain ⟨p8, h8, e8⟩ : ∃ p8, KI w0 w8 l B (.slice pr old cr) L0 old p8 ∧ p8.queue = [] := ⟨_, h7.step h8 (frq_ab hF8) rfl rfl (fun _ => rfl), E7.out.2⟩
                have hL0l : old = L0.length := by rw [← h8.L, List.length_map, dn_len]
                have a1 : SlArg w8 (.slice pr8 old cr8) L0 := own_arg (by rw [← hL0l]; exact hown8)
                have a2 : SlArg w8 (.slice pr old cr) L0 := own_arg (by rw [← hL0l]; exact h8.row)
                have HL := hid hL0l
                have HQU := hid e8
                clear c7 e8 E7 hL0l
                go_wp2_with fail
                refine (intsSame pr8 pr old cr8 cr L0 _ HL.out a1 a2 (by omega)).mono ?_
                rintro e w9 ⟨rfl, hF9⟩
                have h9 := h8.r.frnil hF9
                have c9 := h9.cells.2.1
                clear a1 a2
                go_wp2_with fail
                refine (wQueue w0 _ l p8 h9 (by have := h8.n; omega)).mono ?_
                rintro e w11 ⟨⟨sv11, rfl, hown11⟩, ⟨k11, h11⟩, hF11⟩
                rw [HQU.out] at hown11
                obtain ⟨pr11, cr11, rfl⟩ := own_len hown11
                have hfr := h11.fr
                clear c9 h11
                go_wp2_with fail
                go_ret
                exact ⟨rfl, hF0.trans hfr⟩
end Go.Proofs.Ytifillpcphiblaa
