import Derived.Test.YtifillpcphiblaaWAwake
namespace Go.Proofs.Ytifillpcphiblaa
open Go Go.Proofs Go.RowKit

/-! WeakLate. -/

/-- So many numbers from one on, the last first. -/
def dn (a : Nat) : Nat → List Nat
  | 0 => []
  | c + 1 => (a + c) :: dn a c
theorem dn_len (a c : Nat) : (dn a c).length = c := by induction c with | zero => rfl | succ c ih => simp [dn, ih]
theorem dn_get (a : Nat) : ∀ (c i : Nat), i < c → (dn a c)[i]? = some (a + (c - 1 - i))
  | 0, i, h => by omega
  | c + 1, 0, _ => by simp [dn]
  | c + 1, i + 1, h => by
    have := dn_get a c i (by omega)
    simp only [dn, List.getElem?_cons_succ, this]
    congr 2
    omega

/-- Weak pointers are added, one behind the other. -/
structure G1 (p : LP) (k : Nat) : Prop where
  n : p.n = k
  pre : p.pre = dn 0 k
  walk : p.walk = []
  queue : p.queue = []
  M : p.M.length = k
  S : p.S = []
  R : p.R.length = k
  par : p.s.parity = 0
  top : p.s.top = 1 + 15 * k
  edge : p.s.edge = 3000
  nofg : NoFG p.A
  km : ∀ i, i < k → (p.ks i).ko.m = 0

theorem G1.new : G1 (LP.new ks0) 0 := ⟨rfl, rfl, rfl, rfl, rfl, rfl, rfl, rfl, rfl, by show ((3000 : Nat) : Int) - ((0 : Nat) : Int) = 3000; decide, fun q => ⟨rfl, rfl⟩, fun i hi => absurd hi (Nat.not_lt_zero i)⟩
theorem G1.add {p p' : LP} {k : Nat} {x : Wk} (h : G1 p k) (d : Added p p' x) : G1 p' (k + 1) := by
  refine ⟨by rw [d.n, h.n], by rw [d.pre, h.pre, h.n]; simp [dn], d.walk.trans h.walk, d.queue.trans h.queue, by rw [d.M]; simp [h.M], d.S.trans h.S, by rw [d.R]; simp [h.R], d.par.trans h.par, by rw [d.top, h.top]; omega, d.edge.trans h.edge, fun q => ⟨(d.FG q).1.trans (h.nofg q).1, (d.FG q).2.trans (h.nofg q).2⟩, fun i hi => ?_⟩
  rw [d.ks, h.n]
  by_cases e : i = k
  · subst e; rw [upk_same, d.km, d.par, h.par]
  · rw [upk_ne _ _ e]; exact h.km i (by omega)


/-- A walk goes on, and late ones come. -/
structure G2 (p : LP) (old k late : Nat) : Prop where
  n : p.n = old + late
  pre : p.pre = dn old late
  walk : p.walk = dn 0 (old - k)
  queue : p.queue.length = k
  M : p.M.length = old + late
  R : p.R.length = old + late
  par : p.s.parity = 1
  top : p.s.top = 1 + 15 * (old + late : Nat)
  edge : p.s.edge = 3000
  km : ∀ i, i < old → (p.ks i).ko.m = 0

theorem G2.add {p p' : LP} {old k late : Nat} {x : Wk} (h : G2 p old k late) (d : Added p p' x) : G2 p' old k (late + 1) := by
  refine ⟨by rw [d.n, h.n]; omega, by rw [d.pre, h.pre, h.n]; simp [dn], d.walk.trans h.walk, by rw [d.queue]; exact h.queue, by rw [d.M]; simp [h.M]; omega, by rw [d.R]; simp [h.R]; omega, d.par.trans h.par, by rw [d.top, h.top]; omega, d.edge.trans h.edge, fun i hi => ?_⟩
  rw [d.ks, h.n, upk_ne _ _ (by omega)]
  exact h.km i hi

theorem G2.bury {p : LP} {old k late c : Nat} {s' : HS} {t' : TS} (h : G2 p old k late) (hc : old - k = c + 1) (st : Sta p.s s') : G2 { p with s := s', t := t', ks := upk p.ks c { p.ks c with o := { (p.ks c).o with k := 10 } }, walk := dn 0 c, queue := p.queue ++ [c] } old (k + 1) late := by
  refine ⟨h.n, h.pre, by show dn 0 c = _; congr 1; omega, by show (p.queue ++ [c]).length = _; simp [h.queue], h.M, h.R, st.parity.trans h.par, st.top.trans h.top, st.edge.trans h.edge, fun i hi => ?_⟩
  show (upk p.ks c _ i).ko.m = 0
  by_cases e : i = c
  · subst e; rw [upk_same]; exact h.km i hi
  · rw [upk_ne _ _ e]; exact h.km i hi

set_option maxRecDepth 100000 in
set_option maxHeartbeats 4000000 in
theorem lawWeakLate (n a m : Nat) (hn : n < 256) (ha : a < 256) (hm : m < 256) (w : World) :
    Calls Try.prog 8 #[.int .u8 n, .int .u8 a, .int .u8 m] w fun e w' => e = .returned (.bool true) ∧ Fr [] w w' := by
  go_enter Try.func8, Try.ntmps8
  go_wp2_with fail
  refine (wAwake _).mono ?_
  rintro e w0 ⟨rfl, hF0⟩
  go_wp2_with fail
  refine (wMade' _).mono ?_
  rintro e w1 ⟨l, p, rfl, h0, hp0⟩
  have g0 : G1 p 0 := by subst hp0; exact G1.new
  clear hp0
  go_wp2_with fail
  obtain ⟨old, hold, ho12⟩ : ∃ old : Nat, ((n : Int) % 12 = old) ∧ old < 12 := ⟨n % 12, by omega, by omega⟩
  rw [hold]
  clear hold
  go_loopw [10] (fun i wr => ∃ (k : Nat) (p : LP), k ≤ old ∧ i = .int .i64 k ∧ WR w0 wr l p ∧ G1 p k) (fun i _ => old - (intOf i).toNat)
  case atStart => exact ⟨0, p, Nat.zero_le _, rfl, h0, g0⟩
  case round =>
    obtain ⟨k, p, hk, rfl, hr, gr⟩ := hrel
    clear h0 g0
    by_cases hlt : k < old
    · go_wp2_with fail
      refine (wAdd' w0 _ l p hr (by rw [gr.n]; omega) (by rw [gr.top, gr.edge]; omega) (by rw [gr.M]; omega) (by rw [gr.R]; omega)).mono ?_
      rintro e w2 ⟨rfl, p2, x, h2, d2⟩
      go_wp2_with fail
      go_roundw
      case rel => exact ⟨k + 1, p2, by omega, by go_num, h2, gr.add d2⟩
      case measure => simp [intOf]; omega
    · obtain rfl : k = old := by omega
      have c0 := hr.cells.1
      go_wp2_with fail
      refine (wHBegin w0 _ l p hr gr.nofg).mono ?_
      rintro e w2 ⟨rfl, s2, h2, par2, top2, edge2, u2⟩
      obtain ⟨p2, h2, x1, x2, x3, x4, x5, x6, x7, x8, x9, x10, x11⟩ : ∃ p2, WR w0 w2 l p2 ∧ p2.n = k ∧ p2.pre = dn 0 k ∧ p2.walk = [] ∧ p2.queue = [] ∧ p2.M.length = k ∧ p2.R.length = k ∧ p2.s.parity = 1 ∧ p2.s.top = 1 + 15 * k ∧ p2.s.edge = 3000 ∧ (∀ i, i < k → (p2.ks i).ko.m = 0) ∧ True :=
        ⟨_, h2, gr.n, gr.pre, gr.walk, gr.queue, gr.M, gr.R, by show s2.parity = 1; rw [par2, gr.par]; rfl, top2.trans gr.top, edge2.trans gr.edge, gr.km, trivial⟩
      have c1 := h2.cells.2.1
      have X := hid (⟨x1, x2, x3, x4, x5, x6, x7, x8, x9, x10⟩ : _ ∧ _ ∧ _ ∧ _ ∧ _ ∧ _ ∧ _ ∧ _ ∧ _ ∧ _)
      clear c0 x1 x2 x3 x4 x5 x6 x7 x8 x9 x10 x11 par2 top2 edge2 u2
      go_wp2_with fail
      refine (wTBegin w0 _ l p2 h2).mono ?_
      rintro e w3 ⟨rfl, h3⟩
      obtain ⟨x1, x2, x3, x4, x5, x6, x7, x8, x9, x10⟩ := X.out
      obtain ⟨p3, h3, g3⟩ : ∃ p3, WR w0 w3 l p3 ∧ G2 p3 k 0 0 :=
        ⟨_, h3, x1, rfl, by show p2.pre ++ p2.walk = dn 0 (k - 0); rw [x2, x3]; simp, by show p2.queue.length = 0; rw [x4]; rfl, x5, x6, x7, x8, x9, x10⟩
      clear c1 x1 x2 x3 x4 x5 x6 x7 x8 x9 x10 X h2 hr gr hk hlt
      obtain ⟨old, hold⟩ : ∃ old, old = k := ⟨_, rfl⟩
      rw [← hold] at ho12 g3 ⊢
      clear hold
      go_wp2_with fail
      go_loopw [12, 11] (fun i lt wr => ∃ (k late : Nat) (p : LP), k ≤ old ∧ late ≤ 4 ∧ i = .int .i64 k ∧ lt = .int .i64 late ∧ WR w0 wr l p ∧ G2 p old k late) (fun i _ _ => old - (intOf i).toNat)
      case atStart => exact ⟨0, 0, p3, Nat.zero_le _, Nat.zero_le _, rfl, rfl, h3, g3⟩
      case round =>
        obtain ⟨k, late, p, hk, hl4, rfl, rfl, hr, gr⟩ := hrel
        clear h3 g3
        by_cases hlt : k < old
        · by_cases hka : (k : Int) = (a : Int) % 12
          · have hk1 : (k : Int) ≤ (a : Int) % 12 := by omega
            have hk2 : (a : Int) % 12 ≤ (k : Int) := by omega
            clear hka
            go_wp2_with fail
            rw [show ((k : Int) == (a : Int) % 12) = true by simp; omega]
            go_loopw [11] (fun lt wr => ∃ (late : Nat) (p : LP), late ≤ 4 ∧ lt = .int .i64 late ∧ WR w0 wr l p ∧ G2 p old k late) (fun lt _ => 5 - (intOf lt).toNat)
            case atStart => exact ⟨late, p, hl4, rfl, hr, gr⟩
            case round =>
              obtain ⟨late, p, hl4, rfl, hr, gr⟩ := hrel
              by_cases hlm : (late : Int) < (m : Int) % 5
              · go_wp2_with fail
                refine (wAdd' w0 _ l p hr (by rw [gr.n]; omega) (by rw [gr.top, gr.edge]; omega) (by rw [gr.M]; omega) (by rw [gr.R]; omega)).mono ?_
                rintro e w4 ⟨rfl, p4, x, h4, d4⟩
                go_wp2_with fail
                go_roundw
                case rel => exact ⟨late + 1, p4, by omega, by go_num, h4, gr.add d4⟩
                case measure => simp [intOf]; omega
              · skip
                obtain ⟨c, hc⟩ : ∃ c, old - k = c + 1 := ⟨old - k - 1, by omega⟩
                have hwk : p.walk = c :: dn 0 c := by rw [gr.walk, hc]; simp [dn]
                have hkm : (p.ks c).ko.m ≠ p.s.parity := by rw [gr.km c (by omega), gr.par]; decide
                have c1 := hr.cells.2.1
                have HK := hid hkm
                have HWK := hid hwk
                clear hkm hwk
                go_wp2_with fail
                refine (wStepBury w0 _ l p c (dn 0 c) hr HWK.out HK.out).mono ?_
                rintro e w5 ⟨rfl, s5, t5, h5, st5⟩
                obtain ⟨p5, h5, g5⟩ : ∃ p5, WR w0 w5 l p5 ∧ G2 p5 old (k + 1) late := ⟨_, h5, gr.bury hc st5⟩
                have e5 : (c : Int) = (old : Int) - 1 - k := by omega
                clear c1 st5
                go_wp2_with fail
                go_roundw
                case rel => exact ⟨k + 1, late, p5, by omega, by omega, by go_num, rfl, h5, g5⟩
                case measure => simp [intOf]; omega
          · skip
            obtain ⟨c, hc⟩ : ∃ c, old - k = c + 1 := ⟨old - k - 1, by omega⟩
            have hwk : p.walk = c :: dn 0 c := by rw [gr.walk, hc]; simp [dn]
            have hkm : (p.ks c).ko.m ≠ p.s.parity := by rw [gr.km c (by omega), gr.par]; decide
            have c1 := hr.cells.2.1
            have HK := hid hkm
            have HWK := hid hwk
            clear hkm hwk
            go_wp2_with fail
            refine (wStepBury w0 _ l p c (dn 0 c) hr HWK.out HK.out).mono ?_
            rintro e w5 ⟨rfl, s5, t5, h5, st5⟩
            obtain ⟨p5, h5, g5⟩ : ∃ p5, WR w0 w5 l p5 ∧ G2 p5 old (k + 1) late := ⟨_, h5, gr.bury hc st5⟩
            have e5 : (c : Int) = (old : Int) - 1 - k := by omega
            clear c1 st5
            go_wp2_with fail
            go_roundw
            case rel => exact ⟨k + 1, late, p5, by omega, by omega, by go_num, rfl, h5, g5⟩
            case measure => simp [intOf]; omega
        · obtain rfl : k = old := by omega
          have hwk : p.walk = [] := by rw [gr.walk, Nat.sub_self]; rfl
          have c1 := hr.cells.2.1
          have HWK := hid hwk
          clear hwk
          go_wp2_with fail
          refine (wStep0 w0 _ l p hr HWK.out).mono ?_
          rintro e w4 ⟨rfl, h4⟩
          obtain ⟨p4, h4, n4, pre4, walk4, q4⟩ : ∃ p4, WR w0 w4 l p4 ∧ p4.n = k + late ∧ p4.pre = dn k late ∧ p4.walk = [] ∧ p4.queue.length = k := ⟨_, h4, gr.n, gr.pre, rfl, gr.queue⟩
          have c4 := h4.cells.2.1
          have N4 := hid n4
          have P4 := hid pre4
          have W4 := hid walk4
          have Q4 := hid q4
          clear c1 n4 pre4 walk4 q4
          go_wp2_with fail
          refine (wRow w0 _ l p4 h4 (by rw [N4.out]; omega)).mono ?_
          rintro e w5 ⟨⟨sv, rfl, hown⟩, ⟨k5, h5⟩, hF5⟩
          have hown' : w5.ownsRow w4.heap.size 3 1 sv late (intv ((dn k late).map (plc p4.ks))) := by
            have := hown
            rw [P4.out, W4.out, List.append_nil, dn_len] at this
            exact this
          obtain ⟨pr, cr, rfl⟩ := own_len hown'
          obtain ⟨p5, h5, ks5, n5, q5⟩ : ∃ p5, WR w0 w5 l p5 ∧ p5.ks = p4.ks ∧ p5.n = k + late ∧ p5.queue.length = k := ⟨_, h5, rfl, N4.out, Q4.out⟩
          have c5 := h5.cells.2.1
          have K5 := hid ks5
          have N5 := hid n5
          have Q5 := hid q5
          have habl := all_lt h4.h fpab'
          clear c4 hown n5 q5 ks5
          go_wp2_with fail
          refine (wQueue w0 _ l p5 h5 (by rw [N5.out]; omega)).mono ?_
          rintro e w6 ⟨⟨sv2, rfl, hown2⟩, ⟨k6, h6⟩, hF6⟩
          rw [Q5.out] at hown2
          obtain ⟨pq, cq, rfl⟩ := own_len hown2
          have hown6 := ownsRow_fr hown' hF6 (fun g hg hc => by have := (own_lt hown' hg).1; simp at hc; omega)
          obtain ⟨kv, wv, mv, sv, hws⟩ := h6.ws
          have hW := hws.row 1 _ _ rfl rfl
          have hW' : w6.ownsRow l.base 3 1 wv (k + late) (intv (weaksOf (k + late) p4.ks)) := by
            have := hW
            rw [weaksOf_len] at this
            rw [show p5.n = k + late from N5.out, show p5.ks = p4.ks from K5.out] at this
            exact this
          obtain ⟨pw, cw, rfl⟩ := own_len hW'
          have d4 := hws.vv
          have hfr := h6.fr
          clear c5 hown' hown2 hW hws
          go_wp2_with fail
          go_loopw [20] (fun i wr => ∃ j : Nat, j ≤ late ∧ i = .int .i64 j ∧ Fr [] w6 wr) (fun i _ => late - (intOf i).toNat)
          case atStart => exact ⟨0, Nat.zero_le _, rfl, Fr.refl _ _⟩
          case round =>
            obtain ⟨j, hj, rfl, hFr⟩ := hrel
            by_cases hjl : j < late
            · obtain ⟨gr', rfl, hcr⟩ := own_cell (ownsRow_fr hown6 hFr (by simp)) (by omega)
              obtain ⟨gw', rfl, hcw⟩ := own_cell (ownsRow_fr hW' hFr (by simp)) (by omega)
              have q0 := hcr j (.int .i64 (plc p4.ks (k + (late - 1 - j)))) (by simp [intv, dn_get k late j hjl])
              have q1 := hcw (k + (late - 1 - j)) (.int .i64 (plc p4.ks (k + (late - 1 - j)))) (by simp only [intv, List.getElem?_map, weaksOf_get (show k + (late - 1 - j) < k + late by omega)]; rfl)
              have q2 := (d4.fr hFr (by simp)).cell (i := 4) rfl
              have e1 : ((k + late : Nat) : Int) - 1 - (j : Int) = ((k + (late - 1 - j) : Nat) : Int) := by omega
              have e2 : (k : Int) + (late : Int) - 1 - (j : Int) = ((k + (late - 1 - j) : Nat) : Int) := by omega
              clear hcr hcw
              go_wp2_with fail
              go_quiet (fail)
              go_wp2_with fail
              go_roundw
              case rel => exact ⟨j + 1, by omega, by go_num, hFr.drewN nq⟩
              case measure => simp [intOf]; omega
            · obtain rfl : j = late := by omega
              go_wp2_with fail
              go_ret
              exact ⟨rfl, hF0.trans (hfr.trans hFr)⟩
end Go.Proofs.Ytifillpcphiblaa
