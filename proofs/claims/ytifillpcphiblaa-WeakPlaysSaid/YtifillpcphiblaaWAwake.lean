import Derived.Test.YtifillpcphiblaaWLaw4
namespace Go.Proofs.Ytifillpcphiblaa
open Go Go.Proofs Go.RowKit

/-! The document's example. -/

def ob0 : Ob := ⟨none, 0, 0, 0, 0, 0⟩
def ks0 : Nat → Wk := fun _ => ⟨ob0, ob0, ob0⟩

/-- What add leaves. -/
structure Added (p p' : LP) (k : Wk) : Prop where
  n : p'.n = p.n + 1
  ks : p'.ks = upk p.ks p.n k
  pre : p'.pre = p.n :: p.pre
  walk : p'.walk = p.walk
  queue : p'.queue = p.queue
  M : p'.M = p.M ++ [k.o.p]
  S : p'.S = p.S
  R : p'.R = (k.o.p, (p.n : Int)) :: p.R
  Q : p'.Q = p.Q
  K : p'.K = p.K
  km : k.ko.m = p'.s.parity
  par : p'.s.parity = p.s.parity
  top : p'.s.top = p.s.top + 15
  edge : p'.s.edge = p.s.edge
  FG : ∀ q, (p'.A q).F = (p.A q).F ∧ (p'.A q).G = (p.A q).G

theorem wAdd' (w0 w : World) (l : LL) (p : LP) (h : WR w0 w l p) (hn : p.n ≤ 60000) (hroom : p.s.top + 15 ≤ p.s.edge) (hM : p.M.length ≤ 60000) (hR : p.R.length ≤ 60000) :
    Calls Try.prog 37 #[.pointer (some ⟨l.vb, 0, none⟩)] w fun e w' => e = .returned (.bool true) ∧ ∃ p' k, WR w0 w' l p' ∧ Added p p' k := by
  refine (wAdd w0 w l p h hn hroom hM hR).mono ?_
  rintro e w' ⟨rfl, s', A', z', k, h1, h2, h3, h4, h5, h6⟩
  exact ⟨rfl, _, k, h1, rfl, rfl, rfl, rfl, rfl, rfl, rfl, rfl, rfl, rfl, h2, h3, h4, h5, h6⟩

theorem wMade' (w : World) :
    Calls Try.prog 36 #[] w fun e w' => ∃ l p, e = .returned (.tuple #[.pointer (some ⟨l.vb, 0, none⟩), .bool true]) ∧ WR w w' l p ∧ p = LP.new ks0 := by
  refine (wMade ks0 w).mono ?_
  rintro e w' ⟨l, rfl, h⟩
  exact ⟨l, _, rfl, h, rfl⟩

structure Aw (p : LP) (pre walk queue : List Nat) : Prop where
  n : p.n = 2
  k0 : (p.ks 0).ko.m = 0
  k1 : (p.ks 1).ko.m = 1
  pre : p.pre = pre
  walk : p.walk = walk
  queue : p.queue = queue
  S : p.S = []
  par : p.s.parity = 1

theorem WR.frnil {w0 w w' : World} {l : LL} {p : LP} (h : WR w0 w l p) (hf : Fr [] w w') : WR w0 w' l p :=
  h.step hf (by simp) (h.h.fr hf (by simp)) (Blk.fr h.t hf (by simp)) h.wh h.wt (fun _ _ => ⟨rfl, rfl⟩)
theorem WR.drew {w0 w : World} {l : LL} {p : LP} (h : WR w0 w l p) : WR w0 w.drew l p := h.frnil ((Fr.refl [] w).drew)

set_option maxRecDepth 100000 in
set_option maxHeartbeats 4000000 in
theorem wAwake (w : World) : Calls Try.prog 35 #[] w fun e w' => e = .returned (.bool true) ∧ Fr [] w w' := by
  go_enter Try.func35, Try.ntmps35
  go_wp2_with fail
  refine (wMade' _).mono ?_
  rintro e w1 ⟨l, p, rfl, h0, hp0⟩
  have a0 : p.n = 0 ∧ p.pre = [] ∧ p.walk = [] ∧ p.queue = [] ∧ p.M = [] ∧ p.R = [] ∧ p.S = [] ∧ p.s.parity = 0 ∧ p.s.top = 1 ∧ p.s.edge = 3000 ∧ NoFG p.A := by subst hp0; exact ⟨rfl, rfl, rfl, rfl, rfl, rfl, rfl, rfl, rfl, by show ((3000 : Nat) : Int) - ((0 : Nat) : Int) = 3000; decide, fun q => ⟨rfl, rfl⟩⟩
  clear hp0
  obtain ⟨n0, pr0, wk0, qu0, M0, R0, S0, par0, top0, edge0, nofg0⟩ := a0
  go_wp2_with fail
  refine (wAdd' _ _ l p h0 (by omega) (by omega) (by simp [M0]) (by simp [R0])).mono ?_
  rintro e w2 ⟨rfl, p2, k2, h2, d2⟩
  go_wp2_with fail
  refine (wAdd' _ _ l p2 h2 (by have := d2.n; omega) (by have := d2.top; have := d2.edge; omega) (by simp [d2.M, M0]) (by simp [d2.R, R0])).mono ?_
  rintro e w3 ⟨rfl, p3, k3, h3, d3⟩
  have nofg3 : NoFG p3.A := fun q => ⟨(d3.FG q).1.trans ((d2.FG q).1.trans (nofg0 q).1), (d3.FG q).2.trans ((d2.FG q).2.trans (nofg0 q).2)⟩
  have n3 : p3.n = 2 := by rw [d3.n, d2.n, n0]
  have c0 := h3.cells.1
  go_wp2_with fail
  refine (wHBegin _ _ l p3 h3 nofg3).mono ?_
  rintro e w4 ⟨rfl, s4, h4', par4, top4, edge4, u4⟩
  obtain ⟨p4, h4, n4, ks4, pr4, wk4, qu4, S4, par4⟩ : ∃ p4, WR w w4 l p4 ∧ p4.n = 2 ∧ p4.ks = p3.ks ∧ p4.pre = [1, 0] ∧ p4.walk = [] ∧ p4.queue = [] ∧ p4.S = [] ∧ p4.s.parity = 1 :=
    ⟨_, h4', n3, rfl, by show p3.pre = _; rw [d3.pre, d2.pre, d2.n, pr0, n0], by show p3.walk = _; rw [d3.walk, d2.walk, wk0], by show p3.queue = _; rw [d3.queue, d2.queue, qu0], by show p3.S = _; rw [d3.S, d2.S, S0], by show s4.parity = 1; rw [par4, d3.par, d2.par, par0]; rfl⟩
  have m0 : (p4.ks 0).ko.m = 0 := by
    rw [ks4, d3.ks, d2.n, n0, upk_ne _ _ (by decide), d2.ks, n0, upk_same, d2.km, d2.par, par0]
  have m1 : (p4.ks 1).ko.m = 0 := by
    rw [ks4, d3.ks, d2.n, n0, upk_same, d3.km, d3.par, d2.par, par0]
  obtain ⟨kv, wv, mv, sv, hws⟩ := h4.ws
  have hK := hws.row 0 _ _ rfl rfl
  rw [keysOf_len, n4] at hK
  obtain ⟨pk, ck, rfl⟩ := own_len hK
  obtain ⟨gk, rfl, hcell⟩ := own_cell hK (by omega)
  have q1 := hcell 1 (.int .i64 (p4.ks 1).ko.p) (by simp [intv, keysOf, n4, List.range_succ])
  have c3 := hws.cell.1
  have c4 := hws.cell.2.2.2.1
  have H4 := hid h4
  clear c0 h0 h2 h3 h4' hws hK hcell ks4
  go_wp2_with fail
  have i1 : 1 < p4.n := by omega
  have mk1 : (p4.ks 1).ko.m ≠ p4.s.parity := by rw [m1, par4]; decide
  refine wp_region_still_tail 10 (by kernel_rfl) (by kernel_rfl) ?_
  simp only [List.take_succ_cons, List.take_zero, List.drop_succ_cons, List.drop_zero]
  change wpStill _ _ w4.drew (fun a' => wpList _ _ _ _ a' w4.drew) _ _
  repeat still_step
  refine wpStill_nil ?_
  go_wp2_with fail
  refine (wShadeYes w _ l p4 1 H4.out.drew i1 mk1).mono ?_
  rintro e w5 ⟨rfl, s5, A5, h5', st5⟩
  all_goals
    obtain ⟨p5, h5, e5⟩ : ∃ p5, WR w w5 l p5 ∧ Aw p5 [1, 0] [] [] :=
      ⟨_, h5', n4, m0, par4, pr4, wk4, qu4, S4, by show s5.parity = 1; rw [st5.parity]; exact par4⟩
    have c5 := h5.cells.2.1
    clear q1 c3 c4 h5' m0 m1 n4 pr4 wk4 qu4 S4 H4 st5 par4 mk1 i1
    go_wp2_with fail
    refine (wTBegin w _ l p5 h5).mono ?_
    rintro e w6 ⟨rfl, h6'⟩
    obtain ⟨p6, h6, e6⟩ : ∃ p6, WR w w6 l p6 ∧ Aw p6 [] [1, 0] [] :=
      ⟨_, h6', e5.n, e5.k0, e5.k1, rfl, by show p5.pre ++ p5.walk = [1, 0]; rw [e5.pre, e5.walk]; rfl, e5.queue, e5.S, e5.par⟩
    have c6 := h6.cells.2.1
    clear c5 h6'
    go_wp2_with fail
    refine (wStepKeep w _ l p6 1 [0] h6 e6.walk (by rw [e6.k1, e6.par])).mono ?_
    rintro e w7 ⟨rfl, t7, h7'⟩
    obtain ⟨p7, h7, e7⟩ : ∃ p7, WR w w7 l p7 ∧ Aw p7 [1] [0] [] :=
      ⟨_, h7', e6.n, e6.k0, e6.k1, by show p6.pre ++ [1] = [1]; rw [e6.pre]; rfl, rfl, e6.queue, e6.S, e6.par⟩
    have c7 := h7.cells.2.1
    clear c6 h7'
    go_wp2_with fail
    refine (wStepBury w _ l p7 0 [] h7 e7.walk (by rw [e7.k0, e7.par]; decide)).mono ?_
    rintro e w8 ⟨rfl, s8, t8, h8', st8⟩
    obtain ⟨p8, h8, n8, q8, S8⟩ : ∃ p8, WR w w8 l p8 ∧ p8.n = 2 ∧ p8.queue = [0] ∧ p8.S = [] := ⟨_, h8', e7.n, by show p7.queue ++ [0] = [0]; rw [e7.queue]; rfl, e7.S⟩
    have c8 := h8.cells.2.1
    clear c7 h8' st8
    go_wp2_with fail
    refine (wTake w _ l p8 0 [] h8 q8 (by rw [S8]; decide)).mono ?_
    rintro e w9 ⟨rfl, s9, t9, h9', -, -, -, -⟩
    obtain ⟨p9, h9, n9, k9⟩ : ∃ p9, WR w w9 l p9 ∧ p9.n = 2 ∧ p9.ks = p8.ks := ⟨_, h9', n8, rfl⟩
    rw [← k9]
    obtain ⟨kv9, wv9, mv9, sv9, ws9⟩ := h9.ws
    have hK := ws9.row 1 _ _ rfl rfl
    rw [weaksOf_len, n9] at hK
    obtain ⟨pw, cw, rfl⟩ := own_len hK
    obtain ⟨gw', rfl, hcell⟩ := own_cell hK (by omega)
    have q1 := hcell 0 (.int .i64 (p9.ks 0).o.p) (by simp [intv, weaksOf, plc, List.range_succ])
    have c9 := ws9.cell.2.2.2.2.1
    have fr9 := h9.fr
    clear c8 h9' k9 h9 ws9 hK hcell
    go_wp2_with fail
    go_ret
    exact ⟨by simp, fr9⟩
end Go.Proofs.Ytifillpcphiblaa
