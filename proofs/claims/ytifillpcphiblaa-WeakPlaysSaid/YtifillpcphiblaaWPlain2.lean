import Derived.Test.YtifillpcphiblaaWPlain
namespace Go.Proofs.Ytifillpcphiblaa
open Go Go.Proofs Go.RowKit

/-! Plain law of add: three objects come, and the last one's words are set. -/

theorem alc_p {s s' : HS} {A A' : Rg} {z z' : Int → Int} {q : Option Nat} {p k a m : Int} {n : Nat} (h : Alc s s' A A' z z' q p (packed k n a m) n) (hd : Hd k n a m) (nW : ∀ q, (A q).W = []) {o : Ob} (ho : o.In s A z) : o.p ≠ p := by
  intro e
  have h1 := (ho.alloc h (fun hc => by rw [nW] at hc; cases hc)).1
  have h2 := (Ob.In.new h hd).1
  rcases alc_ne h ho.mem (fun hc => by rw [nW] at hc; cases hc) with h3 | h3
  · exact h3 (ob_q h.hi h1 h2 e)
  · exact h3 e

theorem Hd.of {k n a m : Int} (k0 : 0 ≤ k) (k1 : k ≤ 10) (m0 : 0 ≤ m) (m1 : m ≤ 1) (n0 : 0 ≤ n) (n1 : n < 32) (a0 : 0 ≤ a) (a1 : a < 16777216) : Hd k n a m := ⟨k0, k1, m0, by omega, n0, n1, a0, a1⟩

theorem add_plain {s s1 s2 s3 : HS} {A A1 A2 A3 : Rg} {z z1 z2 z3 : Int → Int} {t : TS} {n : Nat} {ks : Nat → Wk} {pre walk queue : List Nat} {q1 q2 q3 : Option Nat} {p1 p2 p3 : Int} (h : WH s A z n ks) (wt : WT s t n ks pre walk queue) (hn : n ≤ 65536)
    (k1 : Alc s s1 A A1 z z1 q1 p1 (packed 7 (1 : Nat) 0 s.parity) 1) (k2 : Alc s1 s2 A1 A2 z1 z2 q2 p2 (packed 7 (1 : Nat) 1 s1.parity) 1) (k3 : Alc s2 s3 A2 A3 z2 z3 q3 p3 (packed 9 (4 : Nat) n s2.parity) 4) :
    let o : Ob := ⟨q3, p3, 9, 4, n, s2.parity⟩
    let k : Wk := ⟨o, ⟨q1, p1, 7, 1, 0, s.parity⟩, ⟨q2, p2, 7, 1, 1, s1.parity⟩⟩
    let s4 := s3.put (p3 + 3 + (0 : Nat)) p1 2
    let s5 := s4.put (p3 + 3 + (1 : Nat)) p2 2
    let s6 := s5.put (p3 + 3 + (2 : Nat)) p2 2
    let s7 := (s6.tick 1).put (p3 + 3 + (3 : Nat)) t.row 2
    o.Lies s3 ∧ o.Lies s4 ∧ o.Lies s5 ∧ o.Lies s6 ∧ WH s7 A3 z3 (n + 1) (upk ks n k) ∧ WT s7 (t.added p3) (n + 1) (upk ks n k) (n :: pre) walk queue ∧ s7.parity = s.parity ∧ s7.top = s3.top ∧ s7.edge = s.edge := by
  intro o k s4 s5 s6 s7
  have e1 := k1.parity
  have e2 := k2.parity
  have e3 := k3.parity
  have g1 := h.alloc k1
  have g2 := g1.alloc k2
  have g3 := g2.alloc k3
  have d1 : Hd 7 (1 : Nat) 0 s.parity := Hd.of (by decide) (by decide) h.p0 h.p1 (by decide) (by decide) (by decide) (by decide)
  have d2 : Hd 7 (1 : Nat) 1 s1.parity := Hd.of (by decide) (by decide) g1.p0 g1.p1 (by decide) (by decide) (by decide) (by decide)
  have d3 : Hd 9 (4 : Nat) n s2.parity := Hd.of (by decide) (by decide) g2.p0 g2.p1 (by decide) (by decide) (by omega) (by omega)
  have c1 := k1.car h.nW
  have c2 := k2.car g1.nW
  have c3 := k3.car g2.nW
  have o3 : o.In s3 A3 z3 := (Ob.In.new k3 d3).1
  have o1 : k.ko.In s3 A3 z3 := (c3 _ (c2 _ (Ob.In.new k1 d1).1).1).1
  have o2 : k.fo.In s3 A3 z3 := (c3 _ (Ob.In.new k2 d2).1).1
  have hbd := o3.bound g3.hi
  have t4 := setw g3.hi o3 (j := 0) (by show 0 < 4; decide) p1 2
  have t5 := setw t4.1 (t4.2 _ o3).1 (j := 1) (by show 1 < 4; decide) p2 2
  have t6 := setw t5.1 (t5.2 _ (t4.2 _ o3).1).1 (j := 2) (by show 2 < 4; decide) p2 2
  have t7 := setw (t6.1.tick 1) ((t6.2 _ (t5.2 _ (t4.2 _ o3).1).1).1.tick 1) (j := 3) (by show 3 < 4; decide) t.row 2
  have h4 := g3.put o3 (j := 0) (by show 0 < 4; decide) p1 2
  have h5 := h4.put (t4.2 _ o3).1 (j := 1) (by show 1 < 4; decide) p2 2
  have h6 := h5.put (t5.2 _ (t4.2 _ o3).1).1 (j := 2) (by show 2 < 4; decide) p2 2
  have h7 := (h6.tick 1).put ((t6.2 _ (t5.2 _ (t4.2 _ o3).1).1).1.tick 1) (j := 3) (by show 3 < 4; decide) t.row 2
  have up : ∀ x : Ob, x.In s3 A3 z3 → x.In s7 A3 z3 := fun x hx => (t7.2 _ ((t6.2 _ (t5.2 _ (t4.2 _ hx).1).1).1.tick 1)).1
  have hw : ∀ x : Ob, x.In s3 A3 z3 → ∀ j, j < x.n → s7.wd x j = if x.p = p3 ∧ j = 3 then t.row else if x.p = p3 ∧ j = 2 then p2 else if x.p = p3 ∧ j = 1 then p2 else if x.p = p3 ∧ j = 0 then p1 else s3.wd x j := by
    intro x hx j hj
    have w4 := (t4.2 _ hx).2 j hj
    have w5 := (t5.2 _ (t4.2 _ hx).1).2 j hj
    have w6 := (t6.2 _ (t5.2 _ (t4.2 _ hx).1).1).2 j hj
    have w7 := (t7.2 _ ((t6.2 _ (t5.2 _ (t4.2 _ hx).1).1).1.tick 1)).2 j hj
    refine w7.trans ?_
    show (if x.p = p3 ∧ j = 3 then _ else s6.wd x j) = _
    rw [show s6.wd x j = _ from w6, show s5.wd x j = _ from w5, show s4.wd x j = _ from w4]
  have hwt : ∀ i, i < n → ∀ j, j < 4 → s7.wd (ks i).o j = s.wd (ks i).o j := by
    intro i hi j hj
    have gi := h.ob i hi
    have gi3 := g3.ob i hi
    have hne : (ks i).o.p ≠ p3 := alc_p k3 d3 g2.nW (g2.ob i hi).o
    rw [hw _ gi3.o j (by rw [gi.on]; exact hj), if_neg (fun e => hne e.1), if_neg (fun e => hne e.1), if_neg (fun e => hne e.1), if_neg (fun e => hne e.1)]
    have jn : j < (ks i).o.n := by rw [gi.on]; exact hj
    exact ((c3 _ (c2 _ (c1 _ gi.o).1).1).2 j jn).trans (((c2 _ (c1 _ gi.o).1).2 j jn).trans ((c1 _ gi.o).2 j jn))
  have hp7 : s7.parity = s.parity := e3.trans (e2.trans e1)
  refine ⟨o3.lies g3.hi, (t4.2 _ o3).1.lies t4.1, (t5.2 _ (t4.2 _ o3).1).1.lies t5.1, (t6.2 _ (t5.2 _ (t4.2 _ o3).1).1).1.lies t6.1, ?_, ?_, hp7, rfl, k3.edge.trans (k2.edge.trans k1.edge)⟩
  · refine h7.snoc ⟨up _ o3, up _ o1, up _ o2, rfl, rfl, .inl rfl, rfl, rfl, rfl, rfl, rfl, .inl hp7.symm⟩ (fun i hi => ?_)
    exact alc_p k1 d1 h.nW (h.ob i hi).ko
  · refine wt.add (k := k) hwt rfl ?_ ?_ ?_ (by show p3 ≠ 0; have : 1 ≤ p3 := hbd.1; omega) (fun i hi => ?_)
    · show s7.wd o 0 = p1
      rw [hw o o3 0 (by show 0 < 4; decide)]; simp [o]
    · show s7.wd o 2 = p2
      rw [hw o o3 2 (by show 2 < 4; decide)]; simp [o]
    · show s7.wd o 3 = t.row
      rw [hw o o3 3 (by show 3 < 4; decide)]; simp [o]
    · have := ((h.ob i (wt.mem (by simp [hi]))).pos h.hi).1
      omega
end Go.Proofs.Ytifillpcphiblaa
