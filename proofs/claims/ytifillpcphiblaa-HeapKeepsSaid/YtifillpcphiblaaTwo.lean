import Derived.Test.YtifillpcphiblaaAllocAny2
namespace Go.Proofs.Ytifillpcphiblaa
open Go Go.Proofs Go.RowKit

/-- Two objects in a heap. -/
structure Two (s : HS) (p1 p2 h1 h2 : Int) (a b : Nat) : Prop where
  ex : ∃ A z q1 q2, HI s A z ∧ p1 ∈ (A q1).all ∧ p2 ∈ (A q2).all ∧ (q1 ≠ q2 ∨ p1 ≠ p2) ∧ a + 3 ≤ ln s.cls z q1 p1 ∧ b + 3 ≤ ln s.cls z q2 p2
  e1 : gw s.ws p1 = h1
  e2 : gw s.ws p2 = h2

theorem Two.b1 {s : HS} {p1 p2 h1 h2 : Int} {a b : Nat} (h : Two s p1 p2 h1 h2 a b) : 1 ≤ p1 ∧ p1 + 3 + a ≤ s.ws.length := by
  obtain ⟨A, z, q1, q2, hI, m1, m2, hne, l1, l2⟩ := h.ex
  have := hI.bound m1
  omega
theorem Two.b2 {s : HS} {p1 p2 h1 h2 : Int} {a b : Nat} (h : Two s p1 p2 h1 h2 a b) : 1 ≤ p2 ∧ p2 + 3 + b ≤ s.ws.length := by
  obtain ⟨A, z, q1, q2, hI, m1, m2, hne, l1, l2⟩ := h.ex
  have := hI.bound m2
  omega
theorem Two.tick {s : HS} {p1 p2 h1 h2 : Int} {a b : Nat} (h : Two s p1 p2 h1 h2 a b) (n : Int) : Two (s.tick n) p1 p2 h1 h2 a b := by
  obtain ⟨A, z, q1, q2, hI, m1, m2, hne, l1, l2⟩ := h.ex
  exact ⟨⟨A, z, q1, q2, hI.tick n, m1, m2, hne, l1, l2⟩, h.e1, h.e2⟩
theorem put_at (s : HS) (i v n : Int) (h0 : 0 ≤ i) (h1 : i < s.ws.length) : gw (s.put i v n).ws i = v := by
  show gw (sw s.ws i v) i = v
  rw [gw_sw _ _ _ _ h0 h1 h0, if_pos rfl]
theorem put_ne (s : HS) (i v n j : Int) (h0 : 0 ≤ i) (h1 : i < s.ws.length) (hj : 0 ≤ j) (hne : j ≠ i) : gw (s.put i v n).ws j = gw s.ws j := by
  show gw (sw s.ws i v) j = _
  rw [gw_sw _ _ _ _ h0 h1 hj, if_neg hne]
theorem Two.put1 {s : HS} {p1 p2 h1 h2 : Int} {a b : Nat} (h : Two s p1 p2 h1 h2 a b) {j : Int} (j0 : 0 ≤ j) (j1 : j < a) (v n : Int) : Two (s.put (p1 + 3 + j) v n) p1 p2 h1 h2 a b ∧ gw (s.put (p1 + 3 + j) v n).ws (p1 + 3 + j) = v := by
  have b1 := h.b1
  have b2 := h.b2
  obtain ⟨A, z, q1, q2, hI, m1, m2, hne, l1, l2⟩ := h.ex
  have := hI.apart q1 p1 q2 p2 m1 m2 hne
  refine ⟨⟨⟨A, z, q1, q2, ?_, m1, m2, hne, l1, l2⟩, ?_, ?_⟩, put_at _ _ _ _ (by omega) (by omega)⟩
  · rw [Int.add_assoc]
    exact hI.put m1 (.inr ⟨by omega, by omega⟩) v n
  · rw [put_ne _ _ _ _ _ (by omega) (by omega) (by omega) (by omega)]; exact h.e1
  · rw [put_ne _ _ _ _ _ (by omega) (by omega) (by omega) (by omega)]; exact h.e2
theorem Two.put2 {s : HS} {p1 p2 h1 h2 : Int} {a b : Nat} (h : Two s p1 p2 h1 h2 a b) {j : Int} (j0 : 0 ≤ j) (j1 : j < b) (v n : Int) : Two (s.put (p2 + 3 + j) v n) p1 p2 h1 h2 a b ∧ ∀ i : Int, 0 ≤ i → i < a → gw (s.put (p2 + 3 + j) v n).ws (p1 + 3 + i) = gw s.ws (p1 + 3 + i) := by
  have b1 := h.b1
  have b2 := h.b2
  obtain ⟨A, z, q1, q2, hI, m1, m2, hne, l1, l2⟩ := h.ex
  have := hI.apart q1 p1 q2 p2 m1 m2 hne
  refine ⟨⟨⟨A, z, q1, q2, ?_, m1, m2, hne, l1, l2⟩, ?_, ?_⟩, fun i i0 i1 => put_ne _ _ _ _ _ (by omega) (by omega) (by omega) (by omega)⟩
  · rw [Int.add_assoc]
    exact hI.put m2 (.inr ⟨by omega, by omega⟩) v n
  · rw [put_ne _ _ _ _ _ (by omega) (by omega) (by omega) (by omega)]; exact h.e1
  · rw [put_ne _ _ _ _ _ (by omega) (by omega) (by omega) (by omega)]; exact h.e2
theorem Two.head {s : HS} {p1 p2 h1 h2 : Int} {a b : Nat} (h : Two s p1 p2 h1 h2 a b) (v n : Int) : Two (s.put p1 v n) p1 p2 v h2 a b ∧ ∀ i : Int, 0 ≤ i → i < a → gw (s.put p1 v n).ws (p1 + 3 + i) = gw s.ws (p1 + 3 + i) := by
  have b1 := h.b1
  have b2 := h.b2
  obtain ⟨A, z, q1, q2, hI, m1, m2, hne, l1, l2⟩ := h.ex
  have := hI.apart q1 p1 q2 p2 m1 m2 hne
  refine ⟨⟨⟨A, z, q1, q2, ?_, m1, m2, hne, l1, l2⟩, put_at _ _ _ _ (by omega) (by omega), ?_⟩, fun i i0 i1 => put_ne _ _ _ _ _ (by omega) (by omega) (by omega) (by omega)⟩
  · have := hI.put (j := 0) m1 (.inl rfl) v n
    rw [Int.add_zero] at this
    exact this
  · rw [put_ne _ _ _ _ _ (by omega) (by omega) (by omega) (by omega)]; exact h.e2

/-- Two allocations, one behind the other, that both went well. -/
theorem Two.mk2 {s s1 s2 : HS} {A A1 A2 : Rg} {z z1 z2 : Int → Int} {q1 q2 : Option Nat} {p1 p2 h1 h2 : Int} {a b : Nat} (k1 : Alc s s1 A A1 z z1 q1 p1 h1 a) (k2 : Alc s1 s2 A1 A2 z1 z2 q2 p2 h2 b) (hW : ∀ q, (A q).W = []) : Two s2 p1 p2 h1 h2 a b := by
  have hne : q1 ≠ q2 ∨ p1 ≠ p2 := by
    by_cases e : q1 = q2
    · refine .inr ?_
      subst e
      intro e2
      subst e2
      obtain ⟨W, hA, hc⟩ := k1.row
      obtain ⟨W2, hA2, hc2⟩ := k2.row
      have hW1 : (A1 q1).W = [] := by
        rw [hA, Rg.up_same]
        rcases hc with hc | ⟨hc, _⟩
        · rw [hW] at hc; cases hc
        · rw [hW] at hc; exact hc.symm
      rcases hc2 with h | ⟨_, h, _⟩
      · rw [hW1] at h; cases h
      · exact h k1.mem
    · exact .inl e
  have h12 := k2.holds q1 p1 k1.mem (by rcases hne with h | h; (· exact .inl h); (· exact .inr h))
  refine ⟨⟨A2, z2, q1, q2, k2.hi, k2.old k1.mem, k2.mem, hne, ?_, ?_⟩, h12.head.trans k1.head, k2.head⟩
  · rw [k2.cls, k2.lns q1 p1 k1.mem, k1.cls]; exact k1.room
  · rw [k2.cls]; exact k2.room
end Go.Proofs.Ytifillpcphiblaa
