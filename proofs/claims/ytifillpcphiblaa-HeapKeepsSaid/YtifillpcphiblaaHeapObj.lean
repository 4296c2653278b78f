import Derived.Test.YtifillpcphiblaaHeap
namespace Go.Proofs.Ytifillpcphiblaa
open Go Go.Proofs Go.RowKit

/-- The parts of an object's first word are in range. -/
structure Hd (k s a m : Int) : Prop where
  k0 : 0 ≤ k
  k1 : k ≤ 10
  m0 : 0 ≤ m
  m1 : m < 2
  s0 : 0 ≤ s
  s1 : s < 32
  a0 : 0 ≤ a
  a1 : a < 16777216

def HS.tick (s : HS) (n : Int) : HS := { s with u := s.u + n }
theorem tick_tick (s : HS) (a b : Int) : (s.tick a).tick b = s.tick (a + b) := by simp [HS.tick, Int.add_assoc]
theorem HRep.cast {w : World} {L : HL} {s s' : HS} (h : HRep w L s) (e : s = s') : HRep w L s' := e ▸ h
theorem HRep.ab_all (L : HL) : L.ab ∈ L.fp := by simp [HL.fp]
theorem fpab (L : HL) : ∀ x ∈ [L.ab], x ∈ L.fp := by simp [HL.fp]
theorem fpaw (L : HL) : ∀ x ∈ [L.ab, L.wb], x ∈ L.fp := by simp [HL.fp]
theorem new_apart {w : World} {L : HL} {s : HS} (h : HRep w L s) : w.heap.size ∉ L.all := by
  intro hc
  have g : ∀ b ∈ L.all, b < w.heap.size := by
    intro b hb
    simp only [HL.all, HL.fp, List.mem_cons, List.mem_append] at hb
    rcases hb with rfl | rfl | rfl | rfl | rfl | rfl | rfl | hb | hb
    · exact h.c.1
    · exact h.r.1
    · exact h.h.lt
    · exact h.a.s.lt
    · exact h.a.c.lt
    · exact h.lr.s.lt
    · obtain ⟨sv, h1, _⟩ := h.x.s; exact h1.lt
    · obtain ⟨sv, h1, h2⟩ := h.x.s
      rcases h2 with ⟨e, _⟩ | ⟨b', cap, rest, e1, e2, e3, e4⟩
      · rw [e] at hb; cases hb
      · rw [e1] at hb; cases List.mem_singleton.1 hb; exact e3.lt
    · obtain ⟨j, hj, rfl⟩ := List.getElem_of_mem hb
      have h2 : j < s.rs.length := by rw [h.n2, ← h.n1]; exact hj
      exact (h.rr j _ _ (List.getElem?_eq_getElem hj) (List.getElem?_eq_getElem h2)).s.lt
  exact Nat.lt_irrefl _ (g _ hc)
theorem all_lt {w : World} {L : HL} {s : HS} (h : HRep w L s) {b : Nat} (hb : b ∈ L.all) : b < w.heap.size := by
  simp only [HL.all, HL.fp, List.mem_cons, List.mem_append] at hb
  rcases hb with rfl | rfl | rfl | rfl | rfl | rfl | rfl | hb | hb
  · exact h.c.1
  · exact h.r.1
  · exact h.h.lt
  · exact h.a.s.lt
  · exact h.a.c.lt
  · exact h.lr.s.lt
  · obtain ⟨sv, h1, _⟩ := h.x.s; exact h1.lt
  · obtain ⟨sv, h1, h2⟩ := h.x.s
    rcases h2 with ⟨e, _⟩ | ⟨b', cap, rest, e1, e2, e3, e4⟩
    · rw [e] at hb; cases hb
    · rw [e1] at hb; cases List.mem_singleton.1 hb; exact e3.lt
  · obtain ⟨j, hj, rfl⟩ := List.getElem_of_mem hb
    have h2 : j < s.rs.length := by rw [h.n2, ← h.n1]; exact hj
    exact (h.rr j _ _ (List.getElem?_eq_getElem hj) (List.getElem?_eq_getElem h2)).s.lt

set_option maxHeartbeats 800000 in
theorem hCell (L : HL) (s : HS) (p : Int) (k z a m : Int) (w : World) (hH : HRep w L s) (p0 : 0 ≤ p) (p1 : p < s.ws.length) (hp : gw s.ws p = packed k z a m) (hd : Hd k z a m) :
    Calls Try.prog 25 #[.pointer (some ⟨L.hb, 0, none⟩), .int .i64 p] w fun e w' => e = .returned (.tuple #[.agg #[.int .i64 k, .int .i64 z, .int .i64 a, .int .i64 m], .int .i64 0]) ∧ HRep w' L (s.tick 1) ∧ Fr [L.ab] w w' := by
  have c0 := hH.reads.1
  have l1 := hH.h.lt
  have hH0 := hH.alloc (.cells #[.int .i64 0, .int .i64 0, .int .i64 0, .int .i64 0] 40)
  have b0 := Blk.new w [.int .i64 0, .int .i64 0, .int .i64 0, .int .i64 0] 40
  have hn := new_apart hH
  have Hp := hid hp
  clear hp
  go_enter Try.func25, Try.ntmps25
  go_wp2_with fail
  refine (aLoad L.ab L.wb s.ws s.u p _ p0 p1 hH0.a).mono ?_
  rintro e w1 ⟨rfl, hA1, hF1⟩
  have hH1 := hH0.arena hF1 (by simp) hA1
  have b1 := b0.fr hF1 (by simp only [HL.all, HL.fp, List.mem_cons, not_or] at hn; simp [hn.2.2.2.1])
  have hF : Fr [L.ab] w w1 := ((Fr.refl _ w).alloc _).trans hF1
  clear hH0 b0 hA1 hF1
  rw [Hp.out]
  go_wp2_with fail
  refine (cUnpack k z a m _ hd.k0 hd.k1 hd.m0 hd.m1 hd.s0 hd.s1 hd.a0 hd.a1).mono ?_
  rintro e w2 ⟨rfl, hF2⟩
  have hH2 := hH1.fr hF2 (by simp)
  have b2 := b1.fr hF2 (by simp)
  have hF' : Fr [L.ab] w w2 := hF.trans (hF2.here (by simp))
  clear hH1 b1 hF2 hF c0
  have q0 := b2.cell (i := 0) rfl
  have q1 := b2.cell (i := 1) rfl
  have q2 := b2.cell (i := 2) rfl
  have q3 := b2.cell (i := 3) rfl
  have y0 := b2.frozen 0
  have y1 := b2.frozen 1
  have y2 := b2.frozen 2
  have y3 := b2.frozen 3
  go_wp2_with fail
  refine bodyPost_ret (v := .tuple #[.agg #[.int .i64 k, .int .i64 z, .int .i64 a, .int .i64 m], .int .i64 0]) (by simp [results, Try.results25, go_sem, q0, q1, q2, q3]) rfl ⟨rfl, ?_, ?_⟩
  · exact (((hH2.other hn _).other hn _).other hn _).other hn _
  · exact (((hF'.set (by simp) _).set (by simp) _).set (by simp) _).set (by simp) _

set_option maxHeartbeats 800000 in
theorem hWord (L : HL) (s : HS) (p : Int) (k z a m : Int) (j : Int) (w : World) (hH : HRep w L s) (p0 : 0 ≤ p) (p1 : p < s.ws.length) (hp : gw s.ws p = packed k z a m) (hd : Hd k z a m) (j0 : 0 ≤ j) (j1 : j < z) :
    Calls Try.prog 74 #[.pointer (some ⟨L.hb, 0, none⟩), .int .i64 p, .int .i64 j] w fun e w' => e = .returned (.tuple #[.int .i64 (p + 3 + j), .int .i64 0]) ∧ HRep w' L (s.tick 1) ∧ Fr [L.ab] w w' := by
  have z1 := hd.s1
  have hle := hH.a.le
  have n1 : ¬ j < 0 := by omega
  have n2 : ¬ z ≤ j := by omega
  go_enter Try.func74, Try.ntmps74
  go_wp2_with fail
  refine (hCell L s p k z a m _ hH p0 p1 hp hd).mono ?_
  rintro e w1 ⟨rfl, hH1, hF1⟩
  clear hp
  go_wp2_with fail
  go_ret2
  exact ⟨rfl, hH1.alloc _, hF1.alloc _⟩

set_option maxHeartbeats 800000 in
theorem hWordRange (L : HL) (s : HS) (p : Int) (k z a m : Int) (j : Int) (w : World) (hH : HRep w L s) (p0 : 0 ≤ p) (p1 : p < s.ws.length) (hp : gw s.ws p = packed k z a m) (hd : Hd k z a m) (hj : j < 0 ∨ z ≤ j) :
    Calls Try.prog 74 #[.pointer (some ⟨L.hb, 0, none⟩), .int .i64 p, .int .i64 j] w fun e w' => e = .returned (.tuple #[.int .i64 0, .int .i64 1]) ∧ HRep w' L (s.tick 1) ∧ Fr [L.ab] w w' := by
  by_cases h0 : j < 0
  · clear hj
    go_enter Try.func74, Try.ntmps74
    go_wp2_with fail
    refine (hCell L s p k z a m _ hH p0 p1 hp hd).mono ?_
    rintro e w1 ⟨rfl, hH1, hF1⟩
    clear hp
    go_wp2_with fail
    go_ret2
    exact ⟨rfl, hH1.alloc _, hF1.alloc _⟩
  · have h1 : z ≤ j := by omega
    clear hj
    go_enter Try.func74, Try.ntmps74
    go_wp2_with fail
    refine (hCell L s p k z a m _ hH p0 p1 hp hd).mono ?_
    rintro e w1 ⟨rfl, hH1, hF1⟩
    clear hp
    go_wp2_with fail
    go_ret2
    exact ⟨rfl, hH1.alloc _, hF1.alloc _⟩

set_option maxHeartbeats 800000 in
theorem hGet (L : HL) (s : HS) (p : Int) (k z a m : Int) (j : Int) (w : World) (hH : HRep w L s) (p0 : 0 ≤ p) (p1 : p + 3 + z ≤ s.ws.length) (hp : gw s.ws p = packed k z a m) (hd : Hd k z a m) (j0 : 0 ≤ j) (j1 : j < z) :
    Calls Try.prog 26 #[.pointer (some ⟨L.hb, 0, none⟩), .int .i64 p, .int .i64 j] w fun e w' => e = .returned (.tuple #[.int .i64 (gw s.ws (p + 3 + j)), .int .i64 0]) ∧ HRep w' L (s.tick 2) ∧ Fr [L.ab] w w' := by
  go_enter Try.func26, Try.ntmps26
  go_wp2_with fail
  refine (hWord L s p k z a m j _ hH p0 (by omega) hp hd j0 j1).mono ?_
  rintro e w1 ⟨rfl, hH1, hF1⟩
  clear hp
  have c0 := hH1.reads.1
  go_wp2_with fail
  refine (aLoad L.ab L.wb s.ws _ (p + 3 + j) _ (by omega) (by omega) hH1.a).mono ?_
  rintro e w2 ⟨rfl, hA2, hF2⟩
  clear c0
  go_wp2_with fail
  go_ret2
  exact ⟨rfl, (hH1.arena hF2 (by simp) hA2).cast (by simp [HS.tick, Int.add_assoc]), hF1.trans hF2⟩

set_option maxHeartbeats 800000 in
theorem hGetRange (L : HL) (s : HS) (p : Int) (k z a m : Int) (j : Int) (w : World) (hH : HRep w L s) (p0 : 0 ≤ p) (p1 : p < s.ws.length) (hp : gw s.ws p = packed k z a m) (hd : Hd k z a m) (hj : j < 0 ∨ z ≤ j) :
    Calls Try.prog 26 #[.pointer (some ⟨L.hb, 0, none⟩), .int .i64 p, .int .i64 j] w fun e w' => e = .returned (.tuple #[.int .i64 0, .int .i64 1]) ∧ HRep w' L (s.tick 1) ∧ Fr [L.ab] w w' := by
  go_enter Try.func26, Try.ntmps26
  go_wp2_with fail
  refine (hWordRange L s p k z a m j _ hH p0 p1 hp hd hj).mono ?_
  rintro e w1 ⟨rfl, hH1, hF1⟩
  clear hp hj
  go_wp2_with fail
  go_ret2
  exact ⟨rfl, hH1, hF1⟩

def HS.put (s : HS) (p v : Int) (n : Int) : HS := { s with ws := sw s.ws p v, u := s.u + n }

set_option maxHeartbeats 800000 in
theorem hSet (L : HL) (s : HS) (p : Int) (k z a m : Int) (j v : Int) (w : World) (hH : HRep w L s) (p0 : 0 ≤ p) (p1 : p + 3 + z ≤ s.ws.length) (hp : gw s.ws p = packed k z a m) (hd : Hd k z a m) (j0 : 0 ≤ j) (j1 : j < z) :
    Calls Try.prog 23 #[.pointer (some ⟨L.hb, 0, none⟩), .int .i64 p, .int .i64 j, .int .i64 v] w fun e w' => e = .returned (.int .i64 0) ∧ HRep w' L (s.put (p + 3 + j) v 2) ∧ Fr [L.ab, L.wb] w w' := by
  go_enter Try.func23, Try.ntmps23
  go_wp2_with fail
  refine (hWord L s p k z a m j _ hH p0 (by omega) hp hd j0 j1).mono ?_
  rintro e w1 ⟨rfl, hH1, hF1⟩
  clear hp
  have c0 := hH1.reads.1
  go_wp2_with fail
  refine (aStore L.ab L.wb s.ws _ (p + 3 + j) v _ (by omega) (by omega) hH1.a).mono ?_
  rintro e w2 ⟨rfl, hA2, hF2⟩
  clear c0
  go_wp2_with fail
  go_ret
  exact ⟨rfl, (hH1.arena hF2 (by simp) hA2).cast (by simp [HS.tick, HS.put, Int.add_assoc]), (hF1.here (by simp)).trans hF2⟩

set_option maxHeartbeats 800000 in
theorem hSetRange (L : HL) (s : HS) (p : Int) (k z a m : Int) (j v : Int) (w : World) (hH : HRep w L s) (p0 : 0 ≤ p) (p1 : p < s.ws.length) (hp : gw s.ws p = packed k z a m) (hd : Hd k z a m) (hj : j < 0 ∨ z ≤ j) :
    Calls Try.prog 23 #[.pointer (some ⟨L.hb, 0, none⟩), .int .i64 p, .int .i64 j, .int .i64 v] w fun e w' => e = .returned (.int .i64 1) ∧ HRep w' L (s.tick 1) ∧ Fr [L.ab] w w' := by
  go_enter Try.func23, Try.ntmps23
  go_wp2_with fail
  refine (hWordRange L s p k z a m j _ hH p0 p1 hp hd hj).mono ?_
  rintro e w1 ⟨rfl, hH1, hF1⟩
  clear hp hj
  go_wp2_with fail
  go_ret
  exact ⟨rfl, hH1, hF1⟩
end Go.Proofs.Ytifillpcphiblaa
