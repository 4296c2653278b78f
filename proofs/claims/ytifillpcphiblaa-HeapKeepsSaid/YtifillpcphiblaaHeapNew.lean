import Derived.Test.YtifillpcphiblaaHeapAlloc
namespace Go.Proofs.Ytifillpcphiblaa
open Go Go.Proofs Go.RowKit

/-- n words from a on are 0. -/
def zr (ws : List Int) (a : Int) : Nat → List Int
  | 0 => ws
  | n + 1 => sw (zr ws a n) (a + n) 0
theorem zr_len (ws : List Int) (a : Int) (n : Nat) : (zr ws a n).length = ws.length := by
  induction n with
  | zero => rfl
  | succ n ih => simp [zr, sw_len, ih]

/-- An object is laid at p. -/
def HS.laid (s : HS) (p word : Int) (n : Nat) : HS := { s with ws := zr (sw s.ws p word) (p + 3) n, u := s.u + 1 + n }

def Places (L : HL) (s : HS) (z p : Int) (S : HS → Prop) : Prop := ∀ w, HRep w L s → Calls Try.prog 72 #[.pointer (some ⟨L.hb, 0, none⟩), .int .i64 z] w fun e w' => e = .returned (.tuple #[.int .i64 p, .int .i64 0]) ∧ (∃ s', S s' ∧ HRep w' L s') ∧ Fr L.fp w w'

theorem hAllocBad (L : HL) (s : HS) (k a z : Int) (w : World) (hH : HRep w L s) (hm : 0 ≤ s.parity ∧ s.parity < 2) (h : (k < 0 ∨ 10 < k) ∨ (z < 0 ∨ 32 ≤ z) ∨ (a < 0 ∨ 16777216 ≤ a)) :
    Calls Try.prog 22 #[.pointer (some ⟨L.hb, 0, none⟩), .int .i64 k, .int .i64 a, .int .i64 z] w fun e w' => e = .returned (.tuple #[.int .i64 0, .int .i64 (if k < 0 ∨ 10 < k then 6 else 1)]) ∧ HRep w' L s ∧ Fr [] w w' := by
  obtain ⟨c0, -, -, -, -, -, -, c7⟩ := hH.reads
  by_cases hk : k < 0 ∨ 10 < k
  · clear h
    rw [if_pos hk]
    have Hk := hid hk
    clear hk
    go_enter Try.func22, Try.ntmps22
    go_wp2_with fail
    refine (cPackKind k z a s.parity _ Hk.out).mono ?_
    rintro e w1 ⟨rfl, hF1⟩
    go_wp2_with fail
    go_ret2
    exact ⟨rfl, hH.fr hF1 (by simp), hF1⟩
  · rw [if_neg hk]
    have Hh := hid (h.resolve_left hk)
    have k0 : 0 ≤ k := by omega
    have k1 : k ≤ 10 := by omega
    clear h hk
    go_enter Try.func22, Try.ntmps22
    go_wp2_with fail
    refine (cPackRange k z a s.parity _ k0 k1 hm.1 hm.2 Hh.out).mono ?_
    rintro e w1 ⟨rfl, hF1⟩
    go_wp2_with fail
    go_ret2
    exact ⟨rfl, hH.fr hF1 (by simp), hF1⟩

set_option maxHeartbeats 1600000 in
theorem hAllocFull (L : HL) (s : HS) (k a z : Int) (w : World) (hH : HRep w L s) (hd : Hd k z a s.parity)
    (hc : ∀ w, HRep w L s → Calls Try.prog 72 #[.pointer (some ⟨L.hb, 0, none⟩), .int .i64 z] w fun e w' => e = .returned (.tuple #[.int .i64 0, .int .i64 2]) ∧ HRep w' L s ∧ Fr L.fp w w') :
    Calls Try.prog 22 #[.pointer (some ⟨L.hb, 0, none⟩), .int .i64 k, .int .i64 a, .int .i64 z] w fun e w' => e = .returned (.tuple #[.int .i64 0, .int .i64 2]) ∧ HRep w' L s ∧ Fr L.fp w w' := by
  obtain ⟨c0, -, -, -, -, -, -, c7⟩ := hH.reads
  have Hc := hid hc
  clear hc
  go_enter Try.func22, Try.ntmps22
  go_wp2_with fail
  refine (cPack k z a s.parity _ hd.k0 hd.k1 hd.m0 hd.m1 hd.s0 hd.s1 hd.a0 hd.a1).mono ?_
  rintro e w1 ⟨rfl, hF1⟩
  have hH1 := hH.fr hF1 (by simp)
  go_wp2_with fail
  refine (Hc.out _ hH1).mono ?_
  rintro e w2 ⟨rfl, hH2, hF2⟩
  go_wp2_with fail
  go_ret2
  exact ⟨rfl, hH2, (hF1.here (by simp)).trans hF2⟩

set_option maxHeartbeats 1600000 in
theorem hAlloc (L : HL) (s : HS) (k a : Int) (n : Nat) (p : Int) (S : HS → Prop) (w : World) (hH : HRep w L s) (hd : Hd k n a s.parity) (hc : Places L s n p S)
    (hS : ∀ s', S s' → s'.ws.length = s.ws.length) (p0 : 0 ≤ p) (p1 : p + 3 + n ≤ s.ws.length) :
    Calls Try.prog 22 #[.pointer (some ⟨L.hb, 0, none⟩), .int .i64 k, .int .i64 a, .int .i64 n] w fun e w' => e = .returned (.tuple #[.int .i64 p, .int .i64 0]) ∧ (∃ s', S s' ∧ HRep w' L (s'.laid p (packed k n a s.parity) n)) ∧ Fr L.fp w w' := by
  obtain ⟨c0, -, -, -, -, -, -, c7⟩ := hH.reads
  have hle := hH.a.le
  have Hd0 := hid hd
  clear hd
  have hn : n < 32 := by have := Hd0.out.s1; omega
  go_enter Try.func22, Try.ntmps22
  go_wp2_with fail
  refine (cPack k n a s.parity _ Hd0.out.k0 Hd0.out.k1 Hd0.out.m0 Hd0.out.m1 Hd0.out.s0 Hd0.out.s1 Hd0.out.a0 Hd0.out.a1).mono ?_
  rintro e w1 ⟨rfl, hF1⟩
  have hH1 := hH.fr hF1 (by simp)
  clear c0 c7
  go_wp2_with fail
  refine (hc _ hH1).mono ?_
  rintro e w2 ⟨rfl, ⟨s', hs', hH2⟩, hF2⟩
  have hl := hS s' hs'
  have Hl := hid hl
  clear hl hS
  have hF3 : Fr L.fp w w2 := (hF1.here (by simp)).trans hF2
  clear hF1 hF2 hH1
  obtain ⟨c0, -, -, -, -, -, -, -⟩ := hH2.reads
  go_wp2_with fail
  refine (aStore L.ab L.wb s'.ws s'.u p _ _ p0 (by have := Hl.out; omega) hH2.a).mono ?_
  rintro e w3 ⟨rfl, hA3, hF4⟩
  have hH3 := hH2.arena hF4 (by simp) hA3
  have hF5 : Fr L.fp w w3 := hF3.trans (hF4.here (fpaw L))
  clear c0 hA3 hF4 hF3 hH2
  go_wp2_with fail
  go_loopw [46] (fun i wr => ∃ j : Nat, j ≤ n ∧ i = .int .i64 j ∧ HRep wr L (s'.laid p (packed k n a s.parity) j) ∧ Fr L.fp w wr) (fun i _ => n - (intOf i).toNat)
  case atStart => exact ⟨0, Nat.zero_le _, rfl, hH3.cast (by simp [HS.laid, zr]), hF5⟩
  case round =>
    obtain ⟨j, hj, rfl, hHr, hFr⟩ := hrel
    clear hH3 hF5
    by_cases hlt : j < n
    · obtain ⟨c0, -, -, -, -, -, -, -⟩ := hHr.reads
      go_wp2_with fail
      refine (aStore L.ab L.wb _ _ (p + 3 + j) 0 _ (by omega) (by simp only [HS.laid, zr_len, sw_len]; have := Hl.out; omega) hHr.a).mono ?_
      rintro e w4 ⟨rfl, hA4, hF4⟩
      have hH4 := hHr.arena hF4 (by simp) hA4
      clear c0
      go_wp2_with fail
      go_roundw
      case rel => exact ⟨j + 1, by omega, by go_num, hH4.cast (by simp [HS.laid, zr, Int.add_assoc]), hFr.trans (hF4.here (fpaw L))⟩
      case measure => simp [intOf]; omega
    · have e : j = n := by omega
      subst e
      go_wp2_with fail
      go_ret2
      exact ⟨rfl, ⟨s', hs', hHr⟩, hFr⟩
end Go.Proofs.Ytifillpcphiblaa
