
import Derived.Test.YtklnpooninbogaaGreatMRingTurn
import Derived.WalkMore
import Derived.LoopN
namespace Go.Proofs.YtklnpooninbogaaGreat
open Go Go.Proofs Go.RowKit
theorem i64_wrap_nat (n : Nat) (h : n < 9223372036854775808) : IntKind.i64.wrap (n : Int) = n := by
  rw [IntKind.wrap_i64]
  omega
theorem bits_or_nat (x y : Nat) (hx : x < 9223372036854775808) (hy : y < 9223372036854775808) : bits .or .i64 (x : Int) (y : Int) = ((x ||| y : Nat) : Int) := by
  have h : (x ||| y) < 2 ^ 63 := Nat.or_lt_two_pow (by omega) (by omega)
  show IntKind.i64.wrap ((BitVec.ofInt 64 (x : Int) ||| BitVec.ofInt 64 (y : Int)).toNat : Int) = _
  rw [BitVec.ofInt_natCast, BitVec.ofInt_natCast]
  rw [BitVec.toNat_or, BitVec.toNat_ofNat, BitVec.toNat_ofNat, Nat.mod_eq_of_lt (by omega), Nat.mod_eq_of_lt (by omega)]
  exact i64_wrap_nat _ (by omega)
theorem bits_and_nat (x y : Nat) (hx : x < 9223372036854775808) (hy : y < 9223372036854775808) : bits .and .i64 (x : Int) (y : Int) = ((x &&& y : Nat) : Int) := by
  have h : (x &&& y) ≤ x := Nat.and_le_left
  show IntKind.i64.wrap ((BitVec.ofInt 64 (x : Int) &&& BitVec.ofInt 64 (y : Int)).toNat : Int) = _
  rw [BitVec.ofInt_natCast, BitVec.ofInt_natCast]
  rw [BitVec.toNat_and, BitVec.toNat_ofNat, BitVec.toNat_ofNat, Nat.mod_eq_of_lt (by omega), Nat.mod_eq_of_lt (by omega)]
  exact i64_wrap_nat _ (by omega)
theorem nat_or (x y j : Nat) (h : x < 2 ^ j) : x ||| (y * 2 ^ j) = x + y * 2 ^ j := by
  rw [Nat.or_comm, Nat.mul_comm, ← Nat.two_pow_add_eq_or_of_lt h, Nat.add_comm]
theorem pack_bits (k s a m : Nat) (hk : k < 16) (hm : m < 2) (hs : s < 32) (ha : a < 16777216) :
    bits .or .i64 (bits .or .i64 (bits .or .i64 (bits .or .i64 0 (k : Int)) ((m : Int) * 16)) ((s : Int) * 32)) ((a : Int) * 1024) = (k : Int) + 16 * m + 32 * s + 1024 * a := by
  rw [show (0 : Int) = ((0 : Nat) : Int) from rfl, bits_or_nat _ _ (by omega) (by omega), Nat.zero_or]
  rw [show (m : Int) * 16 = ((m * 2 ^ 4 : Nat) : Int) by omega, bits_or_nat _ _ (by omega) (by omega), nat_or _ _ _ (by omega)]
  rw [show (s : Int) * 32 = ((s * 2 ^ 5 : Nat) : Int) by omega, bits_or_nat _ _ (by omega) (by omega), nat_or _ _ _ (by omega)]
  rw [show (a : Int) * 1024 = ((a * 2 ^ 10 : Nat) : Int) by omega, bits_or_nat _ _ (by omega) (by omega), nat_or _ _ _ (by omega)]
  omega
theorem mask (x j : Nat) (hx : x < 9223372036854775808) (hj : j < 63) : bits .and .i64 (x : Int) ((2 ^ j - 1 : Nat) : Int) = ((x % 2 ^ j : Nat) : Int) := by
  have h : 2 ^ j < 2 ^ 63 := Nat.pow_lt_pow_right (by decide) hj
  rw [bits_and_nat _ _ hx (by omega), Nat.and_two_pow_sub_one_eq_mod]
def packed (k s a m : Int) : Int := k + 16 * m + 32 * s + 1024 * a
theorem cBits (w : World) :
    Calls Tryz.prog 95 #[] w fun e w' => e = .returned (.agg #[.int .i64 4, .int .i64 1, .int .i64 5, .int .i64 24]) ∧ w' = w.alloc (.cells #[.int .i64 4, .int .i64 1, .int .i64 5, .int .i64 24] 155) := by
  go_enter Tryz.func95, Tryz.ntmps95
  go_wp2_with fail
  exact bodyPost_ret (v := .agg #[.int .i64 4, .int .i64 1, .int .i64 5, .int .i64 24]) (by simp [results, Tryz.results95, go_sem]) rfl ⟨rfl, rfl⟩
theorem cFitsT (n b M : Int) (w : World) (_hb : 0 ≤ b) (h1 : b ≤ 24) (hM : (2 : Int) ^ b.toNat = M) (h0 : 0 ≤ n) (h2 : n < M) :
    Calls Tryz.prog 96 #[.int .i64 n, .int .i64 b] w fun e w' => e = .returned (.bool true) ∧ w = w' := by
  have hw : wrap64 (2 ^ b.toNat) = (2 : Int) ^ b.toNat := by
    have h3 : (2 : Int) ^ b.toNat ≤ 2 ^ 24 := by exact_mod_cast Nat.pow_le_pow_right (by decide) (show b.toNat ≤ 24 by omega)
    have h4 : (0 : Int) ≤ 2 ^ b.toNat := by rw [hM]; omega
    unfold wrap64; omega
  have h2' : n < wrap64 (2 ^ b.toNat) := by rw [hw, hM]; exact h2
  clear hw hM h2
  go_enter Tryz.func96, Tryz.ntmps96
  go_wp2_with fail
  go_ret
  exact ⟨rfl, rfl⟩
set_option maxHeartbeats 1600000 in
theorem cPack (k s a m : Int) (w : World) (k0 : 0 ≤ k) (k1 : k ≤ 10) (m0 : 0 ≤ m) (m1 : m < 2) (s0 : 0 ≤ s) (s1 : s < 32) (a0 : 0 ≤ a) (a1 : a < 16777216) :
    Calls Tryz.prog 49 #[.agg #[.int .i64 k, .int .i64 s, .int .i64 a, .int .i64 m]] w fun e w' => e = .returned (.tuple #[.int .i64 (packed k s a m), .int .i64 0]) ∧ Fr [] w w' := by
  have ix : ∀ w, (Instr.index 155 (.agg #[.int .i64 4, .int .i64 1, .int .i64 5, .int .i64 24]) (.int .i64 0)).run Tryz.prog w = .ok (.int .i64 4) w := fun _ => by kernel_rfl
  have ix1 : ∀ w, (Instr.index 155 (.agg #[.int .i64 4, .int .i64 1, .int .i64 5, .int .i64 24]) (.int .i64 1)).run Tryz.prog w = .ok (.int .i64 1) w := fun _ => by kernel_rfl
  have ix2 : ∀ w, (Instr.index 155 (.agg #[.int .i64 4, .int .i64 1, .int .i64 5, .int .i64 24]) (.int .i64 2)).run Tryz.prog w = .ok (.int .i64 5) w := fun _ => by kernel_rfl
  have ix3 : ∀ w, (Instr.index 155 (.agg #[.int .i64 4, .int .i64 1, .int .i64 5, .int .i64 24]) (.int .i64 3)).run Tryz.prog w = .ok (.int .i64 24) w := fun _ => by kernel_rfl
  go_enter Tryz.func49, Tryz.ntmps49
  go_wp2_with fail
  refine (cBits _).mono ?_
  rintro e w1 ⟨rfl, rfl⟩
  go_wp2_with fail
  refine wp_loop_rounds 5 ?_
  rw [rounds_succ]
  go_wp2_with fail
  refine (cFitsT k 4 16 _ (by decide) (by decide) (by decide) k0 (by omega)).mono ?_
  rintro e w1 ⟨rfl, rfl⟩
  go_wp2_with fail
  rw [rounds_succ]
  go_wp2_with fail
  refine (cFitsT m 1 2 _ (by decide) (by decide) (by decide) m0 (by omega)).mono ?_
  rintro e w1 ⟨rfl, rfl⟩
  go_wp2_with fail
  rw [rounds_succ]
  go_wp2_with fail
  refine (cFitsT s 5 32 _ (by decide) (by decide) (by decide) s0 (by omega)).mono ?_
  rintro e w1 ⟨rfl, rfl⟩
  go_wp2_with fail
  rw [rounds_succ]
  go_wp2_with fail
  refine (cFitsT a 24 16777216 _ (by decide) (by decide) (by decide) a0 (by omega)).mono ?_
  rintro e w1 ⟨rfl, rfl⟩
  go_wp2_with fail
  rw [rounds_succ]
  go_wp2_with fail
  go_ret2
  refine ⟨?_, (((Fr.refl _ w).alloc _).alloc _).alloc _⟩
  obtain ⟨k, rfl⟩ := Int.eq_ofNat_of_zero_le k0
  obtain ⟨m, rfl⟩ := Int.eq_ofNat_of_zero_le m0
  obtain ⟨s, rfl⟩ := Int.eq_ofNat_of_zero_le s0
  obtain ⟨a, rfl⟩ := Int.eq_ofNat_of_zero_le a0
  have e := pack_bits k s a m (by omega) (by omega) (by omega) (by omega)
  show Ending.returned (.tuple #[.int .i64 (bits .or .i64 (bits .or .i64 (bits .or .i64 (bits .or .i64 0 (k : Int)) ((m : Int) * 16)) ((s : Int) * 32)) ((a : Int) * 1024)), .int .i64 0]) = _
  rw [e]; rfl
theorem unp (k s a m : Int) (k0 : 0 ≤ k) (k1 : k ≤ 10) (m0 : 0 ≤ m) (m1 : m < 2) (s0 : 0 ≤ s) (s1 : s < 32) (a0 : 0 ≤ a) (a1 : a < 16777216) :
    bits .and .i64 (packed k s a m) 15 = k ∧ bits .and .i64 (packed k s a m / 16) 1 = m ∧ bits .and .i64 (packed k s a m / 16 / 2) 31 = s ∧ bits .and .i64 (packed k s a m / 16 / 2 / 32) 16777215 = a := by
  obtain ⟨k, rfl⟩ := Int.eq_ofNat_of_zero_le k0
  obtain ⟨m, rfl⟩ := Int.eq_ofNat_of_zero_le m0
  obtain ⟨s, rfl⟩ := Int.eq_ofNat_of_zero_le s0
  obtain ⟨a, rfl⟩ := Int.eq_ofNat_of_zero_le a0
  have e : packed (k : Int) s a m = ((k + 16 * m + 32 * s + 1024 * a : Nat) : Int) := by simp [packed]
  rw [e]
  have h1 : ((k + 16 * m + 32 * s + 1024 * a : Nat) : Int) / 16 = ((m + 2 * s + 64 * a : Nat) : Int) := by omega
  have h2 : ((m + 2 * s + 64 * a : Nat) : Int) / 2 = ((s + 32 * a : Nat) : Int) := by omega
  have h3 : ((s + 32 * a : Nat) : Int) / 32 = ((a : Nat) : Int) := by omega
  rw [h1, h2, h3]
  refine ⟨?_, ?_, ?_, ?_⟩
  · rw [show (15 : Int) = ((2 ^ 4 - 1 : Nat) : Int) from rfl, mask _ _ (by omega) (by decide)]; omega
  · rw [show (1 : Int) = ((2 ^ 1 - 1 : Nat) : Int) from rfl, mask _ _ (by omega) (by decide)]; omega
  · rw [show (31 : Int) = ((2 ^ 5 - 1 : Nat) : Int) from rfl, mask _ _ (by omega) (by decide)]; omega
  · rw [show (16777215 : Int) = ((2 ^ 24 - 1 : Nat) : Int) from rfl, mask _ _ (by omega) (by decide)]; omega
set_option maxHeartbeats 3200000 in
theorem cUnpack (k s a m : Int) (w : World) (k0 : 0 ≤ k) (k1 : k ≤ 10) (m0 : 0 ≤ m) (m1 : m < 2) (s0 : 0 ≤ s) (s1 : s < 32) (a0 : 0 ≤ a) (a1 : a < 16777216) :
    Calls Tryz.prog 54 #[.int .i64 (packed k s a m)] w fun e w' => e = .returned (.tuple #[.agg #[.int .i64 k, .int .i64 s, .int .i64 a, .int .i64 m], .int .i64 0]) ∧ Fr [] w w' := by
  have ix : ∀ w, (Instr.index 155 (.agg #[.int .i64 4, .int .i64 1, .int .i64 5, .int .i64 24]) (.int .i64 0)).run Tryz.prog w = .ok (.int .i64 4) w := fun _ => by kernel_rfl
  have ix1 : ∀ w, (Instr.index 155 (.agg #[.int .i64 4, .int .i64 1, .int .i64 5, .int .i64 24]) (.int .i64 1)).run Tryz.prog w = .ok (.int .i64 1) w := fun _ => by kernel_rfl
  have ix2 : ∀ w, (Instr.index 155 (.agg #[.int .i64 4, .int .i64 1, .int .i64 5, .int .i64 24]) (.int .i64 2)).run Tryz.prog w = .ok (.int .i64 5) w := fun _ => by kernel_rfl
  have ix3 : ∀ w, (Instr.index 155 (.agg #[.int .i64 4, .int .i64 1, .int .i64 5, .int .i64 24]) (.int .i64 3)).run Tryz.prog w = .ok (.int .i64 24) w := fun _ => by kernel_rfl
  obtain ⟨u0, u1, u2, u3⟩ := unp k s a m k0 k1 m0 m1 s0 s1 a0 a1
  go_enter Tryz.func54, Tryz.ntmps54
  go_wp2_with fail
  refine (cBits _).mono ?_
  rintro e w1 ⟨rfl, rfl⟩
  go_wp2_with fail
  refine wp_loop_rounds 5 ?_
  rw [rounds_succ]
  go_wp2_with fail
  rw [rounds_succ]
  go_wp2_with fail
  rw [rounds_succ]
  go_wp2_with fail
  rw [rounds_succ]
  go_wp2_with fail
  rw [rounds_succ]
  go_wp2_with fail
  refine (cPack k s a m _ k0 k1 m0 m1 s0 s1 a0 a1).mono ?_
  rintro e w2 ⟨rfl, hF2⟩
  have b0 := (((((Blk.new w [.int .i64 0, .int .i64 0, .int .i64 0, .int .i64 0] 60).alloc _).alloc _).alloc _).fr hF2 (by simp))
  have b3 := (Blk.new (((w.alloc (.cells #[.int .i64 0, .int .i64 0, .int .i64 0, .int .i64 0] 60)).alloc (.cells #[.int .i64 k, .int .i64 m, .int .i64 s, .int .i64 a] 155)).alloc (.cells #[.int .i64 4, .int .i64 1, .int .i64 5, .int .i64 24] 155)) [.int .i64 k, .int .i64 s, .int .i64 a, .int .i64 m] 60).fr hF2 (by simp)
  simp only [World.size_alloc] at b3
  have hF : Fr [] w w2 := ((((Fr.refl _ w).alloc _).alloc _).alloc _).alloc _ |>.trans (hF2.mono (by simp))
  have q0 := b0.cell (i := 0) rfl
  have q1 := b0.cell (i := 1) rfl
  have q2 := b0.cell (i := 2) rfl
  have q3 := b0.cell (i := 3) rfl
  have y0 := b0.frozen 0
  have y1 := b0.frozen 1
  have y2 := b0.frozen 2
  have y3 := b0.frozen 3
  have p0 := b3.cell (i := 0) rfl
  have p1 := b3.cell (i := 1) rfl
  have p2 := b3.cell (i := 2) rfl
  have p3 := b3.cell (i := 3) rfl
  clear u0 u1 u2 u3 ix ix1 ix2 ix3 b3
  go_wp2_with fail
  refine bodyPost_ret (v := .tuple #[.agg #[.int .i64 k, .int .i64 s, .int .i64 a, .int .i64 m], .int .i64 0]) (by simp [results, Tryz.results54, go_sem, q0, q1, q2, q3]) rfl ⟨rfl, ?_⟩
  exact (((hF.set (by simp) _).set (by simp) _).set (by simp) _).set (by simp) _
def Rd (w : World) (b : Nat) (vs : List Value) : Prop := b < w.heap.size ∧ ∀ i v, vs[i]? = some v → w.cell? ⟨b, i, none⟩ = some v
theorem cell_fr {S : List Nat} {w w' : World} {b : Nat} (hf : Fr S w w') (hb : b ∉ S) (hl : b < w.heap.size) (i : Nat) : w'.cell? ⟨b, i, none⟩ = w.cell? ⟨b, i, none⟩ := World.cell?_of_block (w := w) (hf.block b hl hb)
theorem frozen_fr {S : List Nat} {w w' : World} {b : Nat} (hf : Fr S w w') (hb : b ∉ S) (hl : b < w.heap.size) (i : Nat) : w'.frozen? ⟨b, i, none⟩ = w.frozen? ⟨b, i, none⟩ := World.frozen?_of_block (w := w) (hf.block b hl hb)
theorem Rd.fr {S : List Nat} {w w' : World} {b : Nat} {vs : List Value} (h : Rd w b vs) (hf : Fr S w w') (hb : b ∉ S) : Rd w' b vs :=
  ⟨Nat.lt_of_lt_of_le h.1 hf.size, fun i v hv => (cell_fr hf hb h.1 i).trans (h.2 i v hv)⟩
theorem Rd.alloc {w : World} {b : Nat} {vs : List Value} (h : Rd w b vs) (o : Obj) : Rd (w.alloc o) b vs := h.fr ((Fr.refl [] w).alloc o) (by simp)
theorem Rd.drew {w : World} {b : Nat} {vs : List Value} (h : Rd w b vs) : Rd w.drew b vs := h.fr ((Fr.refl [] w).drew) (by simp)
theorem Rd.drewN {w : World} {b : Nat} {vs : List Value} (h : Rd w b vs) (n : Nat) : Rd (w.drewN n) b vs := h.fr ((Fr.refl [] w).drewN n) (by simp)
theorem Rd.other {w : World} {b : Nat} {vs : List Value} (h : Rd w b vs) {a : Addr} (hne : b ≠ a.block) (v : Value) : Rd (w.setCell a v) b vs := h.fr ((Fr.refl [a.block] w).set (by simp) v) (by simpa using hne)
theorem classGe (n s : Int) (pb : Addr) (w : World) (h : w.cell? pb = some (.int .i64 s)) :
    Calls Tryz.prog 128 #[.int .i64 n, .pointer (some pb)] w fun e w' => e = .returned (.bool (decide (s ≤ n))) ∧ w = w' := by
  go_enter Tryz.func128, Tryz.ntmps128
  go_wp2_with fail
  go_ret
  exact ⟨rfl, rfl⟩
def ixGe (cls : List Int) (s : Int) : Int := match cls.findIdx? (fun n => decide (s ≤ n)) with | some k => k | none => -1
def below (cls : List Int) (s : Int) (k : Nat) : Prop := ∀ j y, j < k → cls[j]? = some y → y < s
theorem below_zero (cls : List Int) (s : Int) : below cls s 0 := fun _ _ h => by omega
theorem below_succ {cls : List Int} {s : Int} {k : Nat} {x : Int} (h : below cls s k) (hx : cls[k]? = some x) (hl : x < s) : below cls s (k + 1) := by
  intro j y hj hy
  by_cases e : j = k
  · subst e; rw [hx] at hy; cases hy; exact hl
  · exact h j y (by omega) hy
theorem ixGe_some {cls : List Int} {s : Int} {k : Nat} {x : Int} (h : below cls s k) (hx : cls[k]? = some x) (hl : s ≤ x) : ixGe cls s = k := by
  have hk : k < cls.length := by
    rcases Nat.lt_or_ge k cls.length with h | h
    · exact h
    · rw [List.getElem?_eq_none h] at hx; cases hx
  have : cls.findIdx? (fun n => decide (s ≤ n)) = some k := by
    rw [List.findIdx?_eq_some_iff_getElem]
    refine ⟨hk, ?_, fun j hj => ?_⟩
    · rw [List.getElem?_eq_getElem hk] at hx; cases hx; simpa using hl
    · have := h j cls[j] hj (List.getElem?_eq_getElem (by omega))
      simp; omega
  simp [ixGe, this]
theorem ixGe_none {cls : List Int} {s : Int} (h : below cls s cls.length) : ixGe cls s = -1 := by
  have : cls.findIdx? (fun n => decide (s ≤ n)) = none := by
    rw [List.findIdx?_eq_none_iff]
    intro x hx
    obtain ⟨j, hj, rfl⟩ := List.getElem_of_mem hx
    have := h j cls[j] hj (List.getElem?_eq_getElem hj)
    simp; omega
  simp [ixGe, this]
theorem ixGe_cases (cls : List Int) (s : Int) : ixGe cls s = -1 ∨ ∃ k : Nat, k < cls.length ∧ ixGe cls s = k ∧ ∃ x, cls[k]? = some x ∧ s ≤ x := by
  unfold ixGe
  cases h : cls.findIdx? (fun n => decide (s ≤ n)) with
  | none => exact .inl rfl
  | some k =>
    rw [List.findIdx?_eq_some_iff_getElem] at h
    obtain ⟨hk, hp, _⟩ := h
    exact .inr ⟨k, hk, rfl, cls[k], List.getElem?_eq_getElem hk, by simpa using hp⟩
set_option maxHeartbeats 800000 in
theorem ixClass (cb : Nat) (cls : List Int) (cap : Nat) (s : Int) (pb : Addr) (w : World) (hm : cls.length ≤ 100) (hc : Rd w cb (cls.map (.int .i64))) (h : w.cell? pb = some (.int .i64 s)) :
    Calls Tryz.prog 127 #[.slice (some ⟨cb, 0, none⟩) cls.length cap, .func (.func 128) #[] #[.pointer (some pb)]] w fun e w' => e = .returned (.int .i64 (ixGe cls s)) ∧ w = w' := by
  go_enter Tryz.func127, Tryz.ntmps127
  go_wp2_with fail
  go_loop [8] (fun i => ∃ k : Nat, k ≤ cls.length ∧ i = .int .i64 k ∧ below cls s k) (fun i => cls.length - (intOf i).toNat)
  case atStart => exact ⟨0, Nat.zero_le _, rfl, below_zero _ _⟩
  case round =>
    obtain ⟨k, hk, rfl, hH⟩ := hrel
    by_cases hlt : k < cls.length
    · obtain ⟨x, hx⟩ : ∃ x, cls[k]? = some x := ⟨_, List.getElem?_eq_getElem hlt⟩
      have hck : w.cell? ⟨cb, k, none⟩ = some (.int .i64 x) := hc.2 k _ (by simp [hx])
      have Hx := hid hx
      clear hx
      by_cases hs : s ≤ x
      · go_wp2_with (go_at_call 128; refine (classGe _ _ _ _ h).mono ?_; rintro e w' ⟨rfl, rfl⟩)
        go_ret
        exact ⟨by rw [ixGe_some hH Hx.out hs]; rfl, rfl⟩
      · go_wp2_with (go_at_call 128; refine (classGe _ _ _ _ h).mono ?_; rintro e w' ⟨rfl, rfl⟩)
        go_round
        case rel => exact ⟨k + 1, by omega, by go_num, below_succ hH Hx.out (by omega)⟩
        case measure => simp [intOf]; omega
    · go_wp2_with fail
      go_ret
      have e : k = cls.length := by omega
      subst e
      exact ⟨by rw [ixGe_none hH]; rfl, rfl⟩
structure HL where
  hb : Nat
  ab : Nat
  wb : Nat
  cb : Nat
  rsb : Nat
  lb : Nat
  xb : Nat
  xlbs : List Nat
  rbs : List Nat
  ccap : Nat
  rcap : Nat
structure XS where
  first : Int
  places : Int
  l : List (Int × Int)
def flat (l : List (Int × Int)) : List Value := l.flatMap fun x => [.int .i64 x.1, .int .i64 x.2]
structure XRep (w : World) (xb : Nat) (xlbs : List Nat) (x : XS) : Prop where
  s : ∃ sv, Blk w xb [.int .i64 x.first, .int .i64 x.places, sv] 174 ∧
    ((xlbs = [] ∧ sv = .slice none 0 0 ∧ x.l = []) ∨ ∃ b cap rest, xlbs = [b] ∧ sv = .slice (some ⟨b, 0, none⟩) x.l.length cap ∧ Blk w b (flat x.l ++ rest) 175 ∧ (flat x.l ++ rest).length = 2 * cap ∧ cap ≤ maxLen)
structure HS where
  ws : List Int
  u : Int
  cls : List Int
  rs : List RS
  lg : RS
  x : XS
  top : Int
  edge : Int
  parity : Int
def HL.fp (L : HL) : List Nat := L.hb :: L.ab :: L.wb :: L.lb :: L.xb :: (L.xlbs ++ L.rbs)
def HL.all (L : HL) : List Nat := L.cb :: L.rsb :: L.fp
def HL.cells (L : HL) (s : HS) : List Value :=
  [.pointer (some ⟨L.ab, 0, none⟩), .slice (some ⟨L.cb, 0, none⟩) s.cls.length L.ccap, .slice (some ⟨L.rsb, 0, none⟩) s.cls.length L.rcap, .pointer (some ⟨L.lb, 0, none⟩), .pointer (some ⟨L.xb, 0, none⟩), .int .i64 s.top, .int .i64 s.edge, .int .i64 s.parity]
structure HRep (w : World) (L : HL) (s : HS) : Prop where
  h : Blk w L.hb (L.cells s) 47
  a : ARep w L.ab L.wb s.ws s.u
  c : Rd w L.cb (s.cls.map (.int .i64))
  r : Rd w L.rsb (L.rbs.map fun b => .pointer (some ⟨b, 0, none⟩))
  rr : ∀ (k rb : Nat) (r : RS), L.rbs[k]? = some rb → s.rs[k]? = some r → RRep w rb L.ab r
  lr : RRep w L.lb L.ab s.lg
  x : XRep w L.xb L.xlbs s.x
  nd : L.all.Nodup
  n1 : L.rbs.length = s.cls.length
  n2 : s.rs.length = s.cls.length
  n3 : s.cls.length ≤ 100
  t : 0 ≤ s.top ∧ s.top ≤ 65536
  e : 0 ≤ s.edge ∧ s.edge ≤ 65536
theorem XRep.fr {S : List Nat} {w w' : World} {xb : Nat} {xlbs : List Nat} {x : XS} (h : XRep w xb xlbs x) (hf : Fr S w w') (h1 : xb ∉ S) (h2 : ∀ b ∈ xlbs, b ∉ S) : XRep w' xb xlbs x := by
  obtain ⟨sv, hb, h⟩ := h.s
  refine ⟨sv, hb.fr hf h1, ?_⟩
  rcases h with h | ⟨b, cap, rest, e1, e2, e3, e4⟩
  · exact .inl h
  · exact .inr ⟨b, cap, rest, e1, e2, e3.fr hf (h2 b (by simp [e1])), e4⟩
theorem HRep.fr {S : List Nat} {w w' : World} {L : HL} {s : HS} (h : HRep w L s) (hf : Fr S w w') (hS : ∀ x ∈ S, x ∉ L.all) : HRep w' L s := by
  have g : ∀ x ∈ L.all, x ∉ S := fun x hx hc => hS x hc hx
  simp only [HL.all, HL.fp, List.mem_cons, List.mem_append] at g
  exact { h := h.h.fr hf (g _ (by simp)), a := h.a.fr hf (g _ (by simp)) (g _ (by simp)), c := h.c.fr hf (g _ (by simp)), r := h.r.fr hf (g _ (by simp)),
          rr := fun k rb r hk hr => (h.rr k rb r hk hr).fr hf (g _ (by simp [List.mem_of_getElem? hk])), lr := h.lr.fr hf (g _ (by simp)),
          x := h.x.fr hf (g _ (by simp)) (fun b hb => g _ (by simp [hb])), nd := h.nd, n1 := h.n1, n2 := h.n2, n3 := h.n3, t := h.t, e := h.e }
theorem HRep.alloc {w : World} {L : HL} {s : HS} (h : HRep w L s) (o : Obj) : HRep (w.alloc o) L s := h.fr ((Fr.refl [] w).alloc o) (by simp)
theorem HRep.drew {w : World} {L : HL} {s : HS} (h : HRep w L s) : HRep w.drew L s := h.fr ((Fr.refl [] w).drew) (by simp)
theorem HRep.drewN {w : World} {L : HL} {s : HS} (h : HRep w L s) (n : Nat) : HRep (w.drewN n) L s := h.fr ((Fr.refl [] w).drewN n) (by simp)
theorem HRep.other {w : World} {L : HL} {s : HS} (h : HRep w L s) {a : Addr} (ha : a.block ∉ L.all) (v : Value) : HRep (w.setCell a v) L s := h.fr ((Fr.refl [a.block] w).set (by simp) v) (by simpa using ha)
theorem HRep.apart {w : World} {L : HL} {s : HS} (h : HRep w L s) :
    (L.hb ≠ L.ab ∧ L.hb ≠ L.wb ∧ L.hb ≠ L.lb ∧ L.hb ≠ L.xb ∧ L.hb ≠ L.cb ∧ L.hb ≠ L.rsb) ∧ (L.ab ≠ L.wb ∧ L.ab ≠ L.lb ∧ L.ab ≠ L.xb ∧ L.ab ≠ L.cb ∧ L.ab ≠ L.rsb) ∧
    (L.wb ≠ L.lb ∧ L.wb ≠ L.xb ∧ L.wb ≠ L.cb ∧ L.wb ≠ L.rsb) ∧ (L.lb ≠ L.xb ∧ L.lb ≠ L.cb ∧ L.lb ≠ L.rsb) ∧ (L.xb ≠ L.cb ∧ L.xb ≠ L.rsb) ∧ L.cb ≠ L.rsb := by
  have := h.nd
  simp only [HL.all, HL.fp, List.nodup_cons, List.mem_cons, List.mem_append, not_or] at this
  obtain ⟨⟨a1, a2, a3, a4, a5, a6, a7, a8⟩, ⟨b1, b2, b3, b4, b5, b6, b7⟩, ⟨c1, c2, c3, c4, c5⟩, ⟨d1, d2, d3, d4⟩, ⟨e1, e2, e3⟩, ⟨f1, f2⟩, _⟩ := this
  exact ⟨⟨c1, c2, c3, c4, Ne.symm a2, Ne.symm b1⟩, ⟨d1, d2, d3, Ne.symm a3, Ne.symm b2⟩, ⟨e1, e2, Ne.symm a4, Ne.symm b3⟩, ⟨f1, Ne.symm a5, Ne.symm b4⟩, ⟨Ne.symm a6, Ne.symm b5⟩, a1⟩
theorem HRep.rapart {w : World} {L : HL} {s : HS} (h : HRep w L s) {rb : Nat} (hr : rb ∈ L.rbs) : rb ≠ L.hb ∧ rb ≠ L.ab ∧ rb ≠ L.wb ∧ rb ≠ L.lb ∧ rb ≠ L.xb ∧ rb ≠ L.cb ∧ rb ≠ L.rsb ∧ rb ∉ L.xlbs := by
  have := h.nd
  simp only [HL.all, HL.fp, List.nodup_cons, List.mem_cons, List.mem_append, not_or, List.nodup_append] at this
  obtain ⟨⟨a1, a2, a3, a4, a5, a6, a7, a8⟩, ⟨b1, b2, b3, b4, b5, b6, b7⟩, ⟨c1, c2, c3, c4, c5, c6⟩, ⟨d1, d2, d3, d4, d5⟩, ⟨e1, e2, e3, e4⟩, ⟨f1, f2, f3⟩, ⟨g1, g2⟩, _, _, hh⟩ := this
  refine ⟨?_, ?_, ?_, ?_, ?_, ?_, ?_, ?_⟩
  · rintro rfl; exact c6 hr
  · rintro rfl; exact d5 hr
  · rintro rfl; exact e4 hr
  · rintro rfl; exact f3 hr
  · rintro rfl; exact g2 hr
  · rintro rfl; exact a8 hr
  · rintro rfl; exact b7 hr
  · intro hx; exact hh _ hx _ hr rfl
theorem HRep.xapart {w : World} {L : HL} {s : HS} (h : HRep w L s) {b : Nat} (hb : b ∈ L.xlbs) : b ≠ L.hb ∧ b ≠ L.ab ∧ b ≠ L.wb ∧ b ≠ L.lb ∧ b ≠ L.xb ∧ b ≠ L.cb ∧ b ≠ L.rsb ∧ b ∉ L.rbs := by
  have := h.nd
  simp only [HL.all, HL.fp, List.nodup_cons, List.mem_cons, List.mem_append, not_or, List.nodup_append] at this
  obtain ⟨⟨a1, a2, a3, a4, a5, a6, a7, a8⟩, ⟨b1, b2, b3, b4, b5, b6, b7⟩, ⟨c1, c2, c3, c4, c5, c6⟩, ⟨d1, d2, d3, d4, d5⟩, ⟨e1, e2, e3, e4⟩, ⟨f1, f2, f3⟩, ⟨g1, g2⟩, _, _, hh⟩ := this
  refine ⟨?_, ?_, ?_, ?_, ?_, ?_, ?_, ?_⟩
  · rintro rfl; exact c5 hb
  · rintro rfl; exact d4 hb
  · rintro rfl; exact e3 hb
  · rintro rfl; exact f2 hb
  · rintro rfl; exact g1 hb
  · rintro rfl; exact a7 hb
  · rintro rfl; exact b6 hb
  · intro hx; exact hh _ hb _ hx rfl
theorem HRep.rinj {w : World} {L : HL} {s : HS} (h : HRep w L s) {j k rb : Nat} (hj : L.rbs[j]? = some rb) (hk : L.rbs[k]? = some rb) : j = k := by
  have := h.nd
  simp only [HL.all, HL.fp, List.nodup_cons, List.nodup_append] at this
  obtain ⟨_, _, _, _, _, _, _, _, hr, _⟩ := this
  have h1 : j < L.rbs.length := (List.getElem?_eq_some_iff.1 hj).1
  exact (List.getElem?_inj h1 hr).1 (hj.trans hk.symm)
theorem HRep.arena {S : List Nat} {w w' : World} {L : HL} {s : HS} (h : HRep w L s) (hf : Fr S w w') (hS : ∀ x ∈ S, x = L.ab ∨ x = L.wb) {ws : List Int} {u : Int} (ha : ARep w' L.ab L.wb ws u) : HRep w' L { s with ws := ws, u := u } := by
  obtain ⟨⟨p1, p2, -, -, -, -⟩, ⟨-, q2, q3, q4, q5⟩, ⟨r1, r2, r3, r4⟩, -, -, -⟩ := h.apart
  have g : ∀ x, x ≠ L.ab → x ≠ L.wb → x ∉ S := fun x h1 h2 hc => (hS x hc).elim h1 h2
  exact { h := h.h.fr hf (g _ p1 p2), a := ha, c := h.c.fr hf (g _ (Ne.symm q4) (Ne.symm r3)), r := h.r.fr hf (g _ (Ne.symm q5) (Ne.symm r4)),
          rr := fun k rb r hk hr => (h.rr k rb r hk hr).fr hf (g _ (h.rapart (List.mem_of_getElem? hk)).2.1 (h.rapart (List.mem_of_getElem? hk)).2.2.1), lr := h.lr.fr hf (g _ (Ne.symm q2) (Ne.symm r1)),
          x := h.x.fr hf (g _ (Ne.symm q3) (Ne.symm r2)) (fun b hb => g _ (h.xapart hb).2.1 (h.xapart hb).2.2.1), nd := h.nd, n1 := h.n1, n2 := h.n2, n3 := h.n3, t := h.t, e := h.e }
theorem HRep.ring {S : List Nat} {w w' : World} {L : HL} {s : HS} (h : HRep w L s) {k rb : Nat} (hk : L.rbs[k]? = some rb) (hf : Fr S w w') (hS : ∀ x ∈ S, x = L.ab ∨ x = L.wb ∨ x = rb) {ws : List Int} {u : Int} {r : RS} (ha : ARep w' L.ab L.wb ws u) (hr : RRep w' rb L.ab r) : HRep w' L { s with ws := ws, u := u, rs := s.rs.set k r } := by
  obtain ⟨⟨p1, p2, -, -, -, -⟩, ⟨-, q2, q3, q4, q5⟩, ⟨r1, r2, r3, r4⟩, -, -, -⟩ := h.apart
  obtain ⟨s1, s2, s3, s4, s5, s6, s7, s8⟩ := h.rapart (List.mem_of_getElem? hk)
  have g : ∀ x, x ≠ L.ab → x ≠ L.wb → x ≠ rb → x ∉ S := fun x h1 h2 h3 hc => by rcases hS x hc with e | e | e <;> contradiction
  refine { h := h.h.fr hf (g _ p1 p2 (Ne.symm s1)), a := ha, c := h.c.fr hf (g _ (Ne.symm q4) (Ne.symm r3) (Ne.symm s6)), r := h.r.fr hf (g _ (Ne.symm q5) (Ne.symm r4) (Ne.symm s7)),
           rr := fun j rb' r' hj hr' => ?_, lr := h.lr.fr hf (g _ (Ne.symm q2) (Ne.symm r1) (Ne.symm s4)),
           x := h.x.fr hf (g _ (Ne.symm q3) (Ne.symm r2) (Ne.symm s5)) (fun b hb => g _ (h.xapart hb).2.1 (h.xapart hb).2.2.1 (fun e => s8 (e ▸ hb))), nd := h.nd, n1 := h.n1, n2 := by simpa using h.n2, n3 := h.n3, t := h.t, e := h.e }
  by_cases e : j = k
  · subst e
    rw [hk] at hj; cases hj
    rw [List.getElem?_set] at hr'
    simp at hr'
    obtain ⟨_, rfl⟩ := hr'
    exact hr
  · rw [List.getElem?_set_ne (Ne.symm e)] at hr'
    obtain ⟨t1, t2, t3, t4, t5, t6, t7, t8⟩ := h.rapart (List.mem_of_getElem? hj)
    exact (h.rr j rb' r' hj hr').fr hf (g _ t2 t3 (fun e' => e (h.rinj hj (e' ▸ hk))))
theorem HRep.large {S : List Nat} {w w' : World} {L : HL} {s : HS} (h : HRep w L s) (hf : Fr S w w') (hS : ∀ x ∈ S, x = L.ab ∨ x = L.wb ∨ x = L.lb) {ws : List Int} {u : Int} {r : RS} (ha : ARep w' L.ab L.wb ws u) (hr : RRep w' L.lb L.ab r) : HRep w' L { s with ws := ws, u := u, lg := r } := by
  obtain ⟨⟨p1, p2, p3, -, -, -⟩, ⟨-, q2, q3, q4, q5⟩, ⟨r1, r2, r3, r4⟩, ⟨t1, t2, t3⟩, -, -⟩ := h.apart
  have g : ∀ x, x ≠ L.ab → x ≠ L.wb → x ≠ L.lb → x ∉ S := fun x h1 h2 h3 hc => by rcases hS x hc with e | e | e <;> contradiction
  exact { h := h.h.fr hf (g _ p1 p2 p3), a := ha, c := h.c.fr hf (g _ (Ne.symm q4) (Ne.symm r3) (Ne.symm t2)), r := h.r.fr hf (g _ (Ne.symm q5) (Ne.symm r4) (Ne.symm t3)),
          rr := fun j rb r' hj hr' => (h.rr j rb r' hj hr').fr hf (g _ (h.rapart (List.mem_of_getElem? hj)).2.1 (h.rapart (List.mem_of_getElem? hj)).2.2.1 (h.rapart (List.mem_of_getElem? hj)).2.2.2.1), lr := hr,
          x := h.x.fr hf (g _ (Ne.symm q3) (Ne.symm r2) (Ne.symm t1)) (fun b hb => g _ (h.xapart hb).2.1 (h.xapart hb).2.2.1 (h.xapart hb).2.2.2.1), nd := h.nd, n1 := h.n1, n2 := h.n2, n3 := h.n3, t := h.t, e := h.e }
theorem HRep.setTop {w : World} {L : HL} {s : HS} (h : HRep w L s) (t : Int) (ht : 0 ≤ t ∧ t ≤ 65536) : HRep (w.setCell ⟨L.hb, 5, none⟩ (.int .i64 t)) L { s with top := t } := by
  obtain ⟨⟨p1, p2, p3, p4, p5, p6⟩, -, -, -, -, -⟩ := h.apart
  exact { h := by have := h.h.set 5 (.int .i64 t); simpa [HL.cells] using this, a := h.a.other (Ne.symm p1) (Ne.symm p2) _, c := h.c.other (Ne.symm p5) _, r := h.r.other (Ne.symm p6) _,
          rr := fun j rb r' hj hr' => (h.rr j rb r' hj hr').other (h.rapart (List.mem_of_getElem? hj)).1 _, lr := h.lr.other (Ne.symm p3) _,
          x := h.x.fr ((Fr.refl [L.hb] w).set (p := ⟨L.hb, 5, none⟩) (by simp) (.int .i64 t)) (by simp [Ne.symm p4]) (fun b hb => by simp [(h.xapart hb).1]), nd := h.nd, n1 := h.n1, n2 := h.n2, n3 := h.n3, t := ht, e := h.e }
theorem HRep.setParity {w : World} {L : HL} {s : HS} (h : HRep w L s) (t : Int) : HRep (w.setCell ⟨L.hb, 7, none⟩ (.int .i64 t)) L { s with parity := t } := by
  obtain ⟨⟨p1, p2, p3, p4, p5, p6⟩, -, -, -, -, -⟩ := h.apart
  exact { h := by have := h.h.set 7 (.int .i64 t); simpa [HL.cells] using this, a := h.a.other (Ne.symm p1) (Ne.symm p2) _, c := h.c.other (Ne.symm p5) _, r := h.r.other (Ne.symm p6) _,
          rr := fun j rb r' hj hr' => (h.rr j rb r' hj hr').other (h.rapart (List.mem_of_getElem? hj)).1 _, lr := h.lr.other (Ne.symm p3) _,
          x := h.x.fr ((Fr.refl [L.hb] w).set (p := ⟨L.hb, 7, none⟩) (by simp) (.int .i64 t)) (by simp [Ne.symm p4]) (fun b hb => by simp [(h.xapart hb).1]), nd := h.nd, n1 := h.n1, n2 := h.n2, n3 := h.n3, t := h.t, e := h.e }
theorem HRep.reads {w : World} {L : HL} {s : HS} (h : HRep w L s) :
    w.cell? ⟨L.hb, 0, none⟩ = some (.pointer (some ⟨L.ab, 0, none⟩)) ∧ w.cell? ⟨L.hb, 1, none⟩ = some (.slice (some ⟨L.cb, 0, none⟩) s.cls.length L.ccap) ∧ w.cell? ⟨L.hb, 2, none⟩ = some (.slice (some ⟨L.rsb, 0, none⟩) s.cls.length L.rcap) ∧
    w.cell? ⟨L.hb, 3, none⟩ = some (.pointer (some ⟨L.lb, 0, none⟩)) ∧ w.cell? ⟨L.hb, 4, none⟩ = some (.pointer (some ⟨L.xb, 0, none⟩)) ∧ w.cell? ⟨L.hb, 5, none⟩ = some (.int .i64 s.top) ∧ w.cell? ⟨L.hb, 6, none⟩ = some (.int .i64 s.edge) ∧ w.cell? ⟨L.hb, 7, none⟩ = some (.int .i64 s.parity) :=
  ⟨h.h.cell rfl, h.h.cell rfl, h.h.cell rfl, h.h.cell rfl, h.h.cell rfl, h.h.cell rfl, h.h.cell rfl, h.h.cell rfl⟩
theorem HRep.at {w : World} {L : HL} {s : HS} (h : HRep w L s) {k : Nat} (hk : k < s.cls.length) : ∃ rb r, L.rbs[k]? = some rb ∧ s.rs[k]? = some r ∧ w.cell? ⟨L.rsb, k, none⟩ = some (.pointer (some ⟨rb, 0, none⟩)) ∧ RRep w rb L.ab r := by
  have h1 : k < L.rbs.length := by rw [h.n1]; exact hk
  have h2 : k < s.rs.length := by rw [h.n2]; exact hk
  refine ⟨_, _, List.getElem?_eq_getElem h1, List.getElem?_eq_getElem h2, h.r.2 k _ (by simp [h1]), h.rr k _ _ (List.getElem?_eq_getElem h1) (List.getElem?_eq_getElem h2)⟩
set_option maxHeartbeats 800000 in
theorem hClass (L : HL) (s : HS) (n : Int) (w : World) (hH : HRep w L s) :
    Calls Tryz.prog 97 #[.pointer (some ⟨L.hb, 0, none⟩), .int .i64 n] w fun e w' => e = .returned (.int .i64 (ixGe s.cls n)) ∧ HRep w' L s ∧ Fr [] w w' := by
  have hmf : ∀ (fn : Fn) (first cap : Array Value) (w : World), (Instr.makeFunc fn first cap).run Tryz.prog w = .ok (.func fn first cap) w := fun _ _ _ _ => rfl
  have c1 := hH.reads.2.1
  have l1 := hH.h.lt
  have l2 := hH.c.1
  have hB := Blk.new w [.int .i64 n] 3
  go_enter Tryz.func97, Tryz.ntmps97
  go_wp2_with fail
  refine (ixClass L.cb s.cls L.ccap n ⟨w.heap.size, 0, none⟩ _ hH.n3 (hH.c.alloc _) (hB.cell rfl)).mono ?_
  rintro e w1 ⟨rfl, rfl⟩
  clear hB
  go_wp2_with fail
  go_ret
  exact ⟨rfl, hH.alloc _, (Fr.refl _ w).alloc _⟩
structure Hd (k s a m : Int) : Prop where
  k0 : 0 ≤ k
  k1 : k ≤ 10
  m0 : 0 ≤ m
  m1 : m < 2
  s0 : 0 ≤ s
  s1 : s < 32
  a0 : 0 ≤ a
  a1 : a < 16777216
def HS.tick (s : HS) (n : Int) : HS := { s with u := s.u + n }
theorem HRep.cast {w : World} {L : HL} {s s' : HS} (h : HRep w L s) (e : s = s') : HRep w L s' := e ▸ h
theorem fpab (L : HL) : ∀ x ∈ [L.ab], x ∈ L.fp := by simp [HL.fp]
theorem fpaw (L : HL) : ∀ x ∈ [L.ab, L.wb], x ∈ L.fp := by simp [HL.fp]
theorem new_apart {w : World} {L : HL} {s : HS} (h : HRep w L s) : w.heap.size ∉ L.all := by
  intro hc
  have g : ∀ b ∈ L.all, b < w.heap.size := by
    intro b hb
    simp only [HL.all, HL.fp, List.mem_cons, List.mem_append] at hb
    rcases hb with rfl | rfl | rfl | rfl | rfl | rfl | rfl | hb | hb
    · exact h.c.1
    · exact h.r.1
    · exact h.h.lt
    · exact h.a.s.lt
    · exact h.a.c.lt
    · exact h.lr.s.lt
    · obtain ⟨sv, h1, _⟩ := h.x.s; exact h1.lt
    · obtain ⟨sv, h1, h2⟩ := h.x.s
      rcases h2 with ⟨e, _⟩ | ⟨b', cap, rest, e1, e2, e3, e4⟩
      · rw [e] at hb; cases hb
      · rw [e1] at hb; cases List.mem_singleton.1 hb; exact e3.lt
    · obtain ⟨j, hj, rfl⟩ := List.getElem_of_mem hb
      have h2 : j < s.rs.length := by rw [h.n2, ← h.n1]; exact hj
      exact (h.rr j _ _ (List.getElem?_eq_getElem hj) (List.getElem?_eq_getElem h2)).s.lt
  exact Nat.lt_irrefl _ (g _ hc)
theorem all_lt {w : World} {L : HL} {s : HS} (h : HRep w L s) {b : Nat} (hb : b ∈ L.all) : b < w.heap.size := by
  simp only [HL.all, HL.fp, List.mem_cons, List.mem_append] at hb
  rcases hb with rfl | rfl | rfl | rfl | rfl | rfl | rfl | hb | hb
  · exact h.c.1
  · exact h.r.1
  · exact h.h.lt
  · exact h.a.s.lt
  · exact h.a.c.lt
  · exact h.lr.s.lt
  · obtain ⟨sv, h1, _⟩ := h.x.s; exact h1.lt
  · obtain ⟨sv, h1, h2⟩ := h.x.s
    rcases h2 with ⟨e, _⟩ | ⟨b', cap, rest, e1, e2, e3, e4⟩
    · rw [e] at hb; cases hb
    · rw [e1] at hb; cases List.mem_singleton.1 hb; exact e3.lt
  · obtain ⟨j, hj, rfl⟩ := List.getElem_of_mem hb
    have h2 : j < s.rs.length := by rw [h.n2, ← h.n1]; exact hj
    exact (h.rr j _ _ (List.getElem?_eq_getElem hj) (List.getElem?_eq_getElem h2)).s.lt
set_option maxHeartbeats 800000 in
theorem hCell (L : HL) (s : HS) (p : Int) (k z a m : Int) (w : World) (hH : HRep w L s) (p0 : 0 ≤ p) (p1 : p < s.ws.length) (hp : gw s.ws p = packed k z a m) (hd : Hd k z a m) :
    Calls Tryz.prog 20 #[.pointer (some ⟨L.hb, 0, none⟩), .int .i64 p] w fun e w' => e = .returned (.tuple #[.agg #[.int .i64 k, .int .i64 z, .int .i64 a, .int .i64 m], .int .i64 0]) ∧ HRep w' L (s.tick 1) ∧ Fr [L.ab] w w' := by
  have c0 := hH.reads.1
  have l1 := hH.h.lt
  have hH0 := hH.alloc (.cells #[.int .i64 0, .int .i64 0, .int .i64 0, .int .i64 0] 60)
  have b0 := Blk.new w [.int .i64 0, .int .i64 0, .int .i64 0, .int .i64 0] 60
  have hn := new_apart hH
  have Hp := hid hp
  clear hp
  go_enter Tryz.func20, Tryz.ntmps20
  go_wp2_with fail
  refine (aLoad L.ab L.wb s.ws s.u p _ p0 p1 hH0.a).mono ?_
  rintro e w1 ⟨rfl, hA1, hF1⟩
  have hH1 := hH0.arena hF1 (by simp) hA1
  have b1 := b0.fr hF1 (by simp only [HL.all, HL.fp, List.mem_cons, not_or] at hn; simp [hn.2.2.2.1])
  have hF : Fr [L.ab] w w1 := ((Fr.refl _ w).alloc _).trans hF1
  clear hH0 b0 hA1 hF1
  rw [Hp.out]
  go_wp2_with fail
  refine (cUnpack k z a m _ hd.k0 hd.k1 hd.m0 hd.m1 hd.s0 hd.s1 hd.a0 hd.a1).mono ?_
  rintro e w2 ⟨rfl, hF2⟩
  have hH2 := hH1.fr hF2 (by simp)
  have b2 := b1.fr hF2 (by simp)
  have hF' : Fr [L.ab] w w2 := hF.trans (hF2.here (by simp))
  clear hH1 b1 hF2 hF c0
  have q0 := b2.cell (i := 0) rfl
  have q1 := b2.cell (i := 1) rfl
  have q2 := b2.cell (i := 2) rfl
  have q3 := b2.cell (i := 3) rfl
  have y0 := b2.frozen 0
  have y1 := b2.frozen 1
  have y2 := b2.frozen 2
  have y3 := b2.frozen 3
  go_wp2_with fail
  refine bodyPost_ret (v := .tuple #[.agg #[.int .i64 k, .int .i64 z, .int .i64 a, .int .i64 m], .int .i64 0]) (by simp [results, Tryz.results20, go_sem, q0, q1, q2, q3]) rfl ⟨rfl, ?_, ?_⟩
  · exact (((hH2.other hn _).other hn _).other hn _).other hn _
  · exact (((hF'.set (by simp) _).set (by simp) _).set (by simp) _).set (by simp) _
set_option maxHeartbeats 800000 in
theorem hWord (L : HL) (s : HS) (p : Int) (k z a m : Int) (j : Int) (w : World) (hH : HRep w L s) (p0 : 0 ≤ p) (p1 : p < s.ws.length) (hp : gw s.ws p = packed k z a m) (hd : Hd k z a m) (j0 : 0 ≤ j) (j1 : j < z) :
    Calls Tryz.prog 109 #[.pointer (some ⟨L.hb, 0, none⟩), .int .i64 p, .int .i64 j] w fun e w' => e = .returned (.tuple #[.int .i64 (p + 3 + j), .int .i64 0]) ∧ HRep w' L (s.tick 1) ∧ Fr [L.ab] w w' := by
  have z1 := hd.s1
  have hle := hH.a.le
  have n1 : ¬ j < 0 := by omega
  have n2 : ¬ z ≤ j := by omega
  go_enter Tryz.func109, Tryz.ntmps109
  go_wp2_with fail
  refine (hCell L s p k z a m _ hH p0 p1 hp hd).mono ?_
  rintro e w1 ⟨rfl, hH1, hF1⟩
  clear hp
  go_wp2_with fail
  go_ret2
  exact ⟨rfl, hH1.alloc _, hF1.alloc _⟩
set_option maxHeartbeats 800000 in
theorem hGet (L : HL) (s : HS) (p : Int) (k z a m : Int) (j : Int) (w : World) (hH : HRep w L s) (p0 : 0 ≤ p) (p1 : p + 3 + z ≤ s.ws.length) (hp : gw s.ws p = packed k z a m) (hd : Hd k z a m) (j0 : 0 ≤ j) (j1 : j < z) :
    Calls Tryz.prog 59 #[.pointer (some ⟨L.hb, 0, none⟩), .int .i64 p, .int .i64 j] w fun e w' => e = .returned (.tuple #[.int .i64 (gw s.ws (p + 3 + j)), .int .i64 0]) ∧ HRep w' L (s.tick 2) ∧ Fr [L.ab] w w' := by
  go_enter Tryz.func59, Tryz.ntmps59
  go_wp2_with fail
  refine (hWord L s p k z a m j _ hH p0 (by omega) hp hd j0 j1).mono ?_
  rintro e w1 ⟨rfl, hH1, hF1⟩
  clear hp
  have c0 := hH1.reads.1
  go_wp2_with fail
  refine (aLoad L.ab L.wb s.ws _ (p + 3 + j) _ (by omega) (by omega) hH1.a).mono ?_
  rintro e w2 ⟨rfl, hA2, hF2⟩
  clear c0
  go_wp2_with fail
  go_ret2
  exact ⟨rfl, (hH1.arena hF2 (by simp) hA2).cast (by simp [HS.tick, Int.add_assoc]), hF1.trans hF2⟩
def HS.put (s : HS) (p v : Int) (n : Int) : HS := { s with ws := sw s.ws p v, u := s.u + n }
set_option maxHeartbeats 800000 in
theorem hSet (L : HL) (s : HS) (p : Int) (k z a m : Int) (j v : Int) (w : World) (hH : HRep w L s) (p0 : 0 ≤ p) (p1 : p + 3 + z ≤ s.ws.length) (hp : gw s.ws p = packed k z a m) (hd : Hd k z a m) (j0 : 0 ≤ j) (j1 : j < z) :
    Calls Tryz.prog 79 #[.pointer (some ⟨L.hb, 0, none⟩), .int .i64 p, .int .i64 j, .int .i64 v] w fun e w' => e = .returned (.int .i64 0) ∧ HRep w' L (s.put (p + 3 + j) v 2) ∧ Fr [L.ab, L.wb] w w' := by
  go_enter Tryz.func79, Tryz.ntmps79
  go_wp2_with fail
  refine (hWord L s p k z a m j _ hH p0 (by omega) hp hd j0 j1).mono ?_
  rintro e w1 ⟨rfl, hH1, hF1⟩
  clear hp
  have c0 := hH1.reads.1
  go_wp2_with fail
  refine (aStore L.ab L.wb s.ws _ (p + 3 + j) v _ (by omega) (by omega) hH1.a).mono ?_
  rintro e w2 ⟨rfl, hA2, hF2⟩
  clear c0
  go_wp2_with fail
  go_ret
  exact ⟨rfl, (hH1.arena hF2 (by simp) hA2).cast (by simp [HS.tick, HS.put, Int.add_assoc]), (hF1.here (by simp)).trans hF2⟩
set_option maxHeartbeats 800000 in
theorem becomeLit (cbk kb xb : Nat) (k z a m k' a' : Int) (w : World) (hb : Blk w cbk [.int .i64 k, .int .i64 z, .int .i64 a, .int .i64 m] 60) (h1 : w.cell? ⟨kb, 0, none⟩ = some (.int .i64 k')) (h2 : w.cell? ⟨xb, 0, none⟩ = some (.int .i64 a')) (_n1 : kb ≠ cbk) (_n2 : xb ≠ cbk) :
    Calls Tryz.prog 90 #[.pointer (some ⟨cbk, 0, none⟩), .pointer (some ⟨kb, 0, none⟩), .pointer (some ⟨xb, 0, none⟩)] w fun e w' => e = .returned (.tuple #[]) ∧ Blk w' cbk [.int .i64 k', .int .i64 z, .int .i64 a', .int .i64 m] 60 ∧ Fr [cbk] w w' := by
  have q0 := hb.cell (i := 0) rfl
  have q2 := hb.cell (i := 2) rfl
  have y0 := hb.frozen 0
  have y2 := hb.frozen 2
  go_enter Tryz.func90, Tryz.ntmps90
  go_wp2_with fail
  go_region
  go_end0
  refine ⟨rfl, ?_, ?_⟩
  · have := ((hb.set 0 (.int .i64 k')).set 2 (.int .i64 a')).drew
    simpa using this
  · exact (((Fr.refl _ w).set (by simp) _).set (by simp) _).drew
set_option maxHeartbeats 800000 in
theorem shadeLit (cbk pb : Nat) (L : HL) (s : HS) (k z a m : Int) (w : World) (hH : HRep w L s) (hb : Blk w cbk [.int .i64 k, .int .i64 z, .int .i64 a, .int .i64 m] 60) (h1 : w.cell? ⟨pb, 0, none⟩ = some (.pointer (some ⟨L.hb, 0, none⟩))) :
    Calls Tryz.prog 157 #[.pointer (some ⟨cbk, 0, none⟩), .pointer (some ⟨pb, 0, none⟩)] w fun e w' => e = .returned (.tuple #[]) ∧ Blk w' cbk [.int .i64 k, .int .i64 z, .int .i64 a, .int .i64 s.parity] 60 ∧ Fr [cbk] w w' := by
  have q3 := hb.cell (i := 3) rfl
  have y3 := hb.frozen 3
  obtain ⟨-, -, -, -, -, -, -, c7⟩ := hH.reads
  go_enter Tryz.func157, Tryz.ntmps157
  go_wp2_with fail
  go_end0
  refine ⟨rfl, ?_, ?_⟩
  · have := hb.set 3 (.int .i64 s.parity)
    simpa using this
  · exact (Fr.refl _ w).set (by simp) _
set_option maxHeartbeats 1600000 in
theorem hTurnBecome (L : HL) (s : HS) (p : Int) (k z a m k' a' : Int) (kb xb : Nat) (w : World) (hH : HRep w L s) (p0 : 0 ≤ p) (p1 : p < s.ws.length) (hp : gw s.ws p = packed k z a m) (hd : Hd k z a m) (hd' : Hd k' z a' m)
    (h1 : w.cell? ⟨kb, 0, none⟩ = some (.int .i64 k')) (h2 : w.cell? ⟨xb, 0, none⟩ = some (.int .i64 a')) (l1 : kb < w.heap.size) (l2 : xb < w.heap.size) (n1 : kb ∉ L.all) (n2 : xb ∉ L.all) :
    Calls Tryz.prog 89 #[.pointer (some ⟨L.hb, 0, none⟩), .int .i64 p, .func (.func 90) #[] #[.pointer (some ⟨kb, 0, none⟩), .pointer (some ⟨xb, 0, none⟩)]] w fun e w' => e = .returned (.int .i64 0) ∧ HRep w' L (s.put p (packed k' z a' m) 2) ∧ Fr [L.ab, L.wb] w w' := by
  have n1' : kb ≠ L.ab := by intro e; apply n1; simp [HL.all, HL.fp, e]
  have n2' : xb ≠ L.ab := by intro e; apply n2; simp [HL.all, HL.fp, e]
  go_enter Tryz.func89, Tryz.ntmps89
  go_wp2_with fail
  refine (hCell L s p k z a m _ hH p0 p1 hp hd).mono ?_
  rintro e w1 ⟨rfl, hH1, hF1⟩
  clear hp
  have e1 := (cell_fr hF1 (by simpa using n1') l1 0).trans h1
  have e2 := (cell_fr hF1 (by simpa using n2') l2 0).trans h2
  have b1 := Blk.new w1 [.int .i64 k, .int .i64 z, .int .i64 a, .int .i64 m] 60
  have hsz := hF1.size
  have hH2 := hH1.alloc (.cells #[.int .i64 k, .int .i64 z, .int .i64 a, .int .i64 m] 60)
  have hn := new_apart hH1
  clear h1 h2
  go_wp2_with fail
  refine (becomeLit w1.heap.size kb xb k z a m k' a' _ b1 ?_ ?_ (by omega) (by omega)).mono ?_
  · rw [World.cell?_alloc_past _ _ _ (by omega)]; exact e1
  · rw [World.cell?_alloc_past _ _ _ (by omega)]; exact e2
  rintro e w2 ⟨rfl, b2, hF2⟩
  have hH3 := hH2.fr hF2 (by simpa using hn)
  clear e1 e2 b1 hH2 hn
  have q0 := b2.cell (i := 0) rfl
  have q1 := b2.cell (i := 1) rfl
  have q2 := b2.cell (i := 2) rfl
  have q3 := b2.cell (i := 3) rfl
  have hF3 : Fr [L.ab] w w2 := (hF1.alloc _).step hF2 (by simp; omega)
  clear hF2
  go_wp2_with fail
  refine (cPack k' z a' m _ hd'.k0 hd'.k1 hd'.m0 hd'.m1 hd'.s0 hd'.s1 hd'.a0 hd'.a1).mono ?_
  rintro e w3 ⟨rfl, hF4⟩
  have hH4 := hH3.fr hF4 (by simp)
  have hF5 : Fr [L.ab] w w3 := hF3.trans (hF4.here (by simp))
  clear q0 q1 q2 q3 hF4 hF3 hH3
  have c0 := hH4.reads.1
  go_wp2_with fail
  refine (aStore L.ab L.wb s.ws _ p _ _ p0 p1 hH4.a).mono ?_
  rintro e w4 ⟨rfl, hA5, hF6⟩
  clear c0
  go_wp2_with fail
  go_ret
  exact ⟨rfl, (hH4.arena hF6 (by simp) hA5).cast (by simp [HS.tick, HS.put, Int.add_assoc]), (hF5.here (by simp)).trans hF6⟩
set_option maxHeartbeats 1600000 in
theorem hTurnShade (L : HL) (s : HS) (p : Int) (k z a m : Int) (pb : Nat) (w : World) (hH : HRep w L s) (p0 : 0 ≤ p) (p1 : p < s.ws.length) (hp : gw s.ws p = packed k z a m) (hd : Hd k z a m) (hd' : Hd k z a s.parity)
    (h1 : w.cell? ⟨pb, 0, none⟩ = some (.pointer (some ⟨L.hb, 0, none⟩))) (l1 : pb < w.heap.size) (n1 : pb ∉ L.all) :
    Calls Tryz.prog 89 #[.pointer (some ⟨L.hb, 0, none⟩), .int .i64 p, .func (.func 157) #[] #[.pointer (some ⟨pb, 0, none⟩)]] w fun e w' => e = .returned (.int .i64 0) ∧ HRep w' L (s.put p (packed k z a s.parity) 2) ∧ Fr [L.ab, L.wb] w w' := by
  have n1' : pb ≠ L.ab := by intro e; apply n1; simp [HL.all, HL.fp, e]
  go_enter Tryz.func89, Tryz.ntmps89
  go_wp2_with fail
  refine (hCell L s p k z a m _ hH p0 p1 hp hd).mono ?_
  rintro e w1 ⟨rfl, hH1, hF1⟩
  clear hp
  have e1 := (cell_fr hF1 (by simpa using n1') l1 0).trans h1
  have b1 := Blk.new w1 [.int .i64 k, .int .i64 z, .int .i64 a, .int .i64 m] 60
  have hsz := hF1.size
  have hH2 := hH1.alloc (.cells #[.int .i64 k, .int .i64 z, .int .i64 a, .int .i64 m] 60)
  have hn := new_apart hH1
  clear h1
  go_wp2_with fail
  refine (shadeLit w1.heap.size pb L _ k z a m _ hH2 b1 ?_).mono ?_
  · rw [World.cell?_alloc_past _ _ _ (by omega)]; exact e1
  rintro e w2 ⟨rfl, b2, hF2⟩
  have hH3 := hH2.fr hF2 (by simpa using hn)
  clear e1 b1 hH2 hn
  have q0 := b2.cell (i := 0) rfl
  have q1 := b2.cell (i := 1) rfl
  have q2 := b2.cell (i := 2) rfl
  have q3 : w2.cell? ⟨w1.heap.size, 3, none⟩ = some (.int .i64 s.parity) := b2.cell (i := 3) rfl
  have hF3 : Fr [L.ab] w w2 := (hF1.alloc _).step hF2 (by simp; omega)
  clear hF2
  go_wp2_with fail
  refine (cPack k z a s.parity _ hd'.k0 hd'.k1 hd'.m0 hd'.m1 hd'.s0 hd'.s1 hd'.a0 hd'.a1).mono ?_
  rintro e w3 ⟨rfl, hF4⟩
  have hH4 := hH3.fr hF4 (by simp)
  have hF5 : Fr [L.ab] w w3 := hF3.trans (hF4.here (by simp))
  clear q0 q1 q2 q3 hF4 hF3 hH3
  have c0 := hH4.reads.1
  go_wp2_with fail
  refine (aStore L.ab L.wb s.ws _ p _ _ p0 p1 hH4.a).mono ?_
  rintro e w4 ⟨rfl, hA5, hF6⟩
  clear c0
  go_wp2_with fail
  go_ret
  exact ⟨rfl, (hH4.arena hF6 (by simp) hA5).cast (by simp [HS.tick, HS.put, Int.add_assoc]), (hF5.here (by simp)).trans hF6⟩
set_option maxHeartbeats 800000 in
theorem hBecome (L : HL) (s : HS) (p : Int) (k z a m k' a' : Int) (w : World) (hH : HRep w L s) (p0 : 0 ≤ p) (p1 : p < s.ws.length) (hp : gw s.ws p = packed k z a m) (hd : Hd k z a m) (hd' : Hd k' z a' m) :
    Calls Tryz.prog 43 #[.pointer (some ⟨L.hb, 0, none⟩), .int .i64 p, .int .i64 k', .int .i64 a'] w fun e w' => e = .returned (.int .i64 0) ∧ HRep w' L (s.put p (packed k' z a' m) 2) ∧ Fr [L.ab, L.wb] w w' := by
  have hmf : ∀ (fn : Fn) (first cap : Array Value) (w : World), (Instr.makeFunc fn first cap).run Tryz.prog w = .ok (.func fn first cap) w := fun _ _ _ _ => rfl
  have hn := new_apart hH
  have hH1 := hH.alloc (.cells #[.int .i64 k'] 3)
  have hn1 := new_apart hH1
  have hH2 := hH1.alloc (.cells #[.int .i64 a'] 3)
  have b1 := (Blk.new w [.int .i64 k'] 3).alloc (.cells #[.int .i64 a'] 3)
  have b2 := Blk.new (w.alloc (.cells #[.int .i64 k'] 3)) [.int .i64 a'] 3
  simp only [World.size_alloc] at hn1 b2
  go_enter Tryz.func43, Tryz.ntmps43
  go_wp2_with fail
  refine (hTurnBecome L s p k z a m k' a' w.heap.size (w.heap.size + 1) _ hH2 p0 p1 hp hd hd' (b1.cell rfl) (b2.cell rfl) b1.lt b2.lt hn hn1).mono ?_
  rintro e w1 ⟨rfl, hH3, hF3⟩
  clear hp b1 b2 hH1 hH2
  go_wp2_with fail
  go_ret
  exact ⟨rfl, hH3, (((Fr.refl _ w).alloc _).alloc _).trans hF3⟩
end Go.Proofs.YtklnpooninbogaaGreat
