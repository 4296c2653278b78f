import Derived.Test.YtifillpcphiblaaRingRest
import Derived.WalkMore
import Derived.LoopN
namespace Go.Proofs.Ytifillpcphiblaa
open Go Go.Proofs Go.RowKit

theorem i64_wrap_nat (n : Nat) (h : n < 9223372036854775808) : IntKind.i64.wrap (n : Int) = n := by
  rw [IntKind.wrap_i64]
  omega
theorem bits_or_nat (x y : Nat) (hx : x < 9223372036854775808) (hy : y < 9223372036854775808) : bits .or .i64 (x : Int) (y : Int) = ((x ||| y : Nat) : Int) := by
  have h : (x ||| y) < 2 ^ 63 := Nat.or_lt_two_pow (by omega) (by omega)
  show IntKind.i64.wrap ((BitVec.ofInt 64 (x : Int) ||| BitVec.ofInt 64 (y : Int)).toNat : Int) = _
  rw [BitVec.ofInt_natCast, BitVec.ofInt_natCast]
  rw [BitVec.toNat_or, BitVec.toNat_ofNat, BitVec.toNat_ofNat, Nat.mod_eq_of_lt (by omega), Nat.mod_eq_of_lt (by omega)]
  exact i64_wrap_nat _ (by omega)
theorem bits_and_nat (x y : Nat) (hx : x < 9223372036854775808) (hy : y < 9223372036854775808) : bits .and .i64 (x : Int) (y : Int) = ((x &&& y : Nat) : Int) := by
  have h : (x &&& y) ≤ x := Nat.and_le_left
  show IntKind.i64.wrap ((BitVec.ofInt 64 (x : Int) &&& BitVec.ofInt 64 (y : Int)).toNat : Int) = _
  rw [BitVec.ofInt_natCast, BitVec.ofInt_natCast]
  rw [BitVec.toNat_and, BitVec.toNat_ofNat, BitVec.toNat_ofNat, Nat.mod_eq_of_lt (by omega), Nat.mod_eq_of_lt (by omega)]
  exact i64_wrap_nat _ (by omega)
theorem nat_or (x y j : Nat) (h : x < 2 ^ j) : x ||| (y * 2 ^ j) = x + y * 2 ^ j := by
  rw [Nat.or_comm, Nat.mul_comm, ← Nat.two_pow_add_eq_or_of_lt h, Nat.add_comm]
theorem pack_bits (k s a m : Nat) (hk : k < 16) (hm : m < 2) (hs : s < 32) (ha : a < 16777216) :
    bits .or .i64 (bits .or .i64 (bits .or .i64 (bits .or .i64 0 (k : Int)) ((m : Int) * 16)) ((s : Int) * 32)) ((a : Int) * 1024) = (k : Int) + 16 * m + 32 * s + 1024 * a := by
  rw [show (0 : Int) = ((0 : Nat) : Int) from rfl, bits_or_nat _ _ (by omega) (by omega), Nat.zero_or]
  rw [show (m : Int) * 16 = ((m * 2 ^ 4 : Nat) : Int) by omega, bits_or_nat _ _ (by omega) (by omega), nat_or _ _ _ (by omega)]
  rw [show (s : Int) * 32 = ((s * 2 ^ 5 : Nat) : Int) by omega, bits_or_nat _ _ (by omega) (by omega), nat_or _ _ _ (by omega)]
  rw [show (a : Int) * 1024 = ((a * 2 ^ 10 : Nat) : Int) by omega, bits_or_nat _ _ (by omega) (by omega), nat_or _ _ _ (by omega)]
  omega
theorem mask (x j : Nat) (hx : x < 9223372036854775808) (hj : j < 63) : bits .and .i64 (x : Int) ((2 ^ j - 1 : Nat) : Int) = ((x % 2 ^ j : Nat) : Int) := by
  have h : 2 ^ j < 2 ^ 63 := Nat.pow_lt_pow_right (by decide) hj
  rw [bits_and_nat _ _ hx (by omega), Nat.and_two_pow_sub_one_eq_mod]

def packed (k s a m : Int) : Int := k + 16 * m + 32 * s + 1024 * a

theorem cBits (w : World) :
    Calls Try.prog 112 #[] w fun e w' => e = .returned (.agg #[.int .i64 4, .int .i64 1, .int .i64 5, .int .i64 24]) ∧ w' = w.alloc (.cells #[.int .i64 4, .int .i64 1, .int .i64 5, .int .i64 24] 180) := by
  go_enter Try.func112, Try.ntmps112
  go_wp2_with fail
  exact bodyPost_ret (v := .agg #[.int .i64 4, .int .i64 1, .int .i64 5, .int .i64 24]) (by simp [results, Try.results112, go_sem]) rfl ⟨rfl, rfl⟩

theorem cFitsT (n b M : Int) (w : World) (_hb : 0 ≤ b) (h1 : b ≤ 24) (hM : (2 : Int) ^ b.toNat = M) (h0 : 0 ≤ n) (h2 : n < M) :
    Calls Try.prog 113 #[.int .i64 n, .int .i64 b] w fun e w' => e = .returned (.bool true) ∧ w = w' := by
  have hw : wrap64 (2 ^ b.toNat) = (2 : Int) ^ b.toNat := by
    have h3 : (2 : Int) ^ b.toNat ≤ 2 ^ 24 := by exact_mod_cast Nat.pow_le_pow_right (by decide) (show b.toNat ≤ 24 by omega)
    have h4 : (0 : Int) ≤ 2 ^ b.toNat := by rw [hM]; omega
    unfold wrap64; omega
  have h2' : n < wrap64 (2 ^ b.toNat) := by rw [hw, hM]; exact h2
  clear hw hM h2
  go_enter Try.func113, Try.ntmps113
  go_wp2_with fail
  go_ret
  exact ⟨rfl, rfl⟩

theorem cFitsF (n b M : Int) (w : World) (_hb : 0 ≤ b) (h1 : b ≤ 24) (hM : (2 : Int) ^ b.toNat = M) (h2 : n < 0 ∨ M ≤ n) :
    Calls Try.prog 113 #[.int .i64 n, .int .i64 b] w fun e w' => e = .returned (.bool false) ∧ w = w' := by
  by_cases hn : 0 ≤ n
  · have hw : wrap64 (2 ^ b.toNat) = (2 : Int) ^ b.toNat := by
      have h3 : (2 : Int) ^ b.toNat ≤ 2 ^ 24 := by exact_mod_cast Nat.pow_le_pow_right (by decide) (show b.toNat ≤ 24 by omega)
      have h4 : (0 : Int) ≤ 2 ^ b.toNat := by exact_mod_cast Nat.zero_le _
      unfold wrap64; omega
    have h2' : ¬ n < wrap64 (2 ^ b.toNat) := by rw [hw, hM]; omega
    clear hw hM h2
    go_enter Try.func113, Try.ntmps113
    go_wp2_with fail
    go_ret
    exact ⟨rfl, rfl⟩
  · clear h2 hM
    go_enter Try.func113, Try.ntmps113
    go_wp2_with fail
    go_ret
    exact ⟨rfl, rfl⟩

set_option maxHeartbeats 1600000 in
theorem cPack (k s a m : Int) (w : World) (k0 : 0 ≤ k) (k1 : k ≤ 10) (m0 : 0 ≤ m) (m1 : m < 2) (s0 : 0 ≤ s) (s1 : s < 32) (a0 : 0 ≤ a) (a1 : a < 16777216) :
    Calls Try.prog 71 #[.agg #[.int .i64 k, .int .i64 s, .int .i64 a, .int .i64 m]] w fun e w' => e = .returned (.tuple #[.int .i64 (packed k s a m), .int .i64 0]) ∧ Fr [] w w' := by
  have ix : ∀ w, (Instr.index 180 (.agg #[.int .i64 4, .int .i64 1, .int .i64 5, .int .i64 24]) (.int .i64 0)).run Try.prog w = .ok (.int .i64 4) w := fun _ => by kernel_rfl
  have ix1 : ∀ w, (Instr.index 180 (.agg #[.int .i64 4, .int .i64 1, .int .i64 5, .int .i64 24]) (.int .i64 1)).run Try.prog w = .ok (.int .i64 1) w := fun _ => by kernel_rfl
  have ix2 : ∀ w, (Instr.index 180 (.agg #[.int .i64 4, .int .i64 1, .int .i64 5, .int .i64 24]) (.int .i64 2)).run Try.prog w = .ok (.int .i64 5) w := fun _ => by kernel_rfl
  have ix3 : ∀ w, (Instr.index 180 (.agg #[.int .i64 4, .int .i64 1, .int .i64 5, .int .i64 24]) (.int .i64 3)).run Try.prog w = .ok (.int .i64 24) w := fun _ => by kernel_rfl
  go_enter Try.func71, Try.ntmps71
  go_wp2_with fail
  refine (cBits _).mono ?_
  rintro e w1 ⟨rfl, rfl⟩
  go_wp2_with fail
  refine wp_loop_rounds 5 ?_
  rw [rounds_succ]
  go_wp2_with fail
  refine (cFitsT k 4 16 _ (by decide) (by decide) (by decide) k0 (by omega)).mono ?_
  rintro e w1 ⟨rfl, rfl⟩
  go_wp2_with fail
  rw [rounds_succ]
  go_wp2_with fail
  refine (cFitsT m 1 2 _ (by decide) (by decide) (by decide) m0 (by omega)).mono ?_
  rintro e w1 ⟨rfl, rfl⟩
  go_wp2_with fail
  rw [rounds_succ]
  go_wp2_with fail
  refine (cFitsT s 5 32 _ (by decide) (by decide) (by decide) s0 (by omega)).mono ?_
  rintro e w1 ⟨rfl, rfl⟩
  go_wp2_with fail
  rw [rounds_succ]
  go_wp2_with fail
  refine (cFitsT a 24 16777216 _ (by decide) (by decide) (by decide) a0 (by omega)).mono ?_
  rintro e w1 ⟨rfl, rfl⟩
  go_wp2_with fail
  rw [rounds_succ]
  go_wp2_with fail
  go_ret2
  refine ⟨?_, (((Fr.refl _ w).alloc _).alloc _).alloc _⟩
  obtain ⟨k, rfl⟩ := Int.eq_ofNat_of_zero_le k0
  obtain ⟨m, rfl⟩ := Int.eq_ofNat_of_zero_le m0
  obtain ⟨s, rfl⟩ := Int.eq_ofNat_of_zero_le s0
  obtain ⟨a, rfl⟩ := Int.eq_ofNat_of_zero_le a0
  have e := pack_bits k s a m (by omega) (by omega) (by omega) (by omega)
  show Ending.returned (.tuple #[.int .i64 (bits .or .i64 (bits .or .i64 (bits .or .i64 (bits .or .i64 0 (k : Int)) ((m : Int) * 16)) ((s : Int) * 32)) ((a : Int) * 1024)), .int .i64 0]) = _
  rw [e]; rfl

set_option maxHeartbeats 1600000 in
theorem cPackKind (k s a m : Int) (w : World) (h : k < 0 ∨ 10 < k) :
    Calls Try.prog 71 #[.agg #[.int .i64 k, .int .i64 s, .int .i64 a, .int .i64 m]] w fun e w' => e = .returned (.tuple #[.int .i64 0, .int .i64 6]) ∧ Fr [] w w' := by
  rcases h with h | h
  · go_enter Try.func71, Try.ntmps71
    go_wp2_with fail
    go_ret2
    exact ⟨rfl, (Fr.refl _ w).alloc _⟩
  · have h' : ¬ k < 0 := by omega
    go_enter Try.func71, Try.ntmps71
    go_wp2_with fail
    go_ret2
    exact ⟨rfl, (Fr.refl _ w).alloc _⟩

set_option maxHeartbeats 1600000 in
theorem cPackRange (k s a m : Int) (w : World) (k0 : 0 ≤ k) (k1 : k ≤ 10) (m0 : 0 ≤ m) (m1 : m < 2) (h : (s < 0 ∨ 32 ≤ s) ∨ (a < 0 ∨ 16777216 ≤ a)) :
    Calls Try.prog 71 #[.agg #[.int .i64 k, .int .i64 s, .int .i64 a, .int .i64 m]] w fun e w' => e = .returned (.tuple #[.int .i64 0, .int .i64 1]) ∧ Fr [] w w' := by
  have ix : ∀ w, (Instr.index 180 (.agg #[.int .i64 4, .int .i64 1, .int .i64 5, .int .i64 24]) (.int .i64 0)).run Try.prog w = .ok (.int .i64 4) w := fun _ => by kernel_rfl
  have ix1 : ∀ w, (Instr.index 180 (.agg #[.int .i64 4, .int .i64 1, .int .i64 5, .int .i64 24]) (.int .i64 1)).run Try.prog w = .ok (.int .i64 1) w := fun _ => by kernel_rfl
  have ix2 : ∀ w, (Instr.index 180 (.agg #[.int .i64 4, .int .i64 1, .int .i64 5, .int .i64 24]) (.int .i64 2)).run Try.prog w = .ok (.int .i64 5) w := fun _ => by kernel_rfl
  have ix3 : ∀ w, (Instr.index 180 (.agg #[.int .i64 4, .int .i64 1, .int .i64 5, .int .i64 24]) (.int .i64 3)).run Try.prog w = .ok (.int .i64 24) w := fun _ => by kernel_rfl
  go_enter Try.func71, Try.ntmps71
  go_wp2_with fail
  refine (cBits _).mono ?_
  rintro e w1 ⟨rfl, rfl⟩
  go_wp2_with fail
  refine wp_loop_rounds 5 ?_
  rw [rounds_succ]
  go_wp2_with fail
  refine (cFitsT k 4 16 _ (by decide) (by decide) (by decide) k0 (by omega)).mono ?_
  rintro e w1 ⟨rfl, rfl⟩
  go_wp2_with fail
  rw [rounds_succ]
  go_wp2_with fail
  refine (cFitsT m 1 2 _ (by decide) (by decide) (by decide) m0 (by omega)).mono ?_
  rintro e w1 ⟨rfl, rfl⟩
  go_wp2_with fail
  rw [rounds_succ]
  go_wp2_with fail
  by_cases hs : s < 0 ∨ 32 ≤ s
  · clear h
    refine (cFitsF s 5 32 _ (by decide) (by decide) (by decide) hs).mono ?_
    rintro e w1 ⟨rfl, rfl⟩
    clear hs
    go_wp2_with fail
    go_ret2
    exact ⟨rfl, (((Fr.refl _ w).alloc _).alloc _).alloc _⟩
  · have h' := h.resolve_left hs
    refine (cFitsT s 5 32 _ (by decide) (by decide) (by decide) (by omega) (by omega)).mono ?_
    rintro e w1 ⟨rfl, rfl⟩
    have s0 : 0 ≤ s := by omega
    have s1 : s < 32 := by omega
    clear h hs
    go_wp2_with fail
    rw [rounds_succ]
    go_wp2_with fail
    refine (cFitsF a 24 16777216 _ (by decide) (by decide) (by decide) h').mono ?_
    rintro e w1 ⟨rfl, rfl⟩
    clear h'
    go_wp2_with fail
    go_ret2
    exact ⟨rfl, (((Fr.refl _ w).alloc _).alloc _).alloc _⟩


theorem unp (k s a m : Int) (k0 : 0 ≤ k) (k1 : k ≤ 10) (m0 : 0 ≤ m) (m1 : m < 2) (s0 : 0 ≤ s) (s1 : s < 32) (a0 : 0 ≤ a) (a1 : a < 16777216) :
    bits .and .i64 (packed k s a m) 15 = k ∧ bits .and .i64 (packed k s a m / 16) 1 = m ∧ bits .and .i64 (packed k s a m / 16 / 2) 31 = s ∧ bits .and .i64 (packed k s a m / 16 / 2 / 32) 16777215 = a := by
  obtain ⟨k, rfl⟩ := Int.eq_ofNat_of_zero_le k0
  obtain ⟨m, rfl⟩ := Int.eq_ofNat_of_zero_le m0
  obtain ⟨s, rfl⟩ := Int.eq_ofNat_of_zero_le s0
  obtain ⟨a, rfl⟩ := Int.eq_ofNat_of_zero_le a0
  have e : packed (k : Int) s a m = ((k + 16 * m + 32 * s + 1024 * a : Nat) : Int) := by simp [packed]
  rw [e]
  have h1 : ((k + 16 * m + 32 * s + 1024 * a : Nat) : Int) / 16 = ((m + 2 * s + 64 * a : Nat) : Int) := by omega
  have h2 : ((m + 2 * s + 64 * a : Nat) : Int) / 2 = ((s + 32 * a : Nat) : Int) := by omega
  have h3 : ((s + 32 * a : Nat) : Int) / 32 = ((a : Nat) : Int) := by omega
  rw [h1, h2, h3]
  refine ⟨?_, ?_, ?_, ?_⟩
  · rw [show (15 : Int) = ((2 ^ 4 - 1 : Nat) : Int) from rfl, mask _ _ (by omega) (by decide)]; omega
  · rw [show (1 : Int) = ((2 ^ 1 - 1 : Nat) : Int) from rfl, mask _ _ (by omega) (by decide)]; omega
  · rw [show (31 : Int) = ((2 ^ 5 - 1 : Nat) : Int) from rfl, mask _ _ (by omega) (by decide)]; omega
  · rw [show (16777215 : Int) = ((2 ^ 24 - 1 : Nat) : Int) from rfl, mask _ _ (by omega) (by decide)]; omega

set_option maxHeartbeats 3200000 in
theorem cUnpack (k s a m : Int) (w : World) (k0 : 0 ≤ k) (k1 : k ≤ 10) (m0 : 0 ≤ m) (m1 : m < 2) (s0 : 0 ≤ s) (s1 : s < 32) (a0 : 0 ≤ a) (a1 : a < 16777216) :
    Calls Try.prog 78 #[.int .i64 (packed k s a m)] w fun e w' => e = .returned (.tuple #[.agg #[.int .i64 k, .int .i64 s, .int .i64 a, .int .i64 m], .int .i64 0]) ∧ Fr [] w w' := by
  have ix : ∀ w, (Instr.index 180 (.agg #[.int .i64 4, .int .i64 1, .int .i64 5, .int .i64 24]) (.int .i64 0)).run Try.prog w = .ok (.int .i64 4) w := fun _ => by kernel_rfl
  have ix1 : ∀ w, (Instr.index 180 (.agg #[.int .i64 4, .int .i64 1, .int .i64 5, .int .i64 24]) (.int .i64 1)).run Try.prog w = .ok (.int .i64 1) w := fun _ => by kernel_rfl
  have ix2 : ∀ w, (Instr.index 180 (.agg #[.int .i64 4, .int .i64 1, .int .i64 5, .int .i64 24]) (.int .i64 2)).run Try.prog w = .ok (.int .i64 5) w := fun _ => by kernel_rfl
  have ix3 : ∀ w, (Instr.index 180 (.agg #[.int .i64 4, .int .i64 1, .int .i64 5, .int .i64 24]) (.int .i64 3)).run Try.prog w = .ok (.int .i64 24) w := fun _ => by kernel_rfl
  obtain ⟨u0, u1, u2, u3⟩ := unp k s a m k0 k1 m0 m1 s0 s1 a0 a1
  go_enter Try.func78, Try.ntmps78
  go_wp2_with fail
  refine (cBits _).mono ?_
  rintro e w1 ⟨rfl, rfl⟩
  go_wp2_with fail
  refine wp_loop_rounds 5 ?_
  rw [rounds_succ]
  go_wp2_with fail
  rw [rounds_succ]
  go_wp2_with fail
  rw [rounds_succ]
  go_wp2_with fail
  rw [rounds_succ]
  go_wp2_with fail
  rw [rounds_succ]
  go_wp2_with fail
  refine (cPack k s a m _ k0 k1 m0 m1 s0 s1 a0 a1).mono ?_
  rintro e w2 ⟨rfl, hF2⟩
  have b0 := (((((Blk.new w [.int .i64 0, .int .i64 0, .int .i64 0, .int .i64 0] 40).alloc _).alloc _).alloc _).fr hF2 (by simp))
  have b3 := (Blk.new (((w.alloc (.cells #[.int .i64 0, .int .i64 0, .int .i64 0, .int .i64 0] 40)).alloc (.cells #[.int .i64 k, .int .i64 m, .int .i64 s, .int .i64 a] 180)).alloc (.cells #[.int .i64 4, .int .i64 1, .int .i64 5, .int .i64 24] 180)) [.int .i64 k, .int .i64 s, .int .i64 a, .int .i64 m] 40).fr hF2 (by simp)
  simp only [World.size_alloc] at b3
  have hF : Fr [] w w2 := ((((Fr.refl _ w).alloc _).alloc _).alloc _).alloc _ |>.trans (hF2.mono (by simp))
  have q0 := b0.cell (i := 0) rfl
  have q1 := b0.cell (i := 1) rfl
  have q2 := b0.cell (i := 2) rfl
  have q3 := b0.cell (i := 3) rfl
  have y0 := b0.frozen 0
  have y1 := b0.frozen 1
  have y2 := b0.frozen 2
  have y3 := b0.frozen 3
  have p0 := b3.cell (i := 0) rfl
  have p1 := b3.cell (i := 1) rfl
  have p2 := b3.cell (i := 2) rfl
  have p3 := b3.cell (i := 3) rfl
  clear u0 u1 u2 u3 ix ix1 ix2 ix3 b3
  go_wp2_with fail
  refine bodyPost_ret (v := .tuple #[.agg #[.int .i64 k, .int .i64 s, .int .i64 a, .int .i64 m], .int .i64 0]) (by simp [results, Try.results78, go_sem, q0, q1, q2, q3]) rfl ⟨rfl, ?_⟩
  exact (((hF.set (by simp) _).set (by simp) _).set (by simp) _).set (by simp) _
end Go.Proofs.Ytifillpcphiblaa
