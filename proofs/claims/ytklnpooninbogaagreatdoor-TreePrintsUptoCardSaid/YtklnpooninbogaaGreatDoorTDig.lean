import Derived.Test.YtklnpooninbogaaGreatDoorTHex
import Derived.WalkSpells
import Derived.IntWalk
import Derived.Deep.DeepCutAuto
namespace Go.Proofs.YtklnpooninbogaaGreatDoor
open Go Go.Proofs Go.RowKit

/-! ref01.Digits. -/

def dgL (base u : Nat) : List UInt8 := if h : u < base ∨ base < 2 then [hx u] else dgL base (u / base) ++ [hx (u % base)]
termination_by u
decreasing_by exact Nat.div_lt_self (by omega) (by omega)

theorem dgL_step {base u : Nat} (h : base ≤ u) (hb : 2 ≤ base) : dgL base u = dgL base (u / base) ++ [hx (u % base)] := by
  rw [dgL, dif_neg (by omega)]
theorem dgL_one {base u : Nat} (h : u < base) : dgL base u = [hx u] := by rw [dgL, dif_pos (.inl h)]
theorem dg_ext {m : Nat} (h : m < 16) : ({ data := #[48, 49, 50, 51, 52, 53, 54, 55, 56, 57, 97, 98, 99, 100, 101, 102] } : ByteArray).extract m (m + 1) = ⟨[hx m].toArray⟩ := by
  have : ∀ m : Fin 16, ({ data := #[48, 49, 50, 51, 52, 53, 54, 55, 56, 57, 97, 98, 99, 100, 101, 102] } : ByteArray).extract m.1 (m.1 + 1) = ⟨[hx m.1].toArray⟩ := by decide
  exact this ⟨m, h⟩
theorem dgL_pos (base u : Nat) : 1 ≤ (dgL base u).length := by
  rw [dgL]; split <;> simp
theorem dgLen {base : Nat} (hb : 2 ≤ base) : ∀ (k n : Nat), n < 2 ^ (k + 1) → (dgL base n).length ≤ k + 1
  | 0, n, h => by
    rw [dgL, dif_pos (by have : n < 2 := by simpa using h
                         omega)]; simp
  | k + 1, n, h => by
    rw [dgL]
    split
    · simp
    · have : n / base < 2 ^ (k + 1) := by
        rw [Nat.div_lt_iff_lt_mul (by omega)]
        rw [Nat.pow_succ] at h
        exact Nat.lt_of_lt_of_le h (Nat.mul_le_mul_left _ hb)
      have := dgLen hb k (n / base) this
      simp; omega

set_option maxRecDepth 100000 in
set_option maxHeartbeats 3200000 in
theorem rDigits (base : Nat) (hb : 2 ≤ base ∧ base ≤ 16) (N : Nat) (hN : Lt64 N) (w : World) :
    Calls Tryz.prog 55 #[.int .u64 N, .int .u64 base] w fun e w' => e = .returned (str (dgL base N)) ∧ Fr [] w w' := by
  obtain ⟨hb1, hb2⟩ := hb
  have hm : N % base < 16 := by have := Nat.mod_lt N (show 0 < base by omega); omega
  have hm2 : ((N % base : Nat) : Int) < 16 := by omega
  have hx1 := dg_ext hm
  have hwr : IntKind.u64.wrap ((N : Int) / (base : Int)) = ((N / base : Nat) : Int) := by
    rw [IntKind.wrap_u64, ← Int.natCast_ediv]
    have hq := Nat.div_le_self N base
    unfold Lt64 at hN
    generalize N / base = q at hq ⊢
    omega
  go_enter Tryz.func55, Tryz.ntmps55
  go_wp2_with fail
  go_quiet (fail)
  go_wp2_with fail
  clear hwr hx1
  go_loopw [0, 6] (fun uv sv wr => ∃ (u : Nat) (S : ByteArray), uv = .int .u64 u ∧ sv = .string S ∧ dgL base N = (if u = 0 then S.data.toList else dgL base u ++ S.data.toList) ∧ Lt64 u ∧ Fr [] w wr) (fun uv _ _ => (intOf uv).toNat)
  case atStart =>
    refine ⟨N / base, ⟨[hx (N % base)].toArray⟩, rfl, by rw [dg_ext hm], ?_, ?_, ?_⟩
    · by_cases h : N < base
      · rw [if_pos (Nat.div_eq_of_lt h), dgL_one h, Nat.mod_eq_of_lt h]
      · rw [if_neg (by have := Nat.div_pos (show base ≤ N by omega) (by omega); omega), dgL_step (by omega) hb1]
    · have := Nat.div_le_self N base
      unfold Lt64 at hN ⊢; omega
    · exact (Fr.refl [] w).drewN _
  case round =>
    obtain ⟨u, S, rfl, rfl, hS, hu, hF⟩ := hrel
    have hm : u % base < 16 := by have := Nat.mod_lt u (show 0 < base by omega); omega
    have hm2 : ((u % base : Nat) : Int) < 16 := by omega
    have hx1 := dg_ext hm
    have hwr : IntKind.u64.wrap ((u : Int) / (base : Int)) = ((u / base : Nat) : Int) := by
      rw [IntKind.wrap_u64, ← Int.natCast_ediv]
      have hq := Nat.div_le_self u base
      unfold Lt64 at hu
      generalize u / base = q at hq ⊢
      omega
    have HS := hid hS
    have HU := hid hu
    have HF := hid hF
    have hsz : S.size ≤ 64 := by
      have h1 := dgLen hb1 63 N (by unfold Lt64 at hN; have : (2 : Nat) ^ (63 + 1) = 18446744073709551616 := by decide
                                    omega)
      rw [hS] at h1
      have h2 : S.size = S.data.toList.length := Array.length_toList.symm
      split at h1
      · omega
      · rw [List.length_append] at h1; omega
    clear hS hu hF
    by_cases h0 : 0 < u
    · have ht : (0 : Int) < (u : Int) := by omega
      go_wp2_with fail
      go_quiet (fail)
      go_wp2_with fail
      go_roundw
      case rel =>
        refine ⟨u / base, { data := #[hx (u % base)] } ++ S, by go_num, rfl, ?_, ?_, HF.out.trans ((Fr.refl [] wr).drewN _)⟩
        · rw [HS.out, if_neg (by omega)]
          have e : (({ data := #[hx (u % base)] } : ByteArray) ++ S).data.toList = hx (u % base) :: S.data.toList := by simp [ByteArray.data_append]
          rw [e]
          by_cases h : u < base
          · rw [if_pos (Nat.div_eq_of_lt h), dgL_one h, Nat.mod_eq_of_lt h]; rfl
          · rw [if_neg (by have := Nat.div_pos (show base ≤ u by omega) (by omega); omega), dgL_step (by omega) hb1, List.append_assoc]; rfl
        · have := Nat.div_le_self u base
          have := HU.out
          unfold Lt64 at *; omega
      case measure =>
        have : u / base < u := Nat.div_lt_self h0 (by omega)
        show ((u : Int) / (base : Int)).toNat < (u : Int).toNat
        rw [← Int.natCast_ediv]
        omega
    · have ht : ¬ (0 : Int) < (u : Int) := by omega
      go_wp2_with fail
      go_ret
      refine ⟨?_, HF.out⟩
      have e : S = ⟨(dgL base N).toArray⟩ := by
        rw [HS.out, if_pos (by omega)]
      rw [e]; rfl
def szOf (v : Value) : Nat := match v with | .string s => s.size | _ => 0
theorem dg16 : ∀ u, dgL 16 u = hexL u := by
  intro u
  induction u using Nat.strongRecOn with
  | _ u ih =>
    rw [hexL]
    split
    · exact dgL_one (by assumption)
    · rw [dgL_step (by omega) (by omega), ih _ (by omega)]
theorem hx10 {d : Nat} (h : d < 10) : hx d = UInt8.ofNat (48 + d) := by
  have : ∀ d : Fin 10, hx d.1 = UInt8.ofNat (48 + d.1) := by decide
  exact this ⟨d, h⟩
theorem dg10 : ∀ u, dgL 10 u = Lib.decDigits u := by
  intro u
  induction u using Nat.strongRecOn with
  | _ u ih =>
    rw [Lib.decDigits]
    split
    · rw [dgL_one (by assumption), hx10 (by assumption)]
    · rw [dgL_step (by omega) (by omega), ih _ (by omega), hx10 (by omega)]

set_option maxRecDepth 100000 in
set_option maxHeartbeats 3200000 in
theorem rPrintF (b : Nat) (hb : Lt64 b) (w : World) :
    Calls Tryz.prog 31 #[.agg #[.bool true, .int .u64 b]] w fun e w' => e = .returned (str (fltT b)) ∧ Fr [] w w' := by
  go_enter Tryz.func31, Tryz.ntmps31
  go_wp2_with fail
  refine (rDigits 16 (by omega) b hb _).mono ?_
  rintro e w1 ⟨rfl, hF1⟩
  have HF := hid (((Fr.refl [] w).alloc (.cells #[.bool true, .int .u64 b] 35)).trans hF1)
  have hl := hexL_len hb
  rw [dg16]
  unfold str
  clear hF1
  go_wp2_with fail
  go_loopw [3] (fun sv wr => ∃ (k : Nat) (S : ByteArray), k + (hexL b).length ≤ 16 ∧ sv = .string S ∧ S = ⟨(List.replicate k 48 ++ hexL b).toArray⟩ ∧ Fr [] w wr) (fun sv _ => 16 - szOf sv)
  case atStart => exact ⟨0, _, by omega, rfl, rfl, HF.out⟩
  case round =>
    obtain ⟨k, S, hk, rfl, hS, hF⟩ := hrel
    have hs : S.size = k + (hexL b).length := by rw [hS]; show (List.toArray _).size = _; simp
    have HS := hid hS
    have HF2 := hid hF
    have HSZ := hid hs
    have hs16 : S.size ≤ 16 := by omega
    clear hS hF hs
    by_cases h : S.size < 16
    · have ht : (S.size : Int) < 16 := by omega
      go_wp2_with fail
      go_roundw
      case rel =>
        refine ⟨k + 1, { data := #[48] } ++ S, by have := HSZ.out; omega, rfl, ?_, HF2.out⟩
        rw [HS.out, show ({ data := #[48] } : ByteArray) = ⟨[48].toArray⟩ from rfl, baApp, List.replicate_succ]
        rfl
      case measure =>
        have : ({ data := #[48] } ++ S : ByteArray).size = 1 + S.size := by rw [ByteArray.size_append]; rfl
        show 16 - ({ data := #[48] } ++ S : ByteArray).size < 16 - S.size
        omega
    · have ht : ¬ (S.size : Int) < 16 := by omega
      go_wp2_with fail
      go_ret
      refine ⟨?_, HF2.out⟩
      have e : { data := #[48, 102] } ++ S = (⟨(fltT b).toArray⟩ : ByteArray) := by
        rw [HS.out, show ({ data := #[48, 102] } : ByteArray) = ⟨[48, 102].toArray⟩ from rfl, baApp]
        unfold fltT
        rw [show k = 16 - (hexL b).length by have := HSZ.out; omega]
      rw [e]; rfl

set_option maxRecDepth 100000 in
set_option maxHeartbeats 3200000 in
theorem rPrintI (b : Nat) (hb : Lt64 b) (w : World) :
    Calls Tryz.prog 31 #[.agg #[.bool false, .int .u64 b]] w fun e w' => e = .returned (str (Lib.itoa (wrap64 b))) ∧ Fr [] w w' := by
  by_cases hbig : b < 9223372036854775808
  · have hw : wrap64 (b : Int) = (b : Int) := by unfold wrap64; omega
    have ht : ¬ (9223372036854775808 : Int) ≤ (b : Int) := by omega
    have ei : Lib.itoa (wrap64 (b : Int)) = Lib.decDigits b := by rw [hw]; unfold Lib.itoa; rw [if_neg (by omega)]; rfl
    rw [ei]
    clear hw ei hbig
    go_enter Tryz.func31, Tryz.ntmps31
    go_wp2_with fail
    refine (rDigits 10 (by omega) b hb _).mono ?_
    rintro e w1 ⟨rfl, hF1⟩
    rw [dg10]
    unfold str
    go_wp2_with fail
    go_ret
    exact ⟨rfl, ((Fr.refl [] w).alloc _).trans hF1⟩
  · have hb2 : b < 18446744073709551616 := hb
    obtain ⟨c, hc⟩ : ∃ c : Nat, c = 18446744073709551616 - b := ⟨_, rfl⟩
    have hw : wrap64 (b : Int) = -(c : Int) := by unfold wrap64; omega
    have ht : (9223372036854775808 : Int) ≤ (b : Int) := by omega
    have hwr : IntKind.u64.wrap (0 - (b : Int)) = (c : Int) := by rw [IntKind.wrap_u64]; omega
    have hwr2 : IntKind.u64.wrap (-(b : Int)) = (c : Int) := by rw [IntKind.wrap_u64]; omega
    have hcl : Lt64 c := by unfold Lt64; omega
    have ei : Lib.itoa (wrap64 (b : Int)) = 45 :: Lib.decDigits c := by rw [hw]; unfold Lib.itoa; rw [if_pos (by omega)]; simp
    have hl : (Lib.decDigits c).length ≤ 20 := by
      have := itoaLen b
      rw [ei] at this
      simpa using this
    rw [ei]
    obtain ⟨D, hD⟩ : ∃ D, D = Lib.decDigits c := ⟨_, rfl⟩
    have hcat : 1 + D.length ≤ 9223372036854775807 := by rw [hD]; omega
    rw [← hD]
    have HD := hid hD
    have HCL := hid hcl
    clear hw ei hbig hD hc hl hb2 hcl
    go_enter Tryz.func31, Tryz.ntmps31
    go_wp2_with fail
    refine (rDigits 10 (by omega) c HCL.out _).mono ?_
    rintro e w1 ⟨rfl, hF1⟩
    rw [dg10, ← HD.out]
    unfold str
    go_wp2_with fail
    go_ret
    exact ⟨rfl, ((Fr.refl [] w).alloc _).trans hF1⟩

theorem srcF (b : Int) : srcT false b = srcI (wrap64 b) := by simp [srcT]
theorem w64_small {b : Nat} (hb : b < 9223372036854775808) : ¬ wrap64 (b : Int) < 0 := by unfold wrap64; omega
theorem w64_big {b : Nat} (h : ¬ b < 9223372036854775808) (hb : Lt64 b) : wrap64 (b : Int) < 0 := by unfold Lt64 at hb; unfold wrap64; omega
theorem srcF_small {b : Nat} (hb : b < 9223372036854775808) : srcT false (b : Int) = Lib.itoa (wrap64 b) := by rw [srcF, srcI, if_neg (w64_small hb)]
theorem srcF_big {b : Nat} (h : ¬ b < 9223372036854775808) (hb : Lt64 b) : srcT false (b : Int) = 35 :: Lib.itoa (wrap64 b) := by rw [srcF, srcI, if_pos (w64_big h hb)]
set_option maxRecDepth 100000 in
set_option maxHeartbeats 3200000 in
theorem rNumber (f : Bool) (b : Nat) (hb : Lt64 b) (w : World) :
    Calls Tryz.prog 14 #[.agg #[.bool f, .int .u64 b]] w fun e w' => e = .returned (str (srcT f b)) ∧ Fr [] w w' := by
  cases f with
  | true =>
    have e : srcT true (b : Int) = fltT b := by simp [srcT]
    obtain ⟨T, hT⟩ : ∃ T, T = fltT b := ⟨_, rfl⟩
    rw [e, ← hT]
    have HT := hid hT
    clear e hT
    go_enter Tryz.func14, Tryz.ntmps14
    go_wp2_with fail
    refine (rPrintF b hb _).mono ?_
    rintro e w1 ⟨rfl, hF1⟩
    rw [← HT.out]
    have B0 := (Blk.new w [.bool true, .int .u64 b] 35).fr hF1 (by simp)
    have c0 := B0.cell (i := 0) rfl
    unfold str
    go_wp2_with fail
    go_ret
    exact ⟨rfl, ((Fr.refl [] w).alloc _).trans hF1⟩
  | false =>
    obtain ⟨R, hR⟩ : ∃ R, R = srcT false (b : Int) := ⟨_, rfl⟩
    rw [← hR]
    have HR := hid hR
    clear hR
    go_enter Tryz.func14, Tryz.ntmps14
    go_wp2_with fail
    refine (rPrintI b hb _).mono ?_
    rintro e w1 ⟨rfl, hF1⟩
    have B0 := (Blk.new w [.bool false, .int .u64 b] 35).fr hF1 (by simp)
    have c0 := B0.cell (i := 0) rfl
    have c1 := B0.cell (i := 1) rfl
    have hl := itoaLen b
    obtain ⟨T, hT⟩ : ∃ T, T = Lib.itoa (wrap64 (b : Int)) := ⟨_, rfl⟩
    rw [← hT] at hl ⊢
    have HT := hid hT
    clear hT
    have hcat : 1 + T.length ≤ 9223372036854775807 := by omega
    by_cases hbig : b < 9223372036854775808
    · have ht : decide ((9223372036854775808 : Int) ≤ (b : Int)) = false := decide_eq_false (by omega)
      have e : srcT false b = T := by
        rw [HT.out]
        exact srcF_small hbig
      have HE := hid e
      unfold str
      clear e hbig hl
      go_wp2_with fail
      go_ret
      exact ⟨by rw [HR.out, HE.out]; rfl, ((Fr.refl [] w).alloc _).trans hF1⟩
    · have ht : decide ((9223372036854775808 : Int) ≤ (b : Int)) = true := decide_eq_true (by omega)
      have e : srcT false b = 35 :: T := by
        rw [HT.out]
        exact srcF_big hbig hb
      have HE := hid e
      unfold str
      clear e hbig hl
      go_wp2_with fail
      go_ret
      exact ⟨by rw [HR.out, HE.out]; rfl, ((Fr.refl [] w).alloc _).trans hF1⟩
end Go.Proofs.YtklnpooninbogaaGreatDoor
