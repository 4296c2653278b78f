import Derived.Test.YtklnpooninbogaaGreatDoorTTree
import Derived.Test.YtklnpooninbogaaGreatDoorTShelf
import Derived.WalkSmall
import Derived.WalkLawsBesides
import Derived.Deep.QuietTactic
import Derived.BigQuiet
namespace Go.Proofs.YtklnpooninbogaaGreatDoor
open Go Go.Proofs Go.RowKit

/-! A number's text. -/

def str (l : List UInt8) : Value := .string ⟨l.toArray⟩
theorem baApp (a b : List UInt8) : (⟨a.toArray⟩ : ByteArray) ++ ⟨b.toArray⟩ = ⟨(a ++ b).toArray⟩ := ByteArray.ext (by simp [ByteArray.data_append])
theorem baList (a : ByteArray) : a = ⟨a.data.toList.toArray⟩ := ByteArray.ext (by simp)
theorem fr_of_below {w w' : World} (h : Below w.heap.size w w') : Fr [] w w' := ⟨h.os, h.tape, h.output, h.size, fun k hk _ => h.block k hk⟩
theorem fr_grow (w : World) (k : Nat) (os : Array Obj) : Fr [] w (Go.Sort.grow (w.drewN k) os) := by
  refine ((Fr.refl [] w).drewN k).trans ⟨rfl, rfl, rfl, ?_, fun i hi _ => ?_⟩
  · simp [Go.Sort.grow]
  · simp only [Go.Sort.grow]
    rw [Array.getElem?_append_left hi]
theorem tab_fr {w w' : World} {n : String} {k : IntKind} {zs : List Int} (h : Lib.TabIs Tryz.prog w n k zs) (hF : Fr [] w w') : Lib.TabIs Tryz.prog w' n k zs := by
  unfold Lib.TabIs at h ⊢
  have hg : ∃ g, Tryz.prog.globalNamed n = some g ∧ g < w.heap.size := by
    unfold World.var? at h
    cases e : Tryz.prog.globalNamed n with
    | none => rw [e] at h; cases h
    | some g =>
      refine ⟨g, rfl, ?_⟩
      rw [e] at h
      simp only [Option.bind_some] at h
      cases e2 : w.heap[g]? with
      | none => rw [e2] at h; cases h
      | some o => exact (Array.getElem?_eq_some_iff.1 e2).1
  obtain ⟨g, h1, h2⟩ := hg
  exact var?_below (hF.below (Nat.le_refl _) (by simp)) h1 h2 h

/-- What the numbers' texts want of the world. -/
def IntOk (w : World) (n : Int) : Prop := (0 ≤ n ∧ n < 100) ∨ (-9223372036854775808 ≤ n ∧ n ≤ 9223372036854775807 ∧ Lib.TabIs Tryz.prog w "internal/strconv.uint64pow10" .u64 Lib.pow10Tab)
theorem IntOk.fr {w w' : World} {n : Int} (h : IntOk w n) (hF : Fr [] w w') : IntOk w' n := h.imp id (fun h => ⟨h.1, h.2.1, tab_fr h.2.2 hF⟩)
theorem fmtInt (n : Int) (w : World) (h : IntOk w n) :
    Calls Tryz.prog 88 #[.int .i64 n, .int .i64 10] w fun e w' => e = .returned (str (Lib.itoa n)) ∧ Fr [] w w' := by
  rcases h with ⟨h0, h1⟩ | ⟨h0, h1, h2⟩
  · obtain ⟨k, rfl⟩ := Int.eq_ofNat_of_zero_le h0
    refine (Tryz.strconv_FormatInt_10_small k (by omega) w).mono ?_
    rintro e w' ⟨rfl, rfl⟩
    refine ⟨?_, Fr.refl _ _⟩
    unfold Lib.itoa str
    rw [if_neg (by omega)]
    rfl
  · refine (Tryz.strconv_FormatInt_10 n h0 h1 w h2).mono ?_
    rintro e w' ⟨rfl, k, os, rfl⟩
    exact ⟨rfl, fr_grow w k os⟩

set_option maxRecDepth 100000 in
theorem numI (b : Int) (w : World) (h : IntOk w (wrap64 b)) :
    Calls Tryz.prog 84 #[.agg #[.bool false, .int .u64 b]] w fun e w' => e = .returned (str (Lib.itoa (wrap64 b))) ∧ Fr [] w w' := by
  go_enter Tryz.func84, Tryz.ntmps84
  go_wp2_with fail
  have hF0 : Fr [] w (w.alloc (.cells #[.bool false, .int .u64 b] 35)) := (Fr.refl _ w).alloc _
  refine (fmtInt (wrap64 b) _ (h.fr hF0)).mono ?_
  rintro e w1 ⟨rfl, hF1⟩
  unfold str
  go_wp2_with fail
  go_ret
  exact ⟨rfl, hF0.trans hF1⟩

/-- A number's text in a source. -/
def srcI (n : Int) : List UInt8 := if n < 0 then 35 :: Lib.itoa n else Lib.itoa n

theorem decHeadN : ∀ (n : Nat), ∃ c D, Lib.decDigits n = c :: D ∧ c ≠ 45 := by
  intro n
  induction n using Nat.strongRecOn with
  | _ n ih =>
    rw [Lib.decDigits]
    split
    · rename_i h
      refine ⟨_, [], rfl, fun e => ?_⟩
      have := congrArg UInt8.toNat e
      have h45 : (45 : UInt8).toNat = 45 := rfl
      rw [h45] at this
      simp at this
      omega
    · rename_i h
      obtain ⟨c, D, e, hc⟩ := ih (n / 10) (by omega)
      exact ⟨c, _, by rw [e]; rfl, hc⟩
theorem decHead {n : Int} (h : 0 ≤ n) : ∃ c D, Lib.itoa n = c :: D ∧ c ≠ 45 := by
  unfold Lib.itoa
  rw [if_neg (by omega)]
  exact decHeadN _

theorem decLen : ∀ (k n : Nat), n < 10 ^ (k + 1) → (Lib.decDigits n).length ≤ k + 1
  | 0, n, h => by rw [Lib.decDigits, dif_pos (by simpa using h)]; simp
  | k + 1, n, h => by
    rw [Lib.decDigits]
    split
    · simp
    · have : n / 10 < 10 ^ (k + 1) := by rw [Nat.div_lt_iff_lt_mul (by decide)]; rw [Nat.pow_succ] at h; exact h
      have := decLen k (n / 10) this
      simp; omega
theorem wrap64_rng (b : Int) : -9223372036854775808 ≤ wrap64 b ∧ wrap64 b ≤ 9223372036854775807 := by unfold wrap64; omega
theorem itoaLen (b : Int) : (Lib.itoa (wrap64 b)).length ≤ 21 := by
  have := wrap64_rng b
  unfold Lib.itoa
  split
  · have := decLen 19 (wrap64 b).natAbs (by have : (10 : Nat) ^ (19 + 1) = 100000000000000000000 := by decide
                                            omega)
    simp; omega
  · have := decLen 19 (wrap64 b).toNat (by have : (10 : Nat) ^ (19 + 1) = 100000000000000000000 := by decide
                                           omega)
    omega

set_option maxRecDepth 100000 in
theorem shNumI (b : Int) (w : World) (h : IntOk w (wrap64 b)) :
    Calls Tryz.prog 72 #[.agg #[.bool false, .int .u64 b]] w fun e w' => e = .returned (str (srcI (wrap64 b))) ∧ Fr [] w w' := by
  go_enter Tryz.func72, Tryz.ntmps72
  go_wp2_with fail
  have hF0 : Fr [] w (w.alloc (.cells #[.bool false, .int .u64 b] 35)) := (Fr.refl _ w).alloc _
  refine (numI b _ (h.fr hF0)).mono ?_
  rintro e w1 ⟨rfl, hF1⟩
  have hF2 := hF0.trans hF1
  by_cases hn : wrap64 b < 0
  · have e1 : Lib.itoa (wrap64 b) = 45 :: Lib.decDigits (wrap64 b).natAbs := by unfold Lib.itoa; rw [if_pos hn]
    have e2 : srcI (wrap64 b) = 35 :: 45 :: Lib.decDigits (wrap64 b).natAbs := by unfold srcI; rw [if_pos hn, e1]
    obtain ⟨D, hD⟩ : ∃ D, D = Lib.decDigits (wrap64 b).natAbs := ⟨_, rfl⟩
    have hln := itoaLen b
    rw [e1, ← hD] at hln
    have hcat : 1 + (D.length + 1) ≤ 9223372036854775807 := by simp at hln; omega
    have ht : (((⟨(45 :: D).toArray⟩ : ByteArray)[0]'(by simp [ByteArray.size])).toNat : Int) = 45 := rfl
    have ht1 : ((((⟨(45 :: D).toArray⟩ : ByteArray)[0]'(by simp [ByteArray.size])).toNat : Int) == 45) = true := by rw [ht]; rfl
    rw [e1, ← hD]
    rw [← hD] at e2
    clear hln ht
    have HE2 := hid e2
    have HF := hid hF2
    unfold str
    clear e1 e2 hn h hD hF2 hF1 hF0
    go_wp2_with fail
    go_ret
    exact ⟨by rw [HE2.out]; rfl, HF.out⟩
  · have e2 : srcI (wrap64 b) = Lib.itoa (wrap64 b) := by unfold srcI; rw [if_neg hn]
    obtain ⟨c, D, hD, hc⟩ : ∃ c D, Lib.itoa (wrap64 b) = c :: D ∧ c ≠ 45 := decHead (by omega)
    rw [hD]
    rw [hD] at e2
    have HE2 := hid e2
    have HF := hid hF2
    have hc1 : ((((⟨(c :: D).toArray⟩ : ByteArray)[0]'(by simp [ByteArray.size])).toNat : Int) == 45) = false := by
      have ht : (((⟨(c :: D).toArray⟩ : ByteArray)[0]'(by simp [ByteArray.size])).toNat : Int) = c.toNat := rfl
      rw [ht]
      rw [beq_eq_false_iff_ne]
      intro e
      exact hc (UInt8.toNat_inj.1 (by have : (45 : UInt8).toNat = 45 := rfl; omega))
    unfold str
    clear e2 hn h hD hF2 hF1 hF0 hc
    go_wp2_with fail
    go_ret
    exact ⟨by rw [HE2.out]; rfl, HF.out⟩
end Go.Proofs.YtklnpooninbogaaGreatDoor
