import Derived.Test.YtklnpooninbogaaGreatDoorMBase
namespace Go.Proofs.YtklnpooninbogaaGreatDoor
open Go Go.Proofs Go.RowKit

/-! law20.TreeBounds: plain. A ring of n links back, read to a depth, where so many trees may still be told. -/

def itl (f : Nat → Nat) : Nat → Nat → Nat
  | 0, l => l
  | k + 1, l => f (itl f k l)
/-- How many trees may still be told behind a reading. -/
def lf (n : Nat) : Nat → Nat → Nat
  | 0, l => l
  | _ + 1, 0 => 0
  | d + 1, l + 1 => itl (lf n d) n l
def dk (g : Nat → Nat) : Nat → Nat
  | 0 => 1
  | k + 1 => max (dk g k) (g k + 1)
/-- How deep the tree is. -/
def dp (n : Nat) : Nat → Nat → Nat
  | 0, _ => 0
  | _ + 1, 0 => 0
  | d + 1, l + 1 => dk (fun i => dp n d (itl (lf n d) i l)) n

theorem itl_le {f : Nat → Nat} (h : ∀ l, f l ≤ l) (k l : Nat) : itl f k l ≤ l := by
  induction k with
  | zero => exact Nat.le_refl _
  | succ k ih => exact Nat.le_trans (h _) ih
theorem lf_le (n : Nat) : ∀ d l, lf n d l ≤ l
  | 0, l => Nat.le_refl _
  | d + 1, 0 => Nat.le_refl _
  | d + 1, l + 1 => Nat.le_trans (itl_le (lf_le n d) n l) (Nat.le_succ l)
theorem itl_mono {f : Nat → Nat} (h : ∀ l, f l ≤ l) {j k : Nat} (hjk : j ≤ k) (l : Nat) : itl f k l ≤ itl f j l := by
  induction k with
  | zero => have : j = 0 := by omega
            rw [this]; exact Nat.le_refl _
  | succ k ih =>
    by_cases e : j = k + 1
    · rw [e]; exact Nat.le_refl _
    · exact Nat.le_trans (h _) (ih (by omega))
theorem dk_le {g : Nat → Nat} {d : Nat} (h : ∀ i, g i ≤ d) (k : Nat) : dk g k ≤ d + 1 := by
  induction k with
  | zero => show 1 ≤ d + 1; omega
  | succ k ih => have := h k; show max (dk g k) (g k + 1) ≤ d + 1; omega
theorem dp_le (n : Nat) : ∀ d l, dp n d l ≤ d
  | 0, l => Nat.le_refl _
  | d + 1, 0 => Nat.zero_le _
  | d + 1, l + 1 => dk_le (fun i => dp_le n d _) n
theorem lf_one : ∀ d l, lf 1 d l = l - d
  | 0, l => by simp [lf]
  | d + 1, 0 => by simp [lf]
  | d + 1, l + 1 => by
    show lf 1 d l = _
    rw [lf_one d l]; omega
theorem dp_one : ∀ d l, dp 1 d l = min d l
  | 0, l => by simp [dp]
  | d + 1, 0 => by simp [dp]
  | d + 1, l + 1 => by
    show max 1 (dp 1 d l + 1) = _
    rw [dp_one d l]; omega
theorem lf_none (d l : Nat) : lf 0 (d + 1) (l + 1) = l := rfl
theorem lf_big {n : Nat} (hn : 2 ≤ n) : ∀ d l, lf n d l = 0 ∨ 2 ^ d ≤ l - lf n d l + 1
  | 0, l => .inr (by simp)
  | d + 1, 0 => .inl rfl
  | d + 1, l + 1 => by
    by_cases h0 : lf n (d + 1) (l + 1) = 0
    · exact .inl h0
    · right
      have e : lf n (d + 1) (l + 1) = itl (lf n d) n l := rfl
      have m2 : itl (lf n d) n l ≤ itl (lf n d) 2 l := itl_mono (lf_le n d) hn l
      have m1 : itl (lf n d) 2 l ≤ itl (lf n d) 1 l := lf_le n d _
      have m0 : itl (lf n d) 1 l ≤ l := lf_le n d _
      have h1 : 2 ^ d ≤ l - itl (lf n d) 1 l + 1 := by
        rcases lf_big hn d l with h | h
        · have : itl (lf n d) 1 l = 0 := h
          omega
        · exact h
      have h2 : 2 ^ d ≤ itl (lf n d) 1 l - itl (lf n d) 2 l + 1 := by
        rcases lf_big hn d (itl (lf n d) 1 l) with h | h
        · have : itl (lf n d) 2 l = 0 := h
          omega
        · exact h
      rw [e] at h0 ⊢
      rw [Nat.pow_succ]
      omega
/-- How many trees have been told. -/
def cn (n d l : Nat) : Nat := l - lf n d l
theorem cn_all {n d : Nat} (hn : 2 ≤ n) (hd : 13 ≤ d) : cn n d 4096 = 4096 := by
  have h1 := lf_le n d 4096
  unfold cn
  rcases lf_big hn d 4096 with h | h
  · omega
  · have : 2 ^ 13 ≤ 2 ^ d := Nat.pow_le_pow_right (by decide) hd
    have e : (2 : Nat) ^ 13 = 8192 := by decide
    omega
theorem cn_one (d : Nat) : cn 1 d 4096 = min d 4096 ∧ dp 1 d 4096 = cn 1 d 4096 := by
  unfold cn
  rw [lf_one, dp_one]
  omega
theorem cn_none {d : Nat} (hd : 1 ≤ d) : cn 0 d 4096 = 1 := by
  obtain ⟨e, rfl⟩ : ∃ e, d = e + 1 := ⟨d - 1, by omega⟩
  unfold cn
  have : lf 0 (e + 1) 4096 = 4095 := rfl
  rw [this]
/-- Behind k kids: so many have been told. -/
theorem cn_step (n d l k : Nat) : 1 + (l - itl (lf n d) k l) + cn n d (itl (lf n d) k l) = 1 + (l - itl (lf n d) (k + 1) l) := by
  unfold cn
  have h1 := itl_le (lf_le n d) k l
  have h2 := lf_le n d (itl (lf n d) k l)
  show _ = 1 + (l - lf n d (itl (lf n d) k l))
  omega
theorem cn_node (n d l : Nat) : cn n (d + 1) (l + 1) = 1 + (l - itl (lf n d) n l) := by
  unfold cn
  have h1 := itl_le (lf_le n d) n l
  show l + 1 - itl (lf n d) n l = _
  omega
end Go.Proofs.YtklnpooninbogaaGreatDoor
