import Derived.Test.YtklnpooninbogaaGreatDoorTIn
import Derived.Test.YtklnpooninbogaaGreatDoorTNumb
namespace Go.Proofs.YtklnpooninbogaaGreatDoor
open Go Go.Proofs Go.RowKit

/-! How long a tree's text may be. -/

theorem srcT_len22 (f : Bool) (b : Nat) (hb : Lt64 b) : (srcT f (b : Int)).length ≤ 22 := by
  cases f with
  | true =>
    have := hexL_len hb
    have e : srcT true (b : Int) = fltT b := by simp [srcT]
    have h2 : (fltT b).length ≤ 18 := by
      unfold fltT
      simp only [List.length_append, List.length_replicate, List.length_cons, List.length_nil]
      omega
    rw [e]; omega
  | false =>
    have := itoaLen b
    have h2 : (srcI (wrap64 (b : Int))).length ≤ 22 := by
      unfold srcI
      split
      · rw [List.length_cons]; omega
      · omega
    rw [srcF]; omega
theorem srcT_Q {f : Bool} {b : Int} (h : Q64 f b) : (srcT f b).length ≤ 22 := by
  obtain ⟨n, rfl⟩ := Int.eq_ofNat_of_zero_le h.1
  exact srcT_len22 f n (by have := h.2; unfold Lt64; omega)
theorem nmK_len (k : Int) : (nmK k).length ≤ 5 := by
  unfold nmK
  repeat (first | split | decide)
theorem flatMap_len {l : List Tr} {f : Tr → List UInt8} {c : Tr → Nat} {M : Nat} (h : ∀ x ∈ l, (f x).length ≤ c x * M) : (l.flatMap f).length ≤ (l.map c).sum * M := by
  induction l with
  | nil => simp
  | cons x r ih =>
    have h1 := h x (List.mem_cons_self ..)
    have h2 := ih (fun y hy => h y (List.mem_cons_of_mem _ hy))
    simp only [List.flatMap_cons, List.length_append, List.map_cons, List.sum_cons, Nat.add_mul]
    omega
theorem getD_len {cs : List ByteArray} {M : Nat} (hM : ∀ s ∈ cs, s.size ≤ M) (i : Nat) : (cs.getD i ⟨#[]⟩).data.toList.length ≤ M := by
  by_cases h : i < cs.length
  · have := hM cs[i] (List.getElem_mem h)
    rw [List.getD_eq_getElem?_getD, List.getElem?_eq_getElem h]
    exact this
  · rw [List.getD_eq_getElem?_getD, List.getElem?_eq_none (by omega)]
    exact Nat.zero_le _
theorem prT_len (cs : List ByteArray) (M : Nat) (hM : ∀ s ∈ cs, s.size ≤ M) : ∀ (m : Nat) (t : Tr), AllN Q64 m t → (prT cs srcT m t).length + 3 ≤ ctA m t * (M + 30)
  | 0, t, h => by
    have h0 : ctA 0 t = 1 := rfl
    rw [h0, Nat.one_mul]
    by_cases hn : isNum t = true
    · have := srcT_Q (h hn)
      rw [prT_num hn]; omega
    · by_cases hc : isCon cs.length t = true
      · rw [prT_con (by simpa using hn) hc]
        have := getD_len hM t.t.toNat
        simp only [kidsTx, List.append_nil]; omega
      · rw [prT_else (by simpa using hn) (by simpa using hc)]
        have := nmK_len t.k
        simp only [List.length_cons, List.length_append, List.length_nil]; omega
  | m + 1, t, h => by
    have h0 : ctA (m + 1) t = 1 + (t.ks.map (ctA m)).sum := rfl
    have h1 := flatMap_len (l := t.ks) (f := kidTx cs srcT m) (c := ctA m) (M := M + 30) (fun x hx => by
      have := prT_len cs M hM m x (h.2 x hx)
      unfold kidTx
      split <;> simp only [List.length_cons, List.length_append, List.length_nil] <;> omega)
    rw [h0, Nat.add_mul, Nat.one_mul]
    by_cases hn : isNum t = true
    · have := srcT_Q (h.1 hn)
      rw [prT_num hn]; omega
    · by_cases hc : isCon cs.length t = true
      · rw [prT_con (by simpa using hn) hc]
        have := getD_len hM t.t.toNat
        simp only [kidsTx, List.length_append]; omega
      · rw [prT_else (by simpa using hn) (by simpa using hc)]
        have := nmK_len t.k
        simp only [List.length_cons, List.length_append, List.length_nil]; omega
theorem prT_short (cs : List ByteArray) (hM : ∀ s ∈ cs, s.size ≤ 1048576) (m : Nat) (t : Tr) (h : AllN Q64 m t) (hc : ctA m t ≤ 1048576) : (prT cs srcT m t).length ≤ 4611686018427387904 := by
  have h1 := prT_len cs 1048576 hM m t h
  have h2 : ctA m t * (1048576 + 30) ≤ 1048576 * (1048576 + 30) := Nat.mul_le_mul_right _ hc
  omega
end Go.Proofs.YtklnpooninbogaaGreatDoor
