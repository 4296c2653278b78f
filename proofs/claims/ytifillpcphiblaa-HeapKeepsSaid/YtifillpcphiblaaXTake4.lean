import Derived.Test.YtifillpcphiblaaXTake3
namespace Go.Proofs.Ytifillpcphiblaa
open Go Go.Proofs Go.RowKit

theorem ixRun_no {l : List (Int × Int)} {n : Int} (h : ∀ y ∈ l, y.2 < n) : ixRun l n = -1 := by
  refine ixGe_none (fun j y _ hy => ?_)
  obtain ⟨i, hi, rfl⟩ := List.mem_map.1 (List.mem_of_getElem? hy)
  exact h i hi
theorem ixRun_yes {l1 l2 : List (Int × Int)} {a m n : Int} (h : ∀ y ∈ l1, y.2 < n) (hm : n ≤ m) : ixRun (l1 ++ (a, m) :: l2) n = (l1.length : Nat) := by
  refine ixGe_some (x := m) (fun j y hj hy => ?_) (by simp) hm
  rw [List.map_append, List.getElem?_append_left (by simpa using hj)] at hy
  obtain ⟨i, hi, rfl⟩ := List.mem_map.1 (List.mem_of_getElem? hy)
  exact h i hi
theorem run_cases (l : List (Int × Int)) (n : Int) : (∀ y ∈ l, y.2 < n) ∨ ∃ l1 a m l2, l = l1 ++ (a, m) :: l2 ∧ (∀ y ∈ l1, y.2 < n) ∧ n ≤ m := by
  induction l with
  | nil => exact .inl (by simp)
  | cons x l ih =>
    by_cases h : n ≤ x.2
    · exact .inr ⟨[], x.1, x.2, l, rfl, by simp, h⟩
    · rcases ih with ih | ⟨l1, a, m, l2, rfl, h1, h2⟩
      · refine .inl ?_
        intro y hy
        rcases List.mem_cons.1 hy with rfl | hy
        · omega
        · exact ih y hy
      · refine .inr ⟨x :: l1, a, m, l2, rfl, ?_, h2⟩
        intro y hy
        rcases List.mem_cons.1 hy with rfl | hy
        · omega
        · exact h1 y hy

theorem xTakeNo (xb : Nat) (xlbs : List Nat) (x : XS) (n : Int) (w : World) (hX : XRep w xb xlbs x) (hl : x.l.length ≤ 65536) (hn : 1 ≤ n) (hno : ∀ y ∈ x.l, y.2 < n) :
    Calls Try.prog 114 #[.pointer (some ⟨xb, 0, none⟩), .int .i64 n] w fun e w' => e = .returned (.tuple #[.int .i64 0, .int .i64 2]) ∧ Fr [] w w' := by
  obtain ⟨sv, hb, ⟨rfl, rfl, h3⟩ | ⟨b, cap, rest, e1, rfl, e3, e4⟩⟩ := hX.s
  · exact xTakeNil xb _ _ n w hb hn
  · exact xTakeFull xb b _ _ n x.l rest cap w ⟨hb, e3, e4⟩ hl hn (ixRun_no hno)

theorem xTakeYes (xb : Nat) (xlbs : List Nat) (x : XS) (n a m : Int) (l1 l2 : List (Int × Int)) (w : World) (hX : XRep w xb xlbs x) (hl : x.l.length ≤ 65536) (hn : 1 ≤ n) (hx : x.l = l1 ++ (a, m) :: l2) (hno : ∀ y ∈ l1, y.2 < n) (hm : n ≤ m) (ha : 0 ≤ a) (ha2 : a + m ≤ 65536) :
    Calls Try.prog 114 #[.pointer (some ⟨xb, 0, none⟩), .int .i64 n] w fun e w' => e = .returned (.tuple #[.int .i64 a, .int .i64 0]) ∧ XRep w' xb xlbs { x with l := cutRun l1 a m n l2 } ∧ Fr (xb :: xlbs) w w' := by
  obtain ⟨sv, hb, ⟨rfl, rfl, h3⟩ | ⟨b, cap, rest, e1, rfl, e3, e4⟩⟩ := hX.s
  · rw [hx] at h3; simp at h3
  · have hi := ixRun_yes (l1 := l1) (l2 := l2) (a := a) hno hm
    subst e1
    rw [hx] at hb e3 e4 hl
    by_cases e : m = n
    · refine (xTakeAll xb b _ _ n a m l1 l2 rest cap w ⟨hb, e3, e4⟩ hl hn hi e ha ha2).mono ?_
      rintro e' w' ⟨rfl, hA, hF⟩
      have el : cutRun l1 a m n l2 = l1 ++ l2 := by simp only [cutRun, if_pos e]
      rw [el]
      exact ⟨rfl, ⟨_, hA.s, .inr ⟨b, cap, _, rfl, rfl, hA.c, hA.len⟩⟩, hF⟩
    · refine (xTakePart xb b _ _ n a m l1 l2 rest cap w ⟨hb, e3, e4⟩ hl hn hi (by omega) ha ha2).mono ?_
      rintro e' w' ⟨rfl, hA, hF⟩
      have el : cutRun l1 a m n l2 = l1 ++ (a + n, m - n) :: l2 := by simp only [cutRun, if_neg e]
      rw [el]
      exact ⟨rfl, ⟨_, hA.s, .inr ⟨b, cap, _, rfl, rfl, hA.c, hA.len⟩⟩, hF.here (by simp)⟩
end Go.Proofs.Ytifillpcphiblaa
