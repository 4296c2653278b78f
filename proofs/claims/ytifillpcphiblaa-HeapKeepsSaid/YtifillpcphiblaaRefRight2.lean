import Derived.Test.YtifillpcphiblaaRefRight
namespace Go.Proofs.Ytifillpcphiblaa
open Go Go.Proofs Go.RowKit

def incB : Int → List Int → Bool
  | _, [] => true
  | last, n :: r => decide (last < n) && decide (n ≤ 24) && incB n r
theorem incB_iff (last : Int) (l : List Int) : incB last l = true ↔ Inc last l := by
  induction l generalizing last with
  | nil => simp [incB, Inc]
  | cons n r ih => simp [incB, Inc, ih, and_assoc]
def rightB (W Lg : Int) (cls : List Int) : Bool :=
  decide (1 ≤ W) && decide (W ≤ 65536) && decide (0 ≤ Lg) && decide (Lg < W) && decide (1 ≤ cls.length) && decide (cls.length ≤ 6) && incB 0 cls
theorem rightB_iff (W Lg : Int) (cls : List Int) : rightB W Lg cls = true ↔ RightC W Lg cls := by
  simp only [rightB, Bool.and_eq_true, decide_eq_true_eq, incB_iff]
  constructor
  · rintro ⟨⟨⟨⟨⟨⟨h1, h2⟩, h3⟩, h4⟩, h5⟩, h6⟩, h7⟩
    exact ⟨h1, h2, h3, h4, h5, h6, h7⟩
  · rintro ⟨h1, h2, h3, h4, h5, h6, h7⟩
    exact ⟨⟨⟨⟨⟨⟨h1, h2⟩, h3⟩, h4⟩, h5⟩, h6⟩, h7⟩

set_option maxHeartbeats 1600000 in
theorem refRightBad (W Lg a b c d : Int) (sv : Value) (n : Nat) (w : World) (hs : sv = .slice none 0 0 ∧ n = 0 ∨ ∃ p cap, sv = .slice (some p) n cap) (h : ¬ (1 ≤ W ∧ W ≤ 65536 ∧ 0 ≤ Lg ∧ Lg < W ∧ 1 ≤ n ∧ n ≤ 6)) :
    Calls Try.prog 17 #[.agg #[.int .i64 W, .int .i64 Lg, .int .i64 a, .int .i64 b, .int .i64 c, .int .i64 d, sv]] w fun e w' => e = .returned (.bool false) ∧ Fr [] w w' := by
  rcases hs with ⟨rfl, rfl⟩ | ⟨p, cap, rfl⟩
  all_goals
    by_cases g1 : W < 1
    · clear h
      go_enter Try.func17, Try.ntmps17
      go_wp2_with fail
      go_ret
      exact ⟨rfl, (Fr.refl _ w).alloc _⟩
    by_cases g2 : 65536 < W
    · clear h
      go_enter Try.func17, Try.ntmps17
      go_wp2_with fail
      go_ret
      exact ⟨rfl, (Fr.refl _ w).alloc _⟩
    by_cases g3 : Lg < 0
    · clear h
      go_enter Try.func17, Try.ntmps17
      go_wp2_with fail
      go_ret
      exact ⟨rfl, (Fr.refl _ w).alloc _⟩
    by_cases g4 : W ≤ Lg
    · clear h
      go_enter Try.func17, Try.ntmps17
      go_wp2_with fail
      go_ret
      exact ⟨rfl, (Fr.refl _ w).alloc _⟩
  · clear h
    go_enter Try.func17, Try.ntmps17
    go_wp2_with fail
    go_ret
    exact ⟨rfl, (Fr.refl _ w).alloc _⟩
  · by_cases g5 : (n : Int) < 1
    · clear h
      go_enter Try.func17, Try.ntmps17
      go_wp2_with fail
      go_ret
      exact ⟨rfl, (Fr.refl _ w).alloc _⟩
    · have g6 : 6 < (n : Int) := by omega
      clear h
      go_enter Try.func17, Try.ntmps17
      go_wp2_with fail
      go_ret
      exact ⟨rfl, (Fr.refl _ w).alloc _⟩

theorem refRight (W Lg a b c d : Int) (sv : Value) (cls : List Int) (w : World) (hs : SlArg w sv cls) :
    Calls Try.prog 17 #[.agg #[.int .i64 W, .int .i64 Lg, .int .i64 a, .int .i64 b, .int .i64 c, .int .i64 d, sv]] w fun e w' => e = .returned (.bool (rightB W Lg cls)) ∧ Fr [] w w' := by
  by_cases h : 1 ≤ W ∧ W ≤ 65536 ∧ 0 ≤ Lg ∧ Lg < W ∧ 1 ≤ cls.length ∧ cls.length ≤ 6
  · obtain ⟨h1, h2, h3, h4, h5, h6⟩ := h
    rcases hs with ⟨_, e⟩ | ⟨_, _, _, e⟩ | ⟨p, o, cap, rfl, hr, hm⟩
    · rw [e] at h5; simp at h5
    · rw [e] at h5; simp at h5
    · refine refLoop W Lg a b c d cls p o cap w h1 h2 h3 h4 h5 h6 hr _ ?_
      rw [rightB_iff]
      exact ⟨fun h => h.inc, fun h => ⟨h1, h2, h3, h4, h5, h6, h⟩⟩
  · have e : rightB W Lg cls = false := by
      rw [Bool.eq_false_iff]
      intro hc
      have := (rightB_iff _ _ _).1 hc
      exact h ⟨this.w1, this.w2, this.l1, this.l2, this.n1, this.n2⟩
    rw [e]
    refine refRightBad W Lg a b c d sv cls.length w ?_ h
    rcases hs with ⟨e1, e2⟩ | ⟨p, cap, e1, e2⟩ | ⟨p, o, cap, rfl, hr, hm⟩
    · exact .inl ⟨e1, by rw [e2]; rfl⟩
    · exact .inr ⟨p, cap, by rw [e1, e2]; rfl⟩
    · exact .inr ⟨_, _, rfl⟩
end Go.Proofs.Ytifillpcphiblaa
