import Derived.Test.YtifillpcphiblaaGreatMMHNew
namespace Go.Proofs.YtifillpcphiblaaGreat
open Go Go.Proofs Go.RowKit

/-! A run is given back: the places that are free are just those in the runs still. Plain laws. -/

theorem cov_cons {x : Int × Int} {l : List (Int × Int)} {p : Int} : Cov (x :: l) p ↔ (x.1 ≤ p ∧ p < x.1 + x.2) ∨ Cov l p := by
  unfold Cov
  constructor
  · rintro ⟨y, hy, h⟩
    rcases List.mem_cons.1 hy with rfl | hy
    · exact .inl h
    · exact .inr ⟨y, hy, h⟩
  · rintro (h | ⟨y, hy, h⟩)
    · exact ⟨x, by simp, h⟩
    · exact ⟨y, by simp [hy], h⟩
theorem cov_app {l l' : List (Int × Int)} {p : Int} : Cov (l ++ l') p ↔ Cov l p ∨ Cov l' p := by
  unfold Cov
  constructor
  · rintro ⟨y, hy, h⟩
    rcases List.mem_append.1 hy with hy | hy
    · exact .inl ⟨y, hy, h⟩
    · exact .inr ⟨y, hy, h⟩
  · rintro (⟨y, hy, h⟩ | ⟨y, hy, h⟩)
    · exact ⟨y, by simp [hy], h⟩
    · exact ⟨y, by simp [hy], h⟩
theorem cov_joinR {l : List (Int × Int)} (h : ∀ x ∈ l, 1 ≤ x.2) {p : Int} : Cov (joinR l) p ↔ Cov l p := by
  match l, h with
  | [], _ => exact Iff.rfl
  | [_], _ => exact Iff.rfl
  | x :: y :: r, h =>
    by_cases e : x.1 + x.2 = y.1
    · rw [joinR_yes e, cov_cons, cov_cons, cov_cons]
      have h1 := h x (by simp)
      have h2 := h y (by simp)
      simp only
      constructor
      · rintro (⟨a, b⟩ | a)
        · by_cases c : p < x.1 + x.2
          · exact .inl ⟨a, c⟩
          · exact .inr (.inl ⟨by omega, by omega⟩)
        · exact .inr (.inr a)
      · rintro (⟨a, b⟩ | ⟨a, b⟩ | a)
        · exact .inl ⟨a, by omega⟩
        · exact .inl ⟨by omega, by omega⟩
        · exact .inr a
    · rw [joinR_no e]
theorem joinR_pos {l : List (Int × Int)} (h : ∀ x ∈ l, 1 ≤ x.2) : ∀ x ∈ joinR l, 1 ≤ x.2 := by
  match l, h with
  | [], h => exact h
  | [_], h => exact h
  | x :: y :: r, h =>
    by_cases e : x.1 + x.2 = y.1
    · rw [joinR_yes e]
      intro u hu
      rcases List.mem_cons.1 hu with rfl | hu
      · have h1 := h x (by simp)
        have h2 := h y (by simp)
        show 1 ≤ x.2 + y.2
        omega
      · exact h u (by simp [hu])
    · rw [joinR_no e]; exact h
theorem norm_joinR {x : Int × Int} {l : List (Int × Int)} (hn : Norm l) (hx : ∀ y, l.head? = some y → x.1 + x.2 ≤ y.1) : ∃ n r, joinR (x :: l) = (x.1, n) :: r ∧ Norm ((x.1, n) :: r) := by
  cases l with
  | nil => exact ⟨x.2, [], rfl, trivial⟩
  | cons y r =>
    by_cases e : x.1 + x.2 = y.1
    · rw [joinR_yes e]
      refine ⟨_, _, rfl, ?_⟩
      cases r with
      | nil => trivial
      | cons z r => exact ⟨by have := hn.1; show x.1 + (x.2 + y.2) < z.1; omega, hn.2⟩
    · rw [joinR_no e]
      have := hx y rfl
      exact ⟨x.2, y :: r, rfl, by show x.1 + x.2 < y.1; omega, hn⟩
theorem norm_app {l : List (Int × Int)} {x : Int × Int} {n : Int} {r : List (Int × Int)} (h : Norm (l ++ [x])) (h2 : Norm ((x.1, n) :: r)) : Norm (l ++ (x.1, n) :: r) := by
  induction l with
  | nil => exact h2
  | cons y l ih =>
    cases l with
    | nil => exact ⟨h.1, h2⟩
    | cons z l => exact ⟨h.1, ih h.2⟩
theorem norm_left {l l' : List (Int × Int)} (h : Norm (l ++ l')) : Norm l := by
  induction l with
  | nil => trivial
  | cons y l ih =>
    cases l with
    | nil => trivial
    | cons z l => exact ⟨h.1, ih h.2⟩
theorem norm_right {l l' : List (Int × Int)} (h : Norm (l ++ l')) : Norm l' := by
  induction l with
  | nil => exact h
  | cons y l ih => exact ih h.tail

theorem give_form (l : List (Int × Int)) (k : Nat) (hk : k ≤ l.length) (a n : Int) : (k = 0 ∧ giveAt l k a n = joinR ((a, n) :: l)) ∨ ∃ l1 x l2, l = l1 ++ x :: l2 ∧ k = l1.length + 1 ∧ giveAt l k a n = l1 ++ joinR (x :: joinR ((a, n) :: l2)) := by
  cases k with
  | zero => exact .inl ⟨rfl, by simp [giveAt, putAt, joinAt]⟩
  | succ j =>
    right
    obtain ⟨x, hx⟩ : ∃ x, l[j]? = some x := ⟨_, List.getElem?_eq_getElem (by omega)⟩
    have hj : j < l.length := by omega
    have e1 : l.take (j + 1) = l.take j ++ [x] := by rw [List.take_add_one, hx]; rfl
    have e2 : l = l.take j ++ x :: l.drop (j + 1) := by
      have := List.take_append_drop (j + 1) l
      rw [e1] at this
      simpa using this.symm
    refine ⟨l.take j, x, l.drop (j + 1), e2, by rw [List.length_take]; omega, ?_⟩
    have hl1 : (l.take (j + 1)).length = j + 1 := by rw [List.length_take]; omega
    have hl0 : (l.take j).length = j := by rw [List.length_take]; omega
    unfold giveAt
    simp only
    have h1 := joinAt_append (l.take (j + 1)) ((a, n) :: l.drop (j + 1))
    rw [hl1] at h1
    unfold putAt
    rw [h1, e1]
    have h2 := joinAt_append (l.take j) (x :: joinR ((a, n) :: l.drop (j + 1)))
    rw [hl0] at h2
    rw [List.append_assoc]
    exact h2

/-- n places from k on are given back. -/
def setT (bits : List Bool) (k : Nat) : Nat → List Bool
  | 0 => bits
  | n + 1 => (setT bits k n).set (k + n) true
theorem setT_len (bits : List Bool) (k n : Nat) : (setT bits k n).length = bits.length := by induction n with | zero => rfl | succ n ih => simp [setT, ih]
theorem setT_bit (bits : List Bool) (k n j : Nat) (hj : j < bits.length) : bitAt (setT bits k n) j = (bitAt bits j || (decide (k ≤ j) && decide (j < k + n))) := by
  induction n with
  | zero =>
    have : (decide (k ≤ j) && decide (j < k + 0)) = false := by simp
    simp only [setT, this, Bool.or_false]
  | succ n ih =>
    simp only [setT]
    unfold bitAt at ih ⊢
    by_cases e : j = k + n
    · subst e
      rw [List.getElem?_set_self (by rw [setT_len]; exact hj)]
      simp
    · rw [List.getElem?_set_ne (Ne.symm e), ih]
      congr 1
      rw [Bool.eq_iff_iff]
      simp
      omega
theorem Same3.give {first : Int} {bits : List Bool} {l : List (Int × Int)} {k n : Nat} (h : Same3 first bits l) (hn : 1 ≤ n) (hk : k + n ≤ bits.length) (ho : Off (first + k) n l) : Same3 first (setT bits k n) (giveAt l (spotOf l (first + k)) (first + k) n) := by
  have hs := spotOf_spot (a := first + k) (n := n) (by omega) h.runs ho
  have hpos : ∀ x ∈ l, 1 ≤ x.2 := fun x hx => (h.runs.mem x hx).2.1
  have hcov : ∀ p, Cov (giveAt l (spotOf l (first + k)) (first + k) n) p ↔ Cov l p ∨ (first + k ≤ p ∧ p < first + k + n) := by
    intro p
    rcases give_form l _ hs.le (first + k) n with ⟨_, e⟩ | ⟨l1, x, l2, e1, _, e2⟩
    · rw [e, cov_joinR (by intro x hx; rcases List.mem_cons.1 hx with rfl | hx; (· show 1 ≤ (n : Int); omega); (· exact hpos x hx)), cov_cons]
      exact or_comm
    · rw [e2, cov_app, e1, cov_app]
      have hp2 : ∀ y ∈ (first + (k : Int), (n : Int)) :: l2, 1 ≤ y.2 := by
        intro y hy
        rcases List.mem_cons.1 hy with rfl | hy
        · show 1 ≤ (n : Int); omega
        · exact hpos y (by rw [e1]; simp [hy])
      rw [cov_joinR (by
        intro y hy
        rcases List.mem_cons.1 hy with rfl | hy
        · exact hpos y (by rw [e1]; simp)
        · exact joinR_pos hp2 y hy), cov_cons, cov_joinR hp2, cov_cons, cov_cons]
      constructor
      · rintro (h | h | h | h)
        · exact .inl (.inl h)
        · exact .inl (.inr (.inl h))
        · exact .inr h
        · exact .inl (.inr (.inr h))
      · rintro ((h | h | h) | h)
        · exact .inl h
        · exact .inr (.inl h)
        · exact .inr (.inr (.inr h))
        · exact .inr (.inr (.inl h))
  refine ⟨?_, ?_, fun j hj => ?_⟩
  · rw [setT_len]
    exact giveAt_runs (by omega) (by omega) (by omega) h.runs hs
  · rcases give_form l _ hs.le (first + k) n with ⟨e0, e⟩ | ⟨l1, x, l2, e1, e0, e2⟩
    · rw [e]
      have hhi := hs.hi
      rw [e0, List.drop_zero] at hhi
      obtain ⟨n', r, g1, g2⟩ := norm_joinR (x := (first + (k : Int), (n : Int))) h.norm (fun y hy => hhi y (List.mem_of_head? hy))
      rw [g1]; exact g2
    · have hhi := hs.hi
      have hlo := hs.lo
      rw [e0, e1] at hhi hlo
      have d1 : (l1 ++ x :: l2).drop (l1.length + 1) = l2 := by rw [List.drop_append]; simp
      have d2 : (l1 ++ x :: l2).take (l1.length + 1) = l1 ++ [x] := by
        rw [show l1 ++ x :: l2 = (l1 ++ [x]) ++ l2 by simp]
        exact List.take_left' (by simp)
      rw [d1] at hhi
      rw [d2] at hlo
      have hnl := h.norm
      rw [e1] at hnl
      have hn2 : Norm l2 := (norm_right hnl).tail
      have hn1 : Norm (l1 ++ [x]) := by
        have : l1 ++ x :: l2 = (l1 ++ [x]) ++ l2 := by simp
        rw [this] at hnl
        exact norm_left hnl
      obtain ⟨n', r, g1, g2⟩ := norm_joinR (x := (first + (k : Int), (n : Int))) hn2 (fun y hy => hhi y (List.mem_of_head? hy))
      obtain ⟨n'', r', g3, g4⟩ := norm_joinR (x := x) g2 (fun y hy => by
        obtain rfl : (first + (k : Int), n') = y := by simpa using hy
        exact hlo x (by simp))
      rw [e2, g1, g3]
      exact norm_app hn1 g4
  · rw [setT_len] at hj
    rw [setT_bit _ _ _ _ hj, hcov, ← h.bit j hj]
    simp only [Bool.or_eq_true, Bool.and_eq_true, decide_eq_true_eq]
    constructor
    · rintro (h | ⟨a, b⟩)
      · exact .inl h
      · exact .inr ⟨by omega, by omega⟩
    · rintro (h | ⟨a, b⟩)
      · exact .inl h
      · exact .inr ⟨by omega, by omega⟩
end Go.Proofs.YtifillpcphiblaaGreat

namespace Go.Proofs.YtifillpcphiblaaGreat
open Go Go.Proofs Go.RowKit

/-! heap.New of a configuration that may not be. -/

set_option maxHeartbeats 1600000 in
theorem hRightBad (W Lg a b c d : Int) (sv : Value) (n : Nat) (w : World) (hs : sv = .slice none 0 0 ∧ n = 0 ∨ ∃ p cap, sv = .slice (some p) n cap) (h : ¬ (1 ≤ W ∧ W ≤ 65536 ∧ 0 ≤ Lg ∧ Lg < W ∧ 1 ≤ n ∧ n ≤ 6)) :
    Calls Tryz.prog 14 #[.agg #[.int .i64 W, .int .i64 Lg, .int .i64 a, .int .i64 b, .int .i64 c, .int .i64 d, sv]] w fun e w' => e = .returned (.bool false) ∧ Fr [] w w' := by
  rcases hs with ⟨rfl, rfl⟩ | ⟨p, cap, rfl⟩
  all_goals
    by_cases g1 : W < 1
    · clear h
      go_enter Tryz.func14, Tryz.ntmps14
      go_wp2_with fail
      go_ret
      exact ⟨rfl, (Fr.refl _ w).alloc _⟩
    by_cases g2 : 65536 < W
    · clear h
      go_enter Tryz.func14, Tryz.ntmps14
      go_wp2_with fail
      go_ret
      exact ⟨rfl, (Fr.refl _ w).alloc _⟩
    by_cases g3 : Lg < 0
    · clear h
      go_enter Tryz.func14, Tryz.ntmps14
      go_wp2_with fail
      go_ret
      exact ⟨rfl, (Fr.refl _ w).alloc _⟩
    by_cases g4 : W ≤ Lg
    · clear h
      go_enter Tryz.func14, Tryz.ntmps14
      go_wp2_with fail
      go_ret
      exact ⟨rfl, (Fr.refl _ w).alloc _⟩
  · clear h
    go_enter Tryz.func14, Tryz.ntmps14
    go_wp2_with fail
    go_ret
    exact ⟨rfl, (Fr.refl _ w).alloc _⟩
  · by_cases g5 : (n : Int) < 1
    · clear h
      go_enter Tryz.func14, Tryz.ntmps14
      go_wp2_with fail
      go_ret
      exact ⟨rfl, (Fr.refl _ w).alloc _⟩
    · have g6 : 6 < (n : Int) := by omega
      clear h
      go_enter Tryz.func14, Tryz.ntmps14
      go_wp2_with fail
      go_ret
      exact ⟨rfl, (Fr.refl _ w).alloc _⟩

set_option maxHeartbeats 1600000 in
theorem hRightInc (W Lg a b c d : Int) (cls : List Int) (cb o cap : Nat) (w : World) (w1 : 1 ≤ W) (w2 : W ≤ 65536) (l1 : 0 ≤ Lg) (l2 : Lg < W) (n1 : 1 ≤ cls.length) (n2 : cls.length ≤ 6) (hr : RdAt w cb o (cls.map (.int .i64))) (hno : ¬ Inc 0 cls) :
    Calls Tryz.prog 14 #[.agg #[.int .i64 W, .int .i64 Lg, .int .i64 a, .int .i64 b, .int .i64 c, .int .i64 d, .slice (some ⟨cb, o, none⟩) cls.length cap]] w fun e w' => e = .returned (.bool false) ∧ Fr [] w w' := by
  have hl := hr.1
  have g1 : ¬ W < 1 := by omega
  have g2 : ¬ 65536 < W := by omega
  have g3 : ¬ Lg < 0 := by omega
  have g4 : ¬ W ≤ Lg := by omega
  have g5 : ¬ (cls.length : Int) < 1 := by omega
  have g6 : ¬ 6 < (cls.length : Int) := by omega
  have HNO := hid hno
  clear hno
  go_enter Tryz.func14, Tryz.ntmps14
  go_wp2_with fail
  go_loop [3, 41] (fun v i => ∃ (k : Nat) (last : Int), k ≤ cls.length ∧ i = .int .i64 k ∧ v = .int .i64 last ∧ Hid (¬ Inc last (cls.drop k))) (fun _ i => cls.length - (intOf i).toNat)
  case atStart => exact ⟨0, 0, Nat.zero_le _, rfl, rfl, HNO.out⟩
  case round =>
    obtain ⟨k, last, hk, rfl, rfl, hI⟩ := hrel
    have HI := hid hI.out
    clear hI
    by_cases hlt : k < cls.length
    · obtain ⟨x, hx⟩ : ∃ x, cls[k]? = some x := ⟨_, List.getElem?_eq_getElem hlt⟩
      have hI := HI.out
      rw [drop_getElem? hx] at hI
      have hck : w.cell? ⟨cb, o + k, none⟩ = some (.int .i64 x) := hr.2 k _ (by simp [hx])
      have HI2 := hid hI
      clear hx hI
      by_cases j1 : x ≤ last
      · go_wp2_with fail
        go_ret
        exact ⟨rfl, (Fr.refl _ w).alloc _⟩
      by_cases j2 : 24 < x
      · go_wp2_with fail
        go_ret
        exact ⟨rfl, (Fr.refl _ w).alloc _⟩
      have I3 := hid (show ¬ Inc x (cls.drop (k + 1)) from fun hc => HI2.out ⟨by omega, by omega, hc⟩)
      go_wp2_with fail
      go_round
      case rel => exact ⟨k + 1, x, by omega, by go_num, rfl, I3⟩
      case measure => simp [intOf]; omega
    · exfalso
      have hI := HI.out
      rw [List.drop_eq_nil_of_le (by omega)] at hI
      exact hI trivial

theorem hRightNo (W Lg a b c d : Int) (sv : Value) (cls : List Int) (w : World) (hs : SlArg w sv cls) (h : rightB W Lg cls = false) :
    Calls Tryz.prog 14 #[.agg #[.int .i64 W, .int .i64 Lg, .int .i64 a, .int .i64 b, .int .i64 c, .int .i64 d, sv]] w fun e w' => e = .returned (.bool false) ∧ Fr [] w w' := by
  by_cases hc : 1 ≤ W ∧ W ≤ 65536 ∧ 0 ≤ Lg ∧ Lg < W ∧ 1 ≤ cls.length ∧ cls.length ≤ 6
  · obtain ⟨h1, h2, h3, h4, h5, h6⟩ := hc
    have hno : ¬ Inc 0 cls := by
      intro hi
      have := (rightB_iff W Lg cls).2 ⟨h1, h2, h3, h4, h5, h6, hi⟩
      rw [h] at this; cases this
    rcases hs with ⟨_, e⟩ | ⟨_, _, _, e⟩ | ⟨p, o, cap, rfl, hr, hm⟩
    · rw [e] at h5; simp at h5
    · rw [e] at h5; simp at h5
    · exact hRightInc W Lg a b c d cls p o cap w h1 h2 h3 h4 h5 h6 hr hno
  · refine hRightBad W Lg a b c d sv cls.length w ?_ hc
    rcases hs with ⟨e1, e2⟩ | ⟨p, cap, e1, e2⟩ | ⟨p, o, cap, rfl, hr, hm⟩
    · exact .inl ⟨e1, by rw [e2]; rfl⟩
    · exact .inr ⟨p, cap, by rw [e1, e2]; rfl⟩
    · exact .inr ⟨_, _, rfl⟩

set_option maxHeartbeats 1600000 in
theorem hNewNo (W Lg a b c d : Int) (sv : Value) (cls : List Int) (w : World) (hs : SlArg w sv cls) (h : rightB W Lg cls = false) :
    Calls Tryz.prog 5 #[.agg #[.int .i64 W, .int .i64 Lg, .int .i64 a, .int .i64 b, .int .i64 c, .int .i64 d, sv]] w fun e w' => e = .returned (.tuple #[.pointer none, .int .i64 1]) ∧ Fr [] w w' := by
  have B := Blk.new w [.int .i64 W, .int .i64 Lg, .int .i64 a, .int .i64 b, .int .i64 c, .int .i64 d, sv] 24
  have hs1 := hs.fr ((Fr.refl [] w).alloc (.cells #[.int .i64 W, .int .i64 Lg, .int .i64 a, .int .i64 b, .int .i64 c, .int .i64 d, sv] 24)) (by simp)
  have hsv : ∃ p cap, sv = .slice p cls.length cap := by
    rcases hs with ⟨e1, e2⟩ | ⟨p, cap, e1, e2⟩ | ⟨p, o, cap, e, _⟩
    · exact ⟨none, 0, by rw [e1, e2]; rfl⟩
    · exact ⟨some p, cap, by rw [e1, e2]; rfl⟩
    · exact ⟨_, cap, e⟩
  obtain ⟨p, cap, rfl⟩ := hsv
  have hF : Fr [] w (w.alloc (.cells #[.int .i64 W, .int .i64 Lg, .int .i64 a, .int .i64 b, .int .i64 c, .int .i64 d, .slice p cls.length cap] 24)) := (Fr.refl _ w).alloc _
  have hno := hRightNo W Lg a b c d _ cls _ hs1 h
  have HNO := hid hno
  have HF := hid hF
  have c0 := B.cell (i := 0) rfl
  have c1 := B.cell (i := 1) rfl
  have c2 := B.cell (i := 2) rfl
  have c3 := B.cell (i := 3) rfl
  have c4 := B.cell (i := 4) rfl
  have c5 := B.cell (i := 5) rfl
  have c6 := B.cell (i := 6) rfl
  clear B hs hs1 hF hno
  go_enter Tryz.func5, Tryz.ntmps5
  go_wp2_with fail
  refine HNO.out.mono ?_
  rintro e w1 ⟨rfl, hF1⟩
  have HF1 := hid hF1
  clear hF1 c0 c1 c2 c3 c4 c5 c6
  go_wp2_with fail
  refine bodyPost_ret (v := .tuple #[.pointer none, .int .i64 1]) (by simp [results, Tryz.results5, go_sem]) rfl ⟨rfl, HF.out.trans HF1.out⟩
end Go.Proofs.YtifillpcphiblaaGreat
