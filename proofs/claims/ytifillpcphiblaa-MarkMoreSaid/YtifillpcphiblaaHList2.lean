import Derived.Test.YtifillpcphiblaaHList
namespace Go.Proofs.Ytifillpcphiblaa
open Go Go.Proofs Go.RowKit Go.Shelf

attribute [local go_sem] Oper.semAt_some

/-- How many of each colour are left, and the rows so far. -/
structure LSt where
  a : Nat
  b : Nat
  c : Nat
  d : Nat
  A : List Int
  B : List Int
  C : List Int
  D : List Int
def LSt.ls (s : LSt) : List Nat := [s.a, s.b, s.c, s.d]
def LSt.os (s : LSt) : List (List Int) := [s.A, s.B, s.C, s.D]
def LSt.left (s : LSt) : Nat := s.a + s.b + s.c + s.d
def LSt.ix (s : LSt) : Nat := if s.a ≠ 0 then 0 else if s.b ≠ 0 then 1 else if s.c ≠ 0 then 2 else 3
def LSt.step (s : LSt) (x : Int) : LSt :=
  if s.a ≠ 0 then { s with a := s.a - 1, A := s.A ++ [x] } else if s.b ≠ 0 then { s with b := s.b - 1, B := s.B ++ [x] } else if s.c ≠ 0 then { s with c := s.c - 1, C := s.C ++ [x] } else { s with d := s.d - 1, D := s.D ++ [x] }
def LSt.steps (s : LSt) (l : List Int) : LSt := l.foldl LSt.step s

theorem LSt.phaseA (b c d : Nat) (B C D : List Int) : ∀ (X A : List Int), (⟨X.length, b, c, d, A, B, C, D⟩ : LSt).steps X = ⟨0, b, c, d, A ++ X, B, C, D⟩
  | [], A => by simp [LSt.steps]
  | x :: X, A => by
    have := LSt.phaseA b c d B C D X (A ++ [x])
    simp only [LSt.steps, List.foldl_cons, LSt.step, List.length_cons] at this ⊢
    simpa using this
theorem LSt.phaseB (c d : Nat) (A C D : List Int) : ∀ (X B : List Int), (⟨0, X.length, c, d, A, B, C, D⟩ : LSt).steps X = ⟨0, 0, c, d, A, B ++ X, C, D⟩
  | [], B => by simp [LSt.steps]
  | x :: X, B => by
    have := LSt.phaseB c d A C D X (B ++ [x])
    simp only [LSt.steps, List.foldl_cons, LSt.step, List.length_cons] at this ⊢
    simpa using this
theorem LSt.phaseC (d : Nat) (A B D : List Int) : ∀ (X C : List Int), (⟨0, 0, X.length, d, A, B, C, D⟩ : LSt).steps X = ⟨0, 0, 0, d, A, B, C ++ X, D⟩
  | [], C => by simp [LSt.steps]
  | x :: X, C => by
    have := LSt.phaseC d A B D X (C ++ [x])
    simp only [LSt.steps, List.foldl_cons, LSt.step, List.length_cons] at this ⊢
    simpa using this
theorem LSt.phaseD (A B C : List Int) : ∀ (X D : List Int), (⟨0, 0, 0, X.length, A, B, C, D⟩ : LSt).steps X = ⟨0, 0, 0, 0, A, B, C, D ++ X⟩
  | [], D => by simp [LSt.steps]
  | x :: X, D => by
    have := LSt.phaseD A B C X (D ++ [x])
    simp only [LSt.steps, List.foldl_cons, LSt.step, List.length_cons] at this ⊢
    simpa using this
theorem LSt.steps_append (s : LSt) (l l' : List Int) : s.steps (l ++ l') = (s.steps l).steps l' := by simp [LSt.steps]
theorem LSt.whole (R : Rows) : (⟨R.W.length, R.F.length, R.G.length, R.B.length, [], [], [], []⟩ : LSt).steps R.all = ⟨0, 0, 0, 0, R.W, R.F, R.G, R.B⟩ := by
  unfold Rows.all
  rw [LSt.steps_append, LSt.phaseA, LSt.steps_append, LSt.phaseB, LSt.steps_append, LSt.phaseC, LSt.phaseD]
  simp
theorem LSt.left_step (s : LSt) (x : Int) (h : 0 < s.left) : (s.step x).left + 1 = s.left := by
  unfold LSt.step LSt.left at *
  split
  · simp only; omega
  · split
    · simp only; omega
    · split <;> simp only <;> omega
theorem LSt.left_steps (s : LSt) (l : List Int) (h : l.length ≤ s.left) : (s.steps l).left + l.length = s.left := by
  induction l generalizing s with
  | nil => simp [LSt.steps]
  | cons x l ih =>
    have h1 := s.left_step x (by simp at h; omega)
    have h2 := ih (s.step x) (by simp at h; omega)
    simp only [LSt.steps, List.foldl_cons, List.length_cons] at h2 ⊢
    omega
theorem LSt.ix_lt (s : LSt) : s.ix < 4 := by unfold LSt.ix; split; (· omega); split; (· omega); split <;> omega
theorem LSt.ix_at (s : LSt) (h : 0 < s.left) (x : Int) : ∃ m xs, s.ls[s.ix]? = some (m + 1) ∧ s.os[s.ix]? = some xs ∧ (s.step x).ls = s.ls.set s.ix m ∧ (s.step x).os = s.os.set s.ix (xs ++ [x]) ∧ m < s.left ∧ ∀ j, j < s.ix → s.ls[j]? = some 0 := by
  unfold LSt.left at h
  unfold LSt.ix LSt.step LSt.ls LSt.os
  by_cases ha : s.a = 0
  · by_cases hb : s.b = 0
    · by_cases hc : s.c = 0
      · simp only [ha, hb, hc, ne_eq, not_true_eq_false, if_false]
        refine ⟨s.d - 1, s.D, by simp; omega, rfl, rfl, rfl, by unfold LSt.left; omega, ?_⟩
        intro j hj
        rcases (by omega : j = 0 ∨ j = 1 ∨ j = 2) with rfl | rfl | rfl <;> rfl
      · simp only [ha, hb, hc, ne_eq, not_true_eq_false, not_false_eq_true, if_false, if_true]
        refine ⟨s.c - 1, s.C, by simp; omega, rfl, rfl, rfl, by unfold LSt.left; omega, ?_⟩
        intro j hj
        rcases (by omega : j = 0 ∨ j = 1) with rfl | rfl <;> rfl
    · simp only [ha, hb, ne_eq, not_true_eq_false, not_false_eq_true, if_false, if_true]
      refine ⟨s.b - 1, s.B, by simp; omega, rfl, rfl, rfl, by unfold LSt.left; omega, ?_⟩
      intro j hj
      obtain rfl : j = 0 := by omega
      rfl
  · simp only [ha, ne_eq, not_false_eq_true, if_true]
    refine ⟨s.a - 1, s.A, by simp; omega, rfl, rfl, rfl, by unfold LSt.left; omega, ?_⟩
    intro j hj
    omega

/-- Slices that hold rows, each its own. -/
structure Own4 (W : World) (base : Nat) (vs : List Value) (os : List (List Int)) : Prop where
  len : vs.length = 4
  row : ∀ (i : Nat) (v : Value) (xs : List Int), vs[i]? = some v → os[i]? = some xs → W.ownsRow base 3 1 v xs.length (intv xs)
  far : ∀ (i j : Nat) (v v' : Value), i ≠ j → vs[i]? = some v → vs[j]? = some v' → ∀ g, v.ownBlock = some g → v'.ownBlock ≠ some g
theorem Own4.fr {S : List Nat} {W W' : World} {base : Nat} {vs : List Value} {os : List (List Int)} (h : Own4 W base vs os) (hf : Fr S W W') (hS : ∀ v ∈ vs, ∀ g, v.ownBlock = some g → g ∉ S) : Own4 W' base vs os :=
  ⟨h.len, fun i v xs h1 h2 => ownsRow_fr (h.row i v xs h1 h2) hf (hS v (List.mem_of_getElem? h1)), h.far⟩
theorem own_lt {w : World} {B : Nat} {T : TypeId} {v : Value} {n z : Nat} {xs : List Value} (h : w.ownsRow B T z v n xs) {g : Nat} (hg : v.ownBlock = some g) : B ≤ g ∧ g < w.heap.size := by
  obtain ⟨_, h | ⟨g', cap', cur, hv, hg', hh, _⟩⟩ := h
  · rw [h.1] at hg; simp [Value.ownBlock] at hg
  · rw [hv] at hg; simp [Value.ownBlock] at hg; subst hg; exact ⟨hg', (Array.getElem?_eq_some_iff.1 hh).1⟩
theorem own_cells {w : World} {B : Nat} {T : TypeId} {v : Value} {n z : Nat} {xs : List Value} (h : w.ownsRow B T z v n xs) {g : Nat} (hg : v.ownBlock = some g) : ∀ o, w.heap[g]? = some o → o.isCells = true := by
  obtain ⟨_, h | ⟨g', cap', cur, hv, hg', hh, _⟩⟩ := h
  · rw [h.1] at hg; simp [Value.ownBlock] at hg
  · rw [hv] at hg; simp [Value.ownBlock] at hg; subst hg
    intro o ho; rw [hh] at ho; cases ho; rfl

structure LI (cb lf ob base : Nat) (st : LSt) (W : World) : Prop where
  ex : ∃ k vs, Blk W cb [.int .i64 (k : Nat)] 3 ∧ Blk W lf (nats st.ls) 180 ∧ Blk W ob vs 58 ∧ Own4 W base vs st.os ∧ k ≤ 3 ∧ ∀ j, j < k → st.ls[j]? = some 0

theorem Own4.at {W : World} {base : Nat} {vs : List Value} {os : List (List Int)} (h : Own4 W base vs os) (ho : os.length = 4) {v : Value} (hv : v ∈ vs) : ∃ xs : List Int, W.ownsRow base 3 1 v xs.length (intv xs) := by
  obtain ⟨i, hi, rfl⟩ := List.getElem_of_mem hv
  have := h.len
  exact ⟨os[i]'(by omega), h.row i _ _ (List.getElem?_eq_getElem hi) (List.getElem?_eq_getElem (by omega))⟩

theorem LI.fr {S : List Nat} {cb lf ob base : Nat} {st : LSt} {W W' : World} (h : LI cb lf ob base st W) (hf : Fr S W W') (hS : ∀ b ∈ S, b ≠ cb ∧ b ≠ lf ∧ b ≠ ob ∧ (b < base ∨ ∃ o, W.heap[b]? = some o ∧ o.isCells = false)) : LI cb lf ob base st W' := by
  obtain ⟨k, vs, h1, h2, h3, h4, h5, h6⟩ := h.ex
  refine ⟨k, vs, h1.fr hf (fun hc => (hS _ hc).1 rfl), h2.fr hf (fun hc => (hS _ hc).2.1 rfl), h3.fr hf (fun hc => (hS _ hc).2.2.1 rfl), h4.fr hf ?_, h5, h6⟩
  intro v hv g hg hc
  obtain ⟨xs, hx⟩ := h4.at rfl hv
  have h7 := own_lt hx hg
  rcases (hS g hc).2.2.2 with h | ⟨o, ho, hoc⟩
  · omega
  · have := own_cells hx hg o ho
    rw [this] at hoc; cases hoc

set_option maxRecDepth 100000 in
set_option maxHeartbeats 2000000 in
/-- One cell more. -/
theorem listStep_LI (cb lf rwb ob base : Nat) (st : LSt) (c : Int) (W : World) (hI : LI cb lf ob base st W) (hl : 0 < st.left) (hl2 : st.left ≤ 65536) (hlen : ∀ xs ∈ st.os, xs.length ≤ 65536)
    (hr : Blk W rwb [.pointer (some ⟨ob, 0, none⟩), .pointer (some ⟨ob, 1, none⟩), .pointer (some ⟨ob, 2, none⟩), .pointer (some ⟨ob, 3, none⟩)] 196)
    (d1 : cb ≠ lf) (d2 : cb ≠ rwb) (d3 : cb ≠ ob) (d4 : lf ≠ rwb) (d5 : lf ≠ ob) (d6 : rwb ≠ ob) (b1 : cb < base) (b2 : lf < base) (b3 : rwb < base) (b4 : ob < base) (hb : base ≤ W.heap.size) :
    Calls Try.prog 128 #[.int .i64 c, .pointer (some ⟨lf, 0, none⟩), .pointer (some ⟨cb, 0, none⟩), .pointer (some ⟨rwb, 0, none⟩)] W fun e W' => e = .returned (.tuple #[]) ∧ LI cb lf ob base (st.step c) W' ∧ ∃ S, Fr (cb :: lf :: ob :: S) W W' ∧ ∀ g ∈ S, base ≤ g ∧ ∀ o, W.heap[g]? = some o → o.isCells = true := by
  obtain ⟨k, vs, h1, h2, h3, h4, h5, h6⟩ := hI.ex
  obtain ⟨m, xs, g1, g2, g3, g4, g5, g6⟩ := st.ix_at hl c
  have hix := st.ix_lt
  have hkix : k ≤ st.ix := by
    rcases Nat.lt_or_ge st.ix k with h | h
    · have := h6 _ h; rw [g1] at this; cases this
    · exact h
  obtain ⟨v, hv⟩ : ∃ v, vs[st.ix]? = some v := ⟨_, List.getElem?_eq_getElem (by rw [h4.len]; exact hix)⟩
  have hown := h4.row _ _ _ hv g2
  refine (listStep cb lf rwb ob base k st.ix m xs.length st.ls vs v xs c W h1 h2 hr h3 hkix hix (fun j _ hj => g6 j hj) g1 (by omega) hv hown (hlen xs (List.mem_of_getElem? g2)) d1 d2 d3 d4 d5 d6 b1 b2 b3 b4 hb).mono ?_
  rintro e W' ⟨rfl, g, cap, k1, k2, k3, k4, k5, k6⟩
  refine ⟨rfl, ⟨st.ix, _, k1, by rw [g3]; exact k2, k3, ⟨by simp [h4.len], ?_, ?_⟩, by omega, ?_⟩, v.ownBlock.toList, k6, ?_⟩
  · intro i v' xs' hi hx
    rw [g4] at hx
    by_cases e : st.ix = i
    · subst e
      rw [List.getElem?_set_self (by rw [h4.len]; exact hix)] at hi
      rw [List.getElem?_set_self (by exact hix)] at hx
      cases hi; cases hx
      simpa using k4
    · rw [List.getElem?_set_ne e] at hi hx
      refine ownsRow_fr (h4.row i v' xs' hi hx) k6 ?_
      intro g' hg' hc
      have hlt := own_lt (h4.row i v' xs' hi hx) hg'
      rcases List.mem_cons.1 hc with rfl | hc
      · omega
      rcases List.mem_cons.1 hc with rfl | hc
      · omega
      rcases List.mem_cons.1 hc with rfl | hc
      · omega
      · exact h4.far i st.ix v' v (Ne.symm e) hi hv g' hg' (by simpa using hc)
  · intro i j u u' hij hi hj g' hg' hc
    by_cases e : st.ix = i
    · subst e
      rw [List.getElem?_set_self (by rw [h4.len]; exact hix)] at hi
      rw [List.getElem?_set_ne hij] at hj
      cases hi
      simp [Value.ownBlock] at hg'
      subst hg'
      have hj4 : j < 4 := by rw [← h4.len]; exact (List.getElem?_eq_some_iff.1 hj).1
      have hlt := own_lt (h4.row j u' _ hj (List.getElem?_eq_getElem (by exact hj4))) hc
      rcases k5 with h | h
      · exact h4.far st.ix j v u' hij hv hj g h hc
      · omega
    · rw [List.getElem?_set_ne e] at hi
      by_cases e2 : st.ix = j
      · subst e2
        rw [List.getElem?_set_self (by rw [h4.len]; exact hix)] at hj
        cases hj
        simp [Value.ownBlock] at hc
        subst hc
        have hi4 : i < 4 := by rw [← h4.len]; exact (List.getElem?_eq_some_iff.1 hi).1
        have hlt := own_lt (h4.row i u _ hi (List.getElem?_eq_getElem (by exact hi4))) hg'
        rcases k5 with h | h
        · exact h4.far i st.ix u v (Ne.symm e) hi hv g hg' h
        · omega
      · rw [List.getElem?_set_ne e2] at hj
        exact h4.far i j u u' hij hi hj g' hg' hc
  · intro j hj
    rw [g3, List.getElem?_set_ne (by omega)]
    exact g6 j hj
  · intro g' hg'
    have hg2 : v.ownBlock = some g' := by simpa using hg'
    exact ⟨(own_lt hown hg2).1, own_cells hown hg2⟩
end Go.Proofs.Ytifillpcphiblaa
