import Derived.Test.YtifillpcphiblaaPGive
import Derived.Test.YtifillpcphiblaaMHNew
namespace Go.Proofs.Ytifillpcphiblaa
open Go Go.Proofs Go.RowKit

/-! Which places are free, and the runs of them. Plain laws. -/

def incLast : List (Int × Int) → List (Int × Int)
  | [] => []
  | [x] => [(x.1, x.2 + 1)]
  | x :: y :: r => x :: incLast (y :: r)
def bitAt (l : List Bool) (i : Nat) : Bool := (l[i]?).getD false
def stepRun (first : Int) (l : List Bool) (out : List (Int × Int)) (i : Nat) : List (Int × Int) :=
  if bitAt l i then (if decide (0 < i) && bitAt l (i - 1) then incLast out else out ++ [(first + i, 1)]) else out
/-- The runs of the first i places. -/
def runsTo (first : Int) (l : List Bool) : Nat → List (Int × Int)
  | 0 => []
  | i + 1 => stepRun first l (runsTo first l i) i

theorem incLast_snoc (l : List (Int × Int)) (x : Int × Int) : incLast (l ++ [x]) = l ++ [(x.1, x.2 + 1)] := by
  induction l with
  | nil => rfl
  | cons y l ih =>
    cases l with
    | nil => rfl
    | cons z l => show y :: incLast (z :: l ++ [x]) = _; rw [ih]; rfl

/-- Runs in order that don't touch each other. -/
def Norm : List (Int × Int) → Prop
  | [] => True
  | [_] => True
  | x :: y :: r => x.1 + x.2 < y.1 ∧ Norm (y :: r)
def Cov (l : List (Int × Int)) (p : Int) : Prop := ∃ x ∈ l, x.1 ≤ p ∧ p < x.1 + x.2

theorem Norm.tail {x : Int × Int} {l : List (Int × Int)} (h : Norm (x :: l)) : Norm l := by
  cases l with
  | nil => trivial
  | cons y r => exact h.2
theorem Norm.snoc {l : List (Int × Int)} {x : Int × Int} (h : Norm l) (hx : ∀ y, l.getLast? = some y → y.1 + y.2 < x.1) : Norm (l ++ [x]) := by
  induction l with
  | nil => trivial
  | cons y l ih =>
    cases l with
    | nil => exact ⟨hx y rfl, trivial⟩
    | cons z l => exact ⟨h.1, ih h.2 (fun u hu => hx u (by simpa using hu))⟩

/-- What the loop over the places has found. -/
structure Found (first : Int) (l : List Bool) (i : Nat) (out : List (Int × Int)) : Prop where
  runs : Runs (first + i) first out
  norm : Norm out
  cov : ∀ p : Int, Cov out p ↔ ∃ j : Nat, j < i ∧ bitAt l j = true ∧ p = first + j
  last : 0 < i → (bitAt l (i - 1) = true ↔ ∃ x, out.getLast? = some x ∧ x.1 + x.2 = first + i)

theorem runs_snoc {hi hi' lo : Int} {l : List (Int × Int)} (h : Runs hi lo l) {a : Int} (ha : hi ≤ a) (h1 : a + 1 ≤ hi') (hlo : lo ≤ a) : Runs hi' lo (l ++ [(a, 1)]) := by
  induction l generalizing lo with
  | nil => exact ⟨hlo, Int.le_refl _, h1, trivial⟩
  | cons x l ih => exact ⟨h.1, h.2.1, by have := h.2.2.1; omega, ih h.2.2.2 (by have := h.2.2.1; omega)⟩
theorem runs_hi {hi hi' lo : Int} {l : List (Int × Int)} (h : Runs hi lo l) (hh : hi ≤ hi') : Runs hi' lo l := by
  induction l generalizing lo with
  | nil => trivial
  | cons x l ih => exact ⟨h.1, h.2.1, by have := h.2.2.1; omega, ih h.2.2.2⟩
theorem runs_inc {hi lo : Int} {l : List (Int × Int)} {x : Int × Int} (h : Runs hi lo (l ++ [x])) : Runs (hi + 1) lo (l ++ [(x.1, x.2 + 1)]) := by
  induction l generalizing lo with
  | nil => exact ⟨h.1, by have := h.2.1; show 1 ≤ x.2 + 1; omega, by have := h.2.2.1; show x.1 + (x.2 + 1) ≤ hi + 1; omega, trivial⟩
  | cons y l ih => exact ⟨h.1, h.2.1, by have := h.2.2.1; omega, ih h.2.2.2⟩
theorem norm_inc {l : List (Int × Int)} {x : Int × Int} (h : Norm (l ++ [x])) : Norm (l ++ [(x.1, x.2 + 1)]) := by
  induction l with
  | nil => trivial
  | cons y l ih =>
    cases l with
    | nil => exact ⟨h.1, trivial⟩
    | cons z l => exact ⟨h.1, ih h.2⟩

theorem getLast_split {l : List (Int × Int)} {x : Int × Int} (h : l.getLast? = some x) : ∃ l', l = l' ++ [x] := by
  obtain ⟨l', e⟩ := List.getLast?_eq_some_iff.1 h
  exact ⟨l', e⟩

theorem runsTo_found (first : Int) (l : List Bool) : ∀ i, Found first l i (runsTo first l i)
  | 0 => ⟨trivial, trivial, fun p => ⟨fun ⟨x, hx, _⟩ => (by cases hx), fun ⟨j, hj, _⟩ => (by omega)⟩, fun h => (by omega)⟩
  | i + 1 => by
    have ih := runsTo_found first l i
    show Found first l (i + 1) (stepRun first l (runsTo first l i) i)
    obtain ⟨out, ho⟩ : ∃ out, out = runsTo first l i := ⟨_, rfl⟩
    rw [← ho] at ih ⊢
    clear ho
    have hcast : (first + ((i + 1 : Nat) : Int)) = first + i + 1 := by omega
    unfold stepRun
    by_cases hb : bitAt l i = true
    · rw [if_pos hb]
      by_cases hp : (decide (0 < i) && bitAt l (i - 1)) = true
      · rw [if_pos hp]
        simp only [Bool.and_eq_true, decide_eq_true_eq] at hp
        obtain ⟨x, hx, hxe⟩ := (ih.last hp.1).1 hp.2
        obtain ⟨l', rfl⟩ := getLast_split hx
        rw [incLast_snoc]
        have hr := ih.runs
        have hm := hr.mem x (by simp)
        refine ⟨by rw [hcast]; exact runs_inc hr, norm_inc ih.norm, fun p => ?_, fun _ => ?_⟩
        · constructor
          · rintro ⟨y, hy, h1, h2⟩
            rcases List.mem_append.1 hy with hy | hy
            · obtain ⟨j, a, b, c⟩ := (ih.cov p).1 ⟨y, List.mem_append.2 (.inl hy), h1, h2⟩
              exact ⟨j, by omega, b, c⟩
            · obtain rfl := List.mem_singleton.1 hy
              simp only at h1 h2
              by_cases e : p < x.1 + x.2
              · obtain ⟨j, a, b, c⟩ := (ih.cov p).1 ⟨x, by simp, h1, e⟩
                exact ⟨j, by omega, b, c⟩
              · exact ⟨i, by omega, hb, by omega⟩
          · rintro ⟨j, h1, h2, rfl⟩
            by_cases e : j = i
            · subst e
              exact ⟨(x.1, x.2 + 1), by simp, by show x.1 ≤ _; omega, by show _ < x.1 + (x.2 + 1); omega⟩
            · obtain ⟨y, hy, g1, g2⟩ := (ih.cov (first + j)).2 ⟨j, by omega, h2, rfl⟩
              rcases List.mem_append.1 hy with hy | hy
              · exact ⟨y, by simp [hy], g1, g2⟩
              · obtain rfl := List.mem_singleton.1 hy
                exact ⟨(y.1, y.2 + 1), by simp, g1, by show _ < y.1 + (y.2 + 1); omega⟩
        · rw [show i + 1 - 1 = i by omega]
          exact ⟨fun _ => ⟨(x.1, x.2 + 1), by simp, by show x.1 + (x.2 + 1) = _; omega⟩, fun _ => hb⟩
      · rw [if_neg hp]
        have hnl : ∀ y, out.getLast? = some y → y.1 + y.2 < first + i := by
          intro y hy
          have hm := ih.runs.mem y (List.mem_of_getLast? hy)
          by_cases h0 : 0 < i
          · have hpb : ¬ bitAt l (i - 1) = true := by intro h; apply hp; simp [h0, h]
            have : ¬ (y.1 + y.2 = first + i) := fun e => hpb ((ih.last h0).2 ⟨y, hy, e⟩)
            omega
          · have : i = 0 := by omega
            subst this
            omega
        refine ⟨by rw [hcast]; exact runs_snoc ih.runs (Int.le_refl _) (Int.le_refl _) (by omega), ih.norm.snoc (fun y hy => hnl y hy), fun p => ?_, fun _ => ?_⟩
        · constructor
          · rintro ⟨y, hy, h1, h2⟩
            rcases List.mem_append.1 hy with hy | hy
            · obtain ⟨j, a, b, c⟩ := (ih.cov p).1 ⟨y, hy, h1, h2⟩
              exact ⟨j, by omega, b, c⟩
            · obtain rfl := List.mem_singleton.1 hy
              simp only at h1 h2
              exact ⟨i, by omega, hb, by omega⟩
          · rintro ⟨j, h1, h2, rfl⟩
            by_cases e : j = i
            · subst e
              exact ⟨(first + j, 1), by simp, Int.le_refl _, by show first + (j : Int) < first + j + 1; omega⟩
            · obtain ⟨y, hy, g1, g2⟩ := (ih.cov (first + j)).2 ⟨j, by omega, h2, rfl⟩
              exact ⟨y, by simp [hy], g1, g2⟩
        · rw [show i + 1 - 1 = i by omega]
          exact ⟨fun _ => ⟨(first + i, 1), by simp, by show first + (i : Int) + 1 = _; omega⟩, fun _ => hb⟩
    · rw [if_neg hb]
      refine ⟨runs_hi ih.runs (by omega), ih.norm, fun p => ?_, fun _ => ?_⟩
      · rw [ih.cov p]
        constructor
        · rintro ⟨j, h1, h2, h3⟩; exact ⟨j, by omega, h2, h3⟩
        · rintro ⟨j, h1, h2, h3⟩
          exact ⟨j, by rcases Nat.lt_or_ge j i with h | h; (· exact h); (· exact absurd h2 (by rw [show j = i by omega]; exact hb)), h2, h3⟩
      · rw [show i + 1 - 1 = i by omega]
        refine ⟨fun h => absurd h hb, ?_⟩
        rintro ⟨x, hx, he⟩
        have hm := ih.runs.mem x (List.mem_of_getLast? hx)
        omega

/-- Normal runs are told by the places that they cover. -/
theorem norm_unique : ∀ {l l' : List (Int × Int)} {lo hi lo' hi' : Int}, Runs hi lo l → Runs hi' lo' l' → Norm l → Norm l' → (∀ p, Cov l p ↔ Cov l' p) → l = l'
  | [], [], _, _, _, _, _, _, _, _, _ => rfl
  | [], y :: l', _, _, _, _, _, h', _, _, hc => by
    obtain ⟨x, hx, _⟩ := (hc y.1).2 ⟨y, by simp, Int.le_refl _, by have := h'.2.1; omega⟩
    cases hx
  | x :: l, [], _, _, _, _, h, _, _, _, hc => by
    obtain ⟨y, hy, _⟩ := (hc x.1).1 ⟨x, by simp, Int.le_refl _, by have := h.2.1; omega⟩
    cases hy
  | x :: l, y :: l', lo, hi, lo', hi', h, h', n, n', hc => by
    have mx : ∀ u ∈ x :: l, x.1 ≤ u.1 := by
      intro u hu
      rcases List.mem_cons.1 hu with rfl | hu
      · exact Int.le_refl _
      · have := (h.2.2.2.mem u hu).1; have := h.2.1; omega
    have my : ∀ u ∈ y :: l', y.1 ≤ u.1 := by
      intro u hu
      rcases List.mem_cons.1 hu with rfl | hu
      · exact Int.le_refl _
      · have := (h'.2.2.2.mem u hu).1; have := h'.2.1; omega
    have e1 : x.1 = y.1 := by
      obtain ⟨u, hu, a, b⟩ := (hc x.1).1 ⟨x, by simp, Int.le_refl _, by have := h.2.1; omega⟩
      obtain ⟨v, hv, c, d⟩ := (hc y.1).2 ⟨y, by simp, Int.le_refl _, by have := h'.2.1; omega⟩
      have := my u hu
      have := mx v hv
      omega
    have tl : ∀ u ∈ l, x.1 + x.2 < u.1 := by
      cases l with
      | nil => simp
      | cons z r =>
        intro u hu
        rcases List.mem_cons.1 hu with rfl | hu
        · exact n.1
        · have := (h.2.2.2.2.2.2.mem u hu).1
          have := n.1
          have := h.2.2.2.2.1
          omega
    have tl' : ∀ u ∈ l', y.1 + y.2 < u.1 := by
      cases l' with
      | nil => simp
      | cons z r =>
        intro u hu
        rcases List.mem_cons.1 hu with rfl | hu
        · exact n'.1
        · have := (h'.2.2.2.2.2.2.mem u hu).1
          have := n'.1
          have := h'.2.2.2.2.1
          omega
    have hx2 := h.2.1
    have hy2 := h'.2.1
    have e2 : x.2 = y.2 := by
      rcases Int.lt_trichotomy x.2 y.2 with hlt | he | hgt
      · exfalso
        obtain ⟨u, hu, a, b⟩ := (hc (x.1 + x.2)).2 ⟨y, by simp, by omega, by omega⟩
        rcases List.mem_cons.1 hu with rfl | hu
        · omega
        · have := tl u hu; omega
      · exact he
      · exfalso
        obtain ⟨u, hu, a, b⟩ := (hc (y.1 + y.2)).1 ⟨x, by simp, by omega, by omega⟩
        rcases List.mem_cons.1 hu with rfl | hu
        · omega
        · have := tl' u hu; omega
    have exy : x = y := Prod.ext e1 e2
    subst exy
    have := norm_unique h.2.2.2 h'.2.2.2 n.tail n'.tail (fun p => by
      constructor
      · rintro ⟨u, hu, a, b⟩
        obtain ⟨v, hv, c, d⟩ := (hc p).1 ⟨u, by simp [hu], a, b⟩
        rcases List.mem_cons.1 hv with rfl | hv
        · have := tl u hu; omega
        · exact ⟨v, hv, c, d⟩
      · rintro ⟨u, hu, a, b⟩
        obtain ⟨v, hv, c, d⟩ := (hc p).2 ⟨u, by simp [hu], a, b⟩
        rcases List.mem_cons.1 hv with rfl | hv
        · have := tl' u hu; omega
        · exact ⟨v, hv, c, d⟩)
    rw [this]

/-- The places that are free are just those in the runs. -/
structure Same3 (first : Int) (bits : List Bool) (l : List (Int × Int)) : Prop where
  runs : Runs (first + bits.length) first l
  norm : Norm l
  bit : ∀ j : Nat, j < bits.length → (bitAt bits j = true ↔ Cov l (first + j))
theorem Same3.list {first : Int} {bits : List Bool} {l : List (Int × Int)} (h : Same3 first bits l) : runsTo first bits bits.length = l := by
  have f := runsTo_found first bits bits.length
  refine norm_unique f.runs h.runs f.norm h.norm (fun p => ?_)
  rw [f.cov p]
  constructor
  · rintro ⟨j, h1, h2, rfl⟩
    exact (h.bit j h1).1 h2
  · rintro ⟨x, hx, h1, h2⟩
    have hm := h.runs.mem x hx
    obtain ⟨j, hj⟩ := Int.eq_ofNat_of_zero_le (show 0 ≤ p - first by omega)
    have hp : p = first + j := by omega
    subst hp
    exact ⟨j, by omega, (h.bit j (by omega)).2 ⟨x, hx, h1, h2⟩, rfl⟩

/-- n places from k on are taken. -/
def clr (bits : List Bool) (k : Nat) : Nat → List Bool
  | 0 => bits
  | n + 1 => (clr bits k n).set (k + n) false
theorem clr_len (bits : List Bool) (k n : Nat) : (clr bits k n).length = bits.length := by induction n with | zero => rfl | succ n ih => simp [clr, ih]
theorem clr_bit (bits : List Bool) (k n j : Nat) : bitAt (clr bits k n) j = (bitAt bits j && !(decide (k ≤ j) && decide (j < k + n))) := by
  induction n with
  | zero =>
    have : (decide (k ≤ j) && decide (j < k + 0)) = false := by simp
    simp only [clr, this, Bool.not_false, Bool.and_true]
  | succ n ih =>
    simp only [clr]
    unfold bitAt at ih ⊢
    by_cases e : j = k + n
    · subst e
      by_cases hl : k + n < (clr bits k n).length
      · rw [List.getElem?_set_self hl]
        simp
      · rw [List.getElem?_eq_none (by simp; omega)]
        simp
    · rw [List.getElem?_set_ne (Ne.symm e), ih]
      congr 2
      rw [Bool.eq_iff_iff]
      simp
      omega
theorem cov_cut {l1 l2 : List (Int × Int)} {p m n q : Int} {lo hi : Int} (h : Runs hi lo (l1 ++ (p, m) :: l2)) (hn : 0 < n) (hm : n ≤ m) : Cov (cutRun l1 p m n l2) q ↔ Cov (l1 ++ (p, m) :: l2) q ∧ ¬ (p ≤ q ∧ q < p + n) := by
  have h1 : ∀ x ∈ l1, x.1 + x.2 ≤ p := by
    obtain ⟨_, hp⟩ := runs_iff.1 h
    rw [List.pairwise_append] at hp
    intro x hx
    exact hp.2.2 x hx (p, m) (by simp)
  have h2 : ∀ x ∈ l2, p + m ≤ x.1 := by
    obtain ⟨_, hp⟩ := runs_iff.1 h
    rw [List.pairwise_append] at hp
    intro x hx
    exact (List.pairwise_cons.1 hp.2.1).1 x hx
  unfold cutRun
  constructor
  · rintro ⟨x, hx, a, b⟩
    rcases List.mem_append.1 hx with hx | hx
    · exact ⟨⟨x, by simp [hx], a, b⟩, by have := h1 x hx; omega⟩
    · split at hx
      · exact ⟨⟨x, by simp [hx], a, b⟩, by have := h2 x hx; omega⟩
      · rcases List.mem_cons.1 hx with rfl | hx
        · simp only at a b
          exact ⟨⟨(p, m), by simp, by show p ≤ q; omega, by show q < p + m; omega⟩, by omega⟩
        · exact ⟨⟨x, by simp [hx], a, b⟩, by have := h2 x hx; omega⟩
  · rintro ⟨⟨x, hx, a, b⟩, hno⟩
    rcases List.mem_append.1 hx with hx | hx
    · exact ⟨x, by simp [hx], a, b⟩
    · rcases List.mem_cons.1 hx with rfl | hx
      · simp only at a b
        rw [if_neg (by omega)]
        exact ⟨(p + n, m - n), by simp, by show p + n ≤ q; omega, by show q < p + n + (m - n); omega⟩
      · refine ⟨x, List.mem_append.2 (.inr ?_), a, b⟩
        split
        · exact hx
        · exact List.mem_cons_of_mem _ hx
theorem norm_cut {l1 l2 : List (Int × Int)} {p m n : Int} (h : Norm (l1 ++ (p, m) :: l2)) (hn : 0 < n) : Norm (cutRun l1 p m n l2) := by
  unfold cutRun
  induction l1 with
  | nil =>
    simp only [List.nil_append] at h ⊢
    split
    · exact h.tail
    · cases l2 with
      | nil => trivial
      | cons z r => exact ⟨by have := h.1; simp only at this ⊢; omega, h.2⟩
  | cons x l1 ih =>
    have := ih (Norm.tail h)
    cases l1 with
    | nil =>
      simp only [List.nil_append, List.cons_append] at h this ⊢
      split
      · rename_i e
        rw [if_pos e] at this
        cases l2 with
        | nil => trivial
        | cons z r => exact ⟨by have := h.1; have := h.2.1; simp only at *; omega, this⟩
      · rename_i e
        rw [if_neg e] at this
        exact ⟨by have := h.1; simp only at this ⊢; omega, this⟩
    | cons y l1 => exact ⟨h.1, this⟩
theorem runs_cut {l1 l2 : List (Int × Int)} {p m n lo hi : Int} (h : Runs hi lo (l1 ++ (p, m) :: l2)) (hn : 0 < n) (hm : n ≤ m) : Runs hi lo (cutRun l1 p m n l2) := by
  unfold cutRun
  induction l1 generalizing lo with
  | nil =>
    simp only [List.nil_append] at h ⊢
    obtain ⟨a, b, c, d⟩ := h
    simp only at a b c d
    split
    · exact d.mono (by omega)
    · exact ⟨by show lo ≤ p + n; omega, by show 1 ≤ m - n; omega, by show p + n + (m - n) ≤ hi; omega, by show Runs hi (p + n + (m - n)) l2; rw [show p + n + (m - n) = p + m by omega]; exact d⟩
  | cons x l1 ih => exact ⟨h.1, h.2.1, h.2.2.1, ih h.2.2.2⟩
theorem Same3.cut {first : Int} {bits : List Bool} {l1 l2 : List (Int × Int)} {p m : Int} {n k : Nat} (h : Same3 first bits (l1 ++ (p, m) :: l2)) (hn : 0 < n) (hm : (n : Int) ≤ m) (hk : p = first + k) : Same3 first (clr bits k n) (cutRun l1 p m n l2) := by
  refine ⟨by rw [clr_len]; exact runs_cut h.runs (by omega) hm, norm_cut h.norm (by omega), fun j hj => ?_⟩
  rw [clr_len] at hj
  rw [clr_bit, cov_cut h.runs (by omega) hm, ← h.bit j hj]
  simp only [Bool.and_eq_true, Bool.not_eq_true', Bool.and_eq_false_iff, decide_eq_false_iff_not]
  constructor
  · rintro ⟨a, b⟩; exact ⟨a, by omega⟩
  · rintro ⟨a, b⟩; exact ⟨a, by omega⟩
theorem same3_new (first : Int) (n : Nat) : Same3 first (List.replicate n true) (if (n : Int) = 0 then [] else [(first, (n : Int))]) := by
  by_cases h : (n : Int) = 0
  · rw [if_pos h]
    have : n = 0 := by omega
    subst this
    exact ⟨trivial, trivial, fun j hj => by simp at hj⟩
  · rw [if_neg h]
    refine ⟨⟨Int.le_refl _, by show 1 ≤ (n : Int); omega, by simp, trivial⟩, trivial, fun j hj => ?_⟩
    simp only [List.length_replicate] at hj
    refine ⟨fun _ => ⟨_, List.mem_singleton.2 rfl, by show first ≤ first + j; omega, by show first + (j : Int) < first + n; omega⟩, fun _ => by simp [bitAt, hj]⟩
end Go.Proofs.Ytifillpcphiblaa
