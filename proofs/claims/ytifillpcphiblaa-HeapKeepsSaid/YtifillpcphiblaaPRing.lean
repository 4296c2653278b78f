import Derived.Test.YtifillpcphiblaaHeapNew
namespace Go.Proofs.Ytifillpcphiblaa
open Go Go.Proofs Go.RowKit

/-! Plain laws: a ring's cells in a list of words. -/

theorem gw_sw (ws : List Int) (i j v : Int) (hi : 0 ≤ i) (hl : i < ws.length) (hj : 0 ≤ j) : gw (sw ws i v) j = if j = i then v else gw ws j := by
  unfold gw sw
  by_cases h : j = i
  · subst h
    have : j.toNat < ws.length := by omega
    rw [if_pos rfl]; simp [this]
  · rw [if_neg h]
    have : i.toNat ≠ j.toNat := by omega
    simp [List.getElem?_set_ne this]

def Far (a b : Int) : Prop := a + 3 ≤ b ∨ b + 3 ≤ a
theorem Far.symm {a b : Int} (h : Far a b) : Far b a := Or.symm h

/-- Words that are the same but for links of some cells. -/
structure Same (ws ws' : List Int) (A : List Int) : Prop where
  len : ws'.length = ws.length
  eq : ∀ j, 0 ≤ j → (∀ y ∈ A, j ≠ y + 1 ∧ j ≠ y + 2) → gw ws' j = gw ws j

theorem Same.refl (ws : List Int) (A : List Int) : Same ws ws A := ⟨rfl, fun _ _ _ => rfl⟩
theorem Same.trans {a b c : List Int} {A : List Int} (h : Same a b A) (k : Same b c A) : Same a c A := ⟨k.len.trans h.len, fun j hj hA => (k.eq j hj hA).trans (h.eq j hj hA)⟩
theorem Same.mono {a b : List Int} {A A' : List Int} (h : Same a b A) (hA : ∀ x ∈ A, x ∈ A') : Same a b A' := ⟨h.len, fun j hj hh => h.eq j hj (fun y hy => hh y (hA y hy))⟩

theorem gw_lk (ws : List Int) (c d j : Int) (hc : 0 ≤ c) (hcl : c + 1 < ws.length) (hd : 0 ≤ d) (hdl : d + 2 < ws.length) (hj : 0 ≤ j) : gw (lk ws c d) j = if j = d + 2 then c else if j = c + 1 then d else gw ws j := by
  unfold lk
  rw [gw_sw _ _ _ _ (by omega) (by rw [sw_len]; exact hdl) hj, gw_sw _ _ _ _ (by omega) hcl hj]

theorem Same.lk (ws : List Int) (c d : Int) (hc : Okc ws c) (hd : Okc ws d) : Same ws (lk ws c d) [c, d] := by
  refine ⟨lk_len _ _ _, fun j hj hA => ?_⟩
  have h1 := hA c (by simp)
  have h2 := hA d (by simp)
  rw [gw_lk _ _ _ _ hc.1 (by have := hc.2; omega) hd.1 hd.2 hj, if_neg h2.2, if_neg h1.1]

def Lkd (ws : List Int) (a b : Int) : Prop := gw ws (a + 1) = b ∧ gw ws (b + 2) = a
def Path (ws : List Int) : List Int → Prop
  | a :: b :: r => Lkd ws a b ∧ Path ws (b :: r)
  | _ => True
def Circ (ws : List Int) : List Int → Prop
  | [] => True
  | a :: r => Path ws (a :: (r ++ [a]))

theorem Path_append (ws : List Int) (u : List Int) (x : Int) (v : List Int) : Path ws (u ++ x :: v) ↔ Path ws (u ++ [x]) ∧ Path ws (x :: v) := by
  induction u with
  | nil => simp [Path]
  | cons a u ih =>
    cases u with
    | nil => simp [Path]
    | cons b u => simp only [List.cons_append, Path] at ih ⊢; rw [ih]; simp [and_assoc]

theorem Path_snoc (ws : List Int) (l : List Int) (y x : Int) : Path ws (l ++ [y, x]) ↔ Path ws (l ++ [y]) ∧ Lkd ws y x := by
  rw [Path_append ws l y [x]]
  simp [Path]

/-- A path hangs on the 'next' of all but its last, and the 'prev' of all but its first. -/
theorem Path_congr {ws ws' : List Int} : ∀ {l : List Int}, (∀ y ∈ l.dropLast, gw ws' (y + 1) = gw ws (y + 1)) → (∀ y ∈ l.tail, gw ws' (y + 2) = gw ws (y + 2)) → Path ws l → Path ws' l
  | [], _, _, _ => trivial
  | [_], _, _, _ => trivial
  | a :: b :: r, h1, h2, h => by
    obtain ⟨⟨e1, e2⟩, h3⟩ := h
    refine ⟨⟨(h1 a (by simp)).trans e1, (h2 b (by simp)).trans e2⟩, Path_congr (fun y hy => h1 y (by simp only [List.dropLast_cons_cons]; exact List.mem_cons_of_mem _ hy)) (fun y hy => h2 y (by simp only [List.tail_cons] at hy ⊢; exact List.mem_cons_of_mem _ hy)) h3⟩

theorem Circ_rot (ws : List Int) (u v : List Int) (h : Circ ws (u ++ v)) : Circ ws (v ++ u) := by
  cases u with
  | nil => simpa using h
  | cons a u =>
    cases v with
    | nil => simpa using h
    | cons b v =>
      simp only [Circ, List.cons_append] at h ⊢
      have e1 : a :: (u ++ b :: v ++ [a]) = (a :: u) ++ b :: (v ++ [a]) := by simp
      have e2 : b :: (v ++ a :: u ++ [b]) = (b :: v) ++ a :: (u ++ [b]) := by simp
      rw [e1, Path_append] at h
      rw [e2, Path_append]
      obtain ⟨h1, h2⟩ := h
      exact ⟨by simpa using h2, by simpa using h1⟩

theorem Circ_congr {ws ws' : List Int} {l : List Int} (h : ∀ y ∈ l, gw ws' (y + 1) = gw ws (y + 1) ∧ gw ws' (y + 2) = gw ws (y + 2)) (hc : Circ ws l) : Circ ws' l := by
  cases l with
  | nil => trivial
  | cons a r =>
    refine Path_congr ?_ ?_ hc
    · intro y hy
      have : y ∈ a :: r := by
        have e : (a :: (r ++ [a])).dropLast = a :: r := by rw [← List.cons_append, List.dropLast_concat]
        rw [e] at hy; exact hy
      exact (h y this).1
    · intro y hy
      have : y ∈ a :: r := by simp at hy ⊢; rcases hy with h | h <;> simp [h]
      exact (h y this).2

/-- Cells of one ring: each in range, each far from the others. -/
structure Cells (n : Nat) (l : List Int) : Prop where
  ok : ∀ c ∈ l, 1 ≤ c ∧ c + 3 ≤ n
  far : l.Pairwise Far

theorem Cells.nodup {n : Nat} {l : List Int} (h : Cells n l) : l.Nodup := h.far.imp (fun hab e => by subst e; rcases hab with h | h <;> omega)
theorem Cells.farOf {n : Nat} {l : List Int} (h : Cells n l) {a b : Int} (ha : a ∈ l) (hb : b ∈ l) (hne : a ≠ b) : Far a b := by
  obtain ⟨i, hi, rfl⟩ := List.getElem_of_mem ha
  obtain ⟨j, hj, rfl⟩ := List.getElem_of_mem hb
  have hp := List.pairwise_iff_getElem.1 h.far
  rcases Nat.lt_trichotomy i j with h1 | h1 | h1
  · exact hp i j hi hj h1
  · subst h1; exact absurd rfl hne
  · exact (hp j i hj hi h1).symm
theorem Cells.perm {n : Nat} {l l' : List Int} (h : Cells n l) (hp : l.Perm l') : Cells n l' :=
  ⟨fun c hc => h.ok c (hp.mem_iff.2 hc), (hp.pairwise_iff (fun h => h.symm)).1 h.far⟩
theorem Cells.okc {ws : List Int} {l : List Int} (h : Cells ws.length l) {c : Int} (hc : c ∈ l) : Okc ws c := by
  have := h.ok c hc; exact ⟨by omega, by omega⟩

theorem Circ_prev {ws : List Int} {x : Int} {r : List Int} (h : Circ ws (x :: r)) : gw ws (x + 2) = (x :: r).getLast (by simp) := by
  simp only [Circ] at h
  rcases List.eq_nil_or_concat r with e | ⟨r', p, e⟩
  · subst e; simp [Path, Lkd] at h; simpa using h.2
  · rw [List.concat_eq_append] at e
    subst e
    have e1 : x :: (r' ++ [p] ++ [x]) = (x :: r') ++ [p, x] := by simp
    rw [e1, Path_snoc] at h
    have e2 : (x :: (r' ++ [p])).getLast (by simp) = p := (List.getLast_cons (by simp)).trans (List.getLast_concat)
    rw [e2]
    simpa using h.2.2

theorem Circ_next {ws : List Int} {x : Int} {r : List Int} (h : Circ ws (x :: r)) : gw ws (x + 1) = (r ++ [x]).head (by simp) := by
  cases r with
  | nil => simp [Circ, Path, Lkd] at h; simpa using h.1
  | cons y r => simp only [Circ, List.cons_append, Path] at h; simpa using h.1.1

/-- A cell put in at the end of the ring (ahead of its first). -/
theorem Circ_put {ws : List Int} {x c : Int} {r : List Int} (h : Circ ws (x :: r)) (hC : Cells ws.length (c :: x :: r)) : Circ (pt ws c x) (x :: r ++ [c]) ∧ Same ws (pt ws c x) (c :: x :: r) := by
  have hp := Circ_prev h
  have hfar := List.pairwise_cons.1 hC.far
  have hC' : Cells ws.length (x :: r) := ⟨fun y hy => hC.ok y (List.mem_cons_of_mem _ hy), hfar.2⟩
  obtain ⟨p, hpe⟩ : ∃ p, p = (x :: r).getLast (by simp) := ⟨_, rfl⟩
  have hpm : p ∈ x :: r := by rw [hpe]; exact List.getLast_mem _
  rw [← hpe] at hp
  have kp := hC'.okc hpm
  have kx := hC'.okc (c := x) (by simp)
  have kc := hC.okc (c := c) (by simp)
  have fx := hfar.1 x (by simp)
  have fp := hfar.1 p hpm
  have key : ∀ j, 0 ≤ j → gw (pt ws c x) j = if j = x + 2 then c else if j = c + 1 then x else if j = c + 2 then p else if j = p + 1 then c else gw ws j := by
    intro j hj
    unfold pt
    rw [hp, gw_lk _ _ _ _ kc.1 (by rw [lk_len]; have := kc.2; omega) kx.1 (by rw [lk_len]; exact kx.2) hj, gw_lk _ _ _ _ kp.1 (by have := kp.2; omega) kc.1 kc.2 hj]
  constructor
  · simp only [Circ, List.cons_append]
    have e1 : x :: (r ++ [c] ++ [x]) = (x :: r) ++ [c, x] := by simp
    rw [e1, Path_snoc]
    have hlast : x :: r = (x :: r).dropLast ++ [p] := by rw [hpe]; exact (List.dropLast_concat_getLast (by simp)).symm
    refine ⟨?_, ?_, ?_⟩
    · have e2 : x :: r ++ [c] = (x :: r).dropLast ++ [p, c] := by
        conv => lhs; rw [hlast]
        simp
      rw [e2, Path_snoc, ← hlast]
      refine ⟨Path_congr (ws := ws) ?_ ?_ ?_, ?_, ?_⟩
      · intro y hy
        have hym : y ∈ x :: r := List.dropLast_subset _ hy
        have hyp : y ≠ p := by
          intro e; subst e
          have hn := hC'.nodup
          rw [hlast, List.nodup_append] at hn
          exact hn.2.2 y hy y (by simp) rfl
        have f1 := hfar.1 y hym
        have f2 := hC'.farOf hym hpm hyp
        rw [key _ (by have := (hC'.ok y hym).1; omega)]
        have f3 : y = x ∨ Far y x := by by_cases e : y = x; (· exact .inl e); (· exact .inr (hC'.farOf hym (by simp) e))
        rw [if_neg (by rcases f3 with e | e; (· omega); (· rcases e with e | e <;> omega)), if_neg (by rcases f1 with e | e <;> omega), if_neg (by rcases f1 with e | e <;> omega), if_neg (by omega)]
      · intro y hy
        have hyr : y ∈ r := by simpa using hy
        have hym : y ∈ x :: r := List.mem_cons_of_mem _ hyr
        have hyx : y ≠ x := by intro e; subst e; exact (List.nodup_cons.1 hC'.nodup).1 hyr
        have f1 := hfar.1 y hym
        have f2 := hC'.farOf hym (b := x) (by simp) hyx
        have f3 : y = p ∨ Far y p := by by_cases e : y = p; (· exact .inl e); (· exact .inr (hC'.farOf hym hpm e))
        rw [key _ (by have := (hC'.ok y hym).1; omega)]
        rw [if_neg (by omega), if_neg (by rcases f1 with e | e <;> omega), if_neg (by rcases f1 with e | e <;> omega), if_neg (by rcases f3 with e | e; (· omega); (· rcases e with e | e <;> omega))]
      · have h' := h
        simp only [Circ] at h'
        have e3 : x :: (r ++ [x]) = (x :: r).dropLast ++ [p, x] := by
          rw [← List.cons_append]
          conv => lhs; rw [hlast]
          simp
        rw [e3, Path_snoc, ← hlast] at h'
        exact h'.1
      · rw [key _ (by have := kp.1; omega), if_neg, if_neg, if_neg, if_pos rfl]
        · rcases fp with e | e <;> omega
        · rcases fp with e | e <;> omega
        · intro e
          by_cases e2 : p = x
          · omega
          · rcases hC'.farOf hpm (by simp) e2 with f | f <;> omega
      · rw [key _ (by have := kc.1; omega), if_neg, if_neg (by omega), if_pos rfl]
        rcases fx with e | e <;> omega
    · rw [key _ (by have := kc.1; omega), if_neg, if_pos rfl]
      rcases fx with e | e <;> omega
    · rw [key _ (by have := kx.1; omega), if_pos rfl]
  · refine ⟨pt_len _ _ _, fun j hj hA => ?_⟩
    rw [key j hj, if_neg (hA x (by simp)).2, if_neg (hA c (by simp)).1, if_neg (hA c (by simp)).2, if_neg (hA p (List.mem_cons_of_mem _ hpm)).1]

/-- A cell cut out of the ring. -/
theorem Circ_cut {ws : List Int} {c : Int} {r : List Int} (h : Circ ws (c :: r)) (hC : Cells ws.length (c :: r)) : Circ (ct ws c) r ∧ Same ws (ct ws c) (c :: r) := by
  cases r with
  | nil =>
    refine ⟨trivial, ?_⟩
    have hp := Circ_prev h
    have hn := Circ_next h
    simp at hp hn
    unfold ct
    rw [hp, hn]
    exact (Same.lk ws c c (hC.okc (by simp)) (hC.okc (by simp))).mono (by simp)
  | cons x r =>
    have hp := Circ_prev h
    have hn := Circ_next h
    simp at hn
    have hfar := List.pairwise_cons.1 hC.far
    have hC' : Cells ws.length (x :: r) := ⟨fun y hy => hC.ok y (List.mem_cons_of_mem _ hy), hfar.2⟩
    obtain ⟨p, hpe⟩ : ∃ p, p = (x :: r).getLast (by simp) := ⟨_, rfl⟩
    have hpm : p ∈ x :: r := by rw [hpe]; exact List.getLast_mem _
    have hp' : gw ws (c + 2) = p := by rw [hp, hpe]; simp
    have kp := hC'.okc hpm
    have kx := hC'.okc (c := x) (by simp)
    have key : ∀ j, 0 ≤ j → gw (ct ws c) j = if j = x + 2 then p else if j = p + 1 then x else gw ws j := by
      intro j hj
      unfold ct
      rw [hp', hn, gw_lk _ _ _ _ kp.1 (by have := kp.2; omega) kx.1 kx.2 hj]
    have hlast : x :: r = (x :: r).dropLast ++ [p] := by rw [hpe]; exact (List.dropLast_concat_getLast (by simp)).symm
    constructor
    · simp only [Circ]
      have e3 : x :: (r ++ [x]) = (x :: r).dropLast ++ [p, x] := by
        rw [← List.cons_append]
        conv => lhs; rw [hlast]
        simp
      rw [e3, Path_snoc, ← hlast]
      refine ⟨Path_congr (ws := ws) ?_ ?_ ?_, ?_, ?_⟩
      · intro y hy
        have hym : y ∈ x :: r := List.dropLast_subset _ hy
        have hyp : y ≠ p := by
          intro e; subst e
          have hn := hC'.nodup
          rw [hlast, List.nodup_append] at hn
          exact hn.2.2 y hy y (by simp) rfl
        have f2 := hC'.farOf hym hpm hyp
        have f3 : y = x ∨ Far y x := by by_cases e : y = x; (· exact .inl e); (· exact .inr (hC'.farOf hym (by simp) e))
        rw [key _ (by have := (hC'.ok y hym).1; omega), if_neg (by rcases f3 with e | e; (· omega); (· rcases e with e | e <;> omega)), if_neg (by omega)]
      · intro y hy
        have hyr : y ∈ r := by simpa using hy
        have hym : y ∈ x :: r := List.mem_cons_of_mem _ hyr
        have hyx : y ≠ x := by intro e; subst e; exact (List.nodup_cons.1 hC'.nodup).1 hyr
        have f3 : y = p ∨ Far y p := by by_cases e : y = p; (· exact .inl e); (· exact .inr (hC'.farOf hym hpm e))
        rw [key _ (by have := (hC'.ok y hym).1; omega), if_neg (by omega), if_neg (by rcases f3 with e | e; (· omega); (· rcases e with e | e <;> omega))]
      · have h' := h
        simp only [Circ, List.cons_append, Path] at h'
        have h2 := h'.2
        have e4 : x :: (r ++ [c]) = (x :: r).dropLast ++ [p, c] := by
          rw [← List.cons_append]
          conv => lhs; rw [hlast]
          simp
        rw [e4, Path_snoc, ← hlast] at h2
        exact h2.1
      · rw [key _ (by have := kp.1; omega), if_neg, if_pos rfl]
        intro e
        by_cases e2 : p = x
        · omega
        · rcases hC'.farOf hpm (by simp) e2 with f | f <;> omega
      · rw [key _ (by have := kx.1; omega), if_pos rfl]
    · refine ⟨lk_len _ _ _, fun j hj hA => ?_⟩
      rw [key j hj, if_neg (hA x (by simp)).2, if_neg (hA p (List.mem_cons_of_mem _ hpm)).1]
end Go.Proofs.Ytifillpcphiblaa
