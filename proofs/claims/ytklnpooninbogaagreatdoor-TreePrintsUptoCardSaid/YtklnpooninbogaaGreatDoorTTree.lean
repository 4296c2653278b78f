import Derived.Test.YtklnpooninbogaaGreatDoorDRow
import Derived.Test.YtklnpooninbogaaGreatDoorMCell
namespace Go.Proofs.YtklnpooninbogaaGreatDoor
open Go Go.Proofs Go.RowKit

/-! Trees (api.Tree) as values. -/

/-- A tree: kind, tag, is its number a float, the number's bits, kids. -/
inductive Tr where
  | mk (k t : Int) (f : Bool) (b : Int) (ks : List Tr) : Tr
instance : Inhabited Tr := ⟨.mk 0 0 false 0 []⟩
def Tr.k : Tr → Int | .mk k _ _ _ _ => k
def Tr.t : Tr → Int | .mk _ t _ _ _ => t
def Tr.f : Tr → Bool | .mk _ _ f _ _ => f
def Tr.b : Tr → Int | .mk _ _ _ b _ => b
def Tr.ks : Tr → List Tr | .mk _ _ _ _ ks => ks
/-- No tree at all. -/
def Tr.no : Tr := .mk 0 0 false 0 []

def trAgg (k t : Int) (f : Bool) (b : Int) (sv : Value) : Value := .agg #[.int .i64 k, .int .i64 t, .bool f, .int .u64 b, sv]
def trCells (k t : Int) (f : Bool) (b : Int) (sv : Value) : List Value := [.int .i64 k, .int .i64 t, .bool f, .int .u64 b, sv]
/-- A tree's five cells. -/
def TrAt (w : World) (g o : Nat) (t : Tr) (sv : Value) : Prop :=
  w.cell? ⟨g, o, none⟩ = some (.int .i64 t.k) ∧ w.cell? ⟨g, o + 1, none⟩ = some (.int .i64 t.t) ∧ w.cell? ⟨g, o + 2, none⟩ = some (.bool t.f) ∧ w.cell? ⟨g, o + 3, none⟩ = some (.int .u64 t.b) ∧ w.cell? ⟨g, o + 4, none⟩ = some sv
theorem TrAt.fr {S : List Nat} {w w' : World} {g o : Nat} {t : Tr} {sv : Value} (h : TrAt w g o t sv) (hf : Fr S w w') (hg : g < w.heap.size) (hS : g ∉ S) : TrAt w' g o t sv := by
  obtain ⟨h0, h1, h2, h3, h4⟩ := h
  exact ⟨(cell_fr hf hS hg _).trans h0, (cell_fr hf hS hg _).trans h1, (cell_fr hf hS hg _).trans h2, (cell_fr hf hS hg _).trans h3, (cell_fr hf hS hg _).trans h4⟩

/-- The kids' slice of a tree, m deep at most; every kid lies in blocks of P. -/
def KidsV (w : World) (P : Nat → Prop) : Nat → List Tr → Value → Prop
  | 0, ks, sv => ks = [] ∧ ∃ A c, sv = .slice A 0 c
  | m + 1, ks, sv => ∃ A c, sv = .slice A ks.length c ∧ ks.length ≤ maxLen ∧ ∀ i x, ks[i]? = some x → ∃ g o kv, A = some ⟨g, o, none⟩ ∧ P g ∧ g < w.heap.size ∧ TrAt w g (o + i * 5) x kv ∧ KidsV w P m x.ks kv
/-- A tree as a value. -/
def TrV (w : World) (P : Nat → Prop) (m : Nat) (t : Tr) (v : Value) : Prop := ∃ sv, v = trAgg t.k t.t t.f t.b sv ∧ KidsV w P m t.ks sv

theorem KidsV.mono {w : World} {P Q : Nat → Prop} (hPQ : ∀ g, P g → Q g) : ∀ {m : Nat} {ks : List Tr} {sv : Value}, KidsV w P m ks sv → KidsV w Q m ks sv
  | 0, _, _, h => h
  | m + 1, ks, sv, ⟨A, c, e, hl, h⟩ => ⟨A, c, e, hl, fun i x hx => by
      obtain ⟨g, o, kv, h1, h2, h3, h4, h5⟩ := h i x hx
      exact ⟨g, o, kv, h1, hPQ g h2, h3, h4, h5.mono hPQ⟩⟩
theorem KidsV.fr {S : List Nat} {w w' : World} {P : Nat → Prop} (hf : Fr S w w') (hP : ∀ g, P g → g < w.heap.size → g ∉ S) : ∀ {m : Nat} {ks : List Tr} {sv : Value}, KidsV w P m ks sv → KidsV w' P m ks sv
  | 0, _, _, h => h
  | m + 1, ks, sv, ⟨A, c, e, hl, h⟩ => ⟨A, c, e, hl, fun i x hx => by
      obtain ⟨g, o, kv, h1, h2, h3, h4, h5⟩ := h i x hx
      exact ⟨g, o, kv, h1, h2, Nat.lt_of_lt_of_le h3 hf.size, h4.fr hf h3 (hP g h2 h3), h5.fr hf hP⟩⟩
theorem KidsV.up {w : World} {P : Nat → Prop} : ∀ {m : Nat} {ks : List Tr} {sv : Value}, KidsV w P m ks sv → KidsV w P (m + 1) ks sv
  | 0, ks, sv, ⟨e, A, c, e2⟩ => ⟨A, c, by rw [e2, e]; rfl, by rw [e]; exact Nat.zero_le _, fun i x hx => by rw [e] at hx; simp at hx⟩
  | m + 1, ks, sv, ⟨A, c, e, hl, h⟩ => ⟨A, c, e, hl, fun i x hx => by
      obtain ⟨g, o, kv, h1, h2, h3, h4, h5⟩ := h i x hx
      exact ⟨g, o, kv, h1, h2, h3, h4, h5.up⟩⟩
theorem KidsV.le {w : World} {P : Nat → Prop} {m n : Nat} {ks : List Tr} {sv : Value} (h : KidsV w P m ks sv) (hmn : m ≤ n) : KidsV w P n ks sv := by
  induction n with
  | zero => have : m = 0 := by omega
            rw [this] at h; exact h
  | succ n ih =>
    by_cases e : m = n + 1
    · rw [e] at h; exact h
    · exact (ih (by omega)).up
theorem KidsV.form {w : World} {P : Nat → Prop} {m : Nat} {ks : List Tr} {sv : Value} (h : KidsV w P m ks sv) : ∃ A c, sv = .slice A ks.length c := by
  cases m with
  | zero => obtain ⟨rfl, A, c, rfl⟩ := h; exact ⟨A, c, rfl⟩
  | succ m => obtain ⟨A, c, e, _⟩ := h; exact ⟨A, c, e⟩
theorem KidsV.len {w : World} {P : Nat → Prop} {m : Nat} {ks : List Tr} {sv : Value} (h : KidsV w P m ks sv) : ks.length ≤ maxLen := by
  cases m with
  | zero => rw [h.1]; exact Nat.zero_le _
  | succ m => obtain ⟨A, c, _, hl, _⟩ := h; exact hl
theorem KidsV.at {w : World} {P : Nat → Prop} {m : Nat} {ks : List Tr} {A : Option Addr} {n c : Nat} (h : KidsV w P m ks (.slice A n c)) {i : Nat} {x : Tr} (hx : ks[i]? = some x) :
    ∃ g o kv m', A = some ⟨g, o, none⟩ ∧ P g ∧ g < w.heap.size ∧ TrAt w g (o + i * 5) x kv ∧ m = m' + 1 ∧ KidsV w P m' x.ks kv := by
  cases m with
  | zero => obtain ⟨rfl, _⟩ := h; simp at hx
  | succ m =>
    obtain ⟨A', c', e, _, hh⟩ := h
    cases e
    obtain ⟨g, o, kv, h1, h2, h3, h4, h5⟩ := hh i x hx
    exact ⟨g, o, kv, m, h1, h2, h3, h4, rfl, h5⟩
theorem TrV.mono {w : World} {P Q : Nat → Prop} {m : Nat} {t : Tr} {v : Value} (h : TrV w P m t v) (hPQ : ∀ g, P g → Q g) : TrV w Q m t v := by
  obtain ⟨sv, e, h⟩ := h; exact ⟨sv, e, h.mono hPQ⟩
theorem TrV.fr {S : List Nat} {w w' : World} {P : Nat → Prop} {m : Nat} {t : Tr} {v : Value} (h : TrV w P m t v) (hf : Fr S w w') (hP : ∀ g, P g → g < w.heap.size → g ∉ S) : TrV w' P m t v := by
  obtain ⟨sv, e, h⟩ := h; exact ⟨sv, e, h.fr hf hP⟩
theorem TrV.le {w : World} {P : Nat → Prop} {m n : Nat} {t : Tr} {v : Value} (h : TrV w P m t v) (hmn : m ≤ n) : TrV w P n t v := by
  obtain ⟨sv, e, h⟩ := h; exact ⟨sv, e, h.le hmn⟩
theorem TrV.no (w : World) (P : Nat → Prop) (m : Nat) : TrV w P m .no (trAgg 0 0 false 0 (.slice none 0 0)) :=
  ⟨_, rfl, (show KidsV w P 0 [] _ from ⟨rfl, none, 0, rfl⟩).le (Nat.zero_le _)⟩

/-! A tree's kids as they are made: a row of the call's own. -/

def flat5 : List (Tr × Value) → List Value
  | [] => []
  | (t, sv) :: r => trCells t.k t.t t.f t.b sv ++ flat5 r
theorem flat5_len (l : List (Tr × Value)) : (flat5 l).length = l.length * 5 := by
  induction l with
  | nil => rfl
  | cons a r ih => obtain ⟨t, sv⟩ := a; simp [flat5, trCells, ih]; omega
theorem flat5_app (l r : List (Tr × Value)) : flat5 (l ++ r) = flat5 l ++ flat5 r := by
  induction l with
  | nil => rfl
  | cons a l ih => obtain ⟨t, sv⟩ := a; simp [flat5, ih]
theorem flat5_get {l : List (Tr × Value)} {i : Nat} {t : Tr} {sv : Value} (h : l[i]? = some (t, sv)) {j : Nat} {v : Value} (hv : (trCells t.k t.t t.f t.b sv)[j]? = some v) : (flat5 l)[i * 5 + j]? = some v := by
  induction l generalizing i with
  | nil => simp at h
  | cons a r ih =>
    obtain ⟨t', sv'⟩ := a
    have hj : j < 5 := by have := (List.getElem?_eq_some_iff.1 hv).1; simpa [trCells] using this
    cases i with
    | zero =>
      simp only [List.getElem?_cons_zero, Option.some.injEq, Prod.mk.injEq] at h
      obtain ⟨rfl, rfl⟩ := h
      simp only [flat5, Nat.zero_mul, Nat.zero_add]
      rw [List.getElem?_append_left (by simpa [trCells] using hj)]
      exact hv
    | succ i =>
      simp only [List.getElem?_cons_succ] at h
      have := ih h
      simp only [flat5]
      rw [List.getElem?_append_right (by simp [trCells]; omega)]
      rw [← this]
      congr 1
      simp [trCells]; omega
theorem flat5_one {l : List (Tr × Value)} (h : ∀ x ∈ l, ∃ A n c, x.2 = .slice A n c) : ∀ v ∈ flat5 l, v.oneCell' = true := by
  induction l with
  | nil => simp [flat5]
  | cons a r ih =>
    obtain ⟨t, sv⟩ := a
    obtain ⟨A, n, c, e⟩ := h _ (List.mem_cons_self ..)
    intro v hv
    simp only [flat5, trCells, List.mem_append, List.mem_cons, List.not_mem_nil, or_false] at hv
    simp only at e
    rcases hv with (rfl | rfl | rfl | rfl | rfl) | hv
    · rfl
    · rfl
    · rfl
    · rfl
    · rw [e]; rfl
    · exact ih (fun x hx => h x (List.mem_cons_of_mem _ hx)) v hv

/-- Kids that a call has put into a row of its own (from block B on). -/
def KRow (w : World) (B : Nat) (P : Nat → Prop) (m : Nat) (v : Value) (ks : List Tr) : Prop :=
  ∃ l : List (Tr × Value), l.map Prod.fst = ks ∧ w.ownsRow B 38 5 v l.length (flat5 l) ∧ (∀ x ∈ l, KidsV w P m x.1.ks x.2) ∧ ∀ g, v.ownBlock = some g → ¬ P g
theorem KRow.nil (w : World) (B : Nat) (P : Nat → Prop) (m : Nat) : KRow w B P m (.slice none 0 0) [] :=
  ⟨[], rfl, ⟨rfl, .inl ⟨rfl, rfl⟩⟩, by simp, by simp [Value.ownBlock]⟩
theorem own5_fr {S : List Nat} {w w' : World} {B n : Nat} {v : Value} {xs : List Value} (h : w.ownsRow B 38 5 v n xs) (hf : Fr S w w') (hS : ∀ g, v.ownBlock = some g → g ∉ S) : w'.ownsRow B 38 5 v n xs := by
  refine ⟨h.1, ?_⟩
  rcases h.2 with h0 | ⟨g, cap, cur, e1, e2, e3, e4⟩
  · exact .inl h0
  · subst e1
    refine .inr ⟨g, cap, cur, rfl, e2, ?_, e4⟩
    rw [hf.block g (Array.getElem?_eq_some_iff.1 e3).1 (hS g rfl)]
    exact e3
theorem own5_lt {w : World} {B n : Nat} {v : Value} {xs : List Value} (h : w.ownsRow B 38 5 v n xs) : ∀ g, v.ownBlock = some g → B ≤ g ∧ g < w.heap.size := by
  intro g hg
  rcases h.2 with h0 | ⟨g', cap, cur, e1, e2, e3, e4⟩
  · rw [h0.1] at hg; simp [Value.ownBlock] at hg
  · rw [e1] at hg
    simp [Value.ownBlock] at hg
    subst hg
    exact ⟨e2, (Array.getElem?_eq_some_iff.1 e3).1⟩
theorem KRow.fr {S : List Nat} {w w' : World} {B : Nat} {P : Nat → Prop} {m : Nat} {v : Value} {ks : List Tr} (h : KRow w B P m v ks) (hf : Fr S w w') (hS : ∀ g, v.ownBlock = some g → g ∉ S) (hP : ∀ g, P g → g < w.heap.size → g ∉ S) : KRow w' B P m v ks := by
  obtain ⟨l, h1, h2, h3, h4⟩ := h
  exact ⟨l, h1, own5_fr h2 hf hS, fun x hx => (h3 x hx).fr hf hP, h4⟩
theorem KRow.mono {w : World} {B : Nat} {P Q : Nat → Prop} {m : Nat} {v : Value} {ks : List Tr} (h : KRow w B P m v ks) (hPQ : ∀ g, P g → Q g) (hQ : ∀ g, v.ownBlock = some g → ¬ Q g) : KRow w B Q m v ks := by
  obtain ⟨l, h1, h2, h3, h4⟩ := h
  exact ⟨l, h1, h2, fun x hx => (h3 x hx).mono hPQ, hQ⟩
theorem KRow.form {w : World} {B : Nat} {P : Nat → Prop} {m : Nat} {v : Value} {ks : List Tr} (h : KRow w B P m v ks) : ∃ A c, v = .slice A ks.length c := by
  obtain ⟨l, h1, h2, -, -⟩ := h
  have hl : ks.length = l.length := by rw [← h1, List.length_map]
  rcases h2.2 with ⟨e1, e2⟩ | ⟨g, cap, cur, e1, _⟩
  · exact ⟨none, 0, by rw [e1, hl, e2]⟩
  · exact ⟨_, cap, by rw [e1, hl]⟩
/-- Behind the call a row of kids is a tree's. -/
theorem KRow.kids {w : World} {B : Nat} {P : Nat → Prop} {m : Nat} {v : Value} {ks : List Tr} (h : KRow w B P m v ks) {Q : Nat → Prop} (hPQ : ∀ g, P g → Q g) (hQ : ∀ g, v.ownBlock = some g → Q g) : KidsV w Q (m + 1) ks v := by
  obtain ⟨l, h1, h2, h3, h4⟩ := h
  have hl : ks.length = l.length := by rw [← h1, List.length_map]
  rcases h2.2 with ⟨e1, e2⟩ | ⟨g, cap, cur, e1, e2, e3, e4, e5, e6, e7⟩
  · have h0 : ks = [] := List.eq_nil_of_length_eq_zero (by omega)
    exact ⟨none, 0, by rw [e1, h0]; rfl, by rw [h0]; exact Nat.zero_le _, fun i x hx => by rw [h0] at hx; simp at hx⟩
  · refine ⟨some ⟨g, 0, none⟩, cap, by rw [e1, hl], by omega, fun i x hx => ?_⟩
    have hil : i < l.length := by have := (List.getElem?_eq_some_iff.1 hx).1; omega
    obtain ⟨y, hy⟩ : ∃ y, l[i]? = some y := ⟨_, List.getElem?_eq_getElem hil⟩
    obtain ⟨t, kv⟩ := y
    have ex : x = t := by
      rw [← h1, List.getElem?_map, hy] at hx
      simpa using hx.symm
    subst ex
    have hcell : ∀ (j : Nat) (u : Value), (trCells x.k x.t x.f x.b kv)[j]? = some u → w.cell? ⟨g, i * 5 + j, none⟩ = some u := by
      intro j u hu
      have := flat5_get hy hu
      rw [← e7, List.getElem?_take] at this
      split at this
      · simpa [World.cell?, e3] using this
      · cases this
    refine ⟨g, 0, kv, rfl, hQ g (by rw [e1]; rfl), (Array.getElem?_eq_some_iff.1 e3).1, ?_, (h3 _ (List.mem_of_getElem? hy)).mono hPQ⟩
    simp only [Nat.zero_add]
    exact ⟨by simpa using hcell 0 _ rfl, hcell 1 _ rfl, hcell 2 _ rfl, hcell 3 _ rfl, hcell 4 _ rfl⟩

theorem infoTree : (Tryz.prog.info? 38).map (fun i => (i.zero, i.size, i.bytes)) = some (some (trAgg 0 0 false 0 (.slice none 0 0)), 5, 56) := by kernel_rfl

theorem run_appT {w : World} {B : Nat} {P : Nat → Prop} {m : Nat} {v : Value} {ks : List Tr} (ty : TypeId) (h : KRow w B P m v ks) (hPl : ∀ g, P g → g < w.heap.size) {ad : Addr} {c : Nat} {t : Tr} {sv : Value}
    (hs : ∀ j u, (trCells t.k t.t t.f t.b sv)[j]? = some u → w.cell? (ad.add j) = some u) (hk : KidsV w P m t.ks sv) (hle : ks.length ≤ 1000000) (hB : B ≤ w.heap.size) :
    ∃ v' w', (Builtin.append_ #[36, 36] ty #[v, .slice (some ad) 1 c]).run Tryz.prog w = .ok v' w' ∧ KRow w' B P m v' (ks ++ [t]) ∧ Fr v.ownBlock.toList w w' ∧ (v'.ownBlock = v.ownBlock ∨ v'.ownBlock = some w.heap.size) := by
  obtain ⟨i, hi, hz0, hz1, hz2⟩ := info_parts infoTree
  obtain ⟨l, h1, h2, h3, h4⟩ := h
  have hl : ks.length = l.length := by rw [← h1, List.length_map]
  obtain ⟨A, n, hsv⟩ := hk.form
  obtain ⟨v', w', hr, g2, g3, _, g5⟩ := run_append_own_at (P := Tryz.prog) w B 36 ty 38 i (trAgg 0 0 false 0 (.slice none 0 0)) 5 56 Tryz.underlying36 hi hz0 hz1 hz2 rfl (by decide) v l.length (flat5 l) h2 ad 1 c (trCells t.k t.t t.f t.b sv) (by simp [trCells]) hs (by
      intro v hv
      have := flat5_one (l := [(t, sv)]) (fun x hx => by simp at hx; subst hx; exact ⟨A, _, n, hsv⟩) v (by simpa [flat5] using hv)
      exact this) (by unfold maxLen; omega) (by omega) hB
  have hF : Fr v.ownBlock.toList w w' := ⟨g3.os, g3.tape, g3.output, g3.size, fun k hk hn => g3.block k hk (fun e => hn (by simp [← e]))⟩
  have hPS : ∀ g, P g → g < w.heap.size → g ∉ v.ownBlock.toList := fun g hg _ hc => h4 g (by simpa using hc) hg
  refine ⟨v', w', hr, ⟨l ++ [(t, sv)], by simp [h1], ?_, ?_, ?_⟩, hF, g5⟩
  · rw [List.length_append, flat5_app]
    simpa [flat5] using g2
  · intro x hx
    rcases List.mem_append.1 hx with hx | hx
    · exact (h3 x hx).fr hF hPS
    · simp at hx; subst hx; exact hk.fr hF hPS
  · intro g hg hP
    rcases g5 with e | e
    · exact h4 g (e ▸ hg) hP
    · rw [e] at hg
      cases hg
      exact absurd (hPl _ hP) (Nat.lt_irrefl _)

theorem step_appT {ops : Array Oper} {o : Oper} {a : Act} {w : World} {K : Act → World → Prop} {Q : Exit → Act → World → Prop} {E : Prop}
    (hg : o.guard = none) (s x : Operand) (hop : o.op = Op.call { callee := Callee.builtin Builtin.append, args := #[s, x], argTypes := #[36, 36] })
    (B : Nat) (P : Nat → Prop) (m : Nat) (v : Value) (ks : List Tr) (hs : a.eval s = v) (h : KRow w B P m v ks) (hPl : ∀ g, P g → g < w.heap.size) (ad : Addr) (c : Nat) (t : Tr) (sv : Value) (hx : a.eval x = .slice (some ad) 1 c)
    (hsr : ∀ j u, (trCells t.k t.t t.f t.b sv)[j]? = some u → w.cell? (ad.add j) = some u) (hk : KidsV w P m t.ks sv) (hle : ks.length ≤ 1000000) (hB : B ≤ w.heap.size)
    (hK : ∀ v' w', KRow w' B P m v' (ks ++ [t]) → Fr v.ownBlock.toList w w' → (v'.ownBlock = v.ownBlock ∨ v'.ownBlock = some w.heap.size) → K (a.put o.dst v') w') :
    if Region.wanted o (yielded ops a.tmps) = true then Oper.wp Tryz.prog o a w K Q else E := by
  have hw : Region.wanted o (yielded ops a.tmps) = true := by simp [Region.wanted, hg]
  rw [if_pos hw]
  obtain ⟨v', w', hr, h1, h2, h3⟩ := run_appT (c := c) o.type h hPl hsr hk hle hB
  unfold Oper.wp
  simp [execOp, hop, resolve, invoke, builtin, hs, hx, hr, Result.andThen]
  exact hK v' w' h1 h2 h3

theorem newTree (w : World) (k t : Int) (f : Bool) (b : Int) (sv : Value) : ∀ j u, (trCells k t f b sv)[j]? = some u → (w.alloc (.cells #[.int .i64 k, .int .i64 t, .bool f, .int .u64 b, sv] 38)).cell? ((⟨w.heap.size, 0, none⟩ : Addr).add j) = some u := by
  intro j u hu
  rw [Addr.add_lit, Nat.zero_add]
  exact (Blk.new w (trCells k t f b sv) 38).cell hu

theorem wpList_appT {ops : Array Oper} {rest : List Oper} {o : Oper} {a : Act} {w : World} {Q : Exit → Act → World → Prop}
    (hg : o.guard = none) (s x : Operand) (hop : o.op = Op.call { callee := Callee.builtin Builtin.append, args := #[s, x], argTypes := #[36, 36] })
    (B : Nat) (P : Nat → Prop) (m : Nat) (v : Value) (ks : List Tr) (hs : a.eval s = v) (h : KRow w B P m v ks) (hPl : ∀ g, P g → g < w.heap.size) (ad : Addr) (c : Nat) (t : Tr) (sv : Value) (hx : a.eval x = .slice (some ad) 1 c)
    (hsr : ∀ j u, (trCells t.k t.t t.f t.b sv)[j]? = some u → w.cell? (ad.add j) = some u) (hk : KidsV w P m t.ks sv) (hle : ks.length ≤ 1000000) (hB : B ≤ w.heap.size)
    (hK : ∀ v' w', KRow w' B P m v' (ks ++ [t]) → Fr v.ownBlock.toList w w' → (v'.ownBlock = v.ownBlock ∨ v'.ownBlock = some w.heap.size) → wpList Tryz.prog ops Q rest (a.put o.dst v') w') :
    wpList Tryz.prog ops Q (o :: rest) a w := by
  refine wpList_plain hg fun K' hK' => ?_
  obtain ⟨v', w', hr, h1, h2, h3⟩ := run_appT (c := c) o.type h hPl hsr hk hle hB
  unfold Oper.wp
  simp [execOp, hop, resolve, invoke, builtin, hs, hx, hr, Result.andThen]
  exact hK' _ _ (hK v' w' h1 h2 h3)
end Go.Proofs.YtklnpooninbogaaGreatDoor
