import Derived.Test.YtifillpcphiblaaPObj
namespace Go.Proofs.Ytifillpcphiblaa
open Go Go.Proofs Go.RowKit

/-! Plain laws: words of objects, set one behind the other. -/

theorem ob_q {s : HS} {A : Rg} {z : Int → Int} (hI : HI s A z) {o o' : Ob} (h : o.In s A z) (h' : o'.In s A z) (e : o.p = o'.p) : o.q = o'.q := by
  by_cases e1 : o.q = o'.q
  · exact e1
  · have := hI.apart o.q o.p o'.q o'.p h.mem h'.mem (.inl e1)
    have := hI.pos _ _ h.mem
    have := hI.pos _ _ h'.mem
    omega
theorem ne_of_p {o o' : Ob} (h : o.p ≠ o'.p) : o.ne o' := .inr h

theorem setw {s : HS} {A : Rg} {z : Int → Int} (hI : HI s A z) {o : Ob} (ho : o.In s A z) {j : Nat} (hj : j < o.n) (v n : Int) :
    HI (s.put (o.p + 3 + j) v n) A z ∧ ∀ o' : Ob, o'.In s A z → o'.In (s.put (o.p + 3 + j) v n) A z ∧ ∀ i : Nat, i < o'.n → (s.put (o.p + 3 + j) v n).wd o' i = if o'.p = o.p ∧ i = j then v else s.wd o' i := by
  refine ⟨hI.putOb ho hj v n, fun o' ho' => ?_⟩
  obtain ⟨h1, h2, h3⟩ := Ob.In.put hI ho ho' hj v n
  refine ⟨h1, fun i hi => ?_⟩
  have b := ho.bound hI
  have b' := ho'.bound hI
  by_cases e : o'.p = o.p
  · by_cases e2 : i = j
    · subst e2
      rw [if_pos ⟨e, rfl⟩]
      unfold HS.wd
      rw [e]
      exact put_at _ _ _ _ (by omega) (by omega)
    · rw [if_neg (fun h => e2 h.2)]
      unfold HS.wd
      exact put_ne _ _ _ _ _ (by omega) (by omega) (by omega) (by omega)
  · rw [if_neg (fun h => e h.1)]
    exact h2 (ne_of_p (Ne.symm e)) i hi

theorem turnw {s : HS} {A : Rg} {z : Int → Int} (hI : HI s A z) {o : Ob} (ho : o.In s A z) {k' a' : Int} (hd : Hd k' o.n a' o.m) (n : Int) :
    HI (s.put o.p (packed k' o.n a' o.m) n) A z ∧ ({ o with k := k', a := a' } : Ob).In (s.put o.p (packed k' o.n a' o.m) n) A z ∧ (∀ i, i < o.n → (s.put o.p (packed k' o.n a' o.m) n).wd o i = s.wd o i) ∧
    ∀ o' : Ob, o'.In s A z → o'.p ≠ o.p → o'.In (s.put o.p (packed k' o.n a' o.m) n) A z ∧ ∀ i, i < o'.n → (s.put o.p (packed k' o.n a' o.m) n).wd o' i = s.wd o' i := by
  obtain ⟨h1, h2, h3, h4⟩ := ho.turned hI hd n
  exact ⟨h1, h2, h3, fun o' ho' hne => h4 o' ho' (ne_of_p (Ne.symm hne))⟩

theorem Sta.put (s : HS) (p v n : Int) : Sta s (s.put p v n) := ⟨rfl, rfl, rfl, rfl, rfl, sw_len _ _ _⟩

/-! Burying: the words that are set, one behind the other. -/

/-- The next word of an object. -/
def HS.nx (s : HS) (o : Ob) : Int := s.wd o 3

/-- What bury leaves. -/
structure Bur (s s' : HS) (A : Rg) (z : Int → Int) (o : Ob) (ahead walk first last : Int) : Prop where
  hi : HI s' A z
  st : Sta s s'
  ob : ({ o with k := 10 } : Ob).In s' A z
  w0 : s'.wd o 0 = 0
  w1 : s'.wd o 1 = 0
  w2 : s'.wd o 2 = s.wd o 2
  w3 : s'.wd o 3 = 0
  oth : ∀ o' : Ob, o'.In s A z → o'.p ≠ o.p → o'.In s' A z ∧ (∀ i, i < o'.n → i ≠ 3 → s'.wd o' i = s.wd o' i) ∧ (3 < o'.n → s'.wd o' 3 = if first ≠ 0 ∧ o'.p = last then o.p else if ahead ≠ 0 ∧ o'.p = ahead then walk else s.wd o' 3)

/-- The first part: what stands ahead leads on. -/
structure Bu1 (s s1 : HS) (A : Rg) (z : Int → Int) (o : Ob) (ahead walk : Int) : Prop where
  hi : HI s1 A z
  st : Sta s s1
  oth : ∀ o' : Ob, o'.In s A z → o'.In s1 A z ∧ ∀ i, i < o'.n → s1.wd o' i = if ahead ≠ 0 ∧ o'.p = ahead ∧ i = 3 then walk else s.wd o' i
theorem Bu1.none {s : HS} {A : Rg} {z : Int → Int} (hI : HI s A z) (o : Ob) (walk : Int) : Bu1 s s A z o 0 walk :=
  ⟨hI, Sta.refl s, fun o' h => ⟨h, fun i _ => by rw [if_neg (fun h => h.1 rfl)]⟩⟩
theorem Bu1.some {s : HS} {A : Rg} {z : Int → Int} (hI : HI s A z) (o : Ob) (walk : Int) {oa : Ob} (ha : oa.In s A z) (hn : oa.n = 4) (h0 : oa.p ≠ 0) : Bu1 s (s.put (oa.p + 3 + (3 : Nat)) walk 2) A z o oa.p walk := by
  obtain ⟨h1, h2⟩ := setw hI ha (j := 3) (by omega) walk 2
  refine ⟨h1, Sta.put _ _ _ _, fun o' h => ⟨(h2 o' h).1, fun i hi => ?_⟩⟩
  rw [(h2 o' h).2 i hi]
  by_cases e : o'.p = oa.p ∧ i = 3
  · rw [if_pos e, if_pos ⟨h0, e⟩]
  · rw [if_neg e, if_neg (fun h => e h.2)]

/-- The whole. -/
theorem Bur.of {s s1 : HS} {A : Rg} {z : Int → Int} {o : Ob} {ahead walk : Int} (h : Bu1 s s1 A z o ahead walk) (ho : o.In s A z) (hn : o.n = 4) (hna : ahead ≠ 0 → o.p ≠ ahead) (hd : Hd 10 o.n o.a o.m) :
    let s2 := s1.put o.p (packed 10 o.n o.a o.m) 2
    let s5 := ((s2.put (o.p + 3 + (0 : Nat)) 0 2).put (o.p + 3 + (1 : Nat)) 0 2).put (o.p + 3 + (3 : Nat)) 0 2
    (o.In s1 A z ∧ ({ o with k := 10 } : Ob).In s2 A z ∧ ({ o with k := 10 } : Ob).In (s2.put (o.p + 3 + (0 : Nat)) 0 2) A z ∧ ({ o with k := 10 } : Ob).In ((s2.put (o.p + 3 + (0 : Nat)) 0 2).put (o.p + 3 + (1 : Nat)) 0 2) A z) ∧
    HI s2 A z ∧ HI (s2.put (o.p + 3 + (0 : Nat)) 0 2) A z ∧ HI ((s2.put (o.p + 3 + (0 : Nat)) 0 2).put (o.p + 3 + (1 : Nat)) 0 2) A z ∧
    (∀ l0 : Int, Bur s s5 A z o ahead walk 0 l0) ∧ ∀ ol : Ob, ol.In s A z → ol.n = 4 → ol.p ≠ o.p → ol.p ≠ 0 → ∀ first : Int, first ≠ 0 → Bur s (s5.put (ol.p + 3 + (3 : Nat)) o.p 2) A z o ahead walk first ol.p := by
  intro s2 s5
  obtain ⟨o1, ow⟩ := h.oth o ho
  obtain ⟨t1, t2, t3, t4⟩ := turnw h.hi o1 hd 2
  have j0 : 0 < ({ o with k := 10 } : Ob).n := by show 0 < o.n; omega
  have j1 : 1 < ({ o with k := 10 } : Ob).n := by show 1 < o.n; omega
  have j3 : 3 < ({ o with k := 10 } : Ob).n := by show 3 < o.n; omega
  obtain ⟨a1, a2⟩ := setw t1 t2 (j := 0) j0 0 2
  obtain ⟨b1, b2⟩ := setw a1 (a2 _ t2).1 (j := 1) j1 0 2
  obtain ⟨c1, c2⟩ := setw b1 (b2 _ (a2 _ t2).1).1 (j := 3) j3 0 2
  have hoIn := (c2 _ (b2 _ (a2 _ t2).1).1).1
  have hst : Sta s s5 := h.st.trans ((Sta.put _ _ _ _).trans ((Sta.put _ _ _ _).trans ((Sta.put _ _ _ _).trans (Sta.put _ _ _ _))))
  have hw : ∀ i, i < 4 → s5.wd o i = if i = 2 then s.wd o 2 else 0 := by
    intro i hi
    have e3 := (c2 _ (b2 _ (a2 _ t2).1).1).2 i (by show i < o.n; omega)
    have e2 := (b2 _ (a2 _ t2).1).2 i (by show i < o.n; omega)
    have e1 := (a2 _ t2).2 i (by show i < o.n; omega)
    have e0 := t3 i (by omega)
    have ew := ow i (by omega)
    have hne : ¬ (ahead ≠ 0 ∧ o.p = ahead ∧ i = 3) := fun h => hna h.1 h.2.1
    rw [if_neg hne] at ew
    show s5.wd ({ o with k := 10 } : Ob) i = _
    rw [e3]
    by_cases i3 : i = 3
    · subst i3; rw [if_pos ⟨rfl, rfl⟩]; simp
    · rw [if_neg (fun h => i3 h.2), e2]
      by_cases i1 : i = 1
      · subst i1; rw [if_pos ⟨rfl, rfl⟩]; simp
      · rw [if_neg (fun h => i1 h.2), e1]
        by_cases i0 : i = 0
        · subst i0; rw [if_pos ⟨rfl, rfl⟩]; simp
        · rw [if_neg (fun h => i0 h.2)]
          obtain rfl : i = 2 := by omega
          rw [if_pos rfl]
          exact e0.trans ew
  have hoth : ∀ o' : Ob, o'.In s A z → o'.p ≠ o.p → o'.In s5 A z ∧ ∀ i, i < o'.n → s5.wd o' i = if ahead ≠ 0 ∧ o'.p = ahead ∧ i = 3 then walk else s.wd o' i := by
    intro o' h' hne
    obtain ⟨x1, y1⟩ := h.oth o' h'
    obtain ⟨x2, y2⟩ := t4 o' x1 hne
    obtain ⟨x3, y3⟩ := a2 o' x2
    obtain ⟨x4, y4⟩ := b2 o' x3
    obtain ⟨x5, y5⟩ := c2 o' x4
    refine ⟨x5, fun i hi => ?_⟩
    rw [y5 i hi, if_neg (fun h => hne h.1), y4 i hi, if_neg (fun h => hne h.1), y3 i hi, if_neg (fun h => hne h.1), y2 i hi, y1 i hi]
  refine ⟨⟨o1, t2, (a2 _ t2).1, (b2 _ (a2 _ t2).1).1⟩, t1, a1, b1, fun l0 => ⟨c1, hst, hoIn, hw 0 (by decide), hw 1 (by decide), hw 2 (by decide), hw 3 (by decide), ?_⟩, ?_⟩
  · intro o' h' hne
    obtain ⟨x, y⟩ := hoth o' h' hne
    refine ⟨x, fun i hi h3 => by rw [y i hi, if_neg (fun h => h3 h.2.2)], fun h3 => ?_⟩
    rw [y 3 h3, if_neg (c := (0 : Int) ≠ 0 ∧ o'.p = l0) (fun h => h.1 rfl)]
    by_cases e : ahead ≠ 0 ∧ o'.p = ahead
    · rw [if_pos e, if_pos ⟨e.1, e.2, rfl⟩]
    · rw [if_neg e, if_neg (fun h => e ⟨h.1, h.2.1⟩)]
  · intro ol hol hln hlne hl0 first hf
    obtain ⟨xl, yl⟩ := hoth ol hol hlne
    obtain ⟨d1, d2⟩ := setw c1 xl (j := 3) (by omega) o.p 2
    have hok := (d2 _ hoIn)
    have hwo : ∀ i, i < 4 → (s5.put (ol.p + 3 + (3 : Nat)) o.p 2).wd o i = if i = 2 then s.wd o 2 else 0 := by
      intro i hi
      have := hok.2 i (by show i < o.n; omega)
      rw [if_neg (fun h => hlne h.1.symm)] at this
      exact this.trans (hw i hi)
    refine ⟨d1, hst.trans (Sta.put _ _ _ _), hok.1, hwo 0 (by decide), hwo 1 (by decide), hwo 2 (by decide), hwo 3 (by decide), ?_⟩
    intro o' h' hne
    obtain ⟨x, y⟩ := hoth o' h' hne
    obtain ⟨x', y'⟩ := d2 o' x
    refine ⟨x', fun i hi h3 => by rw [y' i hi, if_neg (fun h => h3 h.2), y i hi, if_neg (fun h => h3 h.2.2)], fun h3 => ?_⟩
    rw [y' 3 h3]
    by_cases e : o'.p = ol.p
    · rw [if_pos ⟨e, rfl⟩, if_pos ⟨hf, e⟩]
    · rw [if_neg (fun h => e h.1), if_neg (fun h => e h.2), y 3 h3]
      by_cases e : ahead ≠ 0 ∧ o'.p = ahead
      · rw [if_pos e, if_pos ⟨e.1, e.2, rfl⟩]
      · rw [if_neg e, if_neg (fun h => e ⟨h.1, h.2.1⟩)]
end Go.Proofs.Ytifillpcphiblaa
