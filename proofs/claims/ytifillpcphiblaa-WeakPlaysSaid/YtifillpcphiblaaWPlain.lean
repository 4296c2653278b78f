import Derived.Test.YtifillpcphiblaaWNew
namespace Go.Proofs.Ytifillpcphiblaa
open Go Go.Proofs Go.RowKit

/-! Plain laws: a table of weak pointers in a heap. -/

/-- Places that hang on each other by their words at 3, up to a value. -/
def Seg (ws : List Int) : Int → List Int → Int → Prop
  | v, [], e => v = e
  | v, p :: l, e => v = p ∧ p ≠ 0 ∧ Seg ws (gw ws (p + 3 + (3 : Nat))) l e
theorem Seg.append {ws : List Int} : ∀ {l1 l2 : List Int} {v m e : Int}, Seg ws v l1 m → Seg ws m l2 e → Seg ws v (l1 ++ l2) e
  | [], _, _, _, _, h, k => by have : _ = _ := h; subst this; exact k
  | _ :: _, _, _, _, _, h, k => ⟨h.1, h.2.1, h.2.2.append k⟩
theorem Seg.congr {ws ws' : List Int} : ∀ {l : List Int} {v e : Int}, Seg ws v l e → (∀ p ∈ l, gw ws' (p + 3 + (3 : Nat)) = gw ws (p + 3 + (3 : Nat))) → Seg ws' v l e
  | [], _, _, h, _ => h
  | p :: _, _, _, h, k => ⟨h.1, h.2.1, by rw [k p (by simp)]; exact h.2.2.congr (fun q hq => k q (by simp [hq]))⟩
theorem Seg.snoc {ws : List Int} {l : List Int} {v p e : Int} (h : Seg ws v l p) (h0 : p ≠ 0) (he : gw ws (p + 3 + (3 : Nat)) = e) : Seg ws v (l ++ [p]) e :=
  h.append ⟨rfl, h0, he⟩
theorem Seg.split {ws : List Int} : ∀ {l1 l2 : List Int} {v e : Int}, Seg ws v (l1 ++ l2) e → ∃ m, Seg ws v l1 m ∧ Seg ws m l2 e
  | [], _, v, _, h => ⟨v, rfl, h⟩
  | _ :: _, _, _, _, h => by
    obtain ⟨m, a, b⟩ := Seg.split h.2.2
    exact ⟨m, ⟨h.1, h.2.1, a⟩, b⟩
theorem Seg.reset {ws ws' : List Int} {l : List Int} {v p e e' : Int} (h : Seg ws v (l ++ [p]) e) (k : ∀ x ∈ l, gw ws' (x + 3 + (3 : Nat)) = gw ws (x + 3 + (3 : Nat))) (he : gw ws' (p + 3 + (3 : Nat)) = e') : Seg ws' v (l ++ [p]) e' := by
  obtain ⟨m, a, b⟩ := h.split
  obtain ⟨rfl, b1, -⟩ := b
  exact (a.congr k).snoc b1 he

/-- A weak pointer, its key, and its finaliser. -/
structure Wk where
  o : Ob
  ko : Ob
  fo : Ob

structure WOk (s : HS) (A : Rg) (z : Int → Int) (i : Nat) (k : Wk) : Prop where
  o : k.o.In s A z
  ko : k.ko.In s A z
  fo : k.fo.In s A z
  on : k.o.n = 4
  oa : k.o.a = i
  ok : k.o.k = 9 ∨ k.o.k = 10
  kn : k.ko.n = 1
  kk : k.ko.k = 7
  ka : k.ko.a = 0
  fk : k.fo.k = 7
  fa : k.fo.a = 1
  km : k.ko.m = s.parity ∨ k.ko.p ∈ (A k.ko.q).F

/-- The heap's part: n weak pointers, and nothing of the heap is White. -/
structure WH (s : HS) (A : Rg) (z : Int → Int) (n : Nat) (ks : Nat → Wk) : Prop where
  hi : HI s A z
  p0 : 0 ≤ s.parity
  p1 : s.parity ≤ 1
  nW : ∀ q, (A q).W = []
  cls : s.cls = [1, 4]
  ob : ∀ i, i < n → WOk s A z i (ks i)
  kk : ∀ i j, i < n → j < n → i ≠ j → (ks i).ko.p ≠ (ks j).ko.p

theorem packed_inj {k n a m k' n' a' m' : Int} (h : Hd k n a m) (h' : Hd k' n' a' m') (e : packed k n a m = packed k' n' a' m') : k = k' ∧ a = a' := by
  obtain ⟨h1, h2, h3, h4, h5, h6, h7, h8⟩ := h
  obtain ⟨g1, g2, g3, g4, g5, g6, g7, g8⟩ := h'
  unfold packed at e
  omega

theorem ob_ne {s : HS} {A : Rg} {z : Int → Int} {o o' : Ob} (h : o.In s A z) (h' : o'.In s A z) (hne : o.k ≠ o'.k ∨ o.a ≠ o'.a) : o.p ≠ o'.p := by
  intro e
  have h1 := h.head
  have h2 := h'.head
  rw [e, h2] at h1
  have := packed_inj h'.hd h.hd h1
  omega

theorem WOk.nk {s : HS} {A : Rg} {z : Int → Int} {i j : Nat} {k k' : Wk} (h : WOk s A z i k) (h' : WOk s A z j k') : k'.ko.p ≠ k.o.p := by
  refine ob_ne h'.ko h.o (.inl ?_)
  have := h'.kk; have := h.ok
  omega
theorem WOk.nf {s : HS} {A : Rg} {z : Int → Int} {i j : Nat} {k k' : Wk} (h : WOk s A z i k) (h' : WOk s A z j k') : k'.fo.p ≠ k.o.p := by
  refine ob_ne h'.fo h.o (.inl ?_)
  have := h'.fk; have := h.ok
  omega
theorem WOk.no {s : HS} {A : Rg} {z : Int → Int} {i j : Nat} {k k' : Wk} (h : WOk s A z i k) (h' : WOk s A z j k') (hne : i ≠ j) : k'.o.p ≠ k.o.p := by
  refine ob_ne h'.o h.o (.inr ?_)
  have := h'.oa; have := h.oa
  omega
theorem WOk.fk' {s : HS} {A : Rg} {z : Int → Int} {i j : Nat} {k k' : Wk} (h : WOk s A z i k) (h' : WOk s A z j k') : k'.fo.p ≠ k.ko.p := by
  refine ob_ne h'.fo h.ko (.inr ?_)
  have := h'.fa; have := h.ka
  omega
theorem WOk.pos {s : HS} {A : Rg} {z : Int → Int} {i : Nat} {k : Wk} (h : WOk s A z i k) (hI : HI s A z) : 1 ≤ k.o.p ∧ 1 ≤ k.fo.p ∧ 1 ≤ k.ko.p := ⟨(h.o.bound hI).1, (h.fo.bound hI).1, (h.ko.bound hI).1⟩

/-- What goes on to be an object, with its words. -/
def Car (s : HS) (A : Rg) (z : Int → Int) (s' : HS) (A' : Rg) (z' : Int → Int) : Prop := ∀ o : Ob, o.In s A z → o.In s' A' z' ∧ ∀ j, j < o.n → s'.wd o j = s.wd o j
theorem Car.trans {s s' s'' : HS} {A A' A'' : Rg} {z z' z'' : Int → Int} (h : Car s A z s' A' z') (k : Car s' A' z' s'' A'' z'') : Car s A z s'' A'' z'' := fun o ho =>
  ⟨(k o (h o ho).1).1, fun j hj => ((k o (h o ho).1).2 j hj).trans ((h o ho).2 j hj)⟩

theorem WOk.car {s s' : HS} {A A' : Rg} {z z' : Int → Int} {i : Nat} {k : Wk} (h : WOk s A z i k) (c : Car s A z s' A' z') (hp : s'.parity = s.parity) (hF : ∀ q x, x ∈ (A q).F → x ∈ (A' q).F) : WOk s' A' z' i k :=
  ⟨(c _ h.o).1, (c _ h.ko).1, (c _ h.fo).1, h.on, h.oa, h.ok, h.kn, h.kk, h.ka, h.fk, h.fa, by rw [hp]; exact h.km.imp_right (hF _ _)⟩

theorem WH.tick {s : HS} {A : Rg} {z : Int → Int} {n : Nat} {ks : Nat → Wk} (h : WH s A z n ks) (m : Int) : WH (s.tick m) A z n ks :=
  ⟨h.hi.tick m, h.p0, h.p1, h.nW, h.cls, fun i hi => (h.ob i hi).car (fun _ ho => ⟨ho.tick m, fun _ _ => rfl⟩) rfl (fun _ _ h => h), h.kk⟩

theorem Alc.car {s s' : HS} {A A' : Rg} {z z' : Int → Int} {q : Option Nat} {p word : Int} {m : Nat} (k : Alc s s' A A' z z' q p word m) (nW : ∀ q, (A q).W = []) : Car s A z s' A' z' :=
  fun o ho => ho.alloc k (fun hc => by rw [nW] at hc; cases hc)

theorem Alc.F {s s' : HS} {A A' : Rg} {z z' : Int → Int} {q : Option Nat} {p word : Int} {m : Nat} (k : Alc s s' A A' z z' q p word m) (q' : Option Nat) : (A' q').F = (A q').F ∧ (A' q').G = (A q').G := by
  obtain ⟨W, rfl, _⟩ := k.row
  by_cases e : q' = q
  · subst e; rw [Rg.up_same]; exact ⟨rfl, rfl⟩
  · rw [Rg.up_ne A e]; exact ⟨rfl, rfl⟩
theorem Alc.nW {s s' : HS} {A A' : Rg} {z z' : Int → Int} {q : Option Nat} {p word : Int} {m : Nat} (k : Alc s s' A A' z z' q p word m) (nW : ∀ q, (A q).W = []) : ∀ q, (A' q).W = [] := by
  intro q'
  obtain ⟨W, rfl, hW⟩ := k.row
  by_cases e : q' = q
  · subst e; rw [Rg.up_same]
    rcases hW with hW | ⟨hW, _, _⟩ <;> rw [nW] at hW
    · cases hW
    · exact hW.symm
  · rw [Rg.up_ne A e]; exact nW q'

/-- An object comes. -/
theorem WH.alloc {s s' : HS} {A A' : Rg} {z z' : Int → Int} {n : Nat} {ks : Nat → Wk} (h : WH s A z n ks) {q : Option Nat} {p word : Int} {m : Nat} (k : Alc s s' A A' z z' q p word m) : WH s' A' z' n ks :=
  ⟨k.hi, by rw [k.parity]; exact h.p0, by rw [k.parity]; exact h.p1, k.nW h.nW, k.cls.trans h.cls, fun i hi => (h.ob i hi).car (k.car h.nW) k.parity (fun q' x hx => by rw [(k.F q').1]; exact hx), h.kk⟩

/-- A word of an object is set. -/
theorem WH.put {s : HS} {A : Rg} {z : Int → Int} {n : Nat} {ks : Nat → Wk} (h : WH s A z n ks) {o : Ob} (ho : o.In s A z) {j : Nat} (hj : j < o.n) (v m : Int) : WH (s.put (o.p + 3 + j) v m) A z n ks := by
  obtain ⟨h1, h2⟩ := setw h.hi ho hj v m
  refine ⟨h1, h.p0, h.p1, h.nW, h.cls, fun i hi => ?_, h.kk⟩
  have g := h.ob i hi
  exact ⟨(h2 _ g.o).1, (h2 _ g.ko).1, (h2 _ g.fo).1, g.on, g.oa, g.ok, g.kn, g.kk, g.ka, g.fk, g.fa, g.km⟩

def upk (ks : Nat → Wk) (i : Nat) (k : Wk) : Nat → Wk := fun j => if j = i then k else ks j
theorem upk_same (ks : Nat → Wk) (i : Nat) (k : Wk) : upk ks i k i = k := by simp [upk]
theorem upk_ne (ks : Nat → Wk) {i j : Nat} (k : Wk) (h : j ≠ i) : upk ks i k j = ks j := by simp [upk, h]

/-- One more. -/
theorem WH.snoc {s : HS} {A : Rg} {z : Int → Int} {n : Nat} {ks : Nat → Wk} (h : WH s A z n ks) {k : Wk} (hk : WOk s A z n k) (hne : ∀ i, i < n → (ks i).ko.p ≠ k.ko.p) : WH s A z (n + 1) (upk ks n k) := by
  refine ⟨h.hi, h.p0, h.p1, h.nW, h.cls, fun i hi => ?_, fun i j hi hj hij => ?_⟩
  · by_cases e : i = n
    · subst e; rw [upk_same]; exact hk
    · rw [upk_ne _ _ e]; exact h.ob i (by omega)
  · by_cases e : i = n
    · subst e
      rw [upk_same, upk_ne _ _ (Ne.symm hij)]
      exact (hne j (by omega)).symm
    · by_cases e' : j = n
      · subst e'
        rw [upk_same, upk_ne _ _ hij]
        exact hne i (by omega)
      · rw [upk_ne _ _ e, upk_ne _ _ e']
        exact h.kk i j (by omega) (by omega) hij

/-- The key of one is marked. -/
theorem WH.mark {s s' : HS} {A : Rg} {z : Int → Int} {n : Nat} {ks : Nat → Wk} (h : WH s A z n ks) {i : Nat} (hi : i < n) {F1 F2 : List Int} (hF : (A (ks i).ko.q).F = F1 ++ (ks i).ko.p :: F2)
    (k : Shd s s' A z (ks i).ko.q (ks i).ko.p F1 F2 (packed (ks i).ko.k (ks i).ko.n (ks i).ko.a s.parity)) :
    WH s' (A.up (ks i).ko.q ⟨(A (ks i).ko.q).W, F1 ++ F2, (A (ks i).ko.q).G ++ [(ks i).ko.p], (A (ks i).ko.q).B⟩) z n (upk ks i { ks i with ko := { (ks i).ko with m := s.parity } }) ∧ ∀ j, j < n → ∀ x, x < 4 → s'.wd (ks j).o x = s.wd (ks j).o x := by
  have g := h.ob i hi
  have hd : Hd (ks i).ko.k (ks i).ko.n (ks i).ko.a s.parity := by
    have := g.ko.hd
    have := h.p0
    have := h.p1
    exact ⟨g.ko.hd.k0, g.ko.hd.k1, h.p0, by omega, g.ko.hd.s0, g.ko.hd.s1, g.ko.hd.a0, g.ko.hd.a1⟩
  have hsh := g.ko.shaded (m' := s.parity) k hd
  have oth : ∀ o : Ob, o.In s A z → o.p ≠ (ks i).ko.p → _ := fun o ho hne => ho.shade k hF (.inr hne)
  refine ⟨⟨k.hi, by rw [k.st.parity]; exact h.p0, by rw [k.st.parity]; exact h.p1, fun q => ?_, k.st.cls.trans h.cls, fun j hj => ?_, fun j j' hj hj' hne => ?_⟩, fun j hj x hx => ?_⟩
  · by_cases e : q = (ks i).ko.q
    · subst e; rw [Rg.up_same]; exact h.nW _
    · rw [Rg.up_ne A e]; exact h.nW q
  · have gj := h.ob j hj
    by_cases e : j = i
    · subst e
      rw [upk_same]
      exact ⟨(oth _ gj.o (g.nk gj).symm).1, hsh.1, (oth _ gj.fo (g.fk' gj)).1, gj.on, gj.oa, gj.ok, gj.kn, gj.kk, gj.ka, gj.fk, gj.fa, .inl k.st.parity.symm⟩
    · rw [upk_ne _ _ e]
      refine ⟨(oth _ gj.o (gj.nk g).symm).1, (oth _ gj.ko (h.kk j i hj hi e)).1, (oth _ gj.fo (g.fk' gj)).1, gj.on, gj.oa, gj.ok, gj.kn, gj.kk, gj.ka, gj.fk, gj.fa, ?_⟩
      rcases gj.km with hm | hm
      · exact .inl (hm.trans k.st.parity.symm)
      · right
        by_cases e2 : (ks j).ko.q = (ks i).ko.q
        · rw [e2, Rg.up_same]
          rw [e2, hF] at hm
          have := h.kk j i hj hi e
          simp at hm ⊢
          rcases hm with hm | hm | hm
          · exact .inl hm
          · exact absurd hm this
          · exact .inr hm
        · rw [Rg.up_ne A e2]; exact hm
  · have : ∀ j, (upk ks i { ks i with ko := { (ks i).ko with m := s.parity } } j).ko.p = (ks j).ko.p := by
      intro j
      by_cases e : j = i
      · subst e; rw [upk_same]
      · rw [upk_ne _ _ e]
    rw [this, this]
    exact h.kk j j' hj hj' hne
  · have gj := h.ob j hj
    exact (oth _ gj.o (gj.nk g).symm).2 x (by rw [gj.on]; exact hx)

/-- A cycle begins. -/
theorem WH.begin {s s' : HS} {A : Rg} {z : Int → Int} {n : Nat} {ks : Nat → Wk} (h : WH s A z n ks) (hno : NoFG A) (hI : HI s' A.begun z) (hw : s'.ws = s.ws) (hc : s'.cls = s.cls) (hp : s'.parity = 1 - s.parity) : WH s' A.begun z n ks := by
  have hm : ∀ q x, x ∈ (A q).all → x ∈ (A.begun q).F := by
    intro q x hx
    have h1 := h.nW q
    have h2 := hno q
    simp [Rows.all, h1, h2.1, h2.2] at hx
    exact hx
  have c : Car s A z s' A.begun z := fun o ho => ⟨(ho.rows hw hc (fun x hx => by have := hm o.q x hx; simp [Rows.all, this])).1, fun j _ => (ho.rows (A' := A.begun) hw hc (fun x hx => by have := hm o.q x hx; simp [Rows.all, this])).2 j⟩
  have p0 := h.p0
  have p1 := h.p1
  refine ⟨hI, by omega, by omega, h.nW, hc.trans h.cls, fun i hi => ?_, h.kk⟩
  have g := h.ob i hi
  exact ⟨(c _ g.o).1, (c _ g.ko).1, (c _ g.fo).1, g.on, g.oa, g.ok, g.kn, g.kk, g.ka, g.fk, g.fa, .inr (hm _ _ g.ko.mem)⟩

/-- One is buried. -/
theorem WH.bury {s s' : HS} {A : Rg} {z : Int → Int} {n : Nat} {ks : Nat → Wk} (h : WH s A z n ks) {i : Nat} (hi : i < n) {ahead walk first last : Int} (b : Bur s s' A z (ks i).o ahead walk first last) : WH s' A z n (upk ks i { ks i with o := { (ks i).o with k := 10 } }) := by
  have g := h.ob i hi
  refine ⟨b.hi, by rw [b.st.parity]; exact h.p0, by rw [b.st.parity]; exact h.p1, h.nW, b.st.cls.trans h.cls, fun j hj => ?_, fun j j' hj hj' hne => ?_⟩
  · have gj := h.ob j hj
    by_cases e : j = i
    · subst e
      rw [upk_same]
      exact ⟨b.ob, (b.oth _ gj.ko (gj.nk gj)).1, (b.oth _ gj.fo (gj.nf gj)).1, gj.on, gj.oa, .inr rfl, gj.kn, gj.kk, gj.ka, gj.fk, gj.fa, by rw [b.st.parity]; exact gj.km⟩
    · rw [upk_ne _ _ e]
      exact ⟨(b.oth _ gj.o (g.no gj (Ne.symm e))).1, (b.oth _ gj.ko (g.nk gj)).1, (b.oth _ gj.fo (g.nf gj)).1, gj.on, gj.oa, gj.ok, gj.kn, gj.kk, gj.ka, gj.fk, gj.fa, by rw [b.st.parity]; exact gj.km⟩
  · have : ∀ j, (upk ks i { ks i with o := { (ks i).o with k := 10 } } j).ko.p = (ks j).ko.p := by
      intro j
      by_cases e : j = i
      · subst e; rw [upk_same]
      · rw [upk_ne _ _ e]
    rw [this, this]
    exact h.kk j j' hj hj' hne

/-! The table. -/
def plc (ks : Nat → Wk) (i : Nat) : Int := (ks i).o.p
def lsp (ks : Nat → Wk) (l : List Nat) : Int := match l.getLast? with | none => 0 | some i => plc ks i
theorem lsp_snoc (ks : Nat → Wk) (l : List Nat) (i : Nat) : lsp ks (l ++ [i]) = plc ks i := by simp [lsp]
theorem lsp_cons (ks : Nat → Wk) (i : Nat) (l : List Nat) : lsp ks (i :: l) = if l = [] then plc ks i else lsp ks l := by
  cases l with
  | nil => simp [lsp]
  | cons x l => simp [lsp, List.getLast?_cons_cons]

structure WT (s : HS) (t : TS) (n : Nat) (ks : Nat → Wk) (pre walk queue : List Nat) : Prop where
  row : ∀ i ∈ pre ++ walk, i < n ∧ (ks i).o.k = 9 ∧ s.wd (ks i).o 0 = (ks i).ko.p ∧ s.wd (ks i).o 2 = (ks i).fo.p
  que : ∀ i ∈ queue, i < n ∧ (ks i).o.k = 10 ∧ s.wd (ks i).o 0 = 0 ∧ s.wd (ks i).o 1 = 0 ∧ s.wd (ks i).o 2 = (ks i).fo.p
  nd : (pre ++ walk ++ queue).Nodup
  cr : Seg s.ws t.row (pre.map (plc ks)) t.walk
  cw : Seg s.ws t.walk (walk.map (plc ks)) 0
  cq : Seg s.ws t.first (queue.map (plc ks)) 0
  last : queue ≠ [] → t.last = lsp ks queue
  ahead : t.walking = true → t.ahead = lsp ks pre
  idle : t.walking = false → walk = []

theorem WT.new (s : HS) (ks : Nat → Wk) : WT s TS.new 0 ks [] [] [] :=
  ⟨by simp, by simp, by simp, rfl, rfl, rfl, fun h => absurd rfl h, fun _ => rfl, fun _ => rfl⟩

theorem WT.tick {s : HS} {t : TS} {n : Nat} {ks : Nat → Wk} {pre walk queue : List Nat} (h : WT s t n ks pre walk queue) (m : Int) : WT (s.tick m) t n ks pre walk queue :=
  ⟨h.row, h.que, h.nd, h.cr, h.cw, h.cq, h.last, h.ahead, h.idle⟩
theorem WT.mem {s : HS} {t : TS} {n : Nat} {ks : Nat → Wk} {pre walk queue : List Nat} (h : WT s t n ks pre walk queue) {i : Nat} (hi : i ∈ pre ++ walk ++ queue) : i < n := by
  rcases List.mem_append.1 hi with hi | hi
  · exact (h.row i hi).1
  · exact (h.que i hi).1
theorem lsp_congr {ks ks' : Nat → Wk} {l : List Nat} (h : ∀ i ∈ l, (ks' i).o.p = (ks i).o.p) : lsp ks' l = lsp ks l := by
  unfold lsp
  cases e : l.getLast? with
  | none => rfl
  | some i => exact h i (List.mem_of_getLast? e)
theorem Seg.over {s s' : HS} {ks ks' : Nat → Wk} {l : List Nat} {v e : Int} (h : Seg s.ws v (l.map (plc ks)) e) (hw : ∀ i ∈ l, s'.wd (ks i).o 3 = s.wd (ks i).o 3) (hk : ∀ i ∈ l, (ks' i).o.p = (ks i).o.p) : Seg s'.ws v (l.map (plc ks')) e := by
  have hp : l.map (plc ks') = l.map (plc ks) := List.map_congr_left hk
  rw [hp]
  refine h.congr (fun p hp => ?_)
  obtain ⟨i, hi, rfl⟩ := List.mem_map.1 hp
  exact hw i hi
/-- The words of all of them are the same. -/
theorem WT.same {s s' : HS} {t : TS} {n n' : Nat} {ks ks' : Nat → Wk} {pre walk queue : List Nat} (h : WT s t n ks pre walk queue) (hn : n ≤ n') (hw : ∀ i ∈ pre ++ walk ++ queue, ∀ j, j < 4 → s'.wd (ks i).o j = s.wd (ks i).o j)
    (hk : ∀ i, i < n → (ks' i).o = (ks i).o ∧ (ks' i).ko.p = (ks i).ko.p ∧ (ks' i).fo.p = (ks i).fo.p) : WT s' t n' ks' pre walk queue := by
  have ho : ∀ l : List Nat, (∀ i ∈ l, i ∈ pre ++ walk ++ queue) → ∀ i ∈ l, (ks' i).o.p = (ks i).o.p := fun l hl i hi => by rw [(hk i (h.mem (hl i hi))).1]
  have hl : ∀ l : List Nat, (∀ i ∈ l, i ∈ pre ++ walk ++ queue) → lsp ks' l = lsp ks l := fun l hm => lsp_congr (ho l hm)
  have seg : ∀ {v e : Int} {l : List Nat}, (∀ i ∈ l, i ∈ pre ++ walk ++ queue) → Seg s.ws v (l.map (plc ks)) e → Seg s'.ws v (l.map (plc ks')) e := fun hm hs => hs.over (fun i hi => hw i (hm i hi) 3 (by decide)) (ho _ hm)
  refine ⟨fun i hi => ?_, fun i hi => ?_, h.nd, seg (fun i hi => by simp [hi]) h.cr, seg (fun i hi => by simp [hi]) h.cw, seg (fun i hi => by simp [hi]) h.cq, fun hq => (h.last hq).trans (hl _ (fun i hi => by simp [hi])).symm, fun hq => (h.ahead hq).trans (hl _ (fun i hi => by simp [hi])).symm, h.idle⟩
  · obtain ⟨a, b, c, d⟩ := h.row i hi
    obtain ⟨e1, e2, e3⟩ := hk i a
    have hm : i ∈ pre ++ walk ++ queue := List.mem_append_left _ hi
    rw [e1, e2, e3, hw i hm 0 (by decide), hw i hm 2 (by decide)]
    exact ⟨by omega, b, c, d⟩
  · obtain ⟨a, b, c, d, e⟩ := h.que i hi
    obtain ⟨e1, e2, e3⟩ := hk i a
    have hm : i ∈ pre ++ walk ++ queue := List.mem_append_right _ hi
    rw [e1, e3, hw i hm 0 (by decide), hw i hm 1 (by decide), hw i hm 2 (by decide)]
    exact ⟨by omega, b, c, d, e⟩

theorem WT.begin {s : HS} {t : TS} {n : Nat} {ks : Nat → Wk} {pre walk queue : List Nat} (h : WT s t n ks pre walk queue) : WT s { t with walk := t.row, ahead := 0, walking := true } n ks [] (pre ++ walk) queue :=
  ⟨h.row, h.que, h.nd, rfl, by rw [List.map_append]; exact h.cr.append h.cw, h.cq, h.last, fun _ => rfl, fun e => by cases e⟩
theorem WT.over {s : HS} {t : TS} {n : Nat} {ks : Nat → Wk} {pre queue : List Nat} (h : WT s t n ks pre [] queue) : WT s { t with walking := false } n ks pre [] queue :=
  ⟨h.row, h.que, h.nd, h.cr, h.cw, h.cq, h.last, (fun e => by cases e), fun _ => rfl⟩
theorem WT.keep {s : HS} {t : TS} {n : Nat} {ks : Nat → Wk} {pre walk queue : List Nat} {i : Nat} (h : WT s t n ks pre (i :: walk) queue) : WT s { t with walk := s.wd (ks i).o 3, ahead := (ks i).o.p } n ks (pre ++ [i]) walk queue := by
  obtain ⟨h1, h2, h3⟩ := h.cw
  have e : pre ++ [i] ++ walk = pre ++ i :: walk := by simp
  refine ⟨by rw [e]; exact h.row, h.que, by rw [e]; exact h.nd, ?_, h3, h.cq, h.last, fun _ => (lsp_snoc ks pre i).symm, fun hw => by have := h.idle hw; cases this⟩
  rw [List.map_append]
  have hc := h.cr
  rw [h1] at hc
  exact hc.snoc h2 rfl

theorem WT.walk {s : HS} {t : TS} {n : Nat} {ks : Nat → Wk} {pre walk queue : List Nat} {i : Nat} (h : WT s t n ks pre (i :: walk) queue) : t.walk = (ks i).o.p ∧ i < n ∧ t.walking = true := by
  refine ⟨h.cw.1, (h.row i (by simp)).1, ?_⟩
  cases hw : t.walking with
  | true => rfl
  | false => have := h.idle hw; cases this
theorem WT.walk0 {s : HS} {t : TS} {n : Nat} {ks : Nat → Wk} {pre queue : List Nat} (h : WT s t n ks pre [] queue) : t.walk = 0 := h.cw
theorem WT.first {s : HS} {t : TS} {n : Nat} {ks : Nat → Wk} {pre walk queue : List Nat} {i : Nat} (h : WT s t n ks pre walk (i :: queue)) : t.first = (ks i).o.p ∧ i < n := ⟨h.cq.1, (h.que i (by simp)).1⟩
theorem WT.first0 {s : HS} {t : TS} {n : Nat} {ks : Nat → Wk} {pre walk : List Nat} (h : WT s t n ks pre walk []) : t.first = 0 := h.cq

/-- What stands ahead, and what is the queue's last, as bury asks for them. -/
theorem WT.forBury {s : HS} {A : Rg} {z : Int → Int} {t : TS} {n : Nat} {ks : Nat → Wk} {pre walk queue : List Nat} {i : Nat} (g : WH s A z n ks) (h : WT s t n ks pre (i :: walk) queue) :
    (t.ahead ≠ 0 → (ks i).o.p ≠ t.ahead) ∧ (t.ahead = 0 ∨ ∃ oa : Ob, oa.In s A z ∧ oa.n = 4 ∧ oa.p = t.ahead) ∧ (t.first = 0 ∨ ∃ ol : Ob, ol.In s A z ∧ ol.n = 4 ∧ ol.p = t.last ∧ ol.p ≠ (ks i).o.p ∧ ol.p ≠ 0) := by
  have ha := h.ahead h.walk.2.2
  have hnd := h.nd
  have gi := g.ob i h.walk.2.1
  have hah : t.ahead = 0 ∨ ∃ j, j ∈ pre ∧ t.ahead = (ks j).o.p := by
    rw [ha]; unfold lsp
    cases e : pre.getLast? with
    | none => exact .inl rfl
    | some j => exact .inr ⟨j, List.mem_of_getLast? e, rfl⟩
  refine ⟨fun h0 => ?_, ?_, ?_⟩
  · rcases hah with e | ⟨j, hj, e⟩
    · exact absurd e h0
    · rw [e]
      have hjn := h.mem (i := j) (by simp [hj])
      refine (g.ob j hjn).no gi (fun e2 => ?_)
      subst e2
      simp [List.nodup_append] at hnd
      exact (hnd.2.2 j hj).1 rfl
  · rcases hah with e | ⟨j, hj, e⟩
    · exact .inl e
    · have gj := g.ob j (h.mem (by simp [hj]))
      exact .inr ⟨_, gj.o, gj.on, e.symm⟩
  · cases hq : queue with
    | nil => left; rw [hq] at h; exact h.first0
    | cons x l =>
      right
      have hl := h.last (by rw [hq]; simp)
      unfold lsp at hl
      cases e : queue.getLast? with
      | none => rw [List.getLast?_eq_none_iff] at e; rw [e] at hq; cases hq
      | some j =>
        rw [e] at hl
        have hj := List.mem_of_getLast? e
        have gj := g.ob j (h.mem (by simp [hj]))
        refine ⟨_, gj.o, gj.on, hl.symm, gi.no gj (fun e2 => ?_), ?_⟩
        · subst e2
          rw [List.nodup_append] at hnd
          exact hnd.2.2 i (by simp) i hj rfl
        · have := (gj.pos g.hi).1; omega

/-- One comes. -/
theorem WT.add {s s' : HS} {t : TS} {n : Nat} {ks : Nat → Wk} {pre walk queue : List Nat} (h : WT s t n ks pre walk queue) {k : Wk} (hw : ∀ i, i < n → ∀ j, j < 4 → s'.wd (ks i).o j = s.wd (ks i).o j)
    (h9 : k.o.k = 9) (h0 : s'.wd k.o 0 = k.ko.p) (h2 : s'.wd k.o 2 = k.fo.p) (h3 : s'.wd k.o 3 = t.row) (hp : k.o.p ≠ 0) (hpre : ∀ i ∈ pre, (ks i).o.p ≠ 0) : WT s' (t.added k.o.p) (n + 1) (upk ks n k) (n :: pre) walk queue := by
  have hs := h.same (ks' := upk ks n k) (n' := n + 1) (by omega) (fun i hi => hw i (h.mem hi)) (fun i hi => by rw [upk_ne _ _ (by omega : i ≠ n)]; exact ⟨rfl, rfl, rfl⟩)
  refine ⟨?_, hs.que, ?_, ?_, hs.cw, hs.cq, hs.last, ?_, h.idle⟩
  · intro i hi
    simp only [List.cons_append, List.mem_cons] at hi
    rcases hi with rfl | hi
    · rw [upk_same]; exact ⟨by omega, h9, h0, h2⟩
    · exact hs.row i hi
  · simp only [List.cons_append, List.nodup_cons]
    exact ⟨fun hc => by have := h.mem hc; omega, h.nd⟩
  · show Seg s'.ws k.o.p (plc (upk ks n k) n :: pre.map (plc (upk ks n k))) t.walk
    have e : plc (upk ks n k) n = k.o.p := by simp [plc, upk_same]
    rw [e]
    refine ⟨rfl, hp, ?_⟩
    have h3' : gw s'.ws (k.o.p + 3 + (3 : Nat)) = t.row := h3
    rw [h3']
    exact hs.cr
  · intro hwk
    show (if t.walking = true ∧ t.ahead = 0 then k.o.p else t.ahead) = _
    have ha := hs.ahead hwk
    have hwk' : t.walking = true := hwk
    rw [lsp_cons]
    have e : plc (upk ks n k) n = k.o.p := by simp [plc, upk_same]
    by_cases hpe : pre = []
    · subst hpe
      have : t.ahead = 0 := ha
      rw [if_pos ⟨hwk', this⟩, if_pos rfl, e]
    · rw [if_neg hpe]
      have hne : t.ahead ≠ 0 := by
        rw [h.ahead hwk]
        unfold lsp
        cases e : pre.getLast? with
        | none => exact absurd (List.getLast?_eq_none_iff.1 e) hpe
        | some j => exact hpre j (List.mem_of_getLast? e)
      rw [if_neg (fun h => hne h.2)]
      exact ha

/-- One is taken. -/
theorem WT.take {s s' : HS} {t : TS} {n : Nat} {ks : Nat → Wk} {pre walk queue : List Nat} {i : Nat} (h : WT s t n ks pre walk (i :: queue)) (hw : ∀ j, j < n → j ≠ i → ∀ x, x < 4 → s'.wd (ks j).o x = s.wd (ks j).o x) :
    WT s' { t with first := s.wd (ks i).o 3 } n ks pre walk queue := by
  have hnd := h.nd
  have hni : i ∉ pre ++ walk ++ queue := by
    rw [List.nodup_append] at hnd
    obtain ⟨-, a, b⟩ := hnd
    intro hc
    rcases List.mem_append.1 hc with hc | hc
    · exact b i hc i (by simp) rfl
    · exact (List.nodup_cons.1 a).1 hc
  have h1 : WT s { t with first := s.wd (ks i).o 3 } n ks pre walk queue := by
    refine ⟨h.row, fun j hj => h.que j (by simp [hj]), ?_, h.cr, h.cw, h.cq.2.2, fun hq => ?_, h.ahead, h.idle⟩
    · rw [List.nodup_append] at hnd ⊢
      exact ⟨hnd.1, (List.nodup_cons.1 hnd.2.1).2, fun a ha b hb => hnd.2.2 a ha b (by simp [hb])⟩
    · have := h.last (by simp)
      rw [lsp_cons, if_neg hq] at this
      exact this
  exact h1.same (Nat.le_refl _) (fun j hj => hw j (h1.mem hj) (fun e => hni (e ▸ hj))) (fun _ _ => ⟨rfl, rfl, rfl⟩)

/-- One is buried. -/
theorem WT.bury {s s' : HS} {A : Rg} {z : Int → Int} {t : TS} {n : Nat} {ks : Nat → Wk} {pre walk queue : List Nat} {i : Nat} (g : WH s A z n ks) (h : WT s t n ks pre (i :: walk) queue) (b : Bur s s' A z (ks i).o t.ahead (s.wd (ks i).o 3) t.first t.last) :
    WT s' (({ t with walk := s.wd (ks i).o 3 } : TS).buried (ks i).o.p) n (upk ks i { ks i with o := { (ks i).o with k := 10 } }) pre walk (queue ++ [i]) := by
  obtain ⟨hwk, hin, hwg⟩ := h.walk
  have gi := g.ob i hin
  have hip := (gi.pos g.hi).1
  have hnd := h.nd
  have hpm : List.Perm (pre ++ i :: walk ++ queue) (pre ++ walk ++ (queue ++ [i])) := by
    rw [List.append_assoc, List.append_assoc]
    refine List.Perm.append_left pre ?_
    show (i :: (walk ++ queue)).Perm (walk ++ (queue ++ [i]))
    rw [← List.append_assoc]
    exact (List.perm_append_singleton i (walk ++ queue)).symm
  have hnd' := hpm.nodup_iff.1 hnd
  have hni : i ∉ pre ++ walk ++ queue := by
    rw [← List.append_assoc, List.nodup_append] at hnd'
    intro hc
    exact hnd'.2.2 i hc i (by simp) rfl
  have hmem : ∀ j, j ∈ pre ++ walk ++ queue → j < n := fun j hj => h.mem (by simp only [List.mem_append, List.mem_cons] at hj ⊢; rcases hj with (hj | hj) | hj; (· exact .inl (.inl hj)); (· exact .inl (.inr (.inr hj))); (· exact .inr hj))
  have inj : ∀ j j', j ∈ pre ++ walk ++ queue → j' ∈ pre ++ walk ++ queue → (ks j).o.p = (ks j').o.p → j = j' := fun j j' hj hj' e => by
    by_cases e2 : j = j'
    · exact e2
    · exact absurd e.symm ((g.ob j (hmem j hj)).no (g.ob j' (hmem j' hj')) e2)
  have hp : ∀ j, (upk ks i { ks i with o := { (ks i).o with k := 10 } } j).o.p = (ks j).o.p := by
    intro j
    by_cases e : j = i
    · subst e; rw [upk_same]
    · rw [upk_ne _ _ e]
  have hpl : ∀ l : List Nat, l.map (plc (upk ks i { ks i with o := { (ks i).o with k := 10 } })) = l.map (plc ks) := fun l => List.map_congr_left (fun j _ => hp j)
  have hlsp : ∀ l, lsp (upk ks i { ks i with o := { (ks i).o with k := 10 } }) l = lsp ks l := fun l => lsp_congr (fun j _ => hp j)
  have oth : ∀ j, j ∈ pre ++ walk ++ queue → (∀ x, x < 3 → s'.wd (ks j).o x = s.wd (ks j).o x) ∧ s'.wd (ks j).o 3 = if t.first ≠ 0 ∧ (ks j).o.p = t.last then (ks i).o.p else if t.ahead ≠ 0 ∧ (ks j).o.p = t.ahead then s.wd (ks i).o 3 else s.wd (ks j).o 3 := by
    intro j hj
    have gj := g.ob j (hmem j hj)
    have hji : i ≠ j := fun e => hni (e ▸ hj)
    obtain ⟨-, a1, a2⟩ := b.oth _ gj.o (gi.no gj hji)
    exact ⟨fun x hx => a1 x (by rw [gj.on]; omega) (by omega), a2 (by rw [gj.on]; omega)⟩
  have hlast : ∀ j, j ∈ pre ++ walk → ¬ (t.first ≠ 0 ∧ (ks j).o.p = t.last) := by
    rintro j hj ⟨e1, e2⟩
    by_cases hq : queue = []
    · rw [hq] at h; exact e1 h.first0
    · have hl := h.last hq
      unfold lsp at hl
      cases e : queue.getLast? with
      | none => exact hq (List.getLast?_eq_none_iff.1 e)
      | some y =>
        rw [e] at hl
        have hy := List.mem_of_getLast? e
        have := inj j y (List.mem_append_left _ hj) (List.mem_append_right _ hy) (e2.trans hl)
        subst this
        rw [List.nodup_append] at hnd'
        exact hnd'.2.2 j hj j (by simp [hy]) rfl
  have hahead : ∀ j, j ∈ pre ++ walk ++ queue → (t.ahead ≠ 0 ∧ (ks j).o.p = t.ahead) → pre.getLast? = some j := by
    rintro j hj ⟨e1, e2⟩
    have ha := h.ahead hwg
    unfold lsp at ha
    cases e : pre.getLast? with
    | none => rw [e] at ha; exact absurd ha e1
    | some y =>
      rw [e] at ha
      have hy := List.mem_of_getLast? e
      rw [inj j y hj (by simp [hy]) (e2.trans ha)]
  obtain ⟨c1, c2, c3⟩ := h.cw
  refine ⟨?_, ?_, hnd', ?_, ?_, ?_, ?_, ?_, fun e => by rw [show ((({ t with walk := s.wd (ks i).o 3 } : TS).buried (ks i).o.p)).walking = t.walking from rfl, hwg] at e; cases e⟩
  · intro j hj
    have hji : j ≠ i := fun e => hni (e ▸ List.mem_append_left _ hj)
    obtain ⟨a1, a2, a3, a4⟩ := h.row j (by simp only [List.mem_append, List.mem_cons] at hj ⊢; rcases hj with hj | hj; (· exact .inl hj); (· exact .inr (.inr hj)))
    have o1 := (oth j (List.mem_append_left _ hj)).1
    rw [upk_ne _ _ hji, o1 0 (by decide), o1 2 (by decide)]
    exact ⟨a1, a2, a3, a4⟩
  · intro j hj
    rcases List.mem_append.1 hj with hj | hj
    · have hji : j ≠ i := fun e => hni (e ▸ List.mem_append_right _ hj)
      obtain ⟨a1, a2, a3, a4, a5⟩ := h.que j hj
      have o1 := (oth j (List.mem_append_right _ hj)).1
      rw [upk_ne _ _ hji, o1 0 (by decide), o1 1 (by decide), o1 2 (by decide)]
      exact ⟨a1, a2, a3, a4, a5⟩
    · obtain rfl := List.mem_singleton.1 hj
      rw [upk_same]
      exact ⟨hin, rfl, b.w0, b.w1, b.w2.trans (h.row j (by simp)).2.2.2⟩
  · show Seg s'.ws (if t.ahead = 0 then s.wd (ks i).o 3 else t.row) (pre.map _) (s.wd (ks i).o 3)
    rw [hpl]
    have ha := h.ahead hwg
    rcases List.eq_nil_or_concat pre with rfl | ⟨pre', j, rfl⟩
    · have : t.ahead = 0 := ha
      rw [if_pos this]; rfl
    · rw [List.concat_eq_append] at *
      rw [lsp_snoc] at ha
      have hj : j ∈ (pre' ++ [j]) ++ walk ++ queue := by simp
      have hj0 : t.ahead ≠ 0 := by
        have := ((g.ob j (hmem j hj)).pos g.hi).1
        rw [ha]; unfold plc; omega
      rw [if_neg hj0]
      have hc := h.cr
      rw [List.map_append] at hc ⊢
      refine hc.reset (fun x hx => ?_) ?_
      · obtain ⟨y, hy, rfl⟩ := List.mem_map.1 hx
        have hym : y ∈ (pre' ++ [j]) ++ walk ++ queue := by simp [hy]
        have := (oth y hym).2
        rw [if_neg (hlast y (by simp [hy])), if_neg (fun e => ?_)] at this
        · exact this
        · have := hahead y hym e
          simp at this
          subst this
          rw [List.append_assoc, List.append_assoc, List.nodup_append] at hnd'
          exact hnd'.2.2 j hy j (by simp) rfl
      · have := (oth j hj).2
        rw [if_neg (hlast j (by simp)), if_pos ⟨hj0, ha.symm⟩] at this
        exact this
  · show Seg s'.ws (s.wd (ks i).o 3) (walk.map _) 0
    refine Seg.over (s := s) c3 (fun j hj => ?_) (fun j _ => hp j)
    have hjm : j ∈ pre ++ walk ++ queue := by simp [hj]
    rw [(oth j hjm).2, if_neg (hlast j (by simp [hj])), if_neg (fun e => ?_)]
    have := hahead j hjm e
    have := List.mem_of_getLast? this
    rw [List.append_assoc, List.nodup_append] at hnd'
    exact hnd'.2.2 j this j (by simp [hj]) rfl
  · show Seg s'.ws (if t.first = 0 then (ks i).o.p else t.first) ((queue ++ [i]).map _) 0
    rw [hpl, List.map_append]
    rcases List.eq_nil_or_concat queue with rfl | ⟨q', j, rfl⟩
    · have : t.first = 0 := h.first0
      rw [if_pos this]
      exact ⟨rfl, by show (ks i).o.p ≠ 0; omega, b.w3⟩
    · rw [List.concat_eq_append] at *
      have hj : j ∈ pre ++ walk ++ (q' ++ [j]) := by simp
      have hl := h.last (by simp)
      rw [lsp_snoc] at hl
      have hf : t.first ≠ 0 := by
        have hc := h.cq
        cases q' with
        | nil => rw [hc.1]; exact hc.2.1
        | cons y q'' => rw [hc.1]; exact hc.2.1
      rw [if_neg hf]
      have hc := h.cq
      rw [List.map_append] at hc ⊢
      have h1 : Seg s'.ws t.first (q'.map (plc ks) ++ [plc ks j]) (ks i).o.p := by
        refine hc.reset (fun x hx => ?_) ?_
        · obtain ⟨y, hy, rfl⟩ := List.mem_map.1 hx
          have hym : y ∈ pre ++ walk ++ (q' ++ [j]) := by simp [hy]
          have := (oth y hym).2
          rw [if_neg (fun e => ?_), if_neg (fun e => ?_)] at this
          · exact this
          · have := List.mem_of_getLast? (hahead y hym e)
            rw [List.append_assoc, List.nodup_append] at hnd'
            exact hnd'.2.2 y this y (by simp [hy]) rfl
          · have := inj y j hym hj (e.2.trans hl)
            subst this
            rw [List.nodup_append] at hnd'
            have := hnd'.2.1
            rw [List.append_assoc, List.nodup_append] at this
            exact this.2.2 y hy y (by simp) rfl
        · have := (oth j hj).2
          rw [if_pos ⟨hf, hl.symm⟩] at this
          exact this
      exact h1.snoc (by omega) b.w3
  · intro _
    rw [hlsp, lsp_snoc]; rfl
  · intro _
    rw [hlsp]
    exact h.ahead hwg
end Go.Proofs.Ytifillpcphiblaa
