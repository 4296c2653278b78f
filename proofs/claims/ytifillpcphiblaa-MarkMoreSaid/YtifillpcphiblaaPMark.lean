import Derived.Test.YtifillpcphiblaaPCollects
namespace Go.Proofs.Ytifillpcphiblaa
open Go Go.Proofs Go.RowKit

/-! Plain laws: marking. -/

/-- Is an object marked, by the rows? -/
def Mkd (A : Rg) (o : Ob) : Prop := o.p ∈ (A o.q).G ∨ o.p ∈ (A o.q).B
def Ob.wm (o : Ob) (m : Int) : Ob := { o with m := m }

theorem rows_nodup {s : HS} {A : Rg} {z : Int → Int} (h : HI s A z) (q : Option Nat) : (A q).all.Nodup := by
  cases q with
  | none => exact h.lring.cells.nodup
  | some k =>
    rcases Nat.lt_or_ge k s.rs.length with hk | hk
    · exact (h.ring k _ (List.getElem?_eq_getElem hk)).cells.nodup
    · rw [h.out k hk]; exact List.nodup_nil
theorem rows_fm {s : HS} {A : Rg} {z : Int → Int} (h : HI s A z) {q : Option Nat} {c : Int} (hF : c ∈ (A q).F) : c ∉ (A q).G ∧ c ∉ (A q).B := by
  have hn := rows_nodup h q
  unfold Rows.all at hn
  rw [List.nodup_append] at hn
  have h2 := hn.2.1
  rw [List.nodup_append] at h2
  exact ⟨fun hc => h2.2.2 c hF c (List.mem_append.2 (.inl hc)) rfl, fun hc => h2.2.2 c hF c (List.mem_append.2 (.inr hc)) rfl⟩
theorem rows_gb {s : HS} {A : Rg} {z : Int → Int} (h : HI s A z) {q : Option Nat} {c : Int} (hG : c ∈ (A q).G) : c ∉ (A q).B := by
  have hn := rows_nodup h q
  unfold Rows.all at hn
  rw [List.nodup_append] at hn
  have h2 := hn.2.1
  rw [List.nodup_append] at h2
  have h3 := h2.2.1
  rw [List.nodup_append] at h3
  exact fun hc => h3.2.2 c hG c hc rfl

structure MH (s : HS) (A : Rg) (z : Int → Int) (obs : List Ob) : Prop where
  hi : HI s A z
  par : s.parity = 0 ∨ s.parity = 1
  inn : ∀ o ∈ obs, (o.p ∈ (A o.q).F ∧ (o.wm (1 - s.parity)).In s A z) ∨ (Mkd A o ∧ (o.wm s.parity).In s A z)
  rows : ∀ q c, (c ∈ (A q).F ∨ c ∈ (A q).G ∨ c ∈ (A q).B) → ∃ o ∈ obs, o.q = q ∧ o.p = c
  nd : (obs.map Ob.p).Nodup

theorem nodup_inj {α β : Type} {f : α → β} : ∀ {l : List α}, (l.map f).Nodup → ∀ x ∈ l, ∀ y ∈ l, f x = f y → x = y := by
  intro l
  induction l with
  | nil => intro _ x hx; cases hx
  | cons a l ih =>
    intro h x hx y hy e
    rw [List.map_cons, List.nodup_cons] at h
    rcases List.mem_cons.1 hx with ex | hx' <;> rcases List.mem_cons.1 hy with ey | hy'
    · exact ex.trans ey.symm
    · exact absurd (List.mem_map.2 ⟨y, hy', by rw [← e, ex]⟩) h.1
    · exact absurd (List.mem_map.2 ⟨x, hx', by rw [e, ey]⟩) h.1
    · exact ih h.2 x hx' y hy' e
theorem MH.one {s : HS} {A : Rg} {z : Int → Int} {obs : List Ob} (h : MH s A z obs) {o o' : Ob} (ho : o ∈ obs) (ho' : o' ∈ obs) (e : o.p = o'.p) : o = o' := nodup_inj h.nd o ho o' ho' e
theorem MH.hd {s : HS} {A : Rg} {z : Int → Int} {obs : List Ob} (h : MH s A z obs) {o : Ob} (ho : o ∈ obs) (m : Int) (hm : m = 0 ∨ m = 1) : Hd o.k o.n o.a m := by
  rcases h.inn o ho with ⟨_, h1⟩ | ⟨_, h1⟩
  · have := h1.hd; exact ⟨this.k0, this.k1, by omega, by omega, this.s0, this.s1, this.a0, this.a1⟩
  · have := h1.hd; exact ⟨this.k0, this.k1, by omega, by omega, this.s0, this.s1, this.a0, this.a1⟩
theorem MH.any {s : HS} {A : Rg} {z : Int → Int} {obs : List Ob} (h : MH s A z obs) {o : Ob} (ho : o ∈ obs) : ∃ m, (o.wm m).In s A z := by
  rcases h.inn o ho with ⟨_, h1⟩ | ⟨_, h1⟩
  · exact ⟨_, h1⟩
  · exact ⟨_, h1⟩
theorem MH.tick {s : HS} {A : Rg} {z : Int → Int} {obs : List Ob} (h : MH s A z obs) (n : Int) : MH (s.tick n) A z obs :=
  { hi := h.hi.tick n, par := h.par, rows := h.rows, nd := h.nd,
    inn := fun o ho => by
      rcases h.inn o ho with ⟨h1, h2⟩ | ⟨h1, h2⟩
      · exact .inl ⟨h1, h2.of h2.mem rfl rfl rfl⟩
      · exact .inr ⟨h1, h2.of h2.mem rfl rfl rfl⟩ }

theorem MH.shade {s s' : HS} {A : Rg} {z : Int → Int} {obs : List Ob} (h : MH s A z obs) {o : Ob} (ho : o ∈ obs) {F1 F2 : List Int} (hF : (A o.q).F = F1 ++ o.p :: F2)
    (hs : Shd s s' A z o.q o.p F1 F2 (packed o.k o.n o.a s.parity)) :
    MH s' (A.up o.q ⟨(A o.q).W, F1 ++ F2, (A o.q).G ++ [o.p], (A o.q).B⟩) z obs ∧ (∀ o' ∈ obs, ∀ j, j < o'.n → s'.wd o' j = s.wd o' j) ∧
    (∀ o' ∈ obs, Mkd (A.up o.q ⟨(A o.q).W, F1 ++ F2, (A o.q).G ++ [o.p], (A o.q).B⟩) o' ↔ Mkd A o' ∨ o' = o) := by
  have hpF : o.p ∈ (A o.q).F := by rw [hF]; simp
  have hin : (o.wm (1 - s.parity)).In s A z := by
    rcases h.inn o ho with ⟨_, h1⟩ | ⟨h1, _⟩
    · exact h1
    · have := rows_fm h.hi hpF
      rcases h1 with h1 | h1
      · exact absurd h1 this.1
      · exact absurd h1 this.2
  have hd := h.hd ho s.parity h.par
  obtain ⟨r1, r2⟩ := Ob.In.shaded (o := o.wm (1 - s.parity)) hs hin hd
  have hmk : ∀ o' ∈ obs, Mkd (A.up o.q ⟨(A o.q).W, F1 ++ F2, (A o.q).G ++ [o.p], (A o.q).B⟩) o' ↔ Mkd A o' ∨ o' = o := by
    intro o' ho'
    unfold Mkd
    by_cases eq : o'.q = o.q
    · rw [eq, Rg.up_same]
      simp only [List.mem_append, List.mem_singleton]
      constructor
      · rintro ((h1 | h1) | h1)
        · exact .inl (.inl h1)
        · exact .inr (h.one ho' ho h1)
        · exact .inl (.inr h1)
      · rintro ((h1 | h1) | rfl)
        · exact .inl (.inl h1)
        · exact .inr h1
        · exact .inl (.inr rfl)
    · rw [Rg.up_ne A eq]
      constructor
      · exact .inl
      · rintro (h1 | rfl)
        · exact h1
        · exact absurd rfl eq
  refine ⟨{ hi := hs.hi, par := by rw [hs.st.parity]; exact h.par, nd := h.nd, rows := ?_, inn := ?_ }, ?_, hmk⟩
  · intro o' ho'
    by_cases e : o' = o
    · subst e
      refine .inr ⟨(hmk o' ho').2 (.inr rfl), ?_⟩
      rw [hs.st.parity]
      exact r1
    · have hp : o'.p ≠ o.p := fun hp => e (h.one ho' ho hp)
      rw [hs.st.parity]
      rcases h.inn o' ho' with ⟨h1, h2⟩ | ⟨h1, h2⟩
      · refine .inl ⟨?_, (h2.shade hs hF (.inr hp)).1⟩
        by_cases eq : o'.q = o.q
        · rw [eq] at h1 ⊢
          rw [Rg.up_same]
          rw [hF] at h1
          simp only [List.mem_append, List.mem_cons] at h1 ⊢
          rcases h1 with h1 | h1 | h1
          · exact .inl h1
          · exact absurd h1 hp
          · exact .inr h1
        · rw [Rg.up_ne A eq]; exact h1
      · exact .inr ⟨(hmk o' ho').2 (.inl h1), (h2.shade hs hF (.inr hp)).1⟩
  · intro q c hc
    by_cases eq : q = o.q
    · subst eq
      rw [Rg.up_same] at hc
      simp only [List.mem_append, List.mem_singleton] at hc
      rcases hc with (h1 | h1) | (h1 | h1) | h1
      · exact h.rows _ c (.inl (by rw [hF]; simp [h1]))
      · exact h.rows _ c (.inl (by rw [hF]; simp [h1]))
      · exact h.rows _ c (.inr (.inl h1))
      · exact ⟨o, ho, rfl, h1.symm⟩
      · exact h.rows _ c (.inr (.inr h1))
    · rw [Rg.up_ne A eq] at hc
      exact h.rows q c hc
  · intro o' ho' j hj
    by_cases e : o' = o
    · subst e; exact r2 j hj
    · have hp : o'.p ≠ o.p := fun hp => e (h.one ho' ho hp)
      obtain ⟨m, hm⟩ := h.any ho'
      exact (hm.shade hs hF (.inr hp)).2 j hj

theorem MH.done {s s' : HS} {A : Rg} {z : Int → Int} {obs : List Ob} (h : MH s A z obs) {q : Option Nat} {c : Int} {G : List Int} (hG : (A q).G = G ++ [c]) (hs : Dne s s' A z q c G) :
    MH s' (A.up q ⟨(A q).W, (A q).F, G, c :: (A q).B⟩) z obs ∧ (∀ o' ∈ obs, ∀ j, s'.wd o' j = s.wd o' j) ∧
    (∀ o' ∈ obs, Mkd (A.up q ⟨(A q).W, (A q).F, G, c :: (A q).B⟩) o' ↔ Mkd A o') ∧ ∃ o ∈ obs, o.q = q ∧ o.p = c ∧ ∀ o' ∈ obs, (o'.p ∈ ((A.up q ⟨(A q).W, (A q).F, G, c :: (A q).B⟩) o'.q).B ↔ o'.p ∈ (A o'.q).B ∨ o' = o) := by
  obtain ⟨o, ho, rfl, rfl⟩ := h.rows q c (.inr (.inl (by rw [hG]; simp)))
  have hmk : ∀ o' ∈ obs, Mkd (A.up o.q ⟨(A o.q).W, (A o.q).F, G, o.p :: (A o.q).B⟩) o' ↔ Mkd A o' := by
    intro o' ho'
    unfold Mkd
    by_cases eq : o'.q = o.q
    · rw [eq, Rg.up_same, hG]
      simp only [List.mem_append, List.mem_cons, List.not_mem_nil, or_false]
      constructor
      · rintro (h1 | h1 | h1)
        · exact .inl (.inl h1)
        · exact .inl (.inr h1)
        · exact .inr h1
      · rintro ((h1 | h1) | h1)
        · exact .inl h1
        · exact .inr (.inl h1)
        · exact .inr (.inr h1)
    · rw [Rg.up_ne A eq]
  have hin : ∀ {o' : Ob}, o'.In s A z → o'.In s' (A.up o.q ⟨(A o.q).W, (A o.q).F, G, o.p :: (A o.q).B⟩) z := by
    intro o' hi
    refine (hi.rows hs.ws hs.st.cls (fun x hx => ?_)).1
    by_cases eq : o'.q = o.q
    · rw [eq] at hx ⊢
      rw [Rg.up_same]
      simp [Rows.all, hG] at hx ⊢
      rcases hx with h | h | h | h | h <;> simp [h]
    · rw [Rg.up_ne A eq]; exact hx
  refine ⟨{ hi := hs.hi, par := by rw [hs.st.parity]; exact h.par, nd := h.nd, rows := ?_, inn := ?_ }, fun o' _ j => by unfold HS.wd; rw [hs.ws], hmk, o, ho, rfl, rfl, ?_⟩
  · intro o' ho'
    rw [hs.st.parity]
    rcases h.inn o' ho' with ⟨h1, h2⟩ | ⟨h1, h2⟩
    · refine .inl ⟨?_, hin h2⟩
      by_cases eq : o'.q = o.q
      · rw [eq] at h1 ⊢; rw [Rg.up_same]; exact h1
      · rw [Rg.up_ne A eq]; exact h1
    · exact .inr ⟨(hmk o' ho').2 h1, hin h2⟩
  · intro q c hc
    by_cases eq : q = o.q
    · subst eq
      rw [Rg.up_same] at hc
      simp only [List.mem_cons] at hc
      rcases hc with h1 | h1 | h1 | h1
      · exact h.rows _ c (.inl h1)
      · exact h.rows _ c (.inr (.inl (by rw [hG]; simp [h1])))
      · exact ⟨o, ho, rfl, h1.symm⟩
      · exact h.rows _ c (.inr (.inr h1))
    · rw [Rg.up_ne A eq] at hc
      exact h.rows q c hc
  · intro o' ho'
    by_cases eq : o'.q = o.q
    · rw [eq, Rg.up_same]
      simp only [List.mem_cons]
      constructor
      · rintro (h1 | h1)
        · exact .inr (h.one ho' ho h1)
        · exact .inl h1
      · rintro (h1 | rfl)
        · exact .inr h1
        · exact .inl rfl
    · rw [Rg.up_ne A eq]
      constructor
      · exact .inl
      · rintro (h1 | rfl)
        · exact h1
        · exact absurd rfl eq

/-! The links of an object. -/
def lkF (k : Int) : Nat := if k = 9 then 1 else if k = 10 then 2 else 0
def lkT (k : Int) (n : Nat) : Nat := if k = 1 ∨ k = 2 ∨ k = 3 ∨ k = 4 then n else if k = 5 then min 1 n else if k = 9 ∨ k = 10 then min 4 n else 0
def Ob.f (o : Ob) : Nat := lkF o.k
def Ob.t (o : Ob) : Nat := lkT o.k o.n
def Lk (o : Ob) (j : Nat) : Prop := o.f ≤ j ∧ j < o.t
def nl (o : Ob) : Nat := o.t - o.f
theorem lkT_le (k : Int) (n : Nat) : lkT k n ≤ n := by unfold lkT; split <;> (try split) <;> (try split) <;> omega
theorem Lk.lt {o : Ob} {j : Nat} (h : Lk o j) : j < o.n := Nat.lt_of_lt_of_le h.2 (lkT_le _ _)

/-- What is known ahead: what is to be reached, by which words; what may be marked. -/
structure MG where
  R : Int → Prop
  W0 : Int → Nat → Int
  S : Int → Prop

open Classical in
noncomputable def pot (A : Rg) (g : MG) (obs : List Ob) : Nat := (obs.map fun o => if g.S o.p ∧ o.p ∉ (A o.q).B then 1 + nl o else 0).sum
def Rem (A : Rg) (obs : List Ob) (a : Int) (nx r : Nat) : Prop := (a = 0 ∧ r = 0) ∨ (∃ o ∈ obs, o.p = a ∧ o.p ∈ (A o.q).B ∧ r = o.t - max o.f nx)

theorem ite_iff {p q : Prop} {dp : Decidable p} {dq : Decidable q} (h : p ↔ q) (a b : Nat) : (if p then a else b) = if q then a else b := by
  by_cases hq : q
  · rw [if_pos hq, if_pos (h.2 hq)]
  · rw [if_neg hq, if_neg (fun hp => hq (h.1 hp))]
theorem pot_congr {A A' : Rg} (h : ∀ q, (A' q).B = (A q).B) (g : MG) (obs : List Ob) : pot A' g obs = pot A g obs := by
  unfold pot
  congr 1
  exact List.map_congr_left (fun o _ => ite_iff (by rw [h]) _ _)
theorem Rem.congr {A A' : Rg} (h : ∀ q, (A' q).B = (A q).B) {obs : List Ob} {a : Int} {nx r : Nat} (hr : Rem A obs a nx r) : Rem A' obs a nx r := by
  rcases hr with h1 | ⟨o, h1, h2, h3, h4⟩
  · exact .inl h1
  · exact .inr ⟨o, h1, h2, by rw [h]; exact h3, h4⟩

structure MI (s : HS) (A : Rg) (z : Int → Int) (obs : List Ob) (g : MG) (a : Int) (nx U : Nat) : Prop where
  mh : MH s A z obs
  wd : ∀ o ∈ obs, ∀ j, Lk o j → s.wd o j = 0 ∨ ∃ o' ∈ obs, o'.p = s.wd o j
  mS : ∀ o ∈ obs, Mkd A o → g.S o.p
  cS : ∀ o ∈ obs, g.S o.p → ∀ j, Lk o j → ∀ o' ∈ obs, o'.p = s.wd o j → g.S o'.p
  edge : ∀ o ∈ obs, g.R o.p → ∀ j, Lk o j → ∀ o' ∈ obs, o'.p = g.W0 o.p j → Mkd A o' ∨ (s.wd o j = g.W0 o.p j ∧ (o.p ∈ (A o.q).B → o.p = a ∧ nx ≤ j))
  u : ∃ r, Rem A obs a nx r ∧ U = pot A g obs + r

theorem MI.tick {s : HS} {A : Rg} {z : Int → Int} {obs : List Ob} {g : MG} {a : Int} {nx U : Nat} (h : MI s A z obs g a nx U) (n : Int) : MI (s.tick n) A z obs g a nx U :=
  ⟨h.mh.tick n, h.wd, h.mS, h.cS, h.edge, h.u⟩

theorem MI.shade {s s' : HS} {A : Rg} {z : Int → Int} {obs : List Ob} {g : MG} {a : Int} {nx U : Nat} (h : MI s A z obs g a nx U) {o : Ob} (ho : o ∈ obs) {F1 F2 : List Int} (hF : (A o.q).F = F1 ++ o.p :: F2)
    (hs : Shd s s' A z o.q o.p F1 F2 (packed o.k o.n o.a s.parity)) (hS : g.S o.p) :
    MI s' (A.up o.q ⟨(A o.q).W, F1 ++ F2, (A o.q).G ++ [o.p], (A o.q).B⟩) z obs g a nx U ∧ (∀ o' ∈ obs, Mkd (A.up o.q ⟨(A o.q).W, F1 ++ F2, (A o.q).G ++ [o.p], (A o.q).B⟩) o' ↔ Mkd A o' ∨ o' = o) ∧ (∀ o' ∈ obs, ∀ j, j < o'.n → s'.wd o' j = s.wd o' j) := by
  obtain ⟨m1, m2, m3⟩ := h.mh.shade ho hF hs
  have hB : ∀ q, ((A.up o.q ⟨(A o.q).W, F1 ++ F2, (A o.q).G ++ [o.p], (A o.q).B⟩) q).B = (A q).B := by
    intro q
    by_cases eq : q = o.q
    · subst eq; rw [Rg.up_same]
    · rw [Rg.up_ne A eq]
  refine ⟨⟨m1, fun o' ho' j hj => ?_, fun o' ho' hm => ?_, fun o' ho' h1 j hj o2 ho2 e => ?_, fun o' ho' hR j hj o2 ho2 e => ?_, ?_⟩, m3, m2⟩
  · rw [m2 o' ho' j hj.lt]; exact h.wd o' ho' j hj
  · rcases (m3 o' ho').1 hm with h1 | rfl
    · exact h.mS o' ho' h1
    · exact hS
  · rw [m2 o' ho' j hj.lt] at e; exact h.cS o' ho' h1 j hj o2 ho2 e
  · rw [m2 o' ho' j hj.lt, hB]
    rcases h.edge o' ho' hR j hj o2 ho2 e with h1 | h1
    · exact .inl ((m3 o2 ho2).2 (.inl h1))
    · exact .inr h1
  · obtain ⟨r, h1, h2⟩ := h.u
    exact ⟨r, h1.congr hB, by rw [pot_congr hB]; exact h2⟩

/-- The next link has been looked at. -/
theorem MI.adv {s : HS} {A : Rg} {z : Int → Int} {obs : List Ob} {g : MG} {a : Int} {nx U : Nat} (h : MI s A z obs g a nx U) {o : Ob} (ho : o ∈ obs) (hp : o.p = a) (a0 : a ≠ 0) (hk : max o.f nx < o.t)
    (hm : ∀ o' ∈ obs, o'.p = s.wd o (max o.f nx) → Mkd A o') : 1 ≤ U ∧ MI s A z obs g a (max o.f nx + 1) (U - 1) := by
  obtain ⟨r, h1, h2⟩ := h.u
  have hr : r = o.t - max o.f nx ∧ o.p ∈ (A o.q).B := by
    rcases h1 with ⟨h1, _⟩ | ⟨o', ho', e, hb, h1⟩
    · exact absurd h1 a0
    · have := h.mh.one ho' ho (e.trans hp.symm)
      subst this
      exact ⟨h1, hb⟩
  refine ⟨by omega, ⟨h.mh, h.wd, h.mS, h.cS, fun o' ho' hR j hj o2 ho2 e => ?_, ⟨r - 1, .inr ⟨o, ho, hp, hr.2, ?_⟩, by omega⟩⟩⟩
  · rcases h.edge o' ho' hR j hj o2 ho2 e with h3 | ⟨h3, h4⟩
    · exact .inl h3
    · by_cases hc : o'.p = a ∧ j = max o.f nx
      · obtain ⟨c1, c2⟩ := hc
        have := h.mh.one ho' ho (c1.trans hp.symm)
        subst this
        subst c2
        exact .inl (hm o2 ho2 (e.trans h3.symm))
      · refine .inr ⟨h3, fun hB => ?_⟩
        obtain ⟨k1, k2⟩ := h4 hB
        refine ⟨k1, ?_⟩
        have := h.mh.one ho' ho (k1.trans hp.symm)
        subst this
        have := hj.1
        have : j ≠ max o'.f nx := fun e => hc ⟨k1, e⟩
        omega
  · have := hr.1; omega

/-- No link is left. -/
theorem MI.close {s : HS} {A : Rg} {z : Int → Int} {obs : List Ob} {g : MG} {a : Int} {nx U : Nat} (h : MI s A z obs g a nx U) {o : Ob} (ho : o ∈ obs) (hp : o.p = a) (a0 : a ≠ 0) (hk : ¬ max o.f nx < o.t) : MI s A z obs g 0 0 U := by
  obtain ⟨r, h1, h2⟩ := h.u
  have hr : r = 0 := by
    rcases h1 with ⟨h1, _⟩ | ⟨o', ho', e, hb, h1⟩
    · exact absurd h1 a0
    · have := h.mh.one ho' ho (e.trans hp.symm)
      subst this
      omega
  refine ⟨h.mh, h.wd, h.mS, h.cS, fun o' ho' hR j hj o2 ho2 e => ?_, ⟨0, .inl ⟨rfl, rfl⟩, by omega⟩⟩
  rcases h.edge o' ho' hR j hj o2 ho2 e with h3 | ⟨h3, h4⟩
  · exact .inl h3
  · refine .inr ⟨h3, fun hB => ?_⟩
    obtain ⟨k1, k2⟩ := h4 hB
    have := h.mh.one ho' ho (k1.trans hp.symm)
    subst this
    have := hj.1
    have := hj.2
    omega

theorem sum_turn {f f' : Ob → Nat} {o : Ob} : ∀ {l : List Ob}, l.Nodup → o ∈ l → (∀ x ∈ l, x ≠ o → f' x = f x) → (l.map f').sum + f o = (l.map f).sum + f' o := by
  intro l
  induction l with
  | nil => intro _ h; cases h
  | cons a l ih =>
    intro hn ho he
    rw [List.nodup_cons] at hn
    simp only [List.map_cons, List.sum_cons]
    rcases List.mem_cons.1 ho with rfl | ho
    · have : l.map f' = l.map f := List.map_congr_left (fun x hx => he x (List.mem_cons_of_mem _ hx) (fun e => hn.1 (e ▸ hx)))
      rw [this]; omega
    · have h1 := ih hn.2 ho (fun x hx => he x (List.mem_cons_of_mem _ hx))
      have h2 := he a List.mem_cons_self (fun e => hn.1 (e ▸ ho))
      omega
theorem MH.ndo {s : HS} {A : Rg} {z : Int → Int} {obs : List Ob} (h : MH s A z obs) : obs.Nodup := by
  have h1 : ∀ l : List Ob, (l.map Ob.p).Nodup → l.Nodup := by
    intro l
    induction l with
    | nil => exact fun _ => List.nodup_nil
    | cons a l ih =>
      intro h
      rw [List.map_cons, List.nodup_cons] at h
      exact List.nodup_cons.2 ⟨fun hc => h.1 (List.mem_map.2 ⟨a, hc, rfl⟩), ih h.2⟩
  exact h1 _ h.nd

/-- A grey one is done. -/
theorem MI.done {s s' : HS} {A : Rg} {z : Int → Int} {obs : List Ob} {g : MG} {U : Nat} (h : MI s A z obs g 0 0 U) {q : Option Nat} {c : Int} {G : List Int} (hG : (A q).G = G ++ [c]) (hs : Dne s s' A z q c G) :
    1 ≤ U ∧ MI s' (A.up q ⟨(A q).W, (A q).F, G, c :: (A q).B⟩) z obs g c 0 (U - 1) := by
  obtain ⟨m1, m2, m3, o, ho, hq, hp, hB⟩ := h.mh.done hG hs
  have hb : 1 ≤ c := by
    have := h.mh.hi.bound (q := q) (c := c) (by simp [Rows.all, hG])
    exact this.1
  have hoG : o.p ∈ (A o.q).G := by rw [hq, hp, hG]; simp
  have hoB := rows_gb h.mh.hi hoG
  have hoS := h.mS o ho (.inl hoG)
  obtain ⟨r, h1, h2⟩ := h.u
  have hr : r = 0 := by
    rcases h1 with ⟨_, h1⟩ | ⟨o', ho', e, hb', h1⟩
    · exact h1
    · have hin : o'.p ∈ (A o'.q).all := by simp [Rows.all, hb']
      have := (h.mh.hi.bound hin).1
      omega
  have hpot : pot (A.up q ⟨(A q).W, (A q).F, G, c :: (A q).B⟩) g obs + (1 + nl o) = pot A g obs := by
    have := sum_turn (f := fun o => open Classical in if g.S o.p ∧ o.p ∉ (A o.q).B then 1 + nl o else 0) (f' := fun o => open Classical in if g.S o.p ∧ o.p ∉ ((A.up q ⟨(A q).W, (A q).F, G, c :: (A q).B⟩) o.q).B then 1 + nl o else 0) h.mh.ndo ho (fun x hx hne => by
      have h9 : (x.p ∈ ((A.up q ⟨(A q).W, (A q).F, G, c :: (A q).B⟩) x.q).B) ↔ x.p ∈ (A x.q).B := by rw [hB x hx]; simp [hne]
      exact ite_iff (and_congr Iff.rfl (not_congr h9)) _ _)
    rw [if_pos ⟨hoS, hoB⟩, if_neg (fun hc => hc.2 ((hB o ho).2 (.inr rfl)))] at this
    exact this
  refine ⟨by omega, ⟨m1, fun o' ho' j hj => ?_, fun o' ho' hm => h.mS o' ho' ((m3 o' ho').1 hm), fun o' ho' h1 j hj o2 ho2 e => ?_, fun o' ho' hR j hj o2 ho2 e => ?_, ⟨nl o, .inr ⟨o, ho, hp, (hB o ho).2 (.inr rfl), by unfold nl; omega⟩, by omega⟩⟩⟩
  · rw [m2 o' ho']; exact h.wd o' ho' j hj
  · rw [m2 o' ho'] at e; exact h.cS o' ho' h1 j hj o2 ho2 e
  · rw [m2 o' ho', m3 o2 ho2]
    rcases h.edge o' ho' hR j hj o2 ho2 e with h3 | ⟨h3, h4⟩
    · exact .inl h3
    · refine .inr ⟨h3, fun hb' => ?_⟩
      rcases (hB o' ho').1 hb' with h5 | rfl
      · have := (h4 h5).1
        have hin : o'.p ∈ (A o'.q).all := by simp [Rows.all, h5]
        have := (h.mh.hi.bound hin).1
        omega
      · exact ⟨hp, Nat.zero_le _⟩

/-- What is reached. -/
inductive Rch (obs : List Ob) (W0 : Int → Nat → Int) (from_ : List Int) : Int → Prop
  | root (p : Int) : p ∈ from_ → Rch obs W0 from_ p
  | step (o o' : Ob) (j : Nat) : Rch obs W0 from_ o.p → o ∈ obs → Lk o j → o' ∈ obs → o'.p = W0 o.p j → Rch obs W0 from_ o'.p

/-- Behind the work all that is reached is marked. -/
theorem MI.fin {s : HS} {A : Rg} {z : Int → Int} {obs : List Ob} {g : MG} {U : Nat} (h : MI s A z obs g 0 0 U) (hno : NoG A) {obs0 : List Ob} {fr : List Int} (hsub : ∀ o ∈ obs0, o ∈ obs) (hR : ∀ o ∈ obs0, Rch obs0 g.W0 fr o.p → g.R o.p) (hroot : ∀ o ∈ obs0, o.p ∈ fr → Mkd A o) :
    ∀ o ∈ obs0, Rch obs0 g.W0 fr o.p → Mkd A o := by
  have key : ∀ p, Rch obs0 g.W0 fr p → ∀ o ∈ obs0, o.p = p → Mkd A o := by
    intro p hr
    induction hr with
    | root p hp => intro o ho e; exact hroot o ho (e ▸ hp)
    | step o o' j hr ho hj ho' e ih =>
      intro o2 ho2 e2
      have := h.mh.one (hsub _ ho2) (hsub _ ho') e2
      subst this
      have hm := ih o ho rfl
      rcases h.edge o (hsub _ ho) (hR o ho hr) j hj o2 (hsub _ ho2) e with h3 | ⟨h3, h4⟩
      · exact h3
      · rcases hm with hm | hm
        · rw [hno o.q] at hm; cases hm
        · have := (h4 hm).1
          have hin : o.p ∈ (A o.q).all := by simp [Rows.all, hm]
          have := (h.mh.hi.bound hin).1
          omega
  exact fun o ho hr => key o.p hr o ho rfl
theorem pot_zero {A : Rg} {g : MG} {obs : List Ob} (h : ∀ o ∈ obs, g.S o.p → o.p ∈ (A o.q).B) : pot A g obs = 0 := by
  unfold pot
  rw [List.sum_eq_zero_iff_forall_eq_nat]
  intro x hx
  obtain ⟨o, ho, rfl⟩ := List.mem_map.1 hx
  rw [if_neg (fun hc => hc.2 (h o ho hc.1))]

/-- What a heap with all its objects Black is, when a cycle begins. -/
theorem MI.begin {s s' : HS} {A : Rg} {z : Int → Int} {obs : List Ob} (hi : HI s' A.begun z) (hpar : s.parity = 0 ∨ s.parity = 1) (hp' : s'.parity = 1 - s.parity) (hws : s'.ws = s.ws) (hcls : s'.cls = s.cls)
    (hin : ∀ o ∈ obs, o.p ∈ (A o.q).B ∧ (o.wm s.parity).In s A z) (hno : NoFG A) (hrows : ∀ q c, c ∈ (A q).B → ∃ o ∈ obs, o.q = q ∧ o.p = c) (hnd : (obs.map Ob.p).Nodup)
    (hwd : ∀ o ∈ obs, ∀ j, Lk o j → s.wd o j = 0 ∨ ∃ o' ∈ obs, o'.p = s.wd o j) (g : MG) (hW0 : ∀ o ∈ obs, ∀ j, Lk o j → g.W0 o.p j = s.wd o j)
    (hcS : ∀ o ∈ obs, g.S o.p → ∀ j, Lk o j → ∀ o' ∈ obs, o'.p = s.wd o j → g.S o'.p) : MI s' A.begun z obs g 0 0 (pot A.begun g obs) := by
  have hall : ∀ q x, x ∈ (A q).all → x ∈ (A.begun q).all := by
    intro q x hx
    simp [Rows.all, Rg.begun, (hno q).1, (hno q).2] at hx ⊢
    exact hx
  have hwd' : ∀ o j, s'.wd o j = s.wd o j := fun o j => by unfold HS.wd; rw [hws]
  refine ⟨{ hi := hi, par := by omega, nd := hnd, rows := ?_, inn := ?_ }, fun o ho j hj => by rw [hwd']; exact hwd o ho j hj, fun o ho hm => ?_, fun o ho h1 j hj o2 ho2 e => hcS o ho h1 j hj o2 ho2 (by rw [← hwd']; exact e), fun o ho hR j hj o2 ho2 e => .inr ⟨?_, fun hb => ?_⟩, ⟨0, .inl ⟨rfl, rfl⟩, rfl⟩⟩
  · intro o ho
    obtain ⟨h1, h2⟩ := hin o ho
    refine .inl ⟨h1, ?_⟩
    have : 1 - s'.parity = s.parity := by omega
    rw [this]
    exact (h2.rows hws hcls (hall _)).1
  · intro q c hc
    simp only [Rg.begun, List.not_mem_nil, or_false] at hc
    exact hrows q c hc
  · unfold Mkd at hm
    simp [Rg.begun] at hm
  · rw [hwd']; exact (hW0 o ho j hj).symm
  · simp [Rg.begun] at hb
end Go.Proofs.Ytifillpcphiblaa
