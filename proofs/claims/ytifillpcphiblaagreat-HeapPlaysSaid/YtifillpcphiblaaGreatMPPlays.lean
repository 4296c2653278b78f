import Derived.Test.YtifillpcphiblaaGreatMDJoin
import Derived.Test.YtifillpcphiblaaGreatHSweep
import Derived.Test.YtifillpcphiblaaGreatMMXDel
import Derived.Test.YtifillpcphiblaaGreatMDDo
import Derived.Test.YtifillpcphiblaaGreatMDRow
import Derived.Deep.QuietTactic
import Derived.Deep.DeepCutAuto
import Derived.BigQuiet
namespace Go.Proofs.YtifillpcphiblaaGreat
open Go Go.Proofs Go.RowKit

/-! law06.HeapPlays: plain laws. All objects, of whatever colour, and what each call leaves of them. -/

structure PI (s : HS) (A : Rg) (z : Int → Int) (obs : List Ob) : Prop where
  hi : HI s A z
  par : s.parity = 0 ∨ s.parity = 1
  inn : ∀ o ∈ obs, o.In s A z
  one : ∀ o ∈ obs, ∀ o' ∈ obs, o.p = o'.p → o = o'
  colF : ∀ o ∈ obs, o.p ∈ (A o.q).F → o.m ≠ s.parity
  colG : ∀ o ∈ obs, o.p ∈ (A o.q).G ∨ o.p ∈ (A o.q).B → o.m = s.parity
  colW : ∀ o ∈ obs, o.p ∈ (A o.q).W → o.q = none
  all : ∀ q p, (p ∈ (A q).F ∨ p ∈ (A q).G ∨ p ∈ (A q).B ∨ (q = none ∧ p ∈ (A q).W)) → ∃ o ∈ obs, o.q = q ∧ o.p = p
  xok : XOk s

theorem PI.new {W Lg : Nat} {cls : List Int} (hR : RightC W Lg cls) (hx : XOk (HS.new W Lg cls)) : PI (HS.new W Lg cls) (fun _ => ⟨[], [], [], []⟩) (fun _ => 0) [] :=
  ⟨HI.new hR, .inl rfl, by simp, by simp, by simp, by simp, by simp, by simp, hx⟩

theorem HI.allNd {s : HS} {A : Rg} {z : Int → Int} (hi : HI s A z) (q : Option Nat) : (A q).all.Nodup := by
  cases q with
  | none => exact hi.lring.cells.nodup
  | some k =>
    rcases Nat.lt_or_ge k s.rs.length with hk | hk
    · exact (hi.ring k _ (List.getElem?_eq_getElem hk)).cells.nodup
    · rw [hi.out k hk]; exact List.nodup_nil
theorem rowsNd {R : Rows} (h : R.all.Nodup) : (R.W.Nodup ∧ R.F.Nodup ∧ R.G.Nodup ∧ R.B.Nodup) ∧ (∀ x ∈ R.W, x ∉ R.F ∧ x ∉ R.G ∧ x ∉ R.B) ∧ (∀ x ∈ R.F, x ∉ R.G ∧ x ∉ R.B) ∧ (∀ x ∈ R.G, x ∉ R.B) := by
  unfold Rows.all at h
  simp only [List.nodup_append, List.mem_append] at h
  obtain ⟨a1, ⟨a2, ⟨a4, a6, a7⟩, a5⟩, a3⟩ := h
  exact ⟨⟨a1, a2, a4, a6⟩, fun x hx => ⟨fun h => a3 x hx x (.inl h) rfl, fun h => a3 x hx x (.inr (.inl h)) rfl, fun h => a3 x hx x (.inr (.inr h)) rfl⟩, fun x hx => ⟨fun h => a5 x hx x (.inl h) rfl, fun h => a5 x hx x (.inr h) rfl⟩, fun x hx h => a7 x hx x h rfl⟩
theorem mem_rows {R : Rows} {x : Int} : x ∈ R.all ↔ x ∈ R.W ∨ x ∈ R.F ∨ x ∈ R.G ∨ x ∈ R.B := by simp [Rows.all]

/-- An object, as it is there: not White. -/
def Liv (A : Rg) (obs : List Ob) (p : Int) : Prop := ∃ o ∈ obs, o.p = p ∧ p ∉ (A o.q).W

/-- Objects, of which that at one place has changed. -/
def updO (obs : List Ob) (p : Int) (f : Ob → Ob) : List Ob := obs.map fun o => if o.p = p then f o else o
theorem mem_updO {obs : List Ob} {p : Int} {f : Ob → Ob} {o' : Ob} : o' ∈ updO obs p f ↔ ∃ o ∈ obs, o' = if o.p = p then f o else o := by
  unfold updO
  rw [List.mem_map]
  constructor
  · rintro ⟨o, h1, h2⟩; exact ⟨o, h1, h2.symm⟩
  · rintro ⟨o, h1, h2⟩; exact ⟨o, h1, h2.symm⟩
/-- All of the changed ones, told by one of them. -/
theorem PI.upd {s : HS} {A : Rg} {z : Int → Int} {obs : List Ob} (h : PI s A z obs) {o : Ob} (ho : o ∈ obs) {f : Ob → Ob} {T : Ob → Prop} (hself : T (f o)) (hother : ∀ o' ∈ obs, o'.p ≠ o.p → T o') : ∀ o' ∈ updO obs o.p f, T o' := by
  intro o' ho'
  obtain ⟨o1, h1, rfl⟩ := mem_updO.1 ho'
  by_cases e : o1.p = o.p
  · have := h.one o1 h1 o ho e
    subst this
    rw [if_pos rfl]; exact hself
  · rw [if_neg e]; exact hother o1 h1 e
theorem PI.updOne {s : HS} {A : Rg} {z : Int → Int} {obs : List Ob} (h : PI s A z obs) {o : Ob} (ho : o ∈ obs) {f : Ob → Ob} (hp : (f o).p = o.p) : ∀ o1 ∈ updO obs o.p f, ∀ o2 ∈ updO obs o.p f, o1.p = o2.p → o1 = o2 := by
  intro o1 h1 o2 h2 e
  obtain ⟨a, ha, rfl⟩ := mem_updO.1 h1
  obtain ⟨b, hb, rfl⟩ := mem_updO.1 h2
  by_cases ea : a.p = o.p <;> by_cases eb : b.p = o.p
  · have := h.one a ha b hb (ea.trans eb.symm)
    rw [this]
  · exfalso
    rw [if_pos ea, if_neg eb] at e
    have h3 := h.one a ha o ho ea
    subst h3
    rw [hp] at e
    exact eb e.symm
  · exfalso
    rw [if_neg ea, if_pos eb] at e
    have h3 := h.one b hb o ho eb
    subst h3
    rw [hp] at e
    exact ea e
  · rw [if_neg ea, if_neg eb] at e ⊢
    exact h.one a ha b hb e
theorem PI.updAll {s : HS} {A : Rg} {z : Int → Int} {obs : List Ob} (h : PI s A z obs) {o : Ob} (ho : o ∈ obs) {f : Ob → Ob} (hq : (f o).q = o.q) (hp : (f o).p = o.p) {q : Option Nat} {p : Int} (hx : ∃ o1 ∈ obs, o1.q = q ∧ o1.p = p) : ∃ o1 ∈ updO obs o.p f, o1.q = q ∧ o1.p = p := by
  obtain ⟨o1, h1, h2, h3⟩ := hx
  refine ⟨if o1.p = o.p then f o1 else o1, mem_updO.2 ⟨o1, h1, rfl⟩, ?_⟩
  by_cases e : o1.p = o.p
  · have := h.one o1 h1 o ho e
    subst this
    rw [if_pos rfl]; exact ⟨hq.trans h2, hp.trans h3⟩
  · rw [if_neg e]; exact ⟨h2, h3⟩

/-- Neither objects nor rows have changed. -/
theorem PI.keep {s s' : HS} {A : Rg} {z : Int → Int} {obs : List Ob} (h : PI s A z obs) (hi : HI s' A z) (hw : s'.ws = s.ws) (hc : s'.cls = s.cls) (hp : s'.parity = s.parity) (hx : s'.x = s.x) (he : s'.edge = s.edge) : PI s' A z obs :=
  ⟨hi, by rw [hp]; exact h.par, fun o ho => ((h.inn o ho).rows hw hc (fun _ hx => hx)).1, h.one, fun o ho hm => by rw [hp]; exact h.colF o ho hm, fun o ho hm => by rw [hp]; exact h.colG o ho hm, h.colW, h.all, by unfold XOk; rw [hx, he, hw]; exact h.xok⟩
theorem PI.tick {s : HS} {A : Rg} {z : Int → Int} {obs : List Ob} (h : PI s A z obs) (n : Int) : PI (s.tick n) A z obs := h.keep (h.hi.tick n) rfl rfl rfl rfl rfl

theorem PI.put {s : HS} {A : Rg} {z : Int → Int} {obs : List Ob} (h : PI s A z obs) {o : Ob} (ho : o ∈ obs) {j : Nat} (hj : j < o.n) (v n : Int) :
    PI (s.put (o.p + 3 + j) v n) A z obs ∧ (∀ o' ∈ obs, o' ≠ o → ∀ i, i < o'.n → (s.put (o.p + 3 + j) v n).wd o' i = s.wd o' i) ∧ (∀ i, i < o.n → (s.put (o.p + 3 + j) v n).wd o i = if i = j then v else s.wd o i) := by
  have k := fun (o' : Ob) (ho' : o' ∈ obs) => Ob.In.put h.hi (h.inn o ho) (h.inn o' ho') hj v n
  refine ⟨⟨h.hi.putOb (h.inn o ho) hj v n, h.par, fun o' ho' => (k o' ho').1, h.one, h.colF, h.colG, h.colW, h.all, ?_⟩, fun o' ho' hne => (k o' ho').2.1 (.inr (fun e => hne (h.one o' ho' o ho e.symm))), (k o ho).2.2⟩
  have := h.xok
  unfold XOk at this ⊢
  simp only [HS.put, sw_len] at this ⊢
  exact this

theorem PI.turned {s : HS} {A : Rg} {z : Int → Int} {obs : List Ob} (h : PI s A z obs) {o : Ob} (ho : o ∈ obs) {k' a' : Int} (hd : Hd k' o.n a' o.m) (n : Int) :
    PI (s.put o.p (packed k' o.n a' o.m) n) A z (updO obs o.p fun o => { o with k := k', a := a' }) ∧ ∀ o' ∈ obs, ∀ i, i < o'.n → (s.put o.p (packed k' o.n a' o.m) n).wd o' i = s.wd o' i := by
  obtain ⟨g1, g2, g3, g4⟩ := (h.inn o ho).turned h.hi hd n
  have hoth : ∀ o' ∈ obs, o'.p ≠ o.p → o'.In (s.put o.p (packed k' o.n a' o.m) n) A z ∧ ∀ i, i < o'.n → (s.put o.p (packed k' o.n a' o.m) n).wd o' i = s.wd o' i := fun o' ho' hne => g4 o' (h.inn o' ho') (.inr (Ne.symm hne))
  refine ⟨⟨g1, h.par, h.upd ho g2 (fun o' ho' hne => (hoth o' ho' hne).1), h.updOne ho rfl, h.upd ho (h.colF o ho) (fun o' ho' _ => h.colF o' ho'), h.upd ho (h.colG o ho) (fun o' ho' _ => h.colG o' ho'), h.upd ho (h.colW o ho) (fun o' ho' _ => h.colW o' ho'), fun q p hx => h.updAll ho rfl rfl (h.all q p hx), ?_⟩, fun o' ho' i hi => ?_⟩
  · have := h.xok
    unfold XOk at this ⊢
    simp only [HS.put, sw_len] at this ⊢
    exact this
  · by_cases e : o'.p = o.p
    · obtain rfl := h.one o' ho' o ho e
      exact g3 i hi
    · exact (hoth o' ho' e).2 i hi

theorem PI.shaded {s s' : HS} {A : Rg} {z : Int → Int} {obs : List Ob} (h : PI s A z obs) {o : Ob} (ho : o ∈ obs) {F1 F2 : List Int} (hF : (A o.q).F = F1 ++ o.p :: F2) (k : Shd s s' A z o.q o.p F1 F2 (packed o.k o.n o.a s.parity)) :
    PI s' (A.up o.q ⟨(A o.q).W, F1 ++ F2, (A o.q).G ++ [o.p], (A o.q).B⟩) z (updO obs o.p fun o => { o with m := s.parity }) ∧ ∀ o' ∈ obs, ∀ i, i < o'.n → s'.wd o' i = s.wd o' i := by
  have hd : Hd o.k o.n o.a s.parity := by
    obtain ⟨d1, d2, d3, d4, d5, d6, d7, d8⟩ := (h.inn o ho).hd
    have := h.par
    exact ⟨d1, d2, by omega, by omega, d5, d6, d7, d8⟩
  obtain ⟨g1, g2⟩ := Ob.In.shaded k (h.inn o ho) hd
  have hoth := fun (o' : Ob) (ho' : o' ∈ obs) (hne : o'.p ≠ o.p) => Ob.In.shade k hF (h.inn o' ho') (.inr hne)
  have hnd := rowsNd (h.hi.allNd o.q)
  rw [hF] at hnd
  obtain ⟨⟨-, n1, -, -⟩, -, -, -⟩ := hnd
  have hpF : o.p ∉ F1 ++ F2 := by
    have := (List.perm_middle (a := o.p) (l₁ := F1) (l₂ := F2)).nodup_iff.1 n1
    exact (List.nodup_cons.1 this).1
  refine ⟨⟨k.hi, by rw [k.st.parity]; exact h.par, h.upd ho g1 (fun o' ho' hne => (hoth o' ho' hne).1), h.updOne ho rfl, h.upd ho ?_ ?_, h.upd ho ?_ ?_, h.upd ho ?_ ?_, fun q p hx => h.updAll ho rfl rfl (h.all q p ?_), ?_⟩, fun o' ho' i hi => ?_⟩
  · intro hc
    rw [Rg.up_same] at hc
    exact absurd hc hpF
  · intro o' ho' hne hc
    rw [k.st.parity]
    refine h.colF o' ho' ?_
    by_cases e : o'.q = o.q
    · rw [e, Rg.up_same] at hc
      rw [e, hF]
      simp only [List.mem_append, List.mem_cons] at hc ⊢
      rcases hc with h1 | h1 <;> simp [h1]
    · rw [Rg.up_ne A e] at hc; exact hc
  · intro _
    exact k.st.parity.symm
  · intro o' ho' hne hc
    rw [k.st.parity]
    refine h.colG o' ho' ?_
    by_cases e : o'.q = o.q
    · rw [e, Rg.up_same] at hc
      rw [e]
      simp only [List.mem_append, List.mem_singleton] at hc
      rcases hc with (h1 | h1) | h1
      · exact .inl h1
      · exact absurd h1 hne
      · exact .inr h1
    · rw [Rg.up_ne A e] at hc; exact hc
  · intro hc
    rw [Rg.up_same] at hc
    exact h.colW o ho hc
  · intro o' ho' hne hc
    refine h.colW o' ho' ?_
    by_cases e : o'.q = o.q
    · rw [e, Rg.up_same] at hc
      rw [e]; exact hc
    · rw [Rg.up_ne A e] at hc; exact hc
  · by_cases e : q = o.q
    · subst e
      rw [Rg.up_same] at hx
      rw [hF]
      simp only [List.mem_append, List.mem_cons, List.mem_nil_iff, or_false] at hx ⊢
      rcases hx with (h1 | h1) | (h1 | h1) | h1 | h1
      · exact .inl (.inl h1)
      · exact .inl (.inr (.inr h1))
      · exact .inr (.inl h1)
      · exact .inl (.inr (.inl h1))
      · exact .inr (.inr (.inl h1))
      · exact .inr (.inr (.inr h1))
    · rw [Rg.up_ne A e] at hx; exact hx
  · have := h.xok
    unfold XOk at this ⊢
    rw [k.st.x, k.st.edge, k.st.len]; exact this
  · by_cases e : o'.p = o.p
    · obtain rfl := h.one o' ho' o ho e
      exact g2 i hi
    · exact (hoth o' ho' e).2 i hi

theorem PI.done {s s' : HS} {A : Rg} {z : Int → Int} {obs : List Ob} (h : PI s A z obs) {q : Option Nat} {c : Int} {G : List Int} (hG : (A q).G = G ++ [c]) (k : Dne s s' A z q c G) :
    PI s' (A.up q ⟨(A q).W, (A q).F, G, c :: (A q).B⟩) z obs := by
  have hsub : ∀ q' x, (x ∈ ((A.up q ⟨(A q).W, (A q).F, G, c :: (A q).B⟩) q').F ↔ x ∈ (A q').F) ∧ (x ∈ ((A.up q ⟨(A q).W, (A q).F, G, c :: (A q).B⟩) q').W ↔ x ∈ (A q').W) ∧ ((x ∈ ((A.up q ⟨(A q).W, (A q).F, G, c :: (A q).B⟩) q').G ∨ x ∈ ((A.up q ⟨(A q).W, (A q).F, G, c :: (A q).B⟩) q').B) ↔ (x ∈ (A q').G ∨ x ∈ (A q').B)) := by
    intro q' x
    by_cases e : q' = q
    · subst e
      rw [Rg.up_same, hG]
      refine ⟨Iff.rfl, Iff.rfl, ?_⟩
      simp only [List.mem_append, List.mem_cons, List.mem_nil_iff, or_false]
      constructor
      · rintro (h | h | h) <;> simp [h]
      · rintro ((h | h) | h) <;> simp [h]
    · rw [Rg.up_ne A e]; exact ⟨Iff.rfl, Iff.rfl, Iff.rfl⟩
  refine ⟨k.hi, by rw [k.st.parity]; exact h.par, fun o ho => ((h.inn o ho).rows k.ws k.st.cls (fun x hx => ?_)).1, h.one, fun o ho hm => ?_, fun o ho hm => ?_, fun o ho hm => ?_, fun q' p hx => h.all q' p ?_, ?_⟩
  · rw [mem_rows] at hx ⊢
    obtain ⟨a, b, d⟩ := hsub o.q x
    rcases hx with h1 | h1 | h1
    · exact .inl (b.2 h1)
    · exact .inr (.inl (a.2 h1))
    · exact .inr (.inr (d.2 h1))
  · rw [k.st.parity]; exact h.colF o ho ((hsub _ _).1.1 hm)
  · rw [k.st.parity]; exact h.colG o ho ((hsub _ _).2.2.1 hm)
  · exact h.colW o ho ((hsub _ _).2.1.1 hm)
  · obtain ⟨a, b, d⟩ := hsub q' p
    rcases hx with h1 | h1 | h1 | h1
    · exact .inl (a.1 h1)
    · rcases d.1 (.inl h1) with h | h
      · exact .inr (.inl h)
      · exact .inr (.inr (.inl h))
    · rcases d.1 (.inr h1) with h | h
      · exact .inr (.inl h)
      · exact .inr (.inr (.inl h))
    · exact .inr (.inr (.inr ⟨h1.1, b.1 h1.2⟩))
  · have := h.xok
    unfold XOk at this ⊢
    rw [k.st.x, k.st.edge, k.st.len]; exact this

theorem PI.begun {s s' : HS} {A : Rg} {z : Int → Int} {obs : List Ob} (h : PI s A z obs) (hn : NoFG A) (hi : HI s' A.begun z) (hw : s'.ws = s.ws) (hc : s'.cls = s.cls) (he : s'.edge = s.edge) (hx : s'.x = s.x) (hp : s'.parity = 1 - s.parity) : PI s' A.begun z obs := by
  have hpar := h.par
  refine ⟨hi, by omega, fun o ho => ((h.inn o ho).rows hw hc (fun x hx => ?_)).1, h.one, fun o ho hm => ?_, fun o ho hm => ?_, h.colW, fun q' p hx => h.all q' p ?_, by unfold XOk; rw [hx, he, hw]; exact h.xok⟩
  · rw [mem_rows] at hx ⊢
    rw [(hn o.q).1, (hn o.q).2] at hx
    simp only [List.not_mem_nil, false_or] at hx
    simp only [Rg.begun]
    rcases hx with h1 | h1
    · exact .inl h1
    · exact .inr (.inl h1)
  · have := h.colG o ho (.inr hm)
    omega
  · simp [Rg.begun] at hm
  · simp only [Rg.begun, List.not_mem_nil, false_or] at hx
    rcases hx with h1 | h1
    · exact .inr (.inr (.inl h1))
    · exact .inr (.inr (.inr h1))

/-- The objects that an End leaves. -/
def endO (A : Rg) (obs : List Ob) : List Ob := obs.filter fun o => !(o.q.isSome && decide (o.p ∈ (A o.q).F))
theorem mem_endO {A : Rg} {obs : List Ob} {o : Ob} : o ∈ endO A obs ↔ o ∈ obs ∧ (o.q = none ∨ o.p ∉ (A o.q).F) := by
  unfold endO
  rw [List.mem_filter]
  cases e : o.q <;> simp
theorem PI.ended {s s' : HS} {A : Rg} {z : Int → Int} {obs : List Ob} (h : PI s A z obs) (hn : NoG A) (hi : HI s' A.ended z) (hw : s'.ws = s.ws) (hc : s'.cls = s.cls) (he : s'.edge = s.edge) (hx : s'.x = s.x) (hp : s'.parity = s.parity) : PI s' A.ended z (endO A obs) := by
  refine ⟨hi, by rw [hp]; exact h.par, fun o ho => ((h.inn o (mem_endO.1 ho).1).rows hw hc (fun x hx => ?_)).1, fun o ho o' ho' => h.one o (mem_endO.1 ho).1 o' (mem_endO.1 ho').1, fun o ho hm => ?_, fun o ho hm => ?_, fun o ho hm => ?_, fun q' p hx => ?_, by unfold XOk; rw [hx, he, hw]; exact h.xok⟩
  · rw [mem_rows] at hx ⊢
    rw [hn o.q] at hx
    simp only [List.not_mem_nil, false_or] at hx
    simp only [Rg.ended, List.mem_append]
    rcases hx with h1 | h1 | h1
    · exact .inl (.inl h1)
    · exact .inl (.inr h1)
    · exact .inr (.inr (.inr h1))
  · simp [Rg.ended] at hm
  · rw [hp]
    simp only [Rg.ended, List.not_mem_nil, false_or] at hm
    exact h.colG o (mem_endO.1 ho).1 (.inr hm)
  · simp only [Rg.ended, List.mem_append] at hm
    rcases hm with h1 | h1
    · exact h.colW o (mem_endO.1 ho).1 h1
    · rcases (mem_endO.1 ho).2 with h2 | h2
      · exact h2
      · exact absurd h1 h2
  · simp only [Rg.ended, List.not_mem_nil, false_or, List.mem_append] at hx
    rcases hx with h1 | ⟨rfl, h1 | h1⟩
    · obtain ⟨o, g1, g2, g3⟩ := h.all q' p (.inr (.inr (.inl h1)))
      refine ⟨o, mem_endO.2 ⟨g1, .inr (fun hc => ?_)⟩, g2, g3⟩
      rw [g2, g3] at hc
      exact ((rowsNd (h.hi.allNd q')).2.2.1 p hc).2 h1
    · obtain ⟨o, g1, g2, g3⟩ := h.all none p (.inr (.inr (.inr ⟨rfl, h1⟩)))
      exact ⟨o, mem_endO.2 ⟨g1, .inl g2⟩, g2, g3⟩
    · obtain ⟨o, g1, g2, g3⟩ := h.all none p (.inl h1)
      exact ⟨o, mem_endO.2 ⟨g1, .inl g2⟩, g2, g3⟩

/-- The objects but that at one place. -/
def delO (obs : List Ob) (p : Int) : List Ob := obs.filter fun o => !decide (o.p = p)
theorem mem_delO {obs : List Ob} {p : Int} {o : Ob} : o ∈ delO obs p ↔ o ∈ obs ∧ o.p ≠ p := by
  unfold delO
  rw [List.mem_filter]
  simp
theorem PI.swept {s : HS} {A : Rg} {z : Int → Int} {obs : List Ob} (h : PI s A z obs) {c n : Int} {Wt : List Int} (hW : (A none).W = c :: Wt) (hn : 1 ≤ n) (hnz : n ≤ z c) (u' : Int) :
    PI (s.swept c n u') (A.up none ⟨Wt, (A none).F, (A none).G, (A none).B⟩) z (delO obs c) ∧ ∀ o' ∈ delO obs c, ∀ i, i < o'.n → (s.swept c n u').wd o' i = s.wd o' i := by
  obtain ⟨g1, -, g3⟩ := h.hi.swept hW hn hnz u'
  have hnd := (rowsNd (h.hi.allNd none)).1.1
  rw [hW] at hnd
  have hcW : c ∉ Wt := (List.nodup_cons.1 hnd).1
  have hrow : ∀ q x, x ≠ c → ((x ∈ ((A.up none ⟨Wt, (A none).F, (A none).G, (A none).B⟩) q).W ↔ x ∈ (A q).W)) ∧ ((A.up none ⟨Wt, (A none).F, (A none).G, (A none).B⟩) q).F = (A q).F ∧ ((A.up none ⟨Wt, (A none).F, (A none).G, (A none).B⟩) q).G = (A q).G ∧ ((A.up none ⟨Wt, (A none).F, (A none).G, (A none).B⟩) q).B = (A q).B := by
    intro q x hx
    by_cases e : q = none
    · subst e
      rw [Rg.up_same, hW]
      refine ⟨?_, rfl, rfl, rfl⟩
      simp [hx]
    · rw [Rg.up_ne A e]; exact ⟨Iff.rfl, rfl, rfl, rfl⟩
  have hin : ∀ o ∈ delO obs c, o.In (s.swept c n u') (A.up none ⟨Wt, (A none).F, (A none).G, (A none).B⟩) z ∧ ∀ i, i < o.n → (s.swept c n u').wd o i = s.wd o i := by
    intro o ho
    obtain ⟨h1, h2⟩ := mem_delO.1 ho
    have ho' := h.inn o h1
    have hh := h.hi.holds (s' := { s with ws := ct s.ws c }) (z := z) g3 ho'.mem (h.hi.linksApart (q := none) ho'.mem)
    refine ⟨ho'.of ?_ rfl hh.head rfl, fun i hi => ?_⟩
    · have := ho'.mem
      rw [mem_rows] at this ⊢
      obtain ⟨r1, r2, r3, r4⟩ := hrow o.q o.p h2
      rw [r2, r3, r4, r1]; exact this
    · exact wd_holds ho' (s' := { s with ws := ct s.ws c }) hh hi
  refine ⟨⟨g1, h.par, fun o ho => (hin o ho).1, fun o ho o' ho' => h.one o (mem_delO.1 ho).1 o' (mem_delO.1 ho').1, fun o ho hm => ?_, fun o ho hm => ?_, fun o ho hm => ?_, fun q p hx => ?_, ?_⟩, fun o ho => (hin o ho).2⟩
  · obtain ⟨h1, h2⟩ := mem_delO.1 ho
    rw [(hrow o.q o.p h2).2.1] at hm
    exact h.colF o h1 hm
  · obtain ⟨h1, h2⟩ := mem_delO.1 ho
    rw [(hrow o.q o.p h2).2.2.1, (hrow o.q o.p h2).2.2.2] at hm
    exact h.colG o h1 hm
  · obtain ⟨h1, h2⟩ := mem_delO.1 ho
    exact h.colW o h1 ((hrow o.q o.p h2).1.1 hm)
  · have hcm : c ∈ (A none).all := mem_rows.2 (.inl (by rw [hW]; simp))
    have hne : p ≠ c := by
      rintro rfl
      by_cases e : q = none
      · subst e
        rw [Rg.up_same] at hx
        have hd := (rowsNd (h.hi.allNd none)).2.1 p (by rw [hW]; simp)
        rcases hx with h1 | h1 | h1 | h1
        · exact hd.1 h1
        · exact hd.2.1 h1
        · exact hd.2.2 h1
        · exact hcW h1.2
      · rw [Rg.up_ne A e] at hx
        have hm : p ∈ (A q).all := by
          rw [mem_rows]
          rcases hx with h1 | h1 | h1 | h1
          · exact .inr (.inl h1)
          · exact .inr (.inr (.inl h1))
          · exact .inr (.inr (.inr h1))
          · exact absurd h1.1 e
        have h1 := h.hi.apart q p none p hm hcm (.inl e)
        have h2 := h.hi.pos q p hm
        have h3 := h.hi.pos none p hcm
        omega
    obtain ⟨r1, r2, r3, r4⟩ := hrow q p hne
    rw [r2, r3, r4, r1] at hx
    obtain ⟨o, k1, k2, k3⟩ := h.all q p hx
    exact ⟨o, mem_delO.2 ⟨k1, by rw [k3]; exact hne⟩, k2, k3⟩
  · have := h.xok
    unfold XOk at this ⊢
    show s.x.first = s.edge ∧ s.x.first + s.x.places = (ct s.ws c).length
    rw [ct_len]; exact this

/-- What is taken lies apart from all objects, White large ones too. -/
theorem PI.apart {s s' : HS} {A A' : Rg} {z z' : Int → Int} {obs : List Ob} {q : Option Nat} {p word : Int} {n : Nat} (h : PI s A z obs) (k : Alc s s' A A' z z' q p word n) (hh : How s s' A z z' q p n) : ∀ o ∈ obs, o.q ≠ q ∨ o.p ≠ p := by
  intro o ho
  by_cases hq : o.q = q
  · cases q with
    | none =>
      right
      rcases hh with ⟨j, W, e, _⟩ | ⟨j, c, e, _⟩ | ⟨-, l1, mm, l2, e1, e2, e3, e4, e5, e6⟩
      · cases e
      · cases e
      · have hm := (h.inn o ho).mem
        rw [hq] at hm
        have hr := h.hi.rlarge (p, mm) (by rw [e1]; simp) o.p hm
        have hp := h.hi.pos none o.p hm
        simp only [ln] at hp
        simp only at hr
        omega
    | some j =>
      refine alc_ne k (h.inn o ho).mem (fun hc => ?_)
      have := h.colW o ho hc
      rw [hq] at this
      cases this
  · exact .inl hq
theorem PI.alloc {s s' : HS} {A A' : Rg} {z z' : Int → Int} {obs : List Ob} (h : PI s A z obs) {q : Option Nat} {p k a : Int} {n : Nat} (hA : Alc s s' A A' z z' q p (packed k n a s.parity) n) (hh : How s s' A z z' q p n) (hd : Hd k n a s.parity) :
    PI s' A' z' (obs ++ [⟨q, p, k, n, a, s.parity⟩]) ∧ (∀ o ∈ obs, ∀ j, j < o.n → s'.wd o j = s.wd o j) ∧ (∀ o ∈ obs, o.p ≠ p) ∧ ∀ j, j < n → s'.wd ⟨q, p, k, n, a, s.parity⟩ j = 0 := by
  have hne := h.apart hA hh
  obtain ⟨n1, n2⟩ := Ob.In.new hA hd
  have hpp : ∀ o ∈ obs, o.p ≠ p := by
    intro o ho e
    have hm := hA.old (h.inn o ho).mem
    have h1 := hA.hi.apart o.q o.p q p hm hA.mem (hne o ho)
    have h2 := hA.hi.pos o.q o.p hm
    have h3 := hA.hi.pos q p hA.mem
    omega
  have hin : ∀ o ∈ obs, o.In s' A' z' ∧ ∀ j, j < o.n → s'.wd o j = s.wd o j := by
    intro o ho
    have ho' := h.inn o ho
    have hh := hA.holds o.q o.p ho'.mem (hne o ho)
    exact ⟨ho'.of (hA.old ho'.mem) (by rw [hA.cls]; exact hA.lns _ _ ho'.mem) hh.head hA.cls, fun j hj => wd_holds ho' hh hj⟩
  obtain ⟨W, hA', hrow⟩ := hA.row
  have hnd := rowsNd (hA.hi.allNd q)
  rw [hA', Rg.up_same] at hnd
  simp only at hnd
  obtain ⟨-, d1, d2, d3⟩ := hnd
  have hWs : ∀ x, x ∈ W → x ∈ (A q).W := by
    intro x hx
    rcases hrow with hr | ⟨hr, _⟩
    · rw [hr]; exact List.mem_cons_of_mem _ hx
    · rw [hr]; exact hx
  have hWr : ∀ x, x ∈ (A q).W → x ≠ p → x ∈ W := by
    intro x hx hxp
    rcases hrow with hr | ⟨hr, _⟩
    · rw [hr] at hx
      rcases List.mem_cons.1 hx with h1 | h1
      · exact absurd h1 hxp
      · exact h1
    · rw [hr] at hx; exact hx
  have hpar := hA.parity
  have key : ∀ T : Ob → Prop, (∀ o ∈ obs, T o) → T ⟨q, p, k, n, a, s.parity⟩ → ∀ o ∈ obs ++ [⟨q, p, k, n, a, s.parity⟩], T o := by
    intro T h1 h2 o ho
    rcases List.mem_append.1 ho with ho | ho
    · exact h1 o ho
    · obtain rfl := List.mem_singleton.1 ho; exact h2
  refine ⟨⟨hA.hi, by rw [hpar]; exact h.par, key _ (fun o ho => (hin o ho).1) n1, ?_, key _ ?_ ?_, key _ ?_ ?_, key _ ?_ ?_, ?_, ?_⟩, fun o ho => (hin o ho).2, hpp, n2⟩
  · refine key _ (fun o ho => key _ (fun o' ho' => h.one o ho o' ho') (fun e => absurd e (hpp o ho))) (key _ (fun o' ho' e => absurd e.symm (hpp o' ho')) (fun _ => rfl))
  · intro o ho hm
    rw [hpar]
    refine h.colF o ho ?_
    rw [hA'] at hm
    by_cases e : o.q = q
    · rw [e, Rg.up_same] at hm; rw [e]; exact hm
    · rw [Rg.up_ne A e] at hm; exact hm
  · intro hm
    rw [hA', Rg.up_same] at hm
    exact absurd (List.mem_append.2 (.inr (List.mem_singleton.2 rfl))) (d2 p hm).2
  · intro o ho hm
    rw [hpar]
    refine h.colG o ho ?_
    rw [hA'] at hm
    by_cases e : o.q = q
    · rw [e, Rg.up_same] at hm
      rw [e]
      simp only [List.mem_append, List.mem_singleton] at hm
      rcases hm with h1 | h1 | h1
      · exact .inl h1
      · exact .inr h1
      · exact absurd h1 (hpp o ho)
    · rw [Rg.up_ne A e] at hm; exact hm
  · intro _; exact hpar.symm
  · intro o ho hm
    refine h.colW o ho ?_
    rw [hA'] at hm
    by_cases e : o.q = q
    · rw [e, Rg.up_same] at hm; rw [e]; exact hWs _ hm
    · rw [Rg.up_ne A e] at hm; exact hm
  · intro hm
    rw [hA', Rg.up_same] at hm
    exact absurd (List.mem_append.2 (.inr (List.mem_singleton.2 rfl))) (d1 p hm).2.2
  · intro q' p' hx
    by_cases e : q' = q ∧ p' = p
    · obtain ⟨rfl, rfl⟩ := e
      exact ⟨_, List.mem_append.2 (.inr (List.mem_singleton.2 rfl)), rfl, rfl⟩
    · obtain ⟨o, h1, h2, h3⟩ := h.all q' p' (by
        rw [hA'] at hx
        by_cases e2 : q' = q
        · subst e2
          rw [Rg.up_same] at hx
          simp only [List.mem_append, List.mem_singleton] at hx
          rcases hx with h1 | h1 | (h1 | h1) | ⟨h1, h2⟩
          · exact .inl h1
          · exact .inr (.inl h1)
          · exact .inr (.inr (.inl h1))
          · exact absurd ⟨rfl, h1⟩ e
          · exact .inr (.inr (.inr ⟨h1, hWs _ h2⟩))
        · rw [Rg.up_ne A e2] at hx; exact hx)
      exact ⟨o, List.mem_append.2 (.inl h1), h2, h3⟩
  · have e1 : s'.x.first = s.x.first ∧ s'.x.places = s.x.places := by
      rcases hh with ⟨_, _, _, _, _, e, _⟩ | ⟨_, _, _, _, _, _, _, _, e, _⟩ | ⟨_, _, _, _, _, _, _, e, _⟩ <;> rw [e] <;> exact ⟨rfl, rfl⟩
    have := h.xok
    unfold XOk at this ⊢
    rw [e1.1, e1.2, hA.edge, hA.len]
    exact this
end Go.Proofs.YtifillpcphiblaaGreat

namespace Go.Proofs.YtifillpcphiblaaGreat
open Go Go.Proofs Go.RowKit

/-! The document's objects, each with its own mark. -/

def KN (m : List (Int × Value)) : Prop := (m.map Prod.fst).Nodup
theorem mem_mdel {m : List (Int × Value)} {k : Int} {x : Int × Value} (h : x ∈ mdel m k) : x ∈ m := by
  induction m with
  | nil => cases h
  | cons y r ih =>
    unfold mdel at h
    split at h
    · exact List.mem_cons_of_mem _ h
    · rcases List.mem_cons.1 h with h | h
      · rw [h]; exact List.mem_cons_self
      · exact List.mem_cons_of_mem _ (ih h)
theorem KN.del {m : List (Int × Value)} (h : KN m) (k : Int) : KN (mdel m k) := by
  unfold KN at h ⊢
  induction m with
  | nil => exact h
  | cons y r ih =>
    unfold mdel
    rw [List.map_cons, List.nodup_cons] at h
    split
    · exact h.2
    · rw [List.map_cons, List.nodup_cons]
      refine ⟨fun hc => h.1 ?_, ih h.2⟩
      obtain ⟨x, hx, e⟩ := List.mem_map.1 hc
      exact List.mem_map.2 ⟨x, mem_mdel hx, e⟩
theorem mem_mput {m : List (Int × Value)} {k k' : Int} {v : Value} (h : k' ∈ (mput m k v).map Prod.fst) : k' = k ∨ k' ∈ m.map Prod.fst := by
  induction m with
  | nil => simp [mput] at h; exact .inl h
  | cons y r ih =>
    unfold mput at h
    split at h
    · rename_i e
      rw [List.map_cons] at h ⊢
      rcases List.mem_cons.1 h with h | h
      · exact .inl h
      · exact .inr (List.mem_cons_of_mem _ h)
    · rw [List.map_cons] at h ⊢
      rcases List.mem_cons.1 h with h | h
      · exact .inr (by rw [h]; exact List.mem_cons_self)
      · rcases ih h with h | h
        · exact .inl h
        · exact .inr (List.mem_cons_of_mem _ h)
theorem KN.put {m : List (Int × Value)} (h : KN m) (k : Int) (v : Value) : KN (mput m k v) := by
  unfold KN at h ⊢
  induction m with
  | nil => simp [mput]
  | cons y r ih =>
    rw [List.map_cons, List.nodup_cons] at h
    unfold mput
    split
    · rename_i e
      rw [List.map_cons, List.nodup_cons]
      rw [← e] at h
      exact h
    · rename_i e
      rw [List.map_cons, List.nodup_cons]
      refine ⟨fun hc => ?_, ih h.2⟩
      rcases mem_mput hc with h1 | h1
      · exact e h1.symm
      · exact h.1 h1
theorem mget_none {m : List (Int × Value)} {k : Int} (h : k ∉ m.map Prod.fst) : mget m k = none := by
  induction m with
  | nil => rfl
  | cons y r ih =>
    rw [List.map_cons, List.mem_cons, not_or] at h
    unfold mget
    rw [if_neg h.1]; exact ih h.2
theorem mget_mdel_same {m : List (Int × Value)} (h : KN m) (k : Int) : mget (mdel m k) k = none := by
  unfold KN at h
  induction m with
  | nil => rfl
  | cons y r ih =>
    rw [List.map_cons, List.nodup_cons] at h
    unfold mdel
    split
    · rename_i e
      exact mget_none (by rw [e]; exact h.1)
    · rename_i e
      unfold mget
      rw [if_neg e]; exact ih h.2
theorem mget_mdel_ne (m : List (Int × Value)) {k k' : Int} (h : k' ≠ k) : mget (mdel m k) k' = mget m k' := by
  induction m with
  | nil => rfl
  | cons y r ih =>
    unfold mdel
    split
    · rename_i e
      show _ = if k' = y.1 then _ else _
      rw [if_neg (by rw [← e]; exact h)]
    · show (if k' = y.1 then _ else _) = if k' = y.1 then _ else _
      rw [ih]
/-- Many go. -/
def mdels (m : List (Int × Value)) (l : List Int) : List (Int × Value) := l.foldl mdel m
theorem mdels_snoc (m : List (Int × Value)) (l : List Int) (x : Int) : mdels m (l ++ [x]) = mdel (mdels m l) x := by simp [mdels]
theorem mdels_app (m : List (Int × Value)) (l l' : List Int) : mdels m (l ++ l') = mdels (mdels m l) l' := by simp [mdels]
theorem KN.dels {m : List (Int × Value)} (h : KN m) (l : List Int) : KN (mdels m l) := by
  induction l generalizing m with
  | nil => exact h
  | cons x l ih => exact ih (h.del x)
theorem mget_mdels {m : List (Int × Value)} (h : KN m) (l : List Int) (k : Int) : mget (mdels m l) k = if k ∈ l then none else mget m k := by
  induction l generalizing m with
  | nil => simp [mdels]
  | cons x l ih =>
    show mget (mdels (mdel m x) l) k = _
    rw [ih (h.del x)]
    by_cases e : k = x
    · subst e
      rw [mget_mdel_same h]
      simp
    · rw [mget_mdel_ne m e]
      simp [e]

structure DOb (w : World) (B : Nat) (m : List (Int × Value)) (obs : List Ob) (G : Int → Nat) (wd : Ob → Nat → Int) : Prop where
  get : ∀ o ∈ obs, mget m o.p = some (obV o.k o.n o.a o.m (G o.p) o.n)
  blk : ∀ o ∈ obs, B ≤ G o.p ∧ Blk w (G o.p) (wcs o (wd o)) 2
  inj : ∀ o ∈ obs, ∀ o' ∈ obs, G o.p = G o'.p → o.p = o'.p
  only : ∀ p, (mget m p).isSome = true → ∃ o ∈ obs, o.p = p
  kn : KN m

theorem DOb.fr {S : List Nat} {w w' : World} {B : Nat} {m : List (Int × Value)} {obs : List Ob} {G : Int → Nat} {wd wd' : Ob → Nat → Int} (h : DOb w B m obs G wd) (hf : Fr S w w') (hS : ∀ o ∈ obs, G o.p ∉ S) (hw : ∀ o ∈ obs, ∀ j, j < o.n → wd' o j = wd o j) : DOb w' B m obs G wd' :=
  ⟨h.get, fun o ho => ⟨(h.blk o ho).1, by rw [wcs_congr o (hw o ho)]; exact (h.blk o ho).2.fr hf (hS o ho)⟩, h.inj, h.only, h.kn⟩
theorem DOb.step {w w' : World} {B : Nat} {m : List (Int × Value)} {obs : List Ob} {G : Int → Nat} {wd : Ob → Nat → Int} (h : DOb w B m obs G wd) (hf : Fr [] w w') : DOb w' B m obs G wd := h.fr hf (by simp) (fun _ _ _ _ => rfl)
theorem DOb.none {w : World} {B : Nat} {m : List (Int × Value)} {obs : List Ob} {G : Int → Nat} {wd : Ob → Nat → Int} (h : DOb w B m obs G wd) {p : Int} (hp : ∀ o ∈ obs, o.p ≠ p) : mget m p = none := by
  cases e : mget m p with
  | none => rfl
  | some v =>
    obtain ⟨o, h1, h2⟩ := h.only p (by rw [e]; rfl)
    exact absurd h2 (hp o h1)
/-- What is below the objects' words, or of other types, changes. -/
theorem DOb.frT {w w' : World} {B : Nat} {m : List (Int × Value)} {obs : List Ob} {G : Int → Nat} {wd wd' : Ob → Nat → Int} (h : DOb w B m obs G wd) {S : List Nat} (hf : Fr S w w') (hS : ∀ x ∈ S, x < B ∨ ∀ cs, ¬ Blk w x cs 2) (hw : ∀ o ∈ obs, ∀ j, j < o.n → wd' o j = wd o j) : DOb w' B m obs G wd' :=
  h.fr hf (fun o ho hc => by
    rcases hS _ hc with h1 | h1
    · have := (h.blk o ho).1; omega
    · exact h1 _ (h.blk o ho).2) hw

/-- An object more. -/
theorem DOb.new {w w' : World} {B : Nat} {m : List (Int × Value)} {obs : List Ob} {G : Int → Nat} {wd wd' : Ob → Nat → Int} (h : DOb w B m obs G wd) (hb : ∀ o ∈ obs, Blk w' (G o.p) (wcs o (wd o)) 2) (o : Ob) (g : Nat) (hg : B ≤ g) (hnew : ∀ o' ∈ obs, o'.p ≠ o.p ∧ G o'.p ≠ g) (hB : Blk w' g (List.replicate o.n (.int .i64 0)) 2)
    (hw : ∀ o' ∈ obs, ∀ j, j < o'.n → wd' o' j = wd o' j) (h0 : ∀ j, j < o.n → wd' o j = 0) : DOb w' B (mput m o.p (obV o.k o.n o.a o.m g o.n)) (obs ++ [o]) (fun p => if p = o.p then g else G p) wd' := by
  refine ⟨fun o' ho' => ?_, fun o' ho' => ?_, fun o1 ho1 o2 ho2 e => ?_, fun p hp => ?_, h.kn.put _ _⟩
  · rcases List.mem_append.1 ho' with h1 | h1
    · have hne := (hnew o' h1).1
      rw [mget_mput_ne m hne]
      simp only [if_neg hne]
      exact h.get o' h1
    · obtain rfl := List.mem_singleton.1 h1
      rw [mget_mput_same]
      simp
  · rcases List.mem_append.1 ho' with h1 | h1
    · simp only [if_neg (hnew o' h1).1]
      rw [wcs_congr o' (hw o' h1)]
      exact ⟨(h.blk o' h1).1, hb o' h1⟩
    · obtain rfl := List.mem_singleton.1 h1
      simp only [if_true]
      have : wcs o' (wd' o') = List.replicate o'.n (.int .i64 0) := by
        rw [wcs_congr o' (wd := fun _ => 0) h0]
        unfold wcs
        apply List.ext_getElem?
        intro i
        by_cases hi : i < o'.n
        · simp [hi]
        · rw [List.getElem?_eq_none (by simp; omega), List.getElem?_eq_none (by simp; omega)]
      rw [this]
      exact ⟨hg, hB⟩
  · rcases List.mem_append.1 ho1 with h1 | h1 <;> rcases List.mem_append.1 ho2 with h2 | h2
    · simp only [if_neg (hnew o1 h1).1, if_neg (hnew o2 h2).1] at e
      exact h.inj o1 h1 o2 h2 e
    · obtain rfl := List.mem_singleton.1 h2
      simp only [if_neg (hnew o1 h1).1, if_true] at e
      exact absurd e (hnew o1 h1).2
    · obtain rfl := List.mem_singleton.1 h1
      simp only [if_neg (hnew o2 h2).1, if_true] at e
      exact absurd e.symm (hnew o2 h2).2
    · rw [List.mem_singleton.1 h1, List.mem_singleton.1 h2]
  · by_cases e : p = o.p
    · exact ⟨o, by simp, e.symm⟩
    · rw [mget_mput_ne m e] at hp
      obtain ⟨o', h1, h2⟩ := h.only p hp
      exact ⟨o', List.mem_append.2 (.inl h1), h2⟩

/-- A word has been set. -/
theorem DOb.put {w w' : World} {B : Nat} {m : List (Int × Value)} {obs : List Ob} {G : Int → Nat} {wd wd' : Ob → Nat → Int} (h : DOb w B m obs G wd) (hone : ∀ o ∈ obs, ∀ o' ∈ obs, o.p = o'.p → o = o') {o : Ob} (ho : o ∈ obs) {j : Nat} {v : Int} (hf : Fr [G o.p] w w') (hB : Blk w' (G o.p) ((wcs o (wd o)).set j (.int .i64 v)) 2)
    (hw : ∀ o' ∈ obs, o' ≠ o → ∀ i, i < o'.n → wd' o' i = wd o' i) (hw2 : ∀ i, i < o.n → wd' o i = if i = j then v else wd o i) : DOb w' B m obs G wd' := by
  refine ⟨h.get, fun o' ho' => ⟨(h.blk o' ho').1, ?_⟩, h.inj, h.only, h.kn⟩
  by_cases e : o' = o
  · subst e
    rw [wcs_set] at hB
    rw [wcs_congr o' hw2]
    exact hB
  · rw [wcs_congr o' (hw o' ho' e)]
    refine (h.blk o' ho').2.fr hf (fun hc => e (hone o' ho' o ho (h.inj o' ho' o ho (List.mem_singleton.1 hc))))

/-- An object has become another one: its words stay. -/
theorem DOb.upd {w w' : World} {B : Nat} {m : List (Int × Value)} {obs : List Ob} {G : Int → Nat} {wd wd' : Ob → Nat → Int} (h : DOb w B m obs G wd) (hone : ∀ o ∈ obs, ∀ o' ∈ obs, o.p = o'.p → o = o') (hb : ∀ o ∈ obs, Blk w' (G o.p) (wcs o (wd o)) 2) {o : Ob} (ho : o ∈ obs) {f : Ob → Ob} (hp : (f o).p = o.p) (hn : (f o).n = o.n)
    (hw : ∀ o' ∈ obs, ∀ j, j < o'.n → wd' o' j = wd o' j) (hwf : wd' (f o) = wd' o) : DOb w' B (mput m o.p (obV (f o).k o.n (f o).a (f o).m (G o.p) o.n)) (updO obs o.p f) G wd' := by
  have hall : ∀ T : Ob → Prop, T (f o) → (∀ o' ∈ obs, o'.p ≠ o.p → T o') → ∀ o' ∈ updO obs o.p f, T o' := by
    intro T h1 h2 o' ho'
    obtain ⟨o1, h3, rfl⟩ := mem_updO.1 ho'
    by_cases e : o1.p = o.p
    · obtain rfl := hone o1 h3 o ho e
      rw [if_pos rfl]; exact h1
    · rw [if_neg e]; exact h2 o1 h3 e
  have hpp : ∀ o' ∈ updO obs o.p f, ∃ o1 ∈ obs, o1.p = o'.p := hall _ ⟨o, ho, hp.symm⟩ (fun o' ho' _ => ⟨o', ho', rfl⟩)
  refine ⟨hall _ ?_ (fun o' ho' hne => ?_), hall _ ?_ (fun o' ho' hne => ?_), fun o1 h1 o2 h2 e => ?_, fun p hp' => ?_, h.kn.put _ _⟩
  · rw [hp, mget_mput_same, hn]
  · rw [mget_mput_ne m hne]; exact h.get o' ho'
  · rw [hp]
    refine ⟨(h.blk o ho).1, ?_⟩
    have e : wcs (f o) (wd' (f o)) = wcs o (wd o) := by
      rw [hwf]
      unfold wcs
      rw [hn]
      exact List.map_congr_left (fun j hj => by rw [hw o ho j (List.mem_range.1 hj)])
    rw [e]; exact hb o ho
  · rw [wcs_congr o' (hw o' ho')]
    exact ⟨(h.blk o' ho').1, hb o' ho'⟩
  · obtain ⟨a, ha, ea⟩ := hpp o1 h1
    obtain ⟨b, hb, eb⟩ := hpp o2 h2
    rw [← ea, ← eb] at e ⊢
    exact h.inj a ha b hb e
  · by_cases e : p = o.p
    · exact ⟨f o, mem_updO.2 ⟨o, ho, by rw [if_pos rfl]⟩, hp.trans e.symm⟩
    · rw [mget_mput_ne m e] at hp'
      obtain ⟨o', h1, h2⟩ := h.only p hp'
      exact ⟨o', mem_updO.2 ⟨o', h1, by rw [if_neg (by rw [h2]; exact e)]⟩, h2⟩

/-- Objects are gone. -/
theorem DOb.dels {w w' : World} {B : Nat} {m : List (Int × Value)} {obs obs' : List Ob} {G : Int → Nat} {wd wd' : Ob → Nat → Int} (h : DOb w B m obs G wd) (l : List Int) (hm : ∀ o, o ∈ obs' ↔ o ∈ obs ∧ o.p ∉ l) (hb : ∀ o ∈ obs', Blk w' (G o.p) (wcs o (wd o)) 2) (hw : ∀ o' ∈ obs', ∀ j, j < o'.n → wd' o' j = wd o' j) : DOb w' B (mdels m l) obs' G wd' := by
  refine ⟨fun o ho => ?_, fun o ho => ?_, fun o ho o' ho' => h.inj o ((hm o).1 ho).1 o' ((hm o').1 ho').1, fun p hp => ?_, h.kn.dels l⟩
  · rw [mget_mdels h.kn, if_neg ((hm o).1 ho).2]
    exact h.get o ((hm o).1 ho).1
  · rw [wcs_congr o (hw o ho)]
    exact ⟨(h.blk o ((hm o).1 ho).1).1, hb o ho⟩
  · rw [mget_mdels h.kn] at hp
    by_cases e : p ∈ l
    · rw [if_pos e] at hp; cases hp
    · rw [if_neg e] at hp
      obtain ⟨o, h1, h2⟩ := h.only p hp
      exact ⟨o, (hm o).2 ⟨h1, by rw [h2]; exact e⟩, h2⟩
end Go.Proofs.YtifillpcphiblaaGreat

namespace Go.Proofs.YtifillpcphiblaaGreat
open Go Go.Proofs Go.RowKit

/-! law06.HeapPlays: both heaps side by side. -/

theorem fpAll {L : HL} {x : Nat} (h : x ∈ L.fp) : x ∈ L.all := by simp [HL.all, h]
/-- The document's blocks that a call of its heap writes. -/
def FrG (B mp : Nat) (w w' : World) : Prop := ∃ S, Fr S w w' ∧ ∀ b ∈ S, B ≤ b ∧ (b < w.heap.size → b = mp ∨ ∃ cs T, Blk w b cs T ∧ (T = 62 ∨ T = 66 ∨ T = 4 ∨ T = 2))
theorem FrG.of {B mp : Nat} {w w' : World} (h : Fr [] w w') : FrG B mp w w' := ⟨[], h, by simp⟩
theorem FrD.g {B mp rsb : Nat} {w w' : World} (h : FrD B mp rsb w w') : FrG B mp w w' := by
  obtain ⟨⟨S, hF, hS⟩, _⟩ := h
  refine ⟨S, hF, fun b hb => ⟨(hS b hb).1, fun hl => ?_⟩⟩
  rcases (hS b hb).2 hl with h1 | ⟨cs, T, h1, h2⟩
  · exact .inl h1
  · exact .inr ⟨cs, T, h1, by rcases h2 with h | h | h <;> simp [h]⟩
theorem FrG.word {B mp g : Nat} {w w' : World} {cs : List Value} (h : Fr [g] w w') (hg : B ≤ g) (hb : Blk w g cs 2) : FrG B mp w w' :=
  ⟨[g], h, fun b hc => by obtain rfl := List.mem_singleton.1 hc; exact ⟨hg, fun _ => .inr ⟨cs, _, hb, by simp⟩⟩⟩
theorem FrG.size {B mp : Nat} {w w' : World} (h : FrG B mp w w') : w.heap.size ≤ w'.heap.size := h.elim fun _ h => h.1.size
theorem FrG.trans {B mp : Nat} {a b c : World} (h : FrG B mp a b) (k : FrG B mp b c) : FrG B mp a c := by
  obtain ⟨S, hF, hS⟩ := h
  obtain ⟨S', hF', hS'⟩ := k
  refine ⟨S ++ S', (hF.here (by intro x hx; exact List.mem_append.2 (.inl hx))).trans (hF'.here (by intro x hx; exact List.mem_append.2 (.inr hx))), fun x hx => ?_⟩
  by_cases hxS : x ∈ S
  · exact hS x hxS
  · rcases List.mem_append.1 hx with hx | hx
    · exact absurd hx hxS
    · refine ⟨(hS' x hx).1, fun hl => ?_⟩
      rcases (hS' x hx).2 (Nat.lt_of_lt_of_le hl hF.size) with h1 | ⟨cs, T, h1, h2⟩
      · exact .inl h1
      · exact .inr ⟨cs, T, blk_back hF h1 hl hxS, h2⟩
theorem FrG.old {w0 : World} {B mp : Nat} {w w' : World} (h : FrG B mp w w') (h0 : Fr [] w0 w) (hB : w0.heap.size ≤ B) : Fr [] w0 w' := by
  obtain ⟨S, hF, hS⟩ := h
  exact h0.step hF (fun b hb => .inr (Nat.le_trans hB (hS b hb).1))
theorem FrG.blk {B mp : Nat} {w w' : World} {b : Nat} {cs : List Value} {T : TypeId} (h : FrG B mp w w') (hb : Blk w b cs T) (hT : T ≠ 62 ∧ T ≠ 66 ∧ T ≠ 4 ∧ T ≠ 2) (hm : b ≠ mp) : Blk w' b cs T := by
  obtain ⟨S, hF, hS⟩ := h
  refine hb.fr hF (fun hc => ?_)
  rcases (hS b hc).2 hb.lt with h1 | ⟨cs', T', h1, h2⟩
  · exact hm h1
  · exact blk_ne' hb h1 (by rintro rfl; rcases h2 with h | h | h | h <;> simp [h] at hT) rfl
theorem HRep.xblk {w : World} {L : HL} {s : HS} (h : HRep w L s) : ∀ b ∈ L.xlbs, ∃ cs, Blk w b cs 115 := by
  intro b hb
  obtain ⟨sv, _, ⟨e, _⟩ | ⟨b', cap, rest, e, _, hB, _⟩⟩ := h.x
  · rw [e] at hb; cases hb
  · rw [e] at hb
    obtain rfl := List.mem_singleton.1 hb
    exact ⟨_, hB⟩
theorem FrG.hrep {B mp : Nat} {w w' : World} {L : HL} {s : HS} {m : List (Int × Value)} (h : FrG B mp w w') (hr : HRep w L s) (hl : ∀ b ∈ L.all, b ∉ L.xlbs → b < B) (hm : IM w mp m) : HRep w' L s := by
  obtain ⟨S, hF, hS⟩ := h
  refine hr.fr hF (fun b hb hc => ?_)
  by_cases hx : b ∈ L.xlbs
  · obtain ⟨cs, hB⟩ := hr.xblk b hx
    rcases (hS b hb).2 hB.lt with h1 | ⟨cs', T', h1, h2⟩
    · exact nomap hm hB h1
    · exact blk_ne' hB h1 (by rintro rfl; rcases h2 with h | h | h | h <;> exact absurd h (by decide)) rfl
  · have := hl b hc hx
    have := (hS b hb).1
    omega

theorem FRep.frT {S : List Nat} {w w' : World} {fb B : Nat} {first : Int} {l : List Bool} (h : FRep w fb B first l) (hf : Fr S w w') (hS : ∀ x ∈ S, x < B ∨ ∃ cs, Blk w x cs 115) : FRep w' fb B first l := by
  obtain ⟨fv, h1, h2⟩ := h.s
  have hb := h.b
  refine ⟨⟨fv, h1.fr hf (fun hc => ?_), ownsRow_fr h2 hf (fun g hg hc => ?_)⟩, h.b⟩
  · rcases hS _ hc with h3 | ⟨cs, h3⟩
    · omega
    · exact blk_ne' h1 h3 (by decide) rfl
  · rcases hS _ hc with h3 | ⟨cs, h3⟩
    · have := own_low h2 g (by simp [hg]); omega
    · obtain ⟨_, h4 | ⟨g', cap, cur, e1, e2, e3, _⟩⟩ := h2
      · rw [h4.1] at hg; simp [Value.ownBlock] at hg
      · rw [e1] at hg
        simp [Value.ownBlock] at hg
        subst hg
        unfold Blk at h3
        rw [h3] at e3
        simp at e3
/-- Something below the document's heap, or runs of the program's, change. -/
theorem DH.frT {S : List Nat} {w w' : World} {D : DL} {W Lg : Int} {cls : List Int} {Rs : List Rows} {bits : List Bool} {top par : Int} {m : List (Int × Value)} (h : DH w D W Lg cls Rs bits top par m) (hf : Fr S w w') (hS : ∀ x ∈ S, x < D.B ∨ ∃ cs, Blk w x cs 115) (hsv : SlArg w' D.sv cls) : DH w' D W Lg cls Rs bits top par m := by
  obtain ⟨l1, l2, l3⟩ := h.lo
  obtain ⟨cs2, h2⟩ := h.rblk
  refine { s := h.s.fr hf (fun hc => ?_), cl := hsv, rs := h.rs.fr hf (fun hc => ?_) (fun x hx => ?_), len := h.len, rm := h.rm.frT hf hS, im := h.im.fr hf (fun hc => ?_), lo := h.lo }
  · rcases hS _ hc with h3 | ⟨cs, h3⟩
    · omega
    · exact blk_ne' h.s h3 (by decide) rfl
  · rcases hS _ hc with h3 | ⟨cs, h3⟩
    · omega
    · exact blk_ne' h2 h3 (by decide) rfl
  · rcases hS _ hx with h3 | ⟨cs, h3⟩
    · exact .inl h3
    · exact .inr ⟨cs, _, h3, by decide⟩
  · rcases hS _ hc with h3 | ⟨cs, h3⟩
    · omega
    · exact nomap h.im h3 rfl

/-- What holds throughout. -/
structure Q0 (w0 : World) (D : DL) (W Lg : Int) (cls : List Int) : Prop where
  cl : SlArg w0 D.sv cls
  sv : ∀ b o c n, D.sv = .slice (some ⟨b, o, none⟩) n c → b < w0.heap.size
  dB : w0.heap.size ≤ D.B
  n : cls.length ≤ 100
  lg : 0 ≤ Lg
  W : W ≤ 65536
theorem Q0.svB {w0 : World} {D : DL} {W Lg : Int} {cls : List Int} (h : Q0 w0 D W Lg cls) : ∀ b o c n, D.sv = .slice (some ⟨b, o, none⟩) n c → b < D.B := fun b o c n e => Nat.lt_of_lt_of_le (h.sv b o c n e) h.dB

/-- The program's heap. -/
structure PG (w0 w : World) (L : HL) (B : Nat) (W Lg : Int) (cls : List Int) (s : HS) (A : Rg) (z : Int → Int) (obs : List Ob) : Prop where
  f0 : Fr [] w0 w
  low : ∀ b ∈ L.all, w0.heap.size ≤ b
  lay : ∀ b ∈ L.all, b ∉ L.xlbs → b < B
  hr : HRep w L s
  pi : PI s A z obs
  ecls : s.cls = cls
  ew : (s.ws.length : Int) = W
  edge : s.edge = W - Lg
  xl : Lg ≠ 0 → ∃ b0, L.xlbs = [b0]
/-- The document's. -/
structure DG (w0 w : World) (D : DL) (W Lg : Int) (cls : List Int) (Rs : List Rows) (bits : List Bool) (top par : Int) (m : List (Int × Value)) (obs : List Ob) (G : Int → Nat) (wd : Ob → Nat → Int) : Prop where
  f0 : Fr [] w0 w
  q : Q0 w0 D W Lg cls
  dh : DH w D W Lg cls Rs bits top par m
  ob : DOb w D.B m obs G wd
structure JG (w0 w : World) (L : HL) (D : DL) (W Lg : Int) (cls : List Int) (s : HS) (A : Rg) (z : Int → Int) (bits : List Bool) (m : List (Int × Value)) (obs : List Ob) (G : Int → Nat) : Prop where
  pg : PG w0 w L D.B W Lg cls s A z obs
  dg : DG w0 w D W Lg cls (rowsOf A cls.length) bits s.top s.parity m obs G s.wd
  same : Same3 s.edge bits s.x.l
  bl : (bits.length : Int) = Lg

theorem DG.step {w0 w w' : World} {D : DL} {W Lg : Int} {cls : List Int} {Rs : List Rows} {bits : List Bool} {top par : Int} {m : List (Int × Value)} {obs : List Ob} {G : Int → Nat} {wd : Ob → Nat → Int} (h : DG w0 w D W Lg cls Rs bits top par m obs G wd) (hf : Fr [] w w') : DG w0 w' D W Lg cls Rs bits top par m obs G wd :=
  ⟨h.f0.trans hf, h.q, h.dh.step hf, h.ob.step hf⟩
theorem PG.step {w0 w w' : World} {L : HL} {B : Nat} {W Lg : Int} {cls : List Int} {s : HS} {A : Rg} {z : Int → Int} {obs : List Ob} (h : PG w0 w L B W Lg cls s A z obs) (hf : Fr [] w w') : PG w0 w' L B W Lg cls s A z obs :=
  ⟨h.f0.trans hf, h.low, h.lay, h.hr.fr hf (by simp), h.pi, h.ecls, h.ew, h.edge, h.xl⟩
theorem JG.step {w0 w w' : World} {L : HL} {D : DL} {W Lg : Int} {cls : List Int} {s : HS} {A : Rg} {z : Int → Int} {bits : List Bool} {m : List (Int × Value)} {obs : List Ob} {G : Int → Nat} (h : JG w0 w L D W Lg cls s A z bits m obs G) (hf : Fr [] w w') : JG w0 w' L D W Lg cls s A z bits m obs G :=
  ⟨h.pg.step hf, h.dg.step hf, h.same, h.bl⟩
/-- The program's heap takes a step: the document's stays. -/
theorem DG.prog {w0 w w' : World} {D : DL} {W Lg : Int} {cls : List Int} {Rs : List Rows} {bits : List Bool} {top par : Int} {m : List (Int × Value)} {obs : List Ob} {G : Int → Nat} {wd : Ob → Nat → Int} {L : HL} {s : HS} (h : DG w0 w D W Lg cls Rs bits top par m obs G wd) (hr : HRep w L s) (low : ∀ b ∈ L.all, w0.heap.size ≤ b) (lay : ∀ b ∈ L.all, b ∉ L.xlbs → b < D.B) (hf : Fr L.fp w w') : DG w0 w' D W Lg cls Rs bits top par m obs G wd := by
  have hf0 : Fr [] w0 w' := h.f0.step hf (fun b hb => .inr (low b (fpAll hb)))
  have hS : ∀ x ∈ L.fp, x < D.B ∨ ∃ cs, Blk w x cs 115 := fun x hx => by
    by_cases e : x ∈ L.xlbs
    · exact .inr (hr.xblk x e)
    · exact .inl (lay x (fpAll hx) e)
  refine ⟨hf0, h.q, h.dh.frT hf hS (h.q.cl.fr hf0 (by simp)), h.ob.frT hf (fun x hx => ?_) (fun _ _ _ _ => rfl)⟩
  rcases hS x hx with h1 | ⟨cs, h1⟩
  · exact .inl h1
  · exact .inr (fun cs' h2 => blk_ne' h1 h2 (by decide) rfl)
/-- The document's heap takes a step: the program's stays. -/
theorem PG.doc {w0 w w' : World} {L : HL} {B mp : Nat} {W Lg : Int} {cls : List Int} {s : HS} {A : Rg} {z : Int → Int} {obs : List Ob} {m : List (Int × Value)} (h : PG w0 w L B W Lg cls s A z obs) (hf : FrG B mp w w') (hB : w0.heap.size ≤ B) (hm : IM w mp m) : PG w0 w' L B W Lg cls s A z obs :=
  ⟨hf.old h.f0 hB, h.low, h.lay, hf.hrep h.hr h.lay hm, h.pi, h.ecls, h.ew, h.edge, h.xl⟩
theorem PG.of {w0 w w' : World} {L : HL} {B : Nat} {W Lg : Int} {cls : List Int} {s s' : HS} {A A' : Rg} {z z' : Int → Int} {obs obs' : List Ob} (h : PG w0 w L B W Lg cls s A z obs) (hf : Fr L.fp w w') (hr : HRep w' L s') (hp : PI s' A' z' obs') (e1 : s'.cls = s.cls) (e2 : s'.ws.length = s.ws.length) (e3 : s'.edge = s.edge) : PG w0 w' L B W Lg cls s' A' z' obs' :=
  ⟨h.f0.step hf (fun b hb => .inr (h.low b (fpAll hb))), h.low, h.lay, hr, hp, e1.trans h.ecls, by rw [e2]; exact h.ew, e3.trans h.edge, h.xl⟩
theorem JG.jh {w0 w : World} {L : HL} {D : DL} {W Lg : Int} {cls : List Int} {s : HS} {A : Rg} {z : Int → Int} {bits : List Bool} {m : List (Int × Value)} {obs : List Ob} {G : Int → Nat} (h : JG w0 w L D W Lg cls s A z bits m obs G) : JH w D W Lg cls bits m s A z :=
  ⟨h.dg.dh, h.pg.pi.hi, h.dg.q.svB, h.pg.ecls, h.dg.q.n, h.pg.edge, h.pg.ew.symm, h.dg.q.lg, h.same, h.bl, h.pg.pi.par⟩
end Go.Proofs.YtifillpcphiblaaGreat

namespace Go.Proofs.YtifillpcphiblaaGreat
open Go Go.Proofs Go.RowKit

set_option maxRecDepth 100000 in
set_option maxHeartbeats 3200000 in
/-- Get. -/
theorem dGet (D : DL) (W Lg : Int) (cls : List Int) (Rs : List Rows) (bits : List Bool) (top par : Int) (m : List (Int × Value)) (p k a mk v : Int) (n g j : Nat) (cs : List Value) (w : World) (h : DH w D W Lg cls Rs bits top par m) (hg : mget m p = some (obV k n a mk g n)) (hB : Blk w g cs 2) (hj : j < n) (hv : cs[j]? = some (.int .i64 v)) :
    Calls Tryz.prog 31 #[.pointer (some ⟨D.mb, 0, none⟩), .int .i64 p, .int .i64 j] w fun e w' => e = .returned (.tuple #[.int .i64 v, .int .i64 0]) ∧ Fr [] w w' := by
  have q7 := h.reads.2.2.2.1
  have hlk := run_lookup_im (P := Tryz.prog) h.im Tryz.underlying58 Tryz.underlying3 (obZero w) p false
  rw [hg] at hlk
  simp only [Option.getD_some, obV, if_neg (show ¬ false = true by decide)] at hlk
  have B1 := Blk.new w [.int .i64 k, .int .i64 n, .int .i64 a, .int .i64 mk, .slice (some ⟨g, 0, none⟩) n n] 95
  have b4 := B1.cell (i := 4) rfl
  have hB' := hB.alloc (.cells #[.int .i64 k, .int .i64 n, .int .i64 a, .int .i64 mk, .slice (some ⟨g, 0, none⟩) n n] 95)
  have c0 := hB'.cell hv
  have g1 : decide ((j : Int) < 0) = false := by simp
  have g2 : decide ((n : Int) ≤ (j : Int)) = false := by simp; omega
  have i1 : (0 : Int) ≤ (j : Int) := by omega
  have i2 : (j : Int) < (n : Int) := by omega
  clear h hg hB hB' B1 hv
  go_enter Tryz.func31, Tryz.ntmps31
  go_wp2_with fail
  refine bodyPost_ret (v := .tuple #[.int .i64 v, .int .i64 0]) (by simp [results, Tryz.results31, go_sem]) rfl ⟨rfl, (Fr.refl _ w).alloc _⟩

set_option maxRecDepth 100000 in
set_option maxHeartbeats 3200000 in
theorem dGetErr (D : DL) (W Lg : Int) (cls : List Int) (Rs : List Rows) (bits : List Bool) (top par : Int) (m : List (Int × Value)) (p k a mk j : Int) (n g : Nat) (w : World) (h : DH w D W Lg cls Rs bits top par m) (hg : mget m p = some (obV k n a mk g n)) (hj : j < 0 ∨ (n : Int) ≤ j) :
    Calls Tryz.prog 31 #[.pointer (some ⟨D.mb, 0, none⟩), .int .i64 p, .int .i64 j] w fun e w' => e = .returned (.tuple #[.int .i64 0, .int .i64 1]) ∧ Fr [] w w' := by
  have q7 := h.reads.2.2.2.1
  have hlk := run_lookup_im (P := Tryz.prog) h.im Tryz.underlying58 Tryz.underlying3 (obZero w) p false
  rw [hg] at hlk
  simp only [Option.getD_some, obV, if_neg (show ¬ false = true by decide)] at hlk
  have B1 := Blk.new w [.int .i64 k, .int .i64 n, .int .i64 a, .int .i64 mk, .slice (some ⟨g, 0, none⟩) n n] 95
  have b4 := B1.cell (i := 4) rfl
  clear h hg B1
  by_cases hj0 : j < 0
  · have g1 : decide (j < 0) = true := by simp; omega
    go_enter Tryz.func31, Tryz.ntmps31
    go_wp2_with fail
    refine bodyPost_ret (v := .tuple #[.int .i64 0, .int .i64 1]) (by simp [results, Tryz.results31, go_sem]) rfl ⟨rfl, (Fr.refl _ w).alloc _⟩
  · have g1 : decide (j < 0) = false := by simp; omega
    have g2 : decide ((n : Int) ≤ j) = true := by simp; omega
    go_enter Tryz.func31, Tryz.ntmps31
    go_wp2_with fail
    refine bodyPost_ret (v := .tuple #[.int .i64 0, .int .i64 1]) (by simp [results, Tryz.results31, go_sem]) rfl ⟨rfl, (Fr.refl _ w).alloc _⟩

set_option maxRecDepth 100000 in
set_option maxHeartbeats 3200000 in
theorem dSetErr (D : DL) (W Lg : Int) (cls : List Int) (Rs : List Rows) (bits : List Bool) (top par : Int) (m : List (Int × Value)) (p k a mk j v : Int) (n g : Nat) (w : World) (h : DH w D W Lg cls Rs bits top par m) (hg : mget m p = some (obV k n a mk g n)) (hj : j < 0 ∨ (n : Int) ≤ j) :
    Calls Tryz.prog 32 #[.pointer (some ⟨D.mb, 0, none⟩), .int .i64 p, .int .i64 j, .int .i64 v] w fun e w' => e = .returned (.int .i64 1) ∧ Fr [] w w' := by
  have q7 := h.reads.2.2.2.1
  have hlk := run_lookup_im (P := Tryz.prog) h.im Tryz.underlying58 Tryz.underlying3 (obZero w) p false
  rw [hg] at hlk
  simp only [Option.getD_some, obV, if_neg (show ¬ false = true by decide)] at hlk
  have B1 := Blk.new w [.int .i64 k, .int .i64 n, .int .i64 a, .int .i64 mk, .slice (some ⟨g, 0, none⟩) n n] 95
  have b4 := B1.cell (i := 4) rfl
  clear h hg B1
  by_cases hj0 : j < 0
  · have g1 : decide (j < 0) = true := by simp; omega
    go_enter Tryz.func32, Tryz.ntmps32
    go_wp2_with fail
    go_ret
    exact ⟨rfl, (Fr.refl _ w).alloc _⟩
  · have g1 : decide (j < 0) = false := by simp; omega
    have g2 : decide ((n : Int) ≤ j) = true := by simp; omega
    go_enter Tryz.func32, Tryz.ntmps32
    go_wp2_with fail
    go_ret
    exact ⟨rfl, (Fr.refl _ w).alloc _⟩

/-- Pack's error, whatever comes. -/
def dPackE (k n a : Int) : Int := if k < 0 ∨ 10 < k then 6 else if n < 0 ∨ 31 < n ∨ a < 0 ∨ 16777215 < a then 1 else 0
set_option maxRecDepth 100000 in
set_option maxHeartbeats 3200000 in
theorem dPackA (k n a m : Int) (hm : m = 0 ∨ m = 1) (w : World) :
    Calls Tryz.prog 65 #[.agg #[.int .i64 k, .int .i64 n, .int .i64 a, .int .i64 m]] w fun e w' => (∃ v, e = .returned (.tuple #[.int .i64 v, .int .i64 (dPackE k n a)])) ∧ Fr [] w w' := by
  by_cases ha : 0 ≤ a ∧ a < 16777216
  · refine (dPack k n a m hm ha.1 ha.2 w).mono ?_
    rintro e w' ⟨⟨v, rfl⟩, hF⟩
    refine ⟨⟨v, ?_⟩, hF⟩
    have : dPackErr k n = dPackE k n a := by
      unfold dPackErr dPackE
      by_cases h1 : k < 0 ∨ 10 < k
      · rw [if_pos h1, if_pos h1]
      · rw [if_neg h1, if_neg h1]
        by_cases h2 : n < 0 ∨ 31 < n
        · rw [if_pos h2, if_pos (by omega)]
        · rw [if_neg h2, if_neg (by omega)]
    rw [this]
  · have B0 := Blk.new w [.int .i64 k, .int .i64 n, .int .i64 a, .int .i64 m] 92
    have c0 := B0.cell (i := 0) rfl
    have c1 := B0.cell (i := 1) rfl
    have c2 := B0.cell (i := 2) rfl
    have c3 := B0.cell (i := 3) rfl
    have hF : Fr [] w (w.alloc (.cells #[.int .i64 k, .int .i64 n, .int .i64 a, .int .i64 m] 92)) := (Fr.refl _ w).alloc _
    have HF := hid hF
    clear B0 hF
    obtain ⟨er, he⟩ : ∃ er, er = dPackE k n a := ⟨_, rfl⟩
    rw [← he]
    unfold dPackE at he
    by_cases k1 : k < 0
    · rw [if_pos (.inl k1)] at he
      subst he
      have g1 : decide (k < 0) = true := by simp; omega
      go_enter Tryz.func65, Tryz.ntmps65
      go_wp2_with fail
      refine bodyPost_ret (v := .tuple #[.int .i64 0, .int .i64 6]) (by simp [results, Tryz.results65, go_sem]) rfl ⟨⟨0, rfl⟩, HF.out⟩
    by_cases k2 : 10 < k
    · rw [if_pos (.inr k2)] at he
      subst he
      have g1 : decide (k < 0) = false := by simp; omega
      have g2 : decide (10 < k) = true := by simp; omega
      go_enter Tryz.func65, Tryz.ntmps65
      go_wp2_with fail
      refine bodyPost_ret (v := .tuple #[.int .i64 0, .int .i64 6]) (by simp [results, Tryz.results65, go_sem]) rfl ⟨⟨0, rfl⟩, HF.out⟩
    rw [if_neg (by omega), if_pos (by omega)] at he
    subst he
    have g1 : decide (k < 0) = false := by simp; omega
    have g2 : decide (10 < k) = false := by simp; omega
    by_cases n1 : n < 0
    · have g3 : decide (n < 0) = true := by simp; omega
      go_enter Tryz.func65, Tryz.ntmps65
      go_wp2_with fail
      refine bodyPost_ret (v := .tuple #[.int .i64 0, .int .i64 1]) (by simp [results, Tryz.results65, go_sem]) rfl ⟨⟨0, rfl⟩, HF.out⟩
    have g3 : decide (n < 0) = false := by simp; omega
    by_cases n2 : 31 < n
    · have g4 : decide (31 < n) = true := by simp; omega
      go_enter Tryz.func65, Tryz.ntmps65
      go_wp2_with fail
      refine bodyPost_ret (v := .tuple #[.int .i64 0, .int .i64 1]) (by simp [results, Tryz.results65, go_sem]) rfl ⟨⟨0, rfl⟩, HF.out⟩
    have g4 : decide (31 < n) = false := by simp; omega
    by_cases a1 : a < 0
    · have g5 : decide (a < 0) = true := by simp; omega
      go_enter Tryz.func65, Tryz.ntmps65
      go_wp2_with fail
      refine bodyPost_ret (v := .tuple #[.int .i64 0, .int .i64 1]) (by simp [results, Tryz.results65, go_sem]) rfl ⟨⟨0, rfl⟩, HF.out⟩
    have g5 : decide (a < 0) = false := by simp; omega
    have g6 : decide (16777215 < a) = true := by simp; omega
    go_enter Tryz.func65, Tryz.ntmps65
    go_wp2_with fail
    refine bodyPost_ret (v := .tuple #[.int .i64 0, .int .i64 1]) (by simp [results, Tryz.results65, go_sem]) rfl ⟨⟨0, rfl⟩, HF.out⟩

set_option maxRecDepth 100000 in
set_option maxHeartbeats 3200000 in
theorem dBecomeErr (D : DL) (W Lg : Int) (cls : List Int) (Rs : List Rows) (bits : List Bool) (top par : Int) (m : List (Int × Value)) (p k a mk k' a' : Int) (n g : Nat) (w : World) (h : DH w D W Lg cls Rs bits top par m) (hg : mget m p = some (obV k n a mk g n)) (hm : mk = 0 ∨ mk = 1) (he : dPackE k' n a' ≠ 0) :
    Calls Tryz.prog 33 #[.pointer (some ⟨D.mb, 0, none⟩), .int .i64 p, .int .i64 k', .int .i64 a'] w fun e w' => e = .returned (.int .i64 (dPackE k' n a')) ∧ Fr [] w w' := by
  have q7 := h.reads.2.2.2.1
  have hlk := run_lookup_im (P := Tryz.prog) h.im Tryz.underlying58 Tryz.underlying3 (obZero w) p false
  rw [hg] at hlk
  simp only [Option.getD_some, obV, if_neg (show ¬ false = true by decide)] at hlk
  have B1 := Blk.new w [.int .i64 k, .int .i64 n, .int .i64 a, .int .i64 mk, .slice (some ⟨g, 0, none⟩) n n] 95
  have B2 := B1.alloc (.cells #[.int .i64 k', .int .i64 n, .int .i64 a', .int .i64 mk] 92)
  have C1 := Blk.new (w.alloc (.cells #[.int .i64 k, .int .i64 n, .int .i64 a, .int .i64 mk, .slice (some ⟨g, 0, none⟩) n n] 95)) [.int .i64 k', .int .i64 n, .int .i64 a', .int .i64 mk] 92
  have hs1 : (w.alloc (.cells #[.int .i64 k, .int .i64 n, .int .i64 a, .int .i64 mk, .slice (some ⟨g, 0, none⟩) n n] 95)).heap.size = w.heap.size + 1 := by simp
  rw [hs1] at C1
  have hF0 : Fr [] w ((w.alloc (.cells #[.int .i64 k, .int .i64 n, .int .i64 a, .int .i64 mk, .slice (some ⟨g, 0, none⟩) n n] 95)).alloc (.cells #[.int .i64 k', .int .i64 n, .int .i64 a', .int .i64 mk] 92)) := ((Fr.refl _ w).alloc _).alloc _
  have b0 := B1.cell (i := 0) rfl
  have b1 := B1.cell (i := 1) rfl
  have b2 := B1.cell (i := 2) rfl
  have b3 := B1.cell (i := 3) rfl
  obtain ⟨wa, hwa⟩ : ∃ wa, wa = ((w.alloc (.cells #[.int .i64 k, .int .i64 n, .int .i64 a, .int .i64 mk, .slice (some ⟨g, 0, none⟩) n n] 95)).alloc (.cells #[.int .i64 k', .int .i64 n, .int .i64 a', .int .i64 mk] 92)) := ⟨_, rfl⟩
  have HWA := hid hwa
  rw [← hwa] at B2 C1 hF0
  have c0 := C1.cell (i := 0) rfl
  have c1 := C1.cell (i := 1) rfl
  have c2 := C1.cell (i := 2) rfl
  have c3 := C1.cell (i := 3) rfl
  have HB2 := hid B2
  have HC1 := hid C1
  have HF0 := hid hF0
  have HH := hid h
  have HHG := hid hg
  clear h hg B1 B2 C1 hs1 hF0 hwa
  obtain ⟨er, her⟩ : ∃ er, er = dPackE k' n a' := ⟨_, rfl⟩
  have HER := hid her
  rw [← her] at he ⊢
  clear her
  go_enter Tryz.func33, Tryz.ntmps33
  go_upto_region 5 with fail
  rw [← HWA.out]
  clear q7 hlk b0 b1 b2 b3
  go_wp2_with fail
  refine (dPackA k' n a' mk hm wa).mono ?_
  rintro e w1 ⟨⟨v, rfl⟩, hF1⟩
  rw [← HER.out]
  have HF1 := hid hF1
  clear hF1 c0 c1 c2 c3
  go_wp2_with fail
  go_ret
  exact ⟨rfl, HF0.out.trans HF1.out⟩

set_option maxRecDepth 100000 in
set_option maxHeartbeats 3200000 in
theorem dBecome (D : DL) (W Lg : Int) (cls : List Int) (Rs : List Rows) (bits : List Bool) (top par : Int) (m : List (Int × Value)) (p k a mk k' a' : Int) (n g : Nat) (w : World) (h : DH w D W Lg cls Rs bits top par m) (hg : mget m p = some (obV k n a mk g n)) (hm : mk = 0 ∨ mk = 1) (he : dPackE k' n a' = 0) (hb : ∀ b o c n, D.sv = .slice (some ⟨b, o, none⟩) n c → b < D.B) :
    Calls Tryz.prog 33 #[.pointer (some ⟨D.mb, 0, none⟩), .int .i64 p, .int .i64 k', .int .i64 a'] w fun e w' => e = .returned (.int .i64 0) ∧ DH w' D W Lg cls Rs bits top par (mput m p (obV k' n a' mk g n)) ∧ FrD D.B D.mp D.rsb w w' := by
  have q7 := h.reads.2.2.2.1
  have hlk := run_lookup_im (P := Tryz.prog) h.im Tryz.underlying58 Tryz.underlying3 (obZero w) p false
  rw [hg] at hlk
  simp only [Option.getD_some, obV, if_neg (show ¬ false = true by decide)] at hlk
  have B1 := Blk.new w [.int .i64 k, .int .i64 n, .int .i64 a, .int .i64 mk, .slice (some ⟨g, 0, none⟩) n n] 95
  have B2 := B1.alloc (.cells #[.int .i64 k', .int .i64 n, .int .i64 a', .int .i64 mk] 92)
  have C1 := Blk.new (w.alloc (.cells #[.int .i64 k, .int .i64 n, .int .i64 a, .int .i64 mk, .slice (some ⟨g, 0, none⟩) n n] 95)) [.int .i64 k', .int .i64 n, .int .i64 a', .int .i64 mk] 92
  have hs1 : (w.alloc (.cells #[.int .i64 k, .int .i64 n, .int .i64 a, .int .i64 mk, .slice (some ⟨g, 0, none⟩) n n] 95)).heap.size = w.heap.size + 1 := by simp
  rw [hs1] at C1
  have hF0 : Fr [] w ((w.alloc (.cells #[.int .i64 k, .int .i64 n, .int .i64 a, .int .i64 mk, .slice (some ⟨g, 0, none⟩) n n] 95)).alloc (.cells #[.int .i64 k', .int .i64 n, .int .i64 a', .int .i64 mk] 92)) := ((Fr.refl _ w).alloc _).alloc _
  have b0 := B1.cell (i := 0) rfl
  have b1 := B1.cell (i := 1) rfl
  have b2 := B1.cell (i := 2) rfl
  have b3 := B1.cell (i := 3) rfl
  obtain ⟨wa, hwa⟩ : ∃ wa, wa = ((w.alloc (.cells #[.int .i64 k, .int .i64 n, .int .i64 a, .int .i64 mk, .slice (some ⟨g, 0, none⟩) n n] 95)).alloc (.cells #[.int .i64 k', .int .i64 n, .int .i64 a', .int .i64 mk] 92)) := ⟨_, rfl⟩
  have HWA := hid hwa
  rw [← hwa] at B2 C1 hF0
  have c0 := C1.cell (i := 0) rfl
  have c1 := C1.cell (i := 1) rfl
  have c2 := C1.cell (i := 2) rfl
  have c3 := C1.cell (i := 3) rfl
  have HB2 := hid B2
  have HC1 := hid C1
  have HF0 := hid hF0
  have HH := hid h
  have HHG := hid hg
  clear h hg B1 B2 C1 hs1 hF0 hwa
  have hnm : w.heap.size ≠ D.mp := by have := HH.out.im.lt; omega
  have HE := hid he
  have HSV := hid hb
  clear he hb
  go_enter Tryz.func33, Tryz.ntmps33
  go_upto_region 5 with fail
  rw [← HWA.out]
  clear q7 hlk b0 b1 b2 b3
  go_wp2_with fail
  refine (dPackA k' n a' mk hm wa).mono ?_
  rintro e w1 ⟨⟨v, rfl⟩, hF1⟩
  rw [HE.out]
  have hC := HC1.out.fr hF1 (by simp)
  have hB := HB2.out.fr hF1 (by simp)
  have c0' := hC.cell (i := 0) rfl
  have c1' := hC.cell (i := 1) rfl
  have c2' := hC.cell (i := 2) rfl
  have c3' := hC.cell (i := 3) rfl
  have hB4 := (((hB.set 0 (.int .i64 k')).set 1 (.int .i64 n)).set 2 (.int .i64 a')).set 3 (.int .i64 mk)
  simp only [List.set_cons_zero, List.set_cons_succ] at hB4
  have b0' := hB.cell (i := 0) rfl
  have b1' := hB.cell (i := 1) rfl
  have b2' := hB.cell (i := 2) rfl
  have b3' := hB.cell (i := 3) rfl
  have b4' := hB.cell (i := 4) rfl
  have z0 := hB.frozen 0
  have z1 := hB.frozen 1
  have z2 := hB.frozen 2
  have z3 := hB.frozen 3
  have hFa : Fr [] w w1 := HF0.out.trans hF1
  obtain ⟨w2, hw2⟩ : ∃ w2, w2 = (((w1.setCell ⟨w.heap.size, 0, none⟩ (.int .i64 k')).setCell ⟨w.heap.size, 1, none⟩ (.int .i64 n)).setCell ⟨w.heap.size, 2, none⟩ (.int .i64 a')).setCell ⟨w.heap.size, 3, none⟩ (.int .i64 mk) := ⟨_, rfl⟩
  have hF2 : Fr [] w w2 := by rw [hw2]; exact (((hFa.set (.inr (Nat.le_refl _)) _).set (.inr (Nat.le_refl _)) _).set (.inr (Nat.le_refl _)) _).set (.inr (Nat.le_refl _)) _
  rw [← hw2] at hB4
  have HW2 := hid hw2
  have HB4 := hid hB4
  have HF2 := hid hF2
  clear hC hB4 hB hF1 hFa hF2 hw2 c0 c1 c2 c3
  go_upto_region 9 with fail
  rw [← HW2.out]
  clear c0' c1' c2' c3' b0' b1' b2' b3' b4' z0 z1 z2 z3
  have hI := (HH.out.im.fr HF2.out (by simp)).drew
  obtain ⟨w4, hrun, hI4, hF4⟩ := run_mapUpdate_im (P := Tryz.prog) hI Tryz.underlying58 Tryz.underlying3 p (obV k' n a' mk g n)
  unfold obV at hrun
  have h2 := HH.out.step HF2.out
  have q7 := (h2.step ((Fr.refl [] w2).drew)).reads.2.2.2.1
  have hB5 := HB4.out.fr ((Fr.refl [] w2).drew) (by simp)
  have d0 := hB5.cell (i := 0) rfl
  have d1 := hB5.cell (i := 1) rfl
  have d2 := hB5.cell (i := 2) rfl
  have d3 := hB5.cell (i := 3) rfl
  have d4 := hB5.cell (i := 4) rfl
  have HI4 := hid hI4
  have HF4 := hid hF4
  have H2 := hid (h2.step ((Fr.refl [] w2).drew))
  clear hI hI4 hF4 h2 hB5
  go_region
  all_goals
    go_wp2_with fail
    go_ret
    exact ⟨rfl, H2.out.map HF4.out HSV.out HI4.out, (FrD.of (HF2.out.trans ((Fr.refl [] w2).drew))).trans (FrD.map HH.out.lo.2.2 HH.out.apart.2.2.1 HF4.out)⟩

end Go.Proofs.YtifillpcphiblaaGreat

namespace Go.Proofs.YtifillpcphiblaaGreat
open Go Go.Proofs Go.RowKit

/-! The program's Become, where Pack fails; the document's Alloc, where Pack does. -/

set_option maxHeartbeats 1600000 in
theorem hTurnBad (L : HL) (s : HS) (p : Int) (k z a m k' a' : Int) (kb xb : Nat) (w : World) (hH : HRep w L s) (p0 : 0 ≤ p) (p1 : p < s.ws.length) (hp : gw s.ws p = packed k z a m) (hd : Hd k z a m) (he : dPackE k' z a' ≠ 0)
    (h1 : w.cell? ⟨kb, 0, none⟩ = some (.int .i64 k')) (h2 : w.cell? ⟨xb, 0, none⟩ = some (.int .i64 a')) (l1 : kb < w.heap.size) (l2 : xb < w.heap.size) (n1 : kb ∉ L.all) (n2 : xb ∉ L.all) :
    Calls Tryz.prog 52 #[.pointer (some ⟨L.hb, 0, none⟩), .int .i64 p, .func (.func 53) #[] #[.pointer (some ⟨kb, 0, none⟩), .pointer (some ⟨xb, 0, none⟩)]] w fun e w' => e = .returned (.int .i64 (dPackE k' z a')) ∧ HRep w' L (s.tick 1) ∧ Fr [L.ab] w w' := by
  have n1' : kb ≠ L.ab := by intro e; apply n1; simp [HL.all, HL.fp, e]
  have n2' : xb ≠ L.ab := by intro e; apply n2; simp [HL.all, HL.fp, e]
  obtain ⟨er, her⟩ : ∃ er, er = dPackE k' z a' := ⟨_, rfl⟩
  have HER := hid her
  rw [← her] at he ⊢
  clear her
  go_enter Tryz.func52, Tryz.ntmps52
  go_wp2_with fail
  refine (hCell L s p k z a m _ hH p0 p1 hp hd).mono ?_
  rintro e w1 ⟨rfl, hH1, hF1⟩
  clear hp
  have e1 := (cell_fr hF1 (by simpa using n1') l1 0).trans h1
  have e2 := (cell_fr hF1 (by simpa using n2') l2 0).trans h2
  have b1 := Blk.new w1 [.int .i64 k, .int .i64 z, .int .i64 a, .int .i64 m] 96
  have hsz := hF1.size
  have hH2 := hH1.alloc (.cells #[.int .i64 k, .int .i64 z, .int .i64 a, .int .i64 m] 96)
  have hn := new_apart hH1
  clear h1 h2
  go_wp2_with fail
  refine (becomeLit w1.heap.size kb xb k z a m k' a' _ b1 ?_ ?_ (by omega) (by omega)).mono ?_
  · rw [World.cell?_alloc_past _ _ _ (by omega)]; exact e1
  · rw [World.cell?_alloc_past _ _ _ (by omega)]; exact e2
  rintro e w2 ⟨rfl, b2, hF2⟩
  have hH3 := hH2.fr hF2 (by simpa using hn)
  clear e1 e2 b1 hH2 hn
  have q0 := b2.cell (i := 0) rfl
  have q1 := b2.cell (i := 1) rfl
  have q2 := b2.cell (i := 2) rfl
  have q3 := b2.cell (i := 3) rfl
  have hF3 : Fr [L.ab] w w2 := (hF1.alloc _).step hF2 (by simp; omega)
  clear hF2
  have hpk : Calls Tryz.prog 46 #[.agg #[.int .i64 k', .int .i64 z, .int .i64 a', .int .i64 m]] w2 fun e w' => e = .returned (.tuple #[.int .i64 0, .int .i64 er]) ∧ Fr [] w2 w' := by
    have he' := HER.out
    unfold dPackE at he'
    by_cases hk : k' < 0 ∨ 10 < k'
    · rw [if_pos hk] at he'
      rw [he']
      exact cPackKind k' z a' m w2 hk
    · rw [if_neg hk] at he'
      by_cases hr : z < 0 ∨ 31 < z ∨ a' < 0 ∨ 16777215 < a'
      · rw [if_pos hr] at he'
        rw [he']
        exact cPackRange k' z a' m w2 (by omega) (by omega) hd.m0 hd.m1 (by omega)
      · rw [if_neg hr] at he'
        exact absurd he' he
  have HPK := hid hpk
  clear hpk
  go_wp2_with fail
  refine HPK.out.mono ?_
  rintro e w3 ⟨rfl, hF4⟩
  have hH4 := hH3.fr hF4 (by simp)
  have hF5 : Fr [L.ab] w w3 := hF3.trans (hF4.here (by simp))
  clear q0 q1 q2 q3 hF4 hF3 hH3
  go_wp2_with fail
  go_ret
  exact ⟨rfl, hH4, hF5⟩

set_option maxHeartbeats 800000 in
theorem hBecomeBad (L : HL) (s : HS) (p : Int) (k z a m k' a' : Int) (w : World) (hH : HRep w L s) (p0 : 0 ≤ p) (p1 : p < s.ws.length) (hp : gw s.ws p = packed k z a m) (hd : Hd k z a m) (he : dPackE k' z a' ≠ 0) :
    Calls Tryz.prog 23 #[.pointer (some ⟨L.hb, 0, none⟩), .int .i64 p, .int .i64 k', .int .i64 a'] w fun e w' => e = .returned (.int .i64 (dPackE k' z a')) ∧ HRep w' L (s.tick 1) ∧ Fr [L.ab] w w' := by
  have hmf : ∀ (fn : Fn) (first cap : Array Value) (w : World), (Instr.makeFunc fn first cap).run Tryz.prog w = .ok (.func fn first cap) w := fun _ _ _ _ => rfl
  have hn := new_apart hH
  have hH1 := hH.alloc (.cells #[.int .i64 k'] 3)
  have hn1 := new_apart hH1
  have hH2 := hH1.alloc (.cells #[.int .i64 a'] 3)
  have b1 := (Blk.new w [.int .i64 k'] 3).alloc (.cells #[.int .i64 a'] 3)
  have b2 := Blk.new (w.alloc (.cells #[.int .i64 k'] 3)) [.int .i64 a'] 3
  simp only [World.size_alloc] at hn1 b2
  obtain ⟨er, her⟩ : ∃ er, er = dPackE k' z a' := ⟨_, rfl⟩
  have hpk := fun wx hx h1 h2 l1 l2 => hTurnBad L s p k z a m k' a' w.heap.size (w.heap.size + 1) wx hx p0 p1 hp hd he h1 h2 l1 l2 hn hn1
  rw [← her] at hpk ⊢
  have HPK := hid hpk
  clear hpk her
  go_enter Tryz.func23, Tryz.ntmps23
  go_wp2_with fail
  refine (HPK.out _ hH2 (b1.cell rfl) (b2.cell rfl) b1.lt b2.lt).mono ?_
  rintro e w1 ⟨rfl, hH3, hF3⟩
  clear hp b1 b2 hH1 hH2
  go_wp2_with fail
  go_ret
  exact ⟨rfl, hH3, (((Fr.refl _ w).alloc _).alloc _).trans hF3⟩

set_option maxRecDepth 100000 in
set_option maxHeartbeats 3200000 in
theorem dAllocBadA (D : DL) (W Lg : Int) (cls : List Int) (Rs : List Rows) (bits : List Bool) (top par : Int) (m : List (Int × Value)) (k a n : Int) (w : World) (h : DH w D W Lg cls Rs bits top par m) (hpar : par = 0 ∨ par = 1) (her : dPackE k n a ≠ 0) :
    Calls Tryz.prog 30 #[.pointer (some ⟨D.mb, 0, none⟩), .int .i64 k, .int .i64 a, .int .i64 n] w (AlNo w D W Lg cls Rs bits top par m (dPackE k n a)) := by
  obtain ⟨q0, q1, q6, q7, q8, q9, q10, q11⟩ := h.reads
  have B0 := Blk.new w [.int .i64 k, .int .i64 n, .int .i64 a, .int .i64 par] 92
  have b0 := B0.cell (i := 0) rfl
  have b1 := B0.cell (i := 1) rfl
  have b2 := B0.cell (i := 2) rfl
  have b3 := B0.cell (i := 3) rfl
  have hF0 : Fr [] w (w.alloc (.cells #[.int .i64 k, .int .i64 n, .int .i64 a, .int .i64 par] 92)) := (Fr.refl _ w).alloc _
  obtain ⟨er, he⟩ : ∃ er, er = dPackE k n a := ⟨_, rfl⟩
  rw [← he] at her ⊢
  have HE := hid he
  have HH := hid h
  have HF0 := hid hF0
  clear h B0 hF0 q0 q1 q6 q7 q8 q9 q10 he
  go_enter Tryz.func30, Tryz.ntmps30
  go_wp2_with fail
  refine (dPackA k n a par hpar _).mono ?_
  rintro e w1 ⟨⟨v, rfl⟩, hF1⟩
  rw [← HE.out]
  have HF1 := hid hF1
  clear hF1
  go_wp2_with fail
  refine bodyPost_ret (v := .tuple #[.int .i64 0, .int .i64 er]) (by simp [results, Tryz.results30, go_sem]) rfl ⟨rfl, HH.out.step (HF0.out.trans HF1.out), FrD.of (HF0.out.trans HF1.out)⟩
end Go.Proofs.YtifillpcphiblaaGreat

namespace Go.Proofs.YtifillpcphiblaaGreat
open Go Go.Proofs Go.RowKit

/-! The document's heap: Pick. -/
/-- Those that are there among the first k places. -/
def liveTo (live : Int → Bool) : Nat → List Int
  | 0 => []
  | k + 1 => if live ((k : Int) + 1) then liveTo live k ++ [(k : Int) + 1] else liveTo live k
theorem mem_liveTo {live : Int → Bool} {k : Nat} {x : Int} : x ∈ liveTo live k ↔ 1 ≤ x ∧ x ≤ k ∧ live x = true := by
  induction k with
  | zero => simp [liveTo]; omega
  | succ k ih =>
    unfold liveTo
    by_cases h : live ((k : Int) + 1) = true
    · rw [if_pos h, List.mem_append, ih, List.mem_singleton]
      constructor
      · rintro (⟨a, b, c⟩ | rfl)
        · exact ⟨a, by omega, c⟩
        · exact ⟨by omega, by omega, h⟩
      · rintro ⟨a, b, c⟩
        by_cases e : x = (k : Int) + 1
        · exact .inr e
        · exact .inl ⟨a, by omega, c⟩
    · rw [if_neg h, ih]
      constructor
      · rintro ⟨a, b, c⟩; exact ⟨a, by omega, c⟩
      · rintro ⟨a, b, c⟩
        refine ⟨a, ?_, c⟩
        by_cases e : x = (k : Int) + 1
        · subst e; exact absurd c h
        · omega
theorem liveTo_len (live : Int → Bool) (k : Nat) : (liveTo live k).length ≤ k := by
  induction k with
  | zero => simp [liveTo]
  | succ k ih =>
    unfold liveTo
    split
    · simp; omega
    · omega
def pickI (l : List Int) (n : Int) : Int := if l = [] then 0 else (l[(n.tmod l.length).natAbs]?).getD 0
theorem tmod_lt (n : Int) {k : Nat} (h : 0 < k) : (n.tmod k).natAbs < k ∧ -(k : Int) < n.tmod k ∧ n.tmod k < k := by
  have h1 : (n.tmod k).natAbs = n.natAbs % k := by rw [Int.natAbs_tmod]; simp
  have h2 := Nat.mod_lt n.natAbs h
  refine ⟨by omega, by omega, by omega⟩
theorem pickI_mem {l : List Int} {n : Int} (h : l ≠ []) : pickI l n ∈ l := by
  unfold pickI
  rw [if_neg h]
  have hl : 0 < l.length := List.length_pos_iff.2 h
  have := (tmod_lt n hl).1
  rw [List.getElem?_eq_getElem this]
  exact List.getElem_mem _

set_option maxRecDepth 100000 in
set_option maxHeartbeats 6400000 in
theorem dPick (D : DL) (W Lg : Int) (cls : List Int) (Rs : List Rows) (bits : List Bool) (top par : Int) (m : List (Int × Value)) (n : Int) (live : Int → Bool) (WN : Nat) (hW : W = (WN : Int) + 1) (hWN : WN ≤ 65536) (w : World) (h : DH w D W Lg cls Rs bits top par m)
    (hT : ∀ (p : Int) (w1 : World), Fr [] w w1 → Calls Tryz.prog 44 #[.pointer (some ⟨D.mb, 0, none⟩), .int .i64 p] w1 fun e w2 => e = .returned (.bool (live p)) ∧ Fr [] w1 w2) :
    Calls Tryz.prog 20 #[.pointer (some ⟨D.mb, 0, none⟩), .int .i64 n] w fun e w' => e = .returned (.int .i64 (pickI (liveTo live WN) n)) ∧ Fr [] w w' := by
  have HH := hid h
  have HT := hid hT
  obtain ⟨pk, hpk⟩ : ∃ pk, pk = pickI (liveTo live WN) n := ⟨_, rfl⟩
  rw [← hpk]
  have HPK := hid hpk
  clear h hT hpk
  subst hW
  go_enter Tryz.func20, Tryz.ntmps20
  go_wp2_with fail
  go_loopw [6, 5] (fun iv lv wr => ∃ k : Nat, k ≤ WN ∧ iv = .int .i64 ((k : Int) + 1) ∧ Rowi wr w.heap.size lv (liveTo live k) ∧ Fr [] w wr) (fun iv _ _ => WN + 1 - (intOf iv).toNat)
  case atStart => exact ⟨0, Nat.zero_le _, rfl, Rowi.nil _ _, Fr.refl _ _⟩
  case round =>
    obtain ⟨k, hk, rfl, hrow, hF⟩ := hrel
    obtain ⟨A0, c0, rfl⟩ := hrow.form
    have q0 := (HH.out.step hF).reads.1
    have hll := liveTo_len live k
    have HROW := hid hrow
    have HF := hid hF
    clear hrow hF
    by_cases hlt : (k : Int) + 1 < (WN : Int) + 1
    · obtain ⟨ln, hln⟩ : ∃ ln, ln = (liveTo live k).length := ⟨_, rfl⟩
      rw [← hln] at HROW hll ⊢
      have HLN := hid hln
      clear hln
      go_wp2_with fail
      refine (HT.out ((k : Int) + 1) wr HF.out).mono ?_
      rintro e w2 ⟨rfl, hF2⟩
      have hrow2 := HROW.out.fr hF2 (by simp)
      have HF2 := hid (HF.out.trans hF2)
      by_cases hlv : live ((k : Int) + 1) = true
      · have hnext : liveTo live (k + 1) = liveTo live k ++ [(k : Int) + 1] := by
          show (if _ then _ else _) = _
          rw [if_pos hlv]
        have h11 : Rowi (w2.alloc (.cells #[.int .i64 ((k : Int) + 1)] 3)) w.heap.size (.slice A0 ln c0) (liveTo live k) := hrow2.alloc _
        have hS1 : Srci (w2.alloc (.cells #[.int .i64 ((k : Int) + 1)] 3)) (some ⟨w2.heap.size, 0, none⟩) 1 [(k : Int) + 1] := (Rowi.one w2 ((k : Int) + 1) (Nat.le_refl w2.heap.size)).src
        have hws : w.heap.size ≤ w2.heap.size := HF2.out.size
        have H11 := hid h11
        have HS1 := hid hS1
        have HNEXT := hid hnext
        have hHL := HLN.out
        have hle : (liveTo live k).length + 1 ≤ 1000000 := by omega
        have HLE := hid hle
        clear h11 hS1 hnext hrow2 hF2 hHL hle
        rw [hlv]
        go_wp2_with (at_builtin; refine wpList_appi rfl _ _ rfl w.heap.size (.slice A0 ln c0) (liveTo live k) rfl H11.out (some ⟨w2.heap.size, 0, none⟩) 1 1 [(k : Int) + 1] rfl HS1.out (by simp) HLE.out (by simp; omega) ?_)
        intro v4 w4 h4 f4 b4
        obtain ⟨A4, c4, rfl⟩ := h4.form
        have hF4 : Fr [] w w4 := (HF2.out.alloc _).step f4 (fun x hx => .inr (H11.out.lt x (by simpa using hx)).1)
        have HF4 := hid hF4
        have H4 := hid h4
        have hwr : IntKind.i64.wrap ((k : Int) + 1 + 1) = (k : Int) + 1 + 1 := by rw [IntKind.wrap_i64]; omega
        clear h4 f4 b4 hF4
        go_wp2_with fail
        go_roundw
        case rel => exact ⟨k + 1, by omega, by go_num, by rw [HNEXT.out]; exact H4.out, HF4.out⟩
        case measure => simp [intOf]; omega
      · have hlv' : live ((k : Int) + 1) = false := by simpa using hlv
        have hnext : liveTo live (k + 1) = liveTo live k := by
          show (if _ then _ else _) = _
          rw [if_neg hlv]
        rw [hlv']
        have HNEXT := hid hnext
        have HROW2 := hid hrow2
        have hwr : IntKind.i64.wrap ((k : Int) + 1 + 1) = (k : Int) + 1 + 1 := by rw [IntKind.wrap_i64]; omega
        clear hnext hrow2 hF2
        go_wp2_with fail
        go_roundw
        case rel => exact ⟨k + 1, by omega, by go_num, by rw [HNEXT.out]; exact HROW2.out, HF2.out⟩
        case measure => simp [intOf]; omega
    · obtain rfl : k = WN := by omega
      obtain ⟨l, hl⟩ : ∃ l, l = liveTo live k := ⟨_, rfl⟩
      rw [← hl] at HROW hll ⊢
      obtain ⟨ln, hln⟩ : ∃ ln, ln = l.length := ⟨_, rfl⟩
      rw [← hln] at HROW hll ⊢
      by_cases h0 : ln = 0
      · have e : l = [] := List.length_eq_zero_iff.1 (by omega)
        have hp : pk = 0 := by rw [HPK.out, ← hl]; unfold pickI; rw [if_pos e]
        rw [h0]
        have HP := hid hp
        clear h0 e hp hl hln HROW
        go_wp2_with fail
        go_ret
        exact ⟨by rw [HP.out]; rfl, HF.out⟩
      · obtain ⟨t, ht⟩ : ∃ t, t = n.tmod (ln : Int) := ⟨_, rfl⟩
        have hb := tmod_lt n (show 0 < ln by omega)
        rw [← ht] at hb
        obtain ⟨b1, b2, b3⟩ := hb
        obtain ⟨x, hx⟩ : ∃ x, l[t.natAbs]? = some x := ⟨_, List.getElem?_eq_getElem (by omega)⟩
        have hp : pk = x := by
          rw [HPK.out, ← hl]
          unfold pickI
          rw [if_neg (by intro e; rw [e] at hln; simp at hln; omega), ← hln, ← ht, hx]; rfl
        have HP := hid hp
        have hrow := HROW.out
        rw [hln] at hrow
        obtain ⟨g, rfl, -, -, -, -, -, hcell⟩ := hrow.at (by omega)
        have hcx := hcell _ x hx
        have hz : ¬ (ln : Int) = 0 := by omega
        have hz2 : ((ln : Int) == 0) = false := by simp; omega
        have hz3 : (ln == 0) = false := by simp; omega
        have hwt : IntKind.i64.wrap t = t := by rw [IntKind.wrap_i64]; omega
        have hwn : IntKind.i64.wrap (-t) = -t := by rw [IntKind.wrap_i64]; omega
        have ht' := ht.symm
        clear hcell hx hp hrow HROW hl hln ht hll
        by_cases hneg : t < 0
        · have u1 : t.natAbs = (-t).toNat := by omega
          rw [u1] at hcx
          have u2 : (0 : Int) ≤ -t := by omega
          have u3 : -t < (ln : Int) := by omega
          clear u1 b1
          go_wp2_with fail
          go_ret
          exact ⟨by rw [HP.out]; rfl, HF.out⟩
        · have u1 : t.natAbs = t.toNat := by omega
          rw [u1] at hcx
          have u2 : (0 : Int) ≤ t := by omega
          clear u1 b1
          go_wp2_with fail
          go_ret
          exact ⟨by rw [HP.out]; rfl, HF.out⟩
end Go.Proofs.YtifillpcphiblaaGreat

namespace Go.Proofs.YtifillpcphiblaaGreat
open Go Go.Proofs Go.RowKit

/-! The document's heap: There, Pick. -/

theorem mClass' (mb : Nat) (cls : List Int) (n : Int) (w : World) (hM : MCls w mb cls) (hm : cls.length ≤ 100) :
    Calls Tryz.prog 67 #[.pointer (some ⟨mb, 0, none⟩), .int .i64 n] w fun e w' => e = .returned (.int .i64 (clsIx cls n)) ∧ w' = w :=
  (mClass mb cls n w hM hm).mono (fun _ _ h => ⟨h.1, h.2.symm⟩)

set_option maxRecDepth 100000 in
set_option maxHeartbeats 3200000 in
theorem dThereNo (D : DL) (W Lg : Int) (cls : List Int) (Rs : List Rows) (bits : List Bool) (top par : Int) (m : List (Int × Value)) (p : Int) (w : World) (h : DH w D W Lg cls Rs bits top par m) (hg : mget m p = none) :
    Calls Tryz.prog 44 #[.pointer (some ⟨D.mb, 0, none⟩), .int .i64 p] w fun e w' => e = .returned (.bool false) ∧ Fr [] w w' := by
  have q7 := h.reads.2.2.2.1
  have hlk := run_lookup_im (P := Tryz.prog) h.im Tryz.underlying58 Tryz.underlying3 (obZero w) p true
  rw [hg] at hlk
  simp only [Option.getD_none, Option.isSome_none, if_pos] at hlk
  clear h hg
  go_enter Tryz.func44, Tryz.ntmps44
  go_wp2_with fail
  go_ret
  exact ⟨rfl, (Fr.refl _ w).alloc _⟩

set_option maxRecDepth 100000 in
set_option maxHeartbeats 3200000 in
theorem dThere (D : DL) (W Lg : Int) (cls : List Int) (Rs : List Rows) (bits : List Bool) (top par : Int) (m : List (Int × Value)) (p k a mk : Int) (n g j : Nat) (R : Rows) (w : World) (h : DH w D W Lg cls Rs bits top par m) (hcl : cls.length ≤ 100) (hg : mget m p = some (obV k n a mk g n)) (hj : clsIx cls n = j) (hR : Rs[j]? = some R) (hl : R.W.length ≤ 65536) :
    Calls Tryz.prog 44 #[.pointer (some ⟨D.mb, 0, none⟩), .int .i64 p] w fun e w' => e = .returned (.bool (decide (idxI R.W p < 0))) ∧ Fr [] w w' := by
  have q7 := h.reads.2.2.2.1
  have hlk := run_lookup_im (P := Tryz.prog) h.im Tryz.underlying58 Tryz.underlying3 (obZero w) p true
  rw [hg] at hlk
  simp only [Option.getD_some, Option.isSome_some, if_pos, obV] at hlk
  have hF0 : Fr [] w (w.alloc (.cells #[.int .i64 k, .int .i64 n, .int .i64 a, .int .i64 mk, .slice (some ⟨g, 0, none⟩) n n] 95)) := (Fr.refl _ w).alloc _
  have B1 := Blk.new w [.int .i64 k, .int .i64 n, .int .i64 a, .int .i64 mk, .slice (some ⟨g, 0, none⟩) n n] 95
  obtain ⟨wa, hwa⟩ : ∃ wa, wa = w.alloc (.cells #[.int .i64 k, .int .i64 n, .int .i64 a, .int .i64 mk, .slice (some ⟨g, 0, none⟩) n n] 95) := ⟨_, rfl⟩
  have HWA := hid hwa
  rw [← hwa] at hF0 B1
  have h1 := h.step hF0
  have c1 := B1.cell (i := 1) rfl
  have hl1 := B1.lt
  have hl2 := h1.s.lt
  obtain ⟨q0, q1, q6, q7', q8, q9, q10, q11⟩ := h1.reads
  obtain ⟨⟨v0, v1, v2, v3⟩, hd, hc, hz, hlt, -⟩ := h1.rs.at hR
  have r0 : wa.cell? ⟨D.rsb, j * 5, none⟩ = some v0 := by have := hc 0 v0 rfl; rw [Nat.mul_comm]; simpa using this
  have r1 : wa.cell? ⟨D.rsb, j * 5 + 1, none⟩ = some v1 := by have := hc 1 v1 rfl; rw [Nat.mul_comm]; simpa using this
  have r2 : wa.cell? ⟨D.rsb, j * 5 + 2, none⟩ = some v2 := by have := hc 2 v2 rfl; rw [Nat.mul_comm]; simpa using this
  have r3 : wa.cell? ⟨D.rsb, j * 5 + 3, none⟩ = some v3 := by have := hc 3 v3 rfl; rw [Nat.mul_comm]; simpa using this
  have r4 : wa.cell? ⟨D.rsb, j * 5 + 4, none⟩ = some (.int .i64 W) := by have := hc 4 (.int .i64 W) rfl; rw [Nat.mul_comm]; simpa using this
  obtain ⟨A0, c0, e0⟩ := hd.wh.form
  obtain ⟨A1, c1', e1⟩ := hd.fr0.form
  obtain ⟨A2, c2, e2⟩ := hd.gr.form
  obtain ⟨A3, c3, e3⟩ := hd.bl.form
  simp only at e0 e1 e2 e3
  have hw0 := hd.wh
  simp only [e0] at hw0
  rw [e0] at r0
  rw [e1] at r1
  rw [e2] at r2
  rw [e3] at r3
  obtain ⟨N, hN⟩ : ∃ N, N = cls.length := ⟨_, rfl⟩
  have hjl : j < N + 1 := by have := (List.getElem?_eq_some_iff.1 hR).1; rw [h.len] at this; omega
  rw [← hN] at q8
  have hi1 : (0 : Int) ≤ (j : Int) := by omega
  have hi2 : (j : Int) < (N : Int) + 1 := by omega
  have hS := hw0.src
  have HS := hid hS
  have HJ := hid hj
  have H1 := hid h1
  have HF0 := hid hF0
  obtain ⟨ix, hix⟩ : ∃ ix, ix = idxI R.W p := ⟨_, rfl⟩
  have HIX := hid hix
  rw [← hix]
  clear h h1 hF0 B1 hwa hd hc hz hw0 hS e0 e1 e2 e3 hN q0 q1 q6 q9 q10 q11 hg hix
  go_enter Tryz.func44, Tryz.ntmps44
  go_upto_region 4 with fail
  rw [← HWA.out]
  go_cut [7] (fun rv wx => rv = .pointer (some ⟨wa.heap.size, 0, none⟩) ∧ Blk wx wa.heap.size [.slice A0 R.W.length c0, .slice A1 R.F.length c1', .slice A2 R.G.length c2, .slice A3 R.B.length c3, .int .i64 W] 66 ∧ Fr [] wa wx)
  case first =>
    have Z := (Blk.new wa [.slice none 0 0, .slice none 0 0, .slice none 0 0, .slice none 0 0, .int .i64 0] 66).drew
    have z0 := Z.cell (i := 0) rfl
    have y0 := Z.frozen 0
    have z1 := Z.cell (i := 1) rfl
    have y1 := Z.frozen 1
    have z2 := Z.cell (i := 2) rfl
    have y2 := Z.frozen 2
    have z3 := Z.cell (i := 3) rfl
    have y3 := Z.frozen 3
    have z4 := Z.cell (i := 4) rfl
    have y4 := Z.frozen 4
    go_region_with ((go_at_call 67; refine (mClass' D.mb cls n _ (H1.out.step (by first | exact (Fr.refl [] wa).drew | exact ((Fr.refl [] wa).alloc _).drew)).mcls hcl).mono ?_; rintro e w1 ⟨rfl, rfl⟩; rw [HJ.out]))
    all_goals
      go_wp2_with fail
      go_meet
      case rel => exact ⟨rfl, (Blk.new wa [.slice A0 R.W.length c0, .slice A1 R.F.length c1', .slice A2 R.G.length c2, .slice A3 R.B.length c3, .int .i64 W] 66).drew, ((Fr.refl _ wa).alloc _).drew⟩
  case rest =>
    obtain ⟨rfl, hbx, hFx⟩ := hcut
    have s0 := hbx.cell (i := 0) rfl
    clear q7 hlk c1 q7' q8 r0 r1 r2 r3 r4 hbx
    have HFX := hid hFx
    clear hFx
    go_wp2_with fail
    refine (dIndex A0 c0 R.W p _ (HS.out.step HFX.out) (by omega)).mono ?_
    rintro e w2 ⟨rfl, rfl⟩
    rw [← HIX.out]
    go_wp2_with fail
    go_ret
    exact ⟨rfl, HF0.out.trans HFX.out⟩
end Go.Proofs.YtifillpcphiblaaGreat

namespace Go.Proofs.YtifillpcphiblaaGreat
open Go Go.Proofs Go.RowKit

/-! The document's heap: Shade, Next, Begin. -/

/-- The document's blocks that a call of its heap writes, but for words. -/
def FrH (B mp : Nat) (w w' : World) : Prop := ∃ S, Fr S w w' ∧ ∀ b ∈ S, B ≤ b ∧ (b < w.heap.size → b = mp ∨ ∃ cs T, Blk w b cs T ∧ (T = 62 ∨ T = 66 ∨ T = 4))
theorem FrH.of {B mp : Nat} {w w' : World} (h : Fr [] w w') : FrH B mp w w' := ⟨[], h, by simp⟩
theorem FrD.h {B mp rsb : Nat} {w w' : World} (h : FrD B mp rsb w w') : FrH B mp w w' := by
  obtain ⟨⟨S, hF, hS⟩, _⟩ := h
  exact ⟨S, hF, hS⟩
theorem FrH.g {B mp : Nat} {w w' : World} (h : FrH B mp w w') : FrG B mp w w' := by
  obtain ⟨S, hF, hS⟩ := h
  refine ⟨S, hF, fun b hb => ⟨(hS b hb).1, fun hl => ?_⟩⟩
  rcases (hS b hb).2 hl with h1 | ⟨cs, T, h1, h2⟩
  · exact .inl h1
  · exact .inr ⟨cs, T, h1, by rcases h2 with h | h | h <;> simp [h]⟩
theorem FrH.trans {B mp : Nat} {a b c : World} (h : FrH B mp a b) (k : FrH B mp b c) : FrH B mp a c := by
  obtain ⟨S, hF, hS⟩ := h
  obtain ⟨S', hF', hS'⟩ := k
  refine ⟨S ++ S', (hF.here (by intro x hx; exact List.mem_append.2 (.inl hx))).trans (hF'.here (by intro x hx; exact List.mem_append.2 (.inr hx))), fun x hx => ?_⟩
  by_cases hxS : x ∈ S
  · exact hS x hxS
  · rcases List.mem_append.1 hx with hx | hx
    · exact absurd hx hxS
    · refine ⟨(hS' x hx).1, fun hl => ?_⟩
      rcases (hS' x hx).2 (Nat.lt_of_lt_of_le hl hF.size) with h1 | ⟨cs, T, h1, h2⟩
      · exact .inl h1
      · exact .inr ⟨cs, T, blk_back hF h1 hl hxS, h2⟩
theorem FrH.blk {B mp : Nat} {w w' : World} {b : Nat} {cs : List Value} {T : TypeId} (h : FrH B mp w w') (hb : Blk w b cs T) (hT : T ≠ 62 ∧ T ≠ 66 ∧ T ≠ 4) (hm : b ≠ mp) : Blk w' b cs T := by
  obtain ⟨S, hF, hS⟩ := h
  refine hb.fr hF (fun hc => ?_)
  rcases (hS b hc).2 hb.lt with h1 | ⟨cs', T', h1, h2⟩
  · exact hm h1
  · exact blk_ne' hb h1 (by rintro rfl; rcases h2 with h | h | h <;> simp [h] at hT) rfl
/-- What lies at or above the document's heap changes: the class slice stays. -/
theorem slB {S : List Nat} {w w' : World} {sv : Value} {cls : List Int} {B : Nat} (h : SlArg w sv cls) (hf : Fr S w w') (hS : ∀ b ∈ S, B ≤ b) (hb : ∀ b o c n, sv = .slice (some ⟨b, o, none⟩) n c → b < B) : SlArg w' sv cls := by
  rcases h with h | h | ⟨b, o, cap, e, hr, hm⟩
  · exact .inl h
  · exact .inr (.inl h)
  · exact .inr <| .inr ⟨b, o, cap, e, hr.fr hf (fun hc => by have := hS b hc; have := hb _ _ _ _ e; omega), hm⟩
/-- The rings have been worked at (rows may have changed their places). -/
theorem DH.ringF {w w' : World} {D : DL} {W Lg : Int} {cls : List Int} {Rs : List Rows} {bits : List Bool} {top par : Int} {m : List (Int × Value)} (h : DH w D W Lg cls Rs bits top par m) (hf : Fr [D.rsb] w w') (hb : ∀ b o c n, D.sv = .slice (some ⟨b, o, none⟩) n c → b < D.B) {Rs' : List Rows} (hr : DRs w' D.B D.rsb W Rs') (hl : Rs'.length = Rs.length) : DH w' D W Lg cls Rs' bits top par m := by
  obtain ⟨a1, a2, a3, a4, a5, a6⟩ := h.apart
  obtain ⟨vs, rest, h1, _⟩ := h.rs.ex
  exact { s := h.s.fr hf (by simpa using a1), cl := slB h.cl hf (fun x hx => by obtain rfl := List.mem_singleton.1 hx; exact h.lo.2.1) hb, rs := hr, len := hl.trans h.len, rm := h.rm.fr' hf (fun x hx => by obtain rfl := List.mem_singleton.1 hx; exact ⟨_, _, h1, by decide, by decide⟩), im := h.im.fr hf (by simpa using Ne.symm a3), lo := h.lo }
theorem FrH.rsb {w w' : World} {D : DL} {W Lg : Int} {cls : List Int} {Rs : List Rows} {bits : List Bool} {top par : Int} {m : List (Int × Value)} (h : DH w D W Lg cls Rs bits top par m) (hf : Fr [D.rsb] w w') : FrH D.B D.mp w w' := by
  obtain ⟨cs, h1⟩ := h.rblk
  exact ⟨_, hf, fun b hb => by obtain rfl := List.mem_singleton.1 hb; exact ⟨h.lo.2.1, fun _ => .inr ⟨_, _, h1, by simp⟩⟩⟩
theorem FrH.mb {w w' : World} {D : DL} {W Lg : Int} {cls : List Int} {Rs : List Rows} {bits : List Bool} {top par : Int} {m : List (Int × Value)} (h : DH w D W Lg cls Rs bits top par m) (hf : Fr [D.mb] w w') : FrH D.B D.mp w w' :=
  ⟨_, hf, fun b hb => by obtain rfl := List.mem_singleton.1 hb; exact ⟨h.lo.1, fun _ => .inr ⟨_, _, h.s, by simp⟩⟩⟩
theorem DH.par' {w : World} {D : DL} {W Lg : Int} {cls : List Int} {Rs : List Rows} {bits : List Bool} {top par : Int} {m : List (Int × Value)} (h : DH w D W Lg cls Rs bits top par m) (hb : ∀ b o c n, D.sv = .slice (some ⟨b, o, none⟩) n c → b < D.B) (t : Int) : DH (w.setCell ⟨D.mb, 11, none⟩ (.int .i64 t)) D W Lg cls Rs bits top t m := by
  obtain ⟨a1, a2, a3, a4, a5, a6⟩ := h.apart
  have hf : Fr [D.mb] w (w.setCell ⟨D.mb, 11, none⟩ (.int .i64 t)) := (Fr.refl _ w).set (by simp) _
  exact { s := h.s.set 11 (.int .i64 t), cl := slB h.cl hf (fun x hx => by obtain rfl := List.mem_singleton.1 hx; exact h.lo.1) hb, rs := h.rs.fr hf (by simpa using Ne.symm a1) (fun x hx => by obtain rfl := List.mem_singleton.1 hx; exact .inr ⟨_, _, h.s, by decide⟩), len := h.len, rm := h.rm.fr' hf (fun x hx => by obtain rfl := List.mem_singleton.1 hx; exact ⟨_, _, h.s, by decide, by decide⟩), im := h.im.fr hf (by simpa using Ne.symm a2), lo := h.lo }

/-- Something done to the first rings. -/
def stepTo (f : Rows → Rows) (Rs : List Rows) (k : Nat) : List Rows := (Rs.take k).map f ++ Rs.drop k
theorem stepTo_zero (f : Rows → Rows) (Rs : List Rows) : stepTo f Rs 0 = Rs := by simp [stepTo]
theorem stepTo_all (f : Rows → Rows) (Rs : List Rows) : stepTo f Rs Rs.length = Rs.map f := by simp [stepTo]
theorem stepTo_len (f : Rows → Rows) (Rs : List Rows) (k : Nat) : (stepTo f Rs k).length = Rs.length := by simp [stepTo]; omega
theorem stepTo_get (f : Rows → Rows) {Rs : List Rows} {k : Nat} {R : Rows} (h : Rs[k]? = some R) : (stepTo f Rs k)[k]? = some R := by
  have hl := (List.getElem?_eq_some_iff.1 h).1
  have e : ((Rs.take k).map f).length = k := by rw [List.length_map, List.length_take]; omega
  unfold stepTo
  rw [List.getElem?_append_right (by rw [e]; exact Nat.le_refl _), e, Nat.sub_self, List.getElem?_drop]
  simpa using h
theorem stepTo_set (f : Rows → Rows) {Rs : List Rows} {k : Nat} {R : Rows} (h : Rs[k]? = some R) : (stepTo f Rs k).set k (f R) = stepTo f Rs (k + 1) := by
  have hl := (List.getElem?_eq_some_iff.1 h).1
  have e : ((Rs.take k).map f).length = k := by rw [List.length_map, List.length_take]; omega
  unfold stepTo
  rw [List.set_append_right _ _ (by rw [e]; exact Nat.le_refl _), e, Nat.sub_self, List.drop_eq_getElem_cons hl, List.set_cons_zero, List.take_add_one, h]
  simp
def Rows.bgn (R : Rows) : Rows := ⟨R.W, R.B, [], []⟩
def Rows.edd (R : Rows) : Rows := ⟨R.W ++ R.F, [], [], R.B⟩

set_option maxRecDepth 100000 in
set_option maxHeartbeats 3200000 in
/-- Shade, of one that is marked. -/
theorem dShadeNo (D : DL) (W Lg : Int) (cls : List Int) (Rs : List Rows) (bits : List Bool) (top par : Int) (m : List (Int × Value)) (p k a mk : Int) (n g : Nat) (w : World) (h : DH w D W Lg cls Rs bits top par m) (hg : mget m p = some (obV k n a mk g n)) (hm : mk = par) :
    Calls Tryz.prog 34 #[.pointer (some ⟨D.mb, 0, none⟩), .int .i64 p] w fun e w' => e = .returned (.bool false) ∧ Fr [] w w' := by
  have q7 := h.reads.2.2.2.1
  have hlk := run_lookup_im (P := Tryz.prog) h.im Tryz.underlying58 Tryz.underlying3 (obZero w) p false
  rw [hg] at hlk
  simp only [Option.getD_some, obV, if_neg (show ¬ false = true by decide)] at hlk
  have B1 := Blk.new w [.int .i64 k, .int .i64 n, .int .i64 a, .int .i64 mk, .slice (some ⟨g, 0, none⟩) n n] 95
  have hF0 : Fr [] w (w.alloc (.cells #[.int .i64 k, .int .i64 n, .int .i64 a, .int .i64 mk, .slice (some ⟨g, 0, none⟩) n n] 95)) := (Fr.refl _ w).alloc _
  obtain ⟨wa, hwa⟩ : ∃ wa, wa = w.alloc (.cells #[.int .i64 k, .int .i64 n, .int .i64 a, .int .i64 mk, .slice (some ⟨g, 0, none⟩) n n] 95) := ⟨_, rfl⟩
  have HWA := hid hwa
  rw [← hwa] at B1 hF0
  have ha := h.step hF0
  have q11 := ha.reads.2.2.2.2.2.2.2
  have b3 := B1.cell (i := 3) rfl
  have HB1 := hid B1
  have HF0 := hid hF0
  have HA := hid ha
  have HH := hid h
  have hbe : (mk == par) = true := by simpa using hm
  clear h hg B1 hF0 ha hwa hm
  go_enter Tryz.func34, Tryz.ntmps34
  go_upto_region 2 with fail
  rw [← HWA.out]
  clear q7 hlk
  go_quiet (fail)
  go_wp2_with fail
  go_ret
  exact ⟨rfl, HF0.out.drewN _⟩

set_option maxRecDepth 100000 in
set_option maxHeartbeats 6400000 in
/-- Shade, of one that isn't marked. -/
theorem dShade (D : DL) (W Lg : Int) (cls : List Int) (Rs : List Rows) (bits : List Bool) (top par : Int) (m : List (Int × Value)) (p k a mk : Int) (n g j : Nat) (R : Rows) (F1 F2 : List Int) (w : World) (h : DH w D W Lg cls Rs bits top par m) (hg : mget m p = some (obV k n a mk g n)) (hm : mk ≠ par) (hcl : cls.length ≤ 100) (hj : clsIx cls n = j) (hR : Rs[j]? = some R) (hF : R.F = F1 ++ p :: F2) (hpF : p ∉ F1) (hp0 : 0 ≤ p) (hl : R.F.length ≤ 65536) (hl2 : R.G.length ≤ 65536) (hb : ∀ b o c n, D.sv = .slice (some ⟨b, o, none⟩) n c → b < D.B) :
    Calls Tryz.prog 34 #[.pointer (some ⟨D.mb, 0, none⟩), .int .i64 p] w fun e w' => e = .returned (.bool true) ∧ DH w' D W Lg cls (Rs.set j { R with F := F1 ++ F2, G := R.G ++ [p] }) bits top par (mput m p (obV k n a par g n)) ∧ FrH D.B D.mp w w' := by
  have q7 := h.reads.2.2.2.1
  have hlk := run_lookup_im (P := Tryz.prog) h.im Tryz.underlying58 Tryz.underlying3 (obZero w) p false
  rw [hg] at hlk
  simp only [Option.getD_some, obV, if_neg (show ¬ false = true by decide)] at hlk
  have B1 := Blk.new w [.int .i64 k, .int .i64 n, .int .i64 a, .int .i64 mk, .slice (some ⟨g, 0, none⟩) n n] 95
  have hF0 : Fr [] w (w.alloc (.cells #[.int .i64 k, .int .i64 n, .int .i64 a, .int .i64 mk, .slice (some ⟨g, 0, none⟩) n n] 95)) := (Fr.refl _ w).alloc _
  obtain ⟨wa, hwa⟩ : ∃ wa, wa = w.alloc (.cells #[.int .i64 k, .int .i64 n, .int .i64 a, .int .i64 mk, .slice (some ⟨g, 0, none⟩) n n] 95) := ⟨_, rfl⟩
  have HWA := hid hwa
  rw [← hwa] at B1 hF0
  have ha := h.step hF0
  have q11 := ha.reads.2.2.2.2.2.2.2
  have b3 := B1.cell (i := 3) rfl
  have HB1 := hid B1
  have HF0 := hid hF0
  have HA := hid ha
  have HH := hid h
  have hbe : (mk == par) = false := by simpa using hm
  have hnm : w.heap.size ≠ D.mp := by have := h.im.lt; omega
  have hl1 := B1.lt
  have HSV := hid hb
  have HJ := hid hj
  have HR := hid hR
  have HRF := hid hF
  have HPF := hid hpF
  clear h hg B1 hF0 ha hwa hm hb hj hR hF hpF
  go_enter Tryz.func34, Tryz.ntmps34
  go_upto_region 2 with fail
  rw [← HWA.out]
  clear q7 hlk
  go_quiet (fail)
  obtain ⟨wb, hwb⟩ : ∃ wb, wb = wa.drewN nq := ⟨_, rfl⟩
  have hFb : Fr [] wa wb := by rw [hwb]; exact (Fr.refl [] wa).drewN nq
  rw [← hwb]
  clear hwb b3 q11
  have hBb := HB1.out.fr hFb (by simp)
  have q11 := (HA.out.step hFb).reads.2.2.2.2.2.2.2
  have b3 := hBb.cell (i := 3) rfl
  have f3 := hBb.frozen 3
  have hB2 := hBb.set 3 (.int .i64 par)
  simp only [List.set_cons_zero, List.set_cons_succ] at hB2
  obtain ⟨w2, hw2⟩ : ∃ w2, w2 = wb.setCell ⟨w.heap.size, 3, none⟩ (.int .i64 par) := ⟨_, rfl⟩
  have hF2 : Fr [] w w2 := by rw [hw2]; exact (HF0.out.trans hFb).set (.inr (Nat.le_refl _)) _
  rw [← hw2] at hB2
  have HW2 := hid hw2
  have HB2 := hid hB2
  have HF2 := hid hF2
  clear hFb hBb hB2 hw2 hF2
  go_upto_region 5 with fail
  rw [← HW2.out]
  clear q11 b3 f3
  have hI := (HH.out.im.fr HF2.out (by simp)).drew
  obtain ⟨w4, hrun, hI4, hF4⟩ := run_mapUpdate_im (P := Tryz.prog) hI Tryz.underlying58 Tryz.underlying3 p (obV k n a par g n)
  unfold obV at hrun
  have h2 := HH.out.step HF2.out
  have q7 := (h2.step ((Fr.refl [] w2).drew)).reads.2.2.2.1
  have hB5 := HB2.out.fr ((Fr.refl [] w2).drew) (by simp)
  have d0 := hB5.cell (i := 0) rfl
  have d1 := hB5.cell (i := 1) rfl
  have d2 := hB5.cell (i := 2) rfl
  have d3 := hB5.cell (i := 3) rfl
  have d4 := hB5.cell (i := 4) rfl
  have hB6 := hB5.fr hF4 (by simpa using hnm)
  have h4 := (h2.step ((Fr.refl [] w2).drew)).map hF4 HSV.out hI4
  have hFr4 : FrD D.B D.mp D.rsb w w4 := (FrD.of (HF2.out.trans ((Fr.refl [] w2).drew))).trans (FrD.map HH.out.lo.2.2 HH.out.apart.2.2.1 hF4)
  have HI4 := hid hI4
  have HF4 := hid hF4
  have HB6 := hid hB6
  have H4 := hid h4
  have HFR4 := hid hFr4
  clear hI hI4 hF4 h2 hB5 hB6 h4 hFr4
  go_region
  all_goals
    clear q7 d0 d1 d2 d3 d4 hrun
    have s1 := HB6.out.cell (i := 1) rfl
    have q8 := H4.out.reads.2.2.2.2.1
    obtain ⟨N, hN⟩ : ∃ N, N = cls.length := ⟨_, rfl⟩
    have hjl : j < N + 1 := by have := (List.getElem?_eq_some_iff.1 HR.out).1; rw [H4.out.len] at this; omega
    rw [← hN] at q8
    have hi1 : (0 : Int) ≤ (j : Int) := by omega
    have hi2 : (j : Int) < (N : Int) + 1 := by omega
    have hp := fun (n' : Nat) => mClass' D.mb cls n (w4.drewN n') (H4.out.step ((Fr.refl [] w4).drewN n')).mcls hcl
    rw [HJ.out] at hp
    have HP := hid hp
    clear hN hp
    go_upto_region 6 with fail
    go_quiet ((go_at_call 67; exact Calls.quiet_of_same (HP.out _)))
    obtain ⟨w5, hw5⟩ : ∃ w5, w5 = w4.drewN nq := ⟨_, rfl⟩
    have hF5 : Fr [] w4 w5 := by rw [hw5]; exact (Fr.refl [] w4).drewN nq
    rw [← hw5]
    clear hw5 s1 q8
    have h5 := H4.out.step hF5
    obtain ⟨⟨v0, v1, v2, v3⟩, hd, hc, hz, hlt, -⟩ := h5.rs.at HR.out
    have r1 : w5.cell? ⟨D.rsb, j * 5 + 1, none⟩ = some v1 := by have := hc 1 v1 rfl; rw [Nat.mul_comm]; simpa using this
    obtain ⟨A1, c1, e1⟩ := hd.fr0.form
    simp only at e1
    have hf0 := hd.fr0
    simp only [e1] at hf0
    rw [e1] at r1
    have hS := hf0.src
    have hix : idxI R.F p = (F1.length : Int) := idxI_yes (by rw [HRF.out]; simp) (by rw [HRF.out]; simpa using HPF.out)
    have HS := hid hS
    have HIX := hid hix
    have H5 := hid h5
    have HF5 := hid hF5
    clear hd hc hz e1 hf0 hS hix h5 hF5
    go_wp2_with fail
    refine (dIndex A1 c1 R.F p w5 HS.out (by omega)).mono ?_
    rintro e w6 ⟨rfl, hw6⟩
    subst hw6
    rw [HIX.out]
    go_wp2_with fail
    refine (dDoGrey D.B D.rsb W Rs _ (j * 5) 2 (F1.length : Int) 0 0 false (.inl rfl) w5 H5.out.rs (fun w1 hD1 => dGreyShade D.B D.rsb W Rs j (j * 5) (Nat.mul_comm j 5) R F1 F2 p w1 hD1 HR.out HRF.out HPF.out hp0 hl hl2)).mono ?_
    rintro e w7 ⟨rfl, hD7, hF7⟩
    have HD7 := hid hD7
    have HF7 := hid hF7
    clear hD7 hF7 r1
    unfold told5
    go_wp2_with fail
    go_ret
    exact ⟨rfl, H5.out.ring HF7.out HSV.out HD7.out (by simp), (((HFR4.out).trans (FrD.of HF5.out)).trans (FrD.rsb H5.out HF7.out)).h⟩

set_option maxRecDepth 100000 in
set_option maxHeartbeats 6400000 in
/-- Next. -/
theorem dNext (D : DL) (W Lg : Int) (cls : List Int) (Rs : List Rows) (bits : List Bool) (top par : Int) (m : List (Int × Value)) (w : World) (h : DH w D W Lg cls Rs bits top par m) (hb : ∀ b o c n, D.sv = .slice (some ⟨b, o, none⟩) n c → b < D.B) (hcl : cls.length ≤ 100) (hsm : ∀ R ∈ Rs, R.G.length ≤ 65536) (c : Int) (is : Bool)
    (hres : (is = false ∧ c = 0 ∧ ∀ R ∈ Rs, R.G = []) ∨ (is = true ∧ ∃ (i0 : Nat) (R : Rows) (g : List Int), Rs[i0]? = some R ∧ R.G = g ++ [c] ∧ ∀ (i : Nat) (R' : Rows), i < i0 → Rs[i]? = some R' → R'.G = [])) :
    Calls Tryz.prog 35 #[.pointer (some ⟨D.mb, 0, none⟩)] w fun e w' => e = .returned (.tuple #[.int .i64 c, .bool is]) ∧ DH w' D W Lg cls Rs bits top par m ∧ FrH D.B D.mp w w' := by
  have HH := hid h
  have HSV := hid hb
  have HSM := hid hsm
  have HRES := hid hres
  have hlen := h.len
  obtain ⟨N, hN⟩ : ∃ N, N = cls.length := ⟨_, rfl⟩
  have HN := hid hN
  rw [← hN] at hcl
  have HLEN := hid hlen
  clear h hb hsm hres hN hlen
  go_enter Tryz.func35, Tryz.ntmps35
  go_wp2_with fail
  go_loopw [4] (fun iv wr => ∃ k : Nat, k ≤ N + 1 ∧ iv = .int .i64 k ∧ Hid (∀ (i : Nat) (R' : Rows), i < k → Rs[i]? = some R' → R'.G = []) ∧ DH wr D W Lg cls Rs bits top par m ∧ FrH D.B D.mp w wr) (fun iv _ => N + 1 - (intOf iv).toNat)
  case atStart => exact ⟨0, Nat.zero_le _, rfl, fun i R' hi => by omega, HH.out, FrH.of (Fr.refl _ _)⟩
  case round =>
    obtain ⟨k, hk, rfl, hbef, hD, hF⟩ := hrel
    have q8 := hD.reads.2.2.2.2.1
    rw [← HN.out] at q8
    have HB := hid hbef
    have HDR := hid hD
    have HF := hid hF
    clear hbef hD hF
    by_cases hlt : (k : Int) < (N : Int) + 1
    · obtain ⟨R, hR⟩ : ∃ R, Rs[k]? = some R := ⟨_, List.getElem?_eq_getElem (by have := HLEN.out; have := HN.out; omega)⟩
      have i1 : (0 : Int) ≤ (k : Int) := by omega
      rcases List.eq_nil_or_concat R.G with hG | ⟨g, x, hG⟩
      · have hp := dDoGrey D.B D.rsb W Rs Rs (k * 5) 3 0 0 0 false (.inr (.inl rfl)) wr HDR.out.rs (fun w1 hD1 => dGreyNone D.B D.rsb W Rs k (k * 5) (Nat.mul_comm k 5) R 0 w1 hD1 hR hG)
        have HP := hid hp
        have HR := hid hR
        have HG := hid hG
        clear hp hR hG
        go_wp2_with fail
        refine HP.out.mono ?_
        rintro e w2 ⟨rfl, hD2, hF2⟩
        have h2 := HDR.out.ringF hF2.1 HSV.out hD2 rfl
        have H2 := hid h2
        have HF2 := hid (HF.out.trans (FrH.rsb HDR.out hF2.1))
        clear hD2 hF2 h2 q8
        unfold told5
        go_wp2_with fail
        go_roundw
        case rel =>
          refine ⟨k + 1, by omega, by go_num, fun i R' hi hR' => ?_, H2.out.step ((Fr.refl _ w2).alloc _), HF2.out.trans (FrH.of ((Fr.refl _ w2).alloc _))⟩
          by_cases e : i = k
          · subst e
            rw [HR.out] at hR'
            cases hR'
            exact HG.out
          · exact HB.out i R' (by omega) hR'
        case measure => simp [intOf]; omega
      · rw [List.concat_eq_append] at hG
        have hp := dDoGrey D.B D.rsb W Rs Rs (k * 5) 3 0 x 0 true (.inr (.inl rfl)) wr HDR.out.rs (fun w1 hD1 => dGreyNext D.B D.rsb W Rs k (k * 5) (Nat.mul_comm k 5) R 0 g x w1 hD1 hR hG (HSM.out R (List.mem_of_getElem? hR)))
        obtain ⟨rfl, rfl⟩ : is = true ∧ c = x := by
          rcases HRES.out with ⟨_, _, h1⟩ | ⟨h1, i0, R0, g0, h2, h3, h4⟩
          · have := h1 R (List.mem_of_getElem? hR)
            rw [hG] at this; simp at this
          · refine ⟨h1, ?_⟩
            have hik : i0 = k := by
              rcases Nat.lt_trichotomy i0 k with h5 | h5 | h5
              · have := HB.out i0 R0 h5 h2
                rw [h3] at this; simp at this
              · exact h5
              · have := h4 k R h5 hR
                rw [hG] at this; simp at this
            subst hik
            rw [hR] at h2
            cases h2
            rw [hG] at h3
            have := List.append_inj' h3 rfl
            simpa using this.2.symm
        have HP := hid hp
        clear hp hR hG
        go_wp2_with fail
        refine HP.out.mono ?_
        rintro e w2 ⟨rfl, hD2, hF2⟩
        have h2 := HDR.out.ringF hF2.1 HSV.out hD2 rfl
        have H2 := hid h2
        have HF2 := hid (HF.out.trans (FrH.rsb HDR.out hF2.1))
        clear hD2 hF2 h2 q8
        unfold told5
        go_wp2_with fail
        refine bodyPost_ret (v := .tuple #[.int .i64 c, .bool true]) (by simp [results, Tryz.results35, go_sem]) rfl ⟨rfl, H2.out.step ((Fr.refl _ w2).alloc _), HF2.out.trans (FrH.of ((Fr.refl _ w2).alloc _))⟩
    · obtain rfl : k = N + 1 := by omega
      obtain ⟨rfl, rfl⟩ : is = false ∧ c = 0 := by
        rcases HRES.out with ⟨h1, h2, _⟩ | ⟨_, i0, R0, g0, h2, h3, h4⟩
        · exact ⟨h1, h2⟩
        · have hi := (List.getElem?_eq_some_iff.1 h2).1
          have := HB.out i0 R0 (by have := HLEN.out; have := HN.out; omega) h2
          rw [h3] at this; simp at this
      go_wp2_with fail
      refine bodyPost_ret (v := .tuple #[.int .i64 0, .bool false]) (by simp [results, Tryz.results35, go_sem]) rfl ⟨rfl, HDR.out, HF.out⟩

set_option maxRecDepth 100000 in
set_option maxHeartbeats 6400000 in
theorem dBeginNo (D : DL) (W Lg : Int) (cls : List Int) (Rs : List Rows) (bits : List Bool) (top par : Int) (m : List (Int × Value)) (w : World) (h : DH w D W Lg cls Rs bits top par m) (hsm : ∀ R ∈ Rs, R.G.length ≤ 65536 ∧ R.F.length ≤ 65536) (hcl : cls.length ≤ 100) (hno : ¬ ∀ R ∈ Rs, R.F = [] ∧ R.G = []) :
    Calls Tryz.prog 37 #[.pointer (some ⟨D.mb, 0, none⟩)] w fun e w' => e = .returned (.int .i64 18) ∧ Fr [] w w' := by
  have HH := hid h
  have HSM := hid hsm
  have HNO := hid hno
  have hlen := h.len
  obtain ⟨N, hN⟩ : ∃ N, N = cls.length := ⟨_, rfl⟩
  have HN := hid hN
  rw [← hN] at hcl
  have HLEN := hid hlen
  clear h hsm hno hN hlen
  go_enter Tryz.func37, Tryz.ntmps37
  go_wp2_with fail
  go_loopw [3] (fun iv wr => ∃ k : Nat, k ≤ N + 1 ∧ iv = .int .i64 k ∧ Hid (∀ (i : Nat) (R' : Rows), i < k → Rs[i]? = some R' → R'.F = [] ∧ R'.G = []) ∧ Fr [] w wr) (fun iv _ => N + 1 - (intOf iv).toNat)
  case atStart => exact ⟨0, Nat.zero_le _, rfl, fun i R' hi => by omega, Fr.refl _ _⟩
  case round =>
    obtain ⟨k, hk, rfl, hbef, hF⟩ := hrel
    have hD := HH.out.step hF
    have q8 := hD.reads.2.2.2.2.1
    rw [← HN.out] at q8
    have HB := hid hbef
    by_cases hlt : (k : Int) < (N : Int) + 1
    · obtain ⟨R, hR⟩ : ∃ R, Rs[k]? = some R := ⟨_, List.getElem?_eq_getElem (by have := HLEN.out; have := HN.out; omega)⟩
      have i1 : (0 : Int) ≤ (k : Int) := by omega
      obtain ⟨⟨v0, v1, v2, v3⟩, hd, hc, hz, hlt', -⟩ := hD.rs.at hR
      have r1 : wr.cell? ⟨D.rsb, k * 5 + 1, none⟩ = some v1 := by have := hc 1 v1 rfl; rw [Nat.mul_comm]; simpa using this
      have r2 : wr.cell? ⟨D.rsb, k * 5 + 2, none⟩ = some v2 := by have := hc 2 v2 rfl; rw [Nat.mul_comm]; simpa using this
      obtain ⟨A1, c1, e1⟩ := hd.fr0.form
      obtain ⟨A2, c2, e2⟩ := hd.gr.form
      simp only at e1 e2
      rw [e1] at r1
      rw [e2] at r2
      have hs := HSM.out R (List.mem_of_getElem? hR)
      have hw : IntKind.i64.wrap ((R.F.length : Int) + R.G.length) = (R.F.length : Int) + R.G.length := by rw [IntKind.wrap_i64]; omega
      have HR := hid hR
      have HF := hid hF
      clear hbef hD hF hd hc hz e1 e2 hR
      by_cases h0 : (0 : Int) < (R.F.length : Int) + R.G.length
      · go_wp2_with fail
        go_quiet (fail)
        go_wp2_with fail
        go_ret
        exact ⟨rfl, HF.out.drewN _⟩
      · have HZ := hid (show R.F.length = 0 ∧ R.G.length = 0 by omega)
        go_wp2_with fail
        go_quiet (fail)
        go_wp2_with fail
        go_roundw
        case rel =>
          refine ⟨k + 1, by omega, by go_num, fun i R' hi hR' => ?_, HF.out.drewN _⟩
          by_cases e : i = k
          · subst e
            rw [HR.out] at hR'
            cases hR'
            exact ⟨List.length_eq_zero_iff.1 HZ.out.1, List.length_eq_zero_iff.1 HZ.out.2⟩
          · exact HB.out i R' (by omega) hR'
        case measure => simp [intOf]; omega
    · exfalso
      refine HNO.out (fun R hR => ?_)
      obtain ⟨i, hi⟩ := List.mem_iff_getElem?.1 hR
      have := (List.getElem?_eq_some_iff.1 hi).1
      exact HB.out i R (by have := HLEN.out; have := HN.out; omega) hi

set_option maxRecDepth 100000 in
set_option maxHeartbeats 6400000 in
theorem dBegin (D : DL) (W Lg : Int) (cls : List Int) (Rs : List Rows) (bits : List Bool) (top par : Int) (m : List (Int × Value)) (w : World) (h : DH w D W Lg cls Rs bits top par m) (hb : ∀ b o c n, D.sv = .slice (some ⟨b, o, none⟩) n c → b < D.B) (hcl : cls.length ≤ 100) (hpar : par = 0 ∨ par = 1) (hno : ∀ R ∈ Rs, R.F = [] ∧ R.G = []) :
    Calls Tryz.prog 37 #[.pointer (some ⟨D.mb, 0, none⟩)] w fun e w' => e = .returned (.int .i64 0) ∧ DH w' D W Lg cls (Rs.map Rows.bgn) bits top (1 - par) m ∧ FrH D.B D.mp w w' := by
  have HH := hid h
  have HSV := hid hb
  have HNO := hid hno
  have hlen := h.len
  obtain ⟨N, hN⟩ : ∃ N, N = cls.length := ⟨_, rfl⟩
  have HN := hid hN
  rw [← hN] at hcl
  have HLEN := hid hlen
  clear h hb hno hN hlen
  go_enter Tryz.func37, Tryz.ntmps37
  go_wp2_with fail
  go_loopw [3] (fun iv wr => ∃ k : Nat, k ≤ N + 1 ∧ iv = .int .i64 k ∧ Fr [] w wr) (fun iv _ => N + 1 - (intOf iv).toNat)
  case atStart => exact ⟨0, Nat.zero_le _, rfl, Fr.refl _ _⟩
  case round =>
    obtain ⟨k, hk, rfl, hF⟩ := hrel
    have hD := HH.out.step hF
    have q8 := hD.reads.2.2.2.2.1
    rw [← HN.out] at q8
    by_cases hlt : (k : Int) < (N : Int) + 1
    · obtain ⟨R, hR⟩ : ∃ R, Rs[k]? = some R := ⟨_, List.getElem?_eq_getElem (by have := HLEN.out; have := HN.out; omega)⟩
      have i1 : (0 : Int) ≤ (k : Int) := by omega
      obtain ⟨⟨v0, v1, v2, v3⟩, hd, hc, hz, hlt', -⟩ := hD.rs.at hR
      have r1 : wr.cell? ⟨D.rsb, k * 5 + 1, none⟩ = some v1 := by have := hc 1 v1 rfl; rw [Nat.mul_comm]; simpa using this
      have r2 : wr.cell? ⟨D.rsb, k * 5 + 2, none⟩ = some v2 := by have := hc 2 v2 rfl; rw [Nat.mul_comm]; simpa using this
      obtain ⟨A1, c1, e1⟩ := hd.fr0.form
      obtain ⟨A2, c2, e2⟩ := hd.gr.form
      obtain ⟨n1, n2⟩ := HNO.out R (List.mem_of_getElem? hR)
      simp only at e1 e2
      rw [e1, n1, List.length_nil] at r1
      rw [e2, n2, List.length_nil] at r2
      have HF := hid hF
      clear hD hF hd hc hz e1 e2 hR n1 n2
      go_wp2_with fail
      go_quiet (fail)
      go_wp2_with fail
      go_roundw
      case rel => exact ⟨k + 1, by omega, by go_num, HF.out.drewN _⟩
      case measure => simp [intOf]; omega
    · obtain ⟨wk, hwk⟩ : ∃ wk, wk = wr := ⟨_, rfl⟩
      have HF := hid hF
      have HD := hid hD
      rw [← hwk] at HF HD q8 ⊢
      clear hwk hF hD
      go_wp2_with fail
      go_loopw [4] (fun iv wr => ∃ k : Nat, k ≤ N + 1 ∧ iv = .int .i64 k ∧ DH wr D W Lg cls (stepTo Rows.bgn Rs k) bits top par m ∧ FrH D.B D.mp w wr) (fun iv _ => N + 1 - (intOf iv).toNat)
      case atStart => exact ⟨0, Nat.zero_le _, rfl, by rw [stepTo_zero]; exact HD.out, FrH.of HF.out⟩
      case round =>
        obtain ⟨k, hk, rfl, hD, hF⟩ := hrel
        have q8 := hD.reads.2.2.2.2.1
        have q11 := hD.reads.2.2.2.2.2.2.2
        rw [← HN.out] at q8
        have HDR := hid hD
        have HFR := hid hF
        have z11 := hD.s.frozen 11
        clear hD hF
        by_cases hlt : (k : Int) < (N : Int) + 1
        · obtain ⟨R, hR⟩ : ∃ R, Rs[k]? = some R := ⟨_, List.getElem?_eq_getElem (by have := HLEN.out; have := HN.out; omega)⟩
          have i1 : (0 : Int) ≤ (k : Int) := by omega
          obtain ⟨n1, n2⟩ := HNO.out R (List.mem_of_getElem? hR)
          have hp := dDoBegin D.B D.rsb W (stepTo Rows.bgn Rs k) k (k * 5) (Nat.mul_comm k 5) R 0 wr HDR.out.rs (stepTo_get _ hR) n1 n2
          have hst : (stepTo Rows.bgn Rs k).set k { R with F := R.B, B := [] } = stepTo Rows.bgn Rs (k + 1) := by
            have e : ({ R with F := R.B, B := [] } : Rows) = Rows.bgn R := by unfold Rows.bgn; rw [n2]
            rw [e, stepTo_set Rows.bgn hR]
          rw [hst] at hp
          have HP := hid hp
          clear hp hR hst n1 n2
          go_wp2_with fail
          refine HP.out.mono ?_
          rintro e w2 ⟨rfl, hD2, hF2⟩
          have h2 := HDR.out.ringF hF2 HSV.out hD2 (by rw [stepTo_len, stepTo_len])
          have H2 := hid h2
          have HF2 := hid (HFR.out.trans (FrH.rsb HDR.out hF2))
          clear hD2 hF2 h2 q8 q11 z11
          unfold told5
          go_wp2_with fail
          go_roundw
          case rel => exact ⟨k + 1, by omega, by go_num, H2.out, HF2.out⟩
          case measure => simp [intOf]; omega
        · obtain rfl : k = N + 1 := by omega
          have hw1 : IntKind.i64.wrap (1 - par) = 1 - par := by rw [IntKind.wrap_i64]; omega
          go_wp2_with fail
          go_ret
          have hall : stepTo Rows.bgn Rs (N + 1) = Rs.map Rows.bgn := by
            have := HLEN.out
            rw [← HN.out] at this
            rw [← this, stepTo_all]
          have h3 := HDR.out.par' HSV.out (1 - par)
          rw [hall] at h3
          exact ⟨rfl, h3, HFR.out.trans (FrH.mb HDR.out ((Fr.refl [D.mb] _).set (by simp) _))⟩

end Go.Proofs.YtifillpcphiblaaGreat
