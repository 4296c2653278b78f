
import Derived.Test.YtklnpooninbogaaGreatMDJoin
import Derived.Test.YtklnpooninbogaaGreatHSweep
import Derived.Test.YtklnpooninbogaaGreatMMXDel
namespace Go.Proofs.YtklnpooninbogaaGreat
open Go Go.Proofs Go.RowKit
structure PI (s : HS) (A : Rg) (z : Int → Int) (obs : List Ob) : Prop where
  hi : HI s A z
  par : s.parity = 0 ∨ s.parity = 1
  inn : ∀ o ∈ obs, o.In s A z
  one : ∀ o ∈ obs, ∀ o' ∈ obs, o.p = o'.p → o = o'
  colF : ∀ o ∈ obs, o.p ∈ (A o.q).F → o.m ≠ s.parity
  colG : ∀ o ∈ obs, o.p ∈ (A o.q).G ∨ o.p ∈ (A o.q).B → o.m = s.parity
  colW : ∀ o ∈ obs, o.p ∈ (A o.q).W → o.q = none
  all : ∀ q p, (p ∈ (A q).F ∨ p ∈ (A q).G ∨ p ∈ (A q).B ∨ (q = none ∧ p ∈ (A q).W)) → ∃ o ∈ obs, o.q = q ∧ o.p = p
  xok : XOk s
theorem PI.new {W Lg : Nat} {cls : List Int} (hR : RightC W Lg cls) (hx : XOk (HS.new W Lg cls)) : PI (HS.new W Lg cls) (fun _ => ⟨[], [], [], []⟩) (fun _ => 0) [] :=
  ⟨HI.new hR, .inl rfl, by simp, by simp, by simp, by simp, by simp, by simp, hx⟩
theorem HI.allNd {s : HS} {A : Rg} {z : Int → Int} (hi : HI s A z) (q : Option Nat) : (A q).all.Nodup := by
  cases q with
  | none => exact hi.lring.cells.nodup
  | some k =>
    rcases Nat.lt_or_ge k s.rs.length with hk | hk
    · exact (hi.ring k _ (List.getElem?_eq_getElem hk)).cells.nodup
    · rw [hi.out k hk]; exact List.nodup_nil
theorem rowsNd {R : Rows} (h : R.all.Nodup) : (R.W.Nodup ∧ R.F.Nodup ∧ R.G.Nodup ∧ R.B.Nodup) ∧ (∀ x ∈ R.W, x ∉ R.F ∧ x ∉ R.G ∧ x ∉ R.B) ∧ (∀ x ∈ R.F, x ∉ R.G ∧ x ∉ R.B) ∧ (∀ x ∈ R.G, x ∉ R.B) := by
  unfold Rows.all at h
  simp only [List.nodup_append, List.mem_append] at h
  obtain ⟨a1, ⟨a2, ⟨a4, a6, a7⟩, a5⟩, a3⟩ := h
  exact ⟨⟨a1, a2, a4, a6⟩, fun x hx => ⟨fun h => a3 x hx x (.inl h) rfl, fun h => a3 x hx x (.inr (.inl h)) rfl, fun h => a3 x hx x (.inr (.inr h)) rfl⟩, fun x hx => ⟨fun h => a5 x hx x (.inl h) rfl, fun h => a5 x hx x (.inr h) rfl⟩, fun x hx h => a7 x hx x h rfl⟩
theorem mem_rows {R : Rows} {x : Int} : x ∈ R.all ↔ x ∈ R.W ∨ x ∈ R.F ∨ x ∈ R.G ∨ x ∈ R.B := by simp [Rows.all]
def updO (obs : List Ob) (p : Int) (f : Ob → Ob) : List Ob := obs.map fun o => if o.p = p then f o else o
theorem mem_updO {obs : List Ob} {p : Int} {f : Ob → Ob} {o' : Ob} : o' ∈ updO obs p f ↔ ∃ o ∈ obs, o' = if o.p = p then f o else o := by
  unfold updO
  rw [List.mem_map]
  constructor
  · rintro ⟨o, h1, h2⟩; exact ⟨o, h1, h2.symm⟩
  · rintro ⟨o, h1, h2⟩; exact ⟨o, h1, h2.symm⟩
theorem PI.upd {s : HS} {A : Rg} {z : Int → Int} {obs : List Ob} (h : PI s A z obs) {o : Ob} (ho : o ∈ obs) {f : Ob → Ob} {T : Ob → Prop} (hself : T (f o)) (hother : ∀ o' ∈ obs, o'.p ≠ o.p → T o') : ∀ o' ∈ updO obs o.p f, T o' := by
  intro o' ho'
  obtain ⟨o1, h1, rfl⟩ := mem_updO.1 ho'
  by_cases e : o1.p = o.p
  · have := h.one o1 h1 o ho e
    subst this
    rw [if_pos rfl]; exact hself
  · rw [if_neg e]; exact hother o1 h1 e
theorem PI.updOne {s : HS} {A : Rg} {z : Int → Int} {obs : List Ob} (h : PI s A z obs) {o : Ob} (ho : o ∈ obs) {f : Ob → Ob} (hp : (f o).p = o.p) : ∀ o1 ∈ updO obs o.p f, ∀ o2 ∈ updO obs o.p f, o1.p = o2.p → o1 = o2 := by
  intro o1 h1 o2 h2 e
  obtain ⟨a, ha, rfl⟩ := mem_updO.1 h1
  obtain ⟨b, hb, rfl⟩ := mem_updO.1 h2
  by_cases ea : a.p = o.p <;> by_cases eb : b.p = o.p
  · have := h.one a ha b hb (ea.trans eb.symm)
    rw [this]
  · exfalso
    rw [if_pos ea, if_neg eb] at e
    have h3 := h.one a ha o ho ea
    subst h3
    rw [hp] at e
    exact eb e.symm
  · exfalso
    rw [if_neg ea, if_pos eb] at e
    have h3 := h.one b hb o ho eb
    subst h3
    rw [hp] at e
    exact ea e
  · rw [if_neg ea, if_neg eb] at e ⊢
    exact h.one a ha b hb e
theorem PI.updAll {s : HS} {A : Rg} {z : Int → Int} {obs : List Ob} (h : PI s A z obs) {o : Ob} (ho : o ∈ obs) {f : Ob → Ob} (hq : (f o).q = o.q) (hp : (f o).p = o.p) {q : Option Nat} {p : Int} (hx : ∃ o1 ∈ obs, o1.q = q ∧ o1.p = p) : ∃ o1 ∈ updO obs o.p f, o1.q = q ∧ o1.p = p := by
  obtain ⟨o1, h1, h2, h3⟩ := hx
  refine ⟨if o1.p = o.p then f o1 else o1, mem_updO.2 ⟨o1, h1, rfl⟩, ?_⟩
  by_cases e : o1.p = o.p
  · have := h.one o1 h1 o ho e
    subst this
    rw [if_pos rfl]; exact ⟨hq.trans h2, hp.trans h3⟩
  · rw [if_neg e]; exact ⟨h2, h3⟩
theorem PI.keep {s s' : HS} {A : Rg} {z : Int → Int} {obs : List Ob} (h : PI s A z obs) (hi : HI s' A z) (hw : s'.ws = s.ws) (hc : s'.cls = s.cls) (hp : s'.parity = s.parity) (hx : s'.x = s.x) (he : s'.edge = s.edge) : PI s' A z obs :=
  ⟨hi, by rw [hp]; exact h.par, fun o ho => ((h.inn o ho).rows hw hc (fun _ hx => hx)).1, h.one, fun o ho hm => by rw [hp]; exact h.colF o ho hm, fun o ho hm => by rw [hp]; exact h.colG o ho hm, h.colW, h.all, by unfold XOk; rw [hx, he, hw]; exact h.xok⟩
theorem PI.tick {s : HS} {A : Rg} {z : Int → Int} {obs : List Ob} (h : PI s A z obs) (n : Int) : PI (s.tick n) A z obs := h.keep (h.hi.tick n) rfl rfl rfl rfl rfl
theorem PI.put {s : HS} {A : Rg} {z : Int → Int} {obs : List Ob} (h : PI s A z obs) {o : Ob} (ho : o ∈ obs) {j : Nat} (hj : j < o.n) (v n : Int) :
    PI (s.put (o.p + 3 + j) v n) A z obs ∧ (∀ o' ∈ obs, o' ≠ o → ∀ i, i < o'.n → (s.put (o.p + 3 + j) v n).wd o' i = s.wd o' i) ∧ (∀ i, i < o.n → (s.put (o.p + 3 + j) v n).wd o i = if i = j then v else s.wd o i) := by
  have k := fun (o' : Ob) (ho' : o' ∈ obs) => Ob.In.put h.hi (h.inn o ho) (h.inn o' ho') hj v n
  refine ⟨⟨h.hi.putOb (h.inn o ho) hj v n, h.par, fun o' ho' => (k o' ho').1, h.one, h.colF, h.colG, h.colW, h.all, ?_⟩, fun o' ho' hne => (k o' ho').2.1 (.inr (fun e => hne (h.one o' ho' o ho e.symm))), (k o ho).2.2⟩
  have := h.xok
  unfold XOk at this ⊢
  simp only [HS.put, sw_len] at this ⊢
  exact this
theorem PI.turned {s : HS} {A : Rg} {z : Int → Int} {obs : List Ob} (h : PI s A z obs) {o : Ob} (ho : o ∈ obs) {k' a' : Int} (hd : Hd k' o.n a' o.m) (n : Int) :
    PI (s.put o.p (packed k' o.n a' o.m) n) A z (updO obs o.p fun o => { o with k := k', a := a' }) ∧ ∀ o' ∈ obs, ∀ i, i < o'.n → (s.put o.p (packed k' o.n a' o.m) n).wd o' i = s.wd o' i := by
  obtain ⟨g1, g2, g3, g4⟩ := (h.inn o ho).turned h.hi hd n
  have hoth : ∀ o' ∈ obs, o'.p ≠ o.p → o'.In (s.put o.p (packed k' o.n a' o.m) n) A z ∧ ∀ i, i < o'.n → (s.put o.p (packed k' o.n a' o.m) n).wd o' i = s.wd o' i := fun o' ho' hne => g4 o' (h.inn o' ho') (.inr (Ne.symm hne))
  refine ⟨⟨g1, h.par, h.upd ho g2 (fun o' ho' hne => (hoth o' ho' hne).1), h.updOne ho rfl, h.upd ho (h.colF o ho) (fun o' ho' _ => h.colF o' ho'), h.upd ho (h.colG o ho) (fun o' ho' _ => h.colG o' ho'), h.upd ho (h.colW o ho) (fun o' ho' _ => h.colW o' ho'), fun q p hx => h.updAll ho rfl rfl (h.all q p hx), ?_⟩, fun o' ho' i hi => ?_⟩
  · have := h.xok
    unfold XOk at this ⊢
    simp only [HS.put, sw_len] at this ⊢
    exact this
  · by_cases e : o'.p = o.p
    · obtain rfl := h.one o' ho' o ho e
      exact g3 i hi
    · exact (hoth o' ho' e).2 i hi
theorem PI.shaded {s s' : HS} {A : Rg} {z : Int → Int} {obs : List Ob} (h : PI s A z obs) {o : Ob} (ho : o ∈ obs) {F1 F2 : List Int} (hF : (A o.q).F = F1 ++ o.p :: F2) (k : Shd s s' A z o.q o.p F1 F2 (packed o.k o.n o.a s.parity)) :
    PI s' (A.up o.q ⟨(A o.q).W, F1 ++ F2, (A o.q).G ++ [o.p], (A o.q).B⟩) z (updO obs o.p fun o => { o with m := s.parity }) ∧ ∀ o' ∈ obs, ∀ i, i < o'.n → s'.wd o' i = s.wd o' i := by
  have hd : Hd o.k o.n o.a s.parity := by
    obtain ⟨d1, d2, d3, d4, d5, d6, d7, d8⟩ := (h.inn o ho).hd
    have := h.par
    exact ⟨d1, d2, by omega, by omega, d5, d6, d7, d8⟩
  obtain ⟨g1, g2⟩ := Ob.In.shaded k (h.inn o ho) hd
  have hoth := fun (o' : Ob) (ho' : o' ∈ obs) (hne : o'.p ≠ o.p) => Ob.In.shade k hF (h.inn o' ho') (.inr hne)
  have hnd := rowsNd (h.hi.allNd o.q)
  rw [hF] at hnd
  obtain ⟨⟨-, n1, -, -⟩, -, -, -⟩ := hnd
  have hpF : o.p ∉ F1 ++ F2 := by
    have := (List.perm_middle (a := o.p) (l₁ := F1) (l₂ := F2)).nodup_iff.1 n1
    exact (List.nodup_cons.1 this).1
  refine ⟨⟨k.hi, by rw [k.st.parity]; exact h.par, h.upd ho g1 (fun o' ho' hne => (hoth o' ho' hne).1), h.updOne ho rfl, h.upd ho ?_ ?_, h.upd ho ?_ ?_, h.upd ho ?_ ?_, fun q p hx => h.updAll ho rfl rfl (h.all q p ?_), ?_⟩, fun o' ho' i hi => ?_⟩
  · intro hc
    rw [Rg.up_same] at hc
    exact absurd hc hpF
  · intro o' ho' hne hc
    rw [k.st.parity]
    refine h.colF o' ho' ?_
    by_cases e : o'.q = o.q
    · rw [e, Rg.up_same] at hc
      rw [e, hF]
      simp only [List.mem_append, List.mem_cons] at hc ⊢
      rcases hc with h1 | h1 <;> simp [h1]
    · rw [Rg.up_ne A e] at hc; exact hc
  · intro _
    exact k.st.parity.symm
  · intro o' ho' hne hc
    rw [k.st.parity]
    refine h.colG o' ho' ?_
    by_cases e : o'.q = o.q
    · rw [e, Rg.up_same] at hc
      rw [e]
      simp only [List.mem_append, List.mem_singleton] at hc
      rcases hc with (h1 | h1) | h1
      · exact .inl h1
      · exact absurd h1 hne
      · exact .inr h1
    · rw [Rg.up_ne A e] at hc; exact hc
  · intro hc
    rw [Rg.up_same] at hc
    exact h.colW o ho hc
  · intro o' ho' hne hc
    refine h.colW o' ho' ?_
    by_cases e : o'.q = o.q
    · rw [e, Rg.up_same] at hc
      rw [e]; exact hc
    · rw [Rg.up_ne A e] at hc; exact hc
  · by_cases e : q = o.q
    · subst e
      rw [Rg.up_same] at hx
      rw [hF]
      simp only [List.mem_append, List.mem_cons, List.mem_nil_iff, or_false] at hx ⊢
      rcases hx with (h1 | h1) | (h1 | h1) | h1 | h1
      · exact .inl (.inl h1)
      · exact .inl (.inr (.inr h1))
      · exact .inr (.inl h1)
      · exact .inl (.inr (.inl h1))
      · exact .inr (.inr (.inl h1))
      · exact .inr (.inr (.inr h1))
    · rw [Rg.up_ne A e] at hx; exact hx
  · have := h.xok
    unfold XOk at this ⊢
    rw [k.st.x, k.st.edge, k.st.len]; exact this
  · by_cases e : o'.p = o.p
    · obtain rfl := h.one o' ho' o ho e
      exact g2 i hi
    · exact (hoth o' ho' e).2 i hi
theorem PI.done {s s' : HS} {A : Rg} {z : Int → Int} {obs : List Ob} (h : PI s A z obs) {q : Option Nat} {c : Int} {G : List Int} (hG : (A q).G = G ++ [c]) (k : Dne s s' A z q c G) :
    PI s' (A.up q ⟨(A q).W, (A q).F, G, c :: (A q).B⟩) z obs := by
  have hsub : ∀ q' x, (x ∈ ((A.up q ⟨(A q).W, (A q).F, G, c :: (A q).B⟩) q').F ↔ x ∈ (A q').F) ∧ (x ∈ ((A.up q ⟨(A q).W, (A q).F, G, c :: (A q).B⟩) q').W ↔ x ∈ (A q').W) ∧ ((x ∈ ((A.up q ⟨(A q).W, (A q).F, G, c :: (A q).B⟩) q').G ∨ x ∈ ((A.up q ⟨(A q).W, (A q).F, G, c :: (A q).B⟩) q').B) ↔ (x ∈ (A q').G ∨ x ∈ (A q').B)) := by
    intro q' x
    by_cases e : q' = q
    · subst e
      rw [Rg.up_same, hG]
      refine ⟨Iff.rfl, Iff.rfl, ?_⟩
      simp only [List.mem_append, List.mem_cons, List.mem_nil_iff, or_false]
      constructor
      · rintro (h | h | h) <;> simp [h]
      · rintro ((h | h) | h) <;> simp [h]
    · rw [Rg.up_ne A e]; exact ⟨Iff.rfl, Iff.rfl, Iff.rfl⟩
  refine ⟨k.hi, by rw [k.st.parity]; exact h.par, fun o ho => ((h.inn o ho).rows k.ws k.st.cls (fun x hx => ?_)).1, h.one, fun o ho hm => ?_, fun o ho hm => ?_, fun o ho hm => ?_, fun q' p hx => h.all q' p ?_, ?_⟩
  · rw [mem_rows] at hx ⊢
    obtain ⟨a, b, d⟩ := hsub o.q x
    rcases hx with h1 | h1 | h1
    · exact .inl (b.2 h1)
    · exact .inr (.inl (a.2 h1))
    · exact .inr (.inr (d.2 h1))
  · rw [k.st.parity]; exact h.colF o ho ((hsub _ _).1.1 hm)
  · rw [k.st.parity]; exact h.colG o ho ((hsub _ _).2.2.1 hm)
  · exact h.colW o ho ((hsub _ _).2.1.1 hm)
  · obtain ⟨a, b, d⟩ := hsub q' p
    rcases hx with h1 | h1 | h1 | h1
    · exact .inl (a.1 h1)
    · rcases d.1 (.inl h1) with h | h
      · exact .inr (.inl h)
      · exact .inr (.inr (.inl h))
    · rcases d.1 (.inr h1) with h | h
      · exact .inr (.inl h)
      · exact .inr (.inr (.inl h))
    · exact .inr (.inr (.inr ⟨h1.1, b.1 h1.2⟩))
  · have := h.xok
    unfold XOk at this ⊢
    rw [k.st.x, k.st.edge, k.st.len]; exact this
theorem PI.begun {s s' : HS} {A : Rg} {z : Int → Int} {obs : List Ob} (h : PI s A z obs) (hn : NoFG A) (hi : HI s' A.begun z) (hw : s'.ws = s.ws) (hc : s'.cls = s.cls) (he : s'.edge = s.edge) (hx : s'.x = s.x) (hp : s'.parity = 1 - s.parity) : PI s' A.begun z obs := by
  have hpar := h.par
  refine ⟨hi, by omega, fun o ho => ((h.inn o ho).rows hw hc (fun x hx => ?_)).1, h.one, fun o ho hm => ?_, fun o ho hm => ?_, h.colW, fun q' p hx => h.all q' p ?_, by unfold XOk; rw [hx, he, hw]; exact h.xok⟩
  · rw [mem_rows] at hx ⊢
    rw [(hn o.q).1, (hn o.q).2] at hx
    simp only [List.not_mem_nil, false_or] at hx
    simp only [Rg.begun]
    rcases hx with h1 | h1
    · exact .inl h1
    · exact .inr (.inl h1)
  · have := h.colG o ho (.inr hm)
    omega
  · simp [Rg.begun] at hm
  · simp only [Rg.begun, List.not_mem_nil, false_or] at hx
    rcases hx with h1 | h1
    · exact .inr (.inr (.inl h1))
    · exact .inr (.inr (.inr h1))
def endO (A : Rg) (obs : List Ob) : List Ob := obs.filter fun o => !(o.q.isSome && decide (o.p ∈ (A o.q).F))
theorem mem_endO {A : Rg} {obs : List Ob} {o : Ob} : o ∈ endO A obs ↔ o ∈ obs ∧ (o.q = none ∨ o.p ∉ (A o.q).F) := by
  unfold endO
  rw [List.mem_filter]
  cases e : o.q <;> simp
theorem PI.ended {s s' : HS} {A : Rg} {z : Int → Int} {obs : List Ob} (h : PI s A z obs) (hn : NoG A) (hi : HI s' A.ended z) (hw : s'.ws = s.ws) (hc : s'.cls = s.cls) (he : s'.edge = s.edge) (hx : s'.x = s.x) (hp : s'.parity = s.parity) : PI s' A.ended z (endO A obs) := by
  refine ⟨hi, by rw [hp]; exact h.par, fun o ho => ((h.inn o (mem_endO.1 ho).1).rows hw hc (fun x hx => ?_)).1, fun o ho o' ho' => h.one o (mem_endO.1 ho).1 o' (mem_endO.1 ho').1, fun o ho hm => ?_, fun o ho hm => ?_, fun o ho hm => ?_, fun q' p hx => ?_, by unfold XOk; rw [hx, he, hw]; exact h.xok⟩
  · rw [mem_rows] at hx ⊢
    rw [hn o.q] at hx
    simp only [List.not_mem_nil, false_or] at hx
    simp only [Rg.ended, List.mem_append]
    rcases hx with h1 | h1 | h1
    · exact .inl (.inl h1)
    · exact .inl (.inr h1)
    · exact .inr (.inr (.inr h1))
  · simp [Rg.ended] at hm
  · rw [hp]
    simp only [Rg.ended, List.not_mem_nil, false_or] at hm
    exact h.colG o (mem_endO.1 ho).1 (.inr hm)
  · simp only [Rg.ended, List.mem_append] at hm
    rcases hm with h1 | h1
    · exact h.colW o (mem_endO.1 ho).1 h1
    · rcases (mem_endO.1 ho).2 with h2 | h2
      · exact h2
      · exact absurd h1 h2
  · simp only [Rg.ended, List.not_mem_nil, false_or, List.mem_append] at hx
    rcases hx with h1 | ⟨rfl, h1 | h1⟩
    · obtain ⟨o, g1, g2, g3⟩ := h.all q' p (.inr (.inr (.inl h1)))
      refine ⟨o, mem_endO.2 ⟨g1, .inr (fun hc => ?_)⟩, g2, g3⟩
      rw [g2, g3] at hc
      exact ((rowsNd (h.hi.allNd q')).2.2.1 p hc).2 h1
    · obtain ⟨o, g1, g2, g3⟩ := h.all none p (.inr (.inr (.inr ⟨rfl, h1⟩)))
      exact ⟨o, mem_endO.2 ⟨g1, .inl g2⟩, g2, g3⟩
    · obtain ⟨o, g1, g2, g3⟩ := h.all none p (.inl h1)
      exact ⟨o, mem_endO.2 ⟨g1, .inl g2⟩, g2, g3⟩
def delO (obs : List Ob) (p : Int) : List Ob := obs.filter fun o => !decide (o.p = p)
theorem mem_delO {obs : List Ob} {p : Int} {o : Ob} : o ∈ delO obs p ↔ o ∈ obs ∧ o.p ≠ p := by
  unfold delO
  rw [List.mem_filter]
  simp
theorem PI.swept {s : HS} {A : Rg} {z : Int → Int} {obs : List Ob} (h : PI s A z obs) {c n : Int} {Wt : List Int} (hW : (A none).W = c :: Wt) (hn : 1 ≤ n) (hnz : n ≤ z c) (u' : Int) :
    PI (s.swept c n u') (A.up none ⟨Wt, (A none).F, (A none).G, (A none).B⟩) z (delO obs c) ∧ ∀ o' ∈ delO obs c, ∀ i, i < o'.n → (s.swept c n u').wd o' i = s.wd o' i := by
  obtain ⟨g1, -, g3⟩ := h.hi.swept hW hn hnz u'
  have hnd := (rowsNd (h.hi.allNd none)).1.1
  rw [hW] at hnd
  have hcW : c ∉ Wt := (List.nodup_cons.1 hnd).1
  have hrow : ∀ q x, x ≠ c → ((x ∈ ((A.up none ⟨Wt, (A none).F, (A none).G, (A none).B⟩) q).W ↔ x ∈ (A q).W)) ∧ ((A.up none ⟨Wt, (A none).F, (A none).G, (A none).B⟩) q).F = (A q).F ∧ ((A.up none ⟨Wt, (A none).F, (A none).G, (A none).B⟩) q).G = (A q).G ∧ ((A.up none ⟨Wt, (A none).F, (A none).G, (A none).B⟩) q).B = (A q).B := by
    intro q x hx
    by_cases e : q = none
    · subst e
      rw [Rg.up_same, hW]
      refine ⟨?_, rfl, rfl, rfl⟩
      simp [hx]
    · rw [Rg.up_ne A e]; exact ⟨Iff.rfl, rfl, rfl, rfl⟩
  have hin : ∀ o ∈ delO obs c, o.In (s.swept c n u') (A.up none ⟨Wt, (A none).F, (A none).G, (A none).B⟩) z ∧ ∀ i, i < o.n → (s.swept c n u').wd o i = s.wd o i := by
    intro o ho
    obtain ⟨h1, h2⟩ := mem_delO.1 ho
    have ho' := h.inn o h1
    have hh := h.hi.holds (s' := { s with ws := ct s.ws c }) (z := z) g3 ho'.mem (h.hi.linksApart (q := none) ho'.mem)
    refine ⟨ho'.of ?_ rfl hh.head rfl, fun i hi => ?_⟩
    · have := ho'.mem
      rw [mem_rows] at this ⊢
      obtain ⟨r1, r2, r3, r4⟩ := hrow o.q o.p h2
      rw [r2, r3, r4, r1]; exact this
    · exact wd_holds ho' (s' := { s with ws := ct s.ws c }) hh hi
  refine ⟨⟨g1, h.par, fun o ho => (hin o ho).1, fun o ho o' ho' => h.one o (mem_delO.1 ho).1 o' (mem_delO.1 ho').1, fun o ho hm => ?_, fun o ho hm => ?_, fun o ho hm => ?_, fun q p hx => ?_, ?_⟩, fun o ho => (hin o ho).2⟩
  · obtain ⟨h1, h2⟩ := mem_delO.1 ho
    rw [(hrow o.q o.p h2).2.1] at hm
    exact h.colF o h1 hm
  · obtain ⟨h1, h2⟩ := mem_delO.1 ho
    rw [(hrow o.q o.p h2).2.2.1, (hrow o.q o.p h2).2.2.2] at hm
    exact h.colG o h1 hm
  · obtain ⟨h1, h2⟩ := mem_delO.1 ho
    exact h.colW o h1 ((hrow o.q o.p h2).1.1 hm)
  · have hcm : c ∈ (A none).all := mem_rows.2 (.inl (by rw [hW]; simp))
    have hne : p ≠ c := by
      rintro rfl
      by_cases e : q = none
      · subst e
        rw [Rg.up_same] at hx
        have hd := (rowsNd (h.hi.allNd none)).2.1 p (by rw [hW]; simp)
        rcases hx with h1 | h1 | h1 | h1
        · exact hd.1 h1
        · exact hd.2.1 h1
        · exact hd.2.2 h1
        · exact hcW h1.2
      · rw [Rg.up_ne A e] at hx
        have hm : p ∈ (A q).all := by
          rw [mem_rows]
          rcases hx with h1 | h1 | h1 | h1
          · exact .inr (.inl h1)
          · exact .inr (.inr (.inl h1))
          · exact .inr (.inr (.inr h1))
          · exact absurd h1.1 e
        have h1 := h.hi.apart q p none p hm hcm (.inl e)
        have h2 := h.hi.pos q p hm
        have h3 := h.hi.pos none p hcm
        omega
    obtain ⟨r1, r2, r3, r4⟩ := hrow q p hne
    rw [r2, r3, r4, r1] at hx
    obtain ⟨o, k1, k2, k3⟩ := h.all q p hx
    exact ⟨o, mem_delO.2 ⟨k1, by rw [k3]; exact hne⟩, k2, k3⟩
  · have := h.xok
    unfold XOk at this ⊢
    show s.x.first = s.edge ∧ s.x.first + s.x.places = (ct s.ws c).length
    rw [ct_len]; exact this
theorem PI.apart {s s' : HS} {A A' : Rg} {z z' : Int → Int} {obs : List Ob} {q : Option Nat} {p word : Int} {n : Nat} (h : PI s A z obs) (k : Alc s s' A A' z z' q p word n) (hh : How s s' A z z' q p n) : ∀ o ∈ obs, o.q ≠ q ∨ o.p ≠ p := by
  intro o ho
  by_cases hq : o.q = q
  · cases q with
    | none =>
      right
      rcases hh with ⟨j, W, e, _⟩ | ⟨j, c, e, _⟩ | ⟨-, l1, mm, l2, e1, e2, e3, e4, e5, e6⟩
      · cases e
      · cases e
      · have hm := (h.inn o ho).mem
        rw [hq] at hm
        have hr := h.hi.rlarge (p, mm) (by rw [e1]; simp) o.p hm
        have hp := h.hi.pos none o.p hm
        simp only [ln] at hp
        simp only at hr
        omega
    | some j =>
      refine alc_ne k (h.inn o ho).mem (fun hc => ?_)
      have := h.colW o ho hc
      rw [hq] at this
      cases this
  · exact .inl hq
theorem PI.alloc {s s' : HS} {A A' : Rg} {z z' : Int → Int} {obs : List Ob} (h : PI s A z obs) {q : Option Nat} {p k a : Int} {n : Nat} (hA : Alc s s' A A' z z' q p (packed k n a s.parity) n) (hh : How s s' A z z' q p n) (hd : Hd k n a s.parity) :
    PI s' A' z' (obs ++ [⟨q, p, k, n, a, s.parity⟩]) ∧ (∀ o ∈ obs, ∀ j, j < o.n → s'.wd o j = s.wd o j) ∧ (∀ o ∈ obs, o.p ≠ p) ∧ ∀ j, j < n → s'.wd ⟨q, p, k, n, a, s.parity⟩ j = 0 := by
  have hne := h.apart hA hh
  obtain ⟨n1, n2⟩ := Ob.In.new hA hd
  have hpp : ∀ o ∈ obs, o.p ≠ p := by
    intro o ho e
    have hm := hA.old (h.inn o ho).mem
    have h1 := hA.hi.apart o.q o.p q p hm hA.mem (hne o ho)
    have h2 := hA.hi.pos o.q o.p hm
    have h3 := hA.hi.pos q p hA.mem
    omega
  have hin : ∀ o ∈ obs, o.In s' A' z' ∧ ∀ j, j < o.n → s'.wd o j = s.wd o j := by
    intro o ho
    have ho' := h.inn o ho
    have hh := hA.holds o.q o.p ho'.mem (hne o ho)
    exact ⟨ho'.of (hA.old ho'.mem) (by rw [hA.cls]; exact hA.lns _ _ ho'.mem) hh.head hA.cls, fun j hj => wd_holds ho' hh hj⟩
  obtain ⟨W, hA', hrow⟩ := hA.row
  have hnd := rowsNd (hA.hi.allNd q)
  rw [hA', Rg.up_same] at hnd
  simp only at hnd
  obtain ⟨-, d1, d2, d3⟩ := hnd
  have hWs : ∀ x, x ∈ W → x ∈ (A q).W := by
    intro x hx
    rcases hrow with hr | ⟨hr, _⟩
    · rw [hr]; exact List.mem_cons_of_mem _ hx
    · rw [hr]; exact hx
  have hWr : ∀ x, x ∈ (A q).W → x ≠ p → x ∈ W := by
    intro x hx hxp
    rcases hrow with hr | ⟨hr, _⟩
    · rw [hr] at hx
      rcases List.mem_cons.1 hx with h1 | h1
      · exact absurd h1 hxp
      · exact h1
    · rw [hr] at hx; exact hx
  have hpar := hA.parity
  have key : ∀ T : Ob → Prop, (∀ o ∈ obs, T o) → T ⟨q, p, k, n, a, s.parity⟩ → ∀ o ∈ obs ++ [⟨q, p, k, n, a, s.parity⟩], T o := by
    intro T h1 h2 o ho
    rcases List.mem_append.1 ho with ho | ho
    · exact h1 o ho
    · obtain rfl := List.mem_singleton.1 ho; exact h2
  refine ⟨⟨hA.hi, by rw [hpar]; exact h.par, key _ (fun o ho => (hin o ho).1) n1, ?_, key _ ?_ ?_, key _ ?_ ?_, key _ ?_ ?_, ?_, ?_⟩, fun o ho => (hin o ho).2, hpp, n2⟩
  · refine key _ (fun o ho => key _ (fun o' ho' => h.one o ho o' ho') (fun e => absurd e (hpp o ho))) (key _ (fun o' ho' e => absurd e.symm (hpp o' ho')) (fun _ => rfl))
  · intro o ho hm
    rw [hpar]
    refine h.colF o ho ?_
    rw [hA'] at hm
    by_cases e : o.q = q
    · rw [e, Rg.up_same] at hm; rw [e]; exact hm
    · rw [Rg.up_ne A e] at hm; exact hm
  · intro hm
    rw [hA', Rg.up_same] at hm
    exact absurd (List.mem_append.2 (.inr (List.mem_singleton.2 rfl))) (d2 p hm).2
  · intro o ho hm
    rw [hpar]
    refine h.colG o ho ?_
    rw [hA'] at hm
    by_cases e : o.q = q
    · rw [e, Rg.up_same] at hm
      rw [e]
      simp only [List.mem_append, List.mem_singleton] at hm
      rcases hm with h1 | h1 | h1
      · exact .inl h1
      · exact .inr h1
      · exact absurd h1 (hpp o ho)
    · rw [Rg.up_ne A e] at hm; exact hm
  · intro _; exact hpar.symm
  · intro o ho hm
    refine h.colW o ho ?_
    rw [hA'] at hm
    by_cases e : o.q = q
    · rw [e, Rg.up_same] at hm; rw [e]; exact hWs _ hm
    · rw [Rg.up_ne A e] at hm; exact hm
  · intro hm
    rw [hA', Rg.up_same] at hm
    exact absurd (List.mem_append.2 (.inr (List.mem_singleton.2 rfl))) (d1 p hm).2.2
  · intro q' p' hx
    by_cases e : q' = q ∧ p' = p
    · obtain ⟨rfl, rfl⟩ := e
      exact ⟨_, List.mem_append.2 (.inr (List.mem_singleton.2 rfl)), rfl, rfl⟩
    · obtain ⟨o, h1, h2, h3⟩ := h.all q' p' (by
        rw [hA'] at hx
        by_cases e2 : q' = q
        · subst e2
          rw [Rg.up_same] at hx
          simp only [List.mem_append, List.mem_singleton] at hx
          rcases hx with h1 | h1 | (h1 | h1) | ⟨h1, h2⟩
          · exact .inl h1
          · exact .inr (.inl h1)
          · exact .inr (.inr (.inl h1))
          · exact absurd ⟨rfl, h1⟩ e
          · exact .inr (.inr (.inr ⟨h1, hWs _ h2⟩))
        · rw [Rg.up_ne A e2] at hx; exact hx)
      exact ⟨o, List.mem_append.2 (.inl h1), h2, h3⟩
  · have e1 : s'.x.first = s.x.first ∧ s'.x.places = s.x.places := by
      rcases hh with ⟨_, _, _, _, _, e, _⟩ | ⟨_, _, _, _, _, _, _, _, e, _⟩ | ⟨_, _, _, _, _, _, _, e, _⟩ <;> rw [e] <;> exact ⟨rfl, rfl⟩
    have := h.xok
    unfold XOk at this ⊢
    rw [e1.1, e1.2, hA.edge, hA.len]
    exact this
end Go.Proofs.YtklnpooninbogaaGreat
namespace Go.Proofs.YtklnpooninbogaaGreat
open Go Go.Proofs Go.RowKit
def KN (m : List (Int × Value)) : Prop := (m.map Prod.fst).Nodup
theorem mem_mput {m : List (Int × Value)} {k k' : Int} {v : Value} (h : k' ∈ (mput m k v).map Prod.fst) : k' = k ∨ k' ∈ m.map Prod.fst := by
  induction m with
  | nil => simp [mput] at h; exact .inl h
  | cons y r ih =>
    unfold mput at h
    split at h
    · rename_i e
      rw [List.map_cons] at h ⊢
      rcases List.mem_cons.1 h with h | h
      · exact .inl h
      · exact .inr (List.mem_cons_of_mem _ h)
    · rw [List.map_cons] at h ⊢
      rcases List.mem_cons.1 h with h | h
      · exact .inr (by rw [h]; exact List.mem_cons_self)
      · rcases ih h with h | h
        · exact .inl h
        · exact .inr (List.mem_cons_of_mem _ h)
theorem KN.put {m : List (Int × Value)} (h : KN m) (k : Int) (v : Value) : KN (mput m k v) := by
  unfold KN at h ⊢
  induction m with
  | nil => simp [mput]
  | cons y r ih =>
    rw [List.map_cons, List.nodup_cons] at h
    unfold mput
    split
    · rename_i e
      rw [List.map_cons, List.nodup_cons]
      rw [← e] at h
      exact h
    · rename_i e
      rw [List.map_cons, List.nodup_cons]
      refine ⟨fun hc => ?_, ih h.2⟩
      rcases mem_mput hc with h1 | h1
      · exact e h1.symm
      · exact h.1 h1
theorem mget_none {m : List (Int × Value)} {k : Int} (h : k ∉ m.map Prod.fst) : mget m k = none := by
  induction m with
  | nil => rfl
  | cons y r ih =>
    rw [List.map_cons, List.mem_cons, not_or] at h
    unfold mget
    rw [if_neg h.1]; exact ih h.2
structure DOb (w : World) (B : Nat) (m : List (Int × Value)) (obs : List Ob) (G : Int → Nat) (wd : Ob → Nat → Int) : Prop where
  get : ∀ o ∈ obs, mget m o.p = some (obV o.k o.n o.a o.m (G o.p) o.n)
  blk : ∀ o ∈ obs, B ≤ G o.p ∧ Blk w (G o.p) (wcs o (wd o)) 2
  inj : ∀ o ∈ obs, ∀ o' ∈ obs, G o.p = G o'.p → o.p = o'.p
  only : ∀ p, (mget m p).isSome = true → ∃ o ∈ obs, o.p = p
  kn : KN m
theorem DOb.fr {S : List Nat} {w w' : World} {B : Nat} {m : List (Int × Value)} {obs : List Ob} {G : Int → Nat} {wd wd' : Ob → Nat → Int} (h : DOb w B m obs G wd) (hf : Fr S w w') (hS : ∀ o ∈ obs, G o.p ∉ S) (hw : ∀ o ∈ obs, ∀ j, j < o.n → wd' o j = wd o j) : DOb w' B m obs G wd' :=
  ⟨h.get, fun o ho => ⟨(h.blk o ho).1, by rw [wcs_congr o (hw o ho)]; exact (h.blk o ho).2.fr hf (hS o ho)⟩, h.inj, h.only, h.kn⟩
theorem DOb.step {w w' : World} {B : Nat} {m : List (Int × Value)} {obs : List Ob} {G : Int → Nat} {wd : Ob → Nat → Int} (h : DOb w B m obs G wd) (hf : Fr [] w w') : DOb w' B m obs G wd := h.fr hf (by simp) (fun _ _ _ _ => rfl)
theorem DOb.none {w : World} {B : Nat} {m : List (Int × Value)} {obs : List Ob} {G : Int → Nat} {wd : Ob → Nat → Int} (h : DOb w B m obs G wd) {p : Int} (hp : ∀ o ∈ obs, o.p ≠ p) : mget m p = none := by
  cases e : mget m p with
  | none => rfl
  | some v =>
    obtain ⟨o, h1, h2⟩ := h.only p (by rw [e]; rfl)
    exact absurd h2 (hp o h1)
theorem DOb.new {w w' : World} {B : Nat} {m : List (Int × Value)} {obs : List Ob} {G : Int → Nat} {wd wd' : Ob → Nat → Int} (h : DOb w B m obs G wd) (hb : ∀ o ∈ obs, Blk w' (G o.p) (wcs o (wd o)) 2) (o : Ob) (g : Nat) (hg : B ≤ g) (hnew : ∀ o' ∈ obs, o'.p ≠ o.p ∧ G o'.p ≠ g) (hB : Blk w' g (List.replicate o.n (.int .i64 0)) 2)
    (hw : ∀ o' ∈ obs, ∀ j, j < o'.n → wd' o' j = wd o' j) (h0 : ∀ j, j < o.n → wd' o j = 0) : DOb w' B (mput m o.p (obV o.k o.n o.a o.m g o.n)) (obs ++ [o]) (fun p => if p = o.p then g else G p) wd' := by
  refine ⟨fun o' ho' => ?_, fun o' ho' => ?_, fun o1 ho1 o2 ho2 e => ?_, fun p hp => ?_, h.kn.put _ _⟩
  · rcases List.mem_append.1 ho' with h1 | h1
    · have hne := (hnew o' h1).1
      rw [mget_mput_ne m hne]
      simp only [if_neg hne]
      exact h.get o' h1
    · obtain rfl := List.mem_singleton.1 h1
      rw [mget_mput_same]
      simp
  · rcases List.mem_append.1 ho' with h1 | h1
    · simp only [if_neg (hnew o' h1).1]
      rw [wcs_congr o' (hw o' h1)]
      exact ⟨(h.blk o' h1).1, hb o' h1⟩
    · obtain rfl := List.mem_singleton.1 h1
      simp only [if_true]
      have : wcs o' (wd' o') = List.replicate o'.n (.int .i64 0) := by
        rw [wcs_congr o' (wd := fun _ => 0) h0]
        unfold wcs
        apply List.ext_getElem?
        intro i
        by_cases hi : i < o'.n
        · simp [hi]
        · rw [List.getElem?_eq_none (by simp; omega), List.getElem?_eq_none (by simp; omega)]
      rw [this]
      exact ⟨hg, hB⟩
  · rcases List.mem_append.1 ho1 with h1 | h1 <;> rcases List.mem_append.1 ho2 with h2 | h2
    · simp only [if_neg (hnew o1 h1).1, if_neg (hnew o2 h2).1] at e
      exact h.inj o1 h1 o2 h2 e
    · obtain rfl := List.mem_singleton.1 h2
      simp only [if_neg (hnew o1 h1).1, if_true] at e
      exact absurd e (hnew o1 h1).2
    · obtain rfl := List.mem_singleton.1 h1
      simp only [if_neg (hnew o2 h2).1, if_true] at e
      exact absurd e.symm (hnew o2 h2).2
    · rw [List.mem_singleton.1 h1, List.mem_singleton.1 h2]
  · by_cases e : p = o.p
    · exact ⟨o, by simp, e.symm⟩
    · rw [mget_mput_ne m e] at hp
      obtain ⟨o', h1, h2⟩ := h.only p hp
      exact ⟨o', List.mem_append.2 (.inl h1), h2⟩
theorem DOb.put {w w' : World} {B : Nat} {m : List (Int × Value)} {obs : List Ob} {G : Int → Nat} {wd wd' : Ob → Nat → Int} (h : DOb w B m obs G wd) (hone : ∀ o ∈ obs, ∀ o' ∈ obs, o.p = o'.p → o = o') {o : Ob} (ho : o ∈ obs) {j : Nat} {v : Int} (hf : Fr [G o.p] w w') (hB : Blk w' (G o.p) ((wcs o (wd o)).set j (.int .i64 v)) 2)
    (hw : ∀ o' ∈ obs, o' ≠ o → ∀ i, i < o'.n → wd' o' i = wd o' i) (hw2 : ∀ i, i < o.n → wd' o i = if i = j then v else wd o i) : DOb w' B m obs G wd' := by
  refine ⟨h.get, fun o' ho' => ⟨(h.blk o' ho').1, ?_⟩, h.inj, h.only, h.kn⟩
  by_cases e : o' = o
  · subst e
    rw [wcs_set] at hB
    rw [wcs_congr o' hw2]
    exact hB
  · rw [wcs_congr o' (hw o' ho' e)]
    refine (h.blk o' ho').2.fr hf (fun hc => e (hone o' ho' o ho (h.inj o' ho' o ho (List.mem_singleton.1 hc))))
theorem DOb.upd {w w' : World} {B : Nat} {m : List (Int × Value)} {obs : List Ob} {G : Int → Nat} {wd wd' : Ob → Nat → Int} (h : DOb w B m obs G wd) (hone : ∀ o ∈ obs, ∀ o' ∈ obs, o.p = o'.p → o = o') (hb : ∀ o ∈ obs, Blk w' (G o.p) (wcs o (wd o)) 2) {o : Ob} (ho : o ∈ obs) {f : Ob → Ob} (hp : (f o).p = o.p) (hn : (f o).n = o.n)
    (hw : ∀ o' ∈ obs, ∀ j, j < o'.n → wd' o' j = wd o' j) (hwf : wd' (f o) = wd' o) : DOb w' B (mput m o.p (obV (f o).k o.n (f o).a (f o).m (G o.p) o.n)) (updO obs o.p f) G wd' := by
  have hall : ∀ T : Ob → Prop, T (f o) → (∀ o' ∈ obs, o'.p ≠ o.p → T o') → ∀ o' ∈ updO obs o.p f, T o' := by
    intro T h1 h2 o' ho'
    obtain ⟨o1, h3, rfl⟩ := mem_updO.1 ho'
    by_cases e : o1.p = o.p
    · obtain rfl := hone o1 h3 o ho e
      rw [if_pos rfl]; exact h1
    · rw [if_neg e]; exact h2 o1 h3 e
  have hpp : ∀ o' ∈ updO obs o.p f, ∃ o1 ∈ obs, o1.p = o'.p := hall _ ⟨o, ho, hp.symm⟩ (fun o' ho' _ => ⟨o', ho', rfl⟩)
  refine ⟨hall _ ?_ (fun o' ho' hne => ?_), hall _ ?_ (fun o' ho' hne => ?_), fun o1 h1 o2 h2 e => ?_, fun p hp' => ?_, h.kn.put _ _⟩
  · rw [hp, mget_mput_same, hn]
  · rw [mget_mput_ne m hne]; exact h.get o' ho'
  · rw [hp]
    refine ⟨(h.blk o ho).1, ?_⟩
    have e : wcs (f o) (wd' (f o)) = wcs o (wd o) := by
      rw [hwf]
      unfold wcs
      rw [hn]
      exact List.map_congr_left (fun j hj => by rw [hw o ho j (List.mem_range.1 hj)])
    rw [e]; exact hb o ho
  · rw [wcs_congr o' (hw o' ho')]
    exact ⟨(h.blk o' ho').1, hb o' ho'⟩
  · obtain ⟨a, ha, ea⟩ := hpp o1 h1
    obtain ⟨b, hb, eb⟩ := hpp o2 h2
    rw [← ea, ← eb] at e ⊢
    exact h.inj a ha b hb e
  · by_cases e : p = o.p
    · exact ⟨f o, mem_updO.2 ⟨o, ho, by rw [if_pos rfl]⟩, hp.trans e.symm⟩
    · rw [mget_mput_ne m e] at hp'
      obtain ⟨o', h1, h2⟩ := h.only p hp'
      exact ⟨o', mem_updO.2 ⟨o', h1, by rw [if_neg (by rw [h2]; exact e)]⟩, h2⟩
end Go.Proofs.YtklnpooninbogaaGreat
