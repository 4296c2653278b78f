
import Derived.Test.YtklnpooninbogaaGreatMYInv0
import Derived.Test.YtklnpooninbogaaGreatMPPlays
import Derived.Test.YtklnpooninbogaaGreatMMXDel
import Derived.Test.YtklnpooninbogaaGreatPKeeps
import Derived.Test.YtklnpooninbogaaGreatDAlloc
import Derived.Test.YtklnpooninbogaaGreatMDRow
import Derived.Test.YtklnpooninbogaaGreatMYCol
namespace Go.Proofs.YtklnpooninbogaaGreat
open Go Go.Proofs Go.RowKit
def bO (obs : List Ob) (p : Int) : List Ob := updO obs p fun o => { o with k := 10 }
theorem bO_cases {obs : List Ob} {p : Int} {o' : Ob} (h : o' ∈ bO obs p) : ∃ o ∈ obs, o'.p = o.p ∧ o'.q = o.q ∧ o'.n = o.n ∧ o'.a = o.a ∧ ((o.p = p ∧ o' = { o with k := 10 }) ∨ (o.p ≠ p ∧ o' = o)) := by
  obtain ⟨o, ho, rfl⟩ := mem_updO.1 h
  refine ⟨o, ho, ?_⟩
  by_cases e : o.p = p
  · rw [if_pos e]; exact ⟨rfl, rfl, rfl, rfl, .inl ⟨e, rfl⟩⟩
  · rw [if_neg e]; exact ⟨rfl, rfl, rfl, rfl, .inr ⟨e, rfl⟩⟩
theorem bO_ne {obs : List Ob} {p : Int} {o : Ob} (h : o ∈ obs) (e : o.p ≠ p) : o ∈ bO obs p := mem_updO.2 ⟨o, h, by rw [if_neg e]⟩
theorem bO_self {obs : List Ob} {o : Ob} (h : o ∈ obs) : ({ o with k := 10 } : Ob) ∈ bO obs o.p := mem_updO.2 ⟨o, h, by rw [if_pos rfl]⟩
theorem bO_any {obs : List Ob} {p : Int} {o : Ob} (h : o ∈ obs) : ∃ o' ∈ bO obs p, o'.p = o.p ∧ o'.q = o.q := by
  by_cases e : o.p = p
  · subst e; exact ⟨_, bO_self h, rfl, rfl⟩
  · exact ⟨o, bO_ne h e, rfl, rfl⟩
theorem bO_map (obs : List Ob) (p : Int) : (bO obs p).map Ob.p = obs.map Ob.p := by
  unfold bO updO
  rw [List.map_map]
  apply List.map_congr_left
  intro o _
  simp only [Function.comp]
  split <;> rfl
theorem Mkd.at {A : Rg} {o o' : Ob} (h : Mkd A o) (e1 : o'.p = o.p) (e2 : o'.q = o.q) : Mkd A o' := by
  unfold Mkd at *; rw [e1, e2]; exact h
theorem MH.bury {s s' : HS} {A : Rg} {z : Int → Int} {obs : List Ob} (h : MH s A z obs) {o : Ob} (ho : o ∈ obs) {m ahead walk first last : Int} (hm : (o.p ∈ (A o.q).F ∧ m = 1 - s.parity) ∨ (Mkd A o ∧ m = s.parity)) (hb : Bur s s' A z (o.wm m) ahead walk first last) : MH s' A z (bO obs o.p) := by
  have hpar := hb.st.parity
  refine ⟨hb.hi, by rw [hpar]; exact h.par, ?_, ?_, by rw [bO_map]; exact h.nd⟩
  · intro o' ho'
    obtain ⟨x, hx, e1, e2, e3, e4, ⟨e, rfl⟩ | ⟨e, rfl⟩⟩ := bO_cases ho'
    · have := h.one hx ho e
      subst this
      rcases hm with ⟨h1, rfl⟩ | ⟨h1, rfl⟩
      · exact .inl ⟨h1, by rw [hpar]; exact hb.ob⟩
      · exact .inr ⟨h1, by rw [hpar]; exact hb.ob⟩
    · rcases h.inn o' hx with ⟨h1, h2⟩ | ⟨h1, h2⟩
      · exact .inl ⟨h1, by rw [hpar]; exact (hb.oth _ h2 e).1⟩
      · exact .inr ⟨h1, by rw [hpar]; exact (hb.oth _ h2 e).1⟩
  · intro q c hc
    obtain ⟨x, hx, rfl, rfl⟩ := h.rows q c hc
    obtain ⟨x', h1, h2, h3⟩ := bO_any (p := o.p) hx
    exact ⟨x', h1, h3, h2⟩
theorem Chn.first {s : HS} {p : Int} {l : List Ob} (h : Chn s p l) (hp : p ≠ 0) : l ≠ [] := by
  rintro rfl
  exact hp h
theorem lastP_mem {l : List Ob} (h : l ≠ []) : ∃ y ∈ l, l.getLast? = some y ∧ lastP l = y.p := by
  refine ⟨l.getLast h, List.getLast_mem h, List.getLast?_eq_some_getLast h, ?_⟩
  simp [lastP, List.getLast?_eq_some_getLast h]
theorem lastP_cons (x : Ob) {l : List Ob} (h : l ≠ []) : lastP (x :: l) = lastP l := by
  unfold lastP
  rw [List.getLast?_cons_of_ne_nil h]
theorem Chn.cut {s s' : HS} {o : Ob} {td : List Ob} {nx : Int} (hnx : nx = s.wd o 3) (ht : ∀ x ∈ td, s'.wd x 3 = s.wd x 3) : ∀ {pre : List Ob} {p : Int}, Chn s p (pre ++ o :: td) → (pre.map Ob.p).Nodup → (∀ x ∈ pre, s'.wd x 3 = if x.p = lastP pre then nx else s.wd x 3) → Chn s' (if pre = [] then nx else p) (pre ++ td)
  | [], p, h, _, _ => by
    rw [if_pos rfl, hnx]
    exact h.2.congr ht
  | x :: r, p, h, hn, hw => by
    rw [if_neg (by simp)]
    refine ⟨h.1, ?_⟩
    have h2 : Chn s (s.wd x 3) (r ++ o :: td) := h.2
    have hwx := hw x (List.mem_cons_self ..)
    by_cases hr : r = []
    · subst hr
      rw [if_pos (by simp [lastP])] at hwx
      have := Chn.cut hnx ht (pre := []) h2 (by simp) (by simp)
      rw [if_pos rfl] at this
      rw [hwx]; exact this
    · obtain ⟨y, hy, -, e⟩ := lastP_mem hr
      have hxy : x.p ≠ lastP (x :: r) := by
        rw [lastP_cons x hr, e]
        intro e2
        exact (List.nodup_cons.1 hn).1 (by rw [e2]; exact List.mem_map_of_mem hy)
      rw [if_neg hxy] at hwx
      have := Chn.cut hnx ht (pre := r) h2 (List.nodup_cons.1 hn).2 (fun v hv => by rw [hw v (List.mem_cons_of_mem _ hv), lastP_cons x hr])
      rw [if_neg hr] at this
      rw [hwx]; exact this
theorem Chn.snoc {s s' : HS} {o : Ob} (h0 : s'.wd o 3 = 0) : ∀ {l : List Ob} {p : Int}, Chn s p l → (l.map Ob.p).Nodup → (∀ x ∈ l, s'.wd x 3 = if x.p = lastP l then o.p else s.wd x 3) → Chn s' (if l = [] then o.p else p) (l ++ [o])
  | [], p, h, _, _ => by
    rw [if_pos rfl]
    exact ⟨rfl, h0⟩
  | x :: r, p, h, hn, hw => by
    rw [if_neg (by simp)]
    refine ⟨h.1, ?_⟩
    have h2 : Chn s (s.wd x 3) r := h.2
    have hwx := hw x (List.mem_cons_self ..)
    by_cases hr : r = []
    · subst hr
      rw [if_pos (by simp [lastP])] at hwx
      have := Chn.snoc h0 (l := []) h2 (by simp) (by simp)
      rw [if_pos rfl] at this
      rw [hwx]; exact this
    · obtain ⟨y, hy, -, e⟩ := lastP_mem hr
      have hxy : x.p ≠ lastP (x :: r) := by
        rw [lastP_cons x hr, e]
        intro e2
        exact (List.nodup_cons.1 hn).1 (by rw [e2]; exact List.mem_map_of_mem hy)
      rw [if_neg hxy] at hwx
      have := Chn.snoc h0 (l := r) h2 (List.nodup_cons.1 hn).2 (fun v hv => by rw [hw v (List.mem_cons_of_mem _ hv), lastP_cons x hr])
      rw [if_neg hr] at this
      rw [hwx]; exact this
theorem map_nodup_of {l obs : List Ob} (hn : l.Nodup) (hi : ∀ x ∈ l, x ∈ obs) (hone : ∀ x ∈ obs, ∀ y ∈ obs, x.p = y.p → x = y) : (l.map Ob.p).Nodup := by
  rw [List.Nodup, List.pairwise_map]
  exact List.Pairwise.imp_of_mem (fun {a b} ha hb hab e => hab (hone a (hi a ha) b (hi b hb) e)) hn
theorem ob_pos {s : HS} {A : Rg} {z : Int → Int} {obs : List Ob} (h : MH s A z obs) {o : Ob} (ho : o ∈ obs) : 1 ≤ o.p := by
  obtain ⟨m, hm⟩ := h.any ho
  exact (hm.bound h.hi).1
theorem CQ.wbury {gl : List Int} {g : MG} {X : CX} {S : CY} (h : CQ gl g X S) (hX : CXK g X) (hp : S.c.ph = 3) {o : Ob} {td' : List Ob} (htd : S.td = o :: td') {ko : Ob} (hko : ko ∈ S.obs) (hk : ko.p = S.s.wd o 0) (hm : ¬ Mkd S.A ko) {m : Int} (hmm : (o.p ∈ (S.A o.q).F ∧ m = 1 - S.s.parity) ∨ (Mkd S.A o ∧ m = S.s.parity))
    {s' : HS} (hb : Bur S.s s' S.A S.z (o.wm m) S.t.ahead (S.s.wd o 3) S.t.first S.t.last) (c' : CS) (ec1 : c'.ph = S.c.ph) (ec2 : c'.cyc = S.c.cyc) :
    ∃ rw', CQ gl g X { S with s := s', obs := bO S.obs o.p, t := ({ S.t with walk := S.s.wd o 3 } : TS).buried o.p, rw := rw', qu := S.qu ++ [{ o with k := 10 }], bl := S.bl ++ [o.a], dn := S.dn ++ [o], td := td', c := c' } := by
  obtain ⟨dec, d1, d2, d3, d4⟩ := h.hist
  have hrow := h.row
  have hnd := hX.nd
  rw [hrow, htd, List.map_append, List.map_cons] at hnd
  have hne : ∀ x ∈ S.dn, x.p ≠ o.p := by
    intro x hx e
    exact (List.nodup_append.1 hnd).2.2 x.p (List.mem_map_of_mem hx) o.p (List.mem_cons_self ..) e
  have f1 : S.dn.filter (fun x => !(dec x || (x.p == o.p))) = S.dn.filter fun x => !dec x := List.filter_congr fun x hx => by simp [hne x hx]
  have f2 : S.dn.filter (fun x => dec x || (x.p == o.p)) = S.dn.filter dec := List.filter_congr fun x hx => by simp [hne x hx]
  obtain ⟨pre, w1, w2, w3⟩ := h.walk hp
  rw [htd] at w1 w2
  have hone : ∀ x ∈ S.obs, ∀ y ∈ S.obs, x.p = y.p → x = y := fun x hx y hy e => h.mh.one hx hy e
  have how : o ∈ S.rw := by rw [w1]; simp
  have hoo := (h.rin o how).1
  have ho9 := (h.rin o how).2.1
  have ho4 := (h.rin o how).2.2
  have hrnd := map_nodup_of h.rnd (fun x hx => (h.rin x hx).1) hone
  have hqnd := map_nodup_of h.qnd (fun x hx => (h.qin x hx).1) hone
  rw [w1, List.map_append, List.map_cons] at hrnd
  have hpreo : ∀ x ∈ pre, x.p ≠ o.p := fun x hx e => (List.nodup_append.1 hrnd).2.2 x.p (List.mem_map_of_mem hx) o.p (List.mem_cons_self ..) e
  have htdo : ∀ x ∈ td', x.p ≠ o.p := fun x hx e => (List.nodup_cons.1 (List.nodup_append.1 hrnd).2.1).1 (e ▸ List.mem_map_of_mem hx)
  have hpret : ∀ x ∈ pre, ∀ y ∈ td', x.p ≠ y.p := fun x hx y hy e => (List.nodup_append.1 hrnd).2.2 x.p (List.mem_map_of_mem hx) y.p (List.mem_cons_of_mem _ (List.mem_map_of_mem hy)) e
  have hprw : ∀ x ∈ pre, x ∈ S.rw := fun x hx => by rw [w1]; exact List.mem_append_left _ hx
  have htrw : ∀ x ∈ td', x ∈ S.rw := fun x hx => by rw [w1]; exact List.mem_append_right _ (List.mem_cons_of_mem _ hx)
  have hrq : ∀ x ∈ S.rw, ∀ y ∈ S.qu, x.p ≠ y.p := by
    intro x hx y hy e
    have := hone x (h.rin x hx).1 y (h.qin y hy).1 e
    have h1 := (h.rin x hx).2.1
    have h2 := (h.qin y hy).2.1
    rw [this] at h1
    omega
  have hlast : S.t.first ≠ 0 → ∃ y ∈ S.qu, S.t.last = y.p ∧ lastP S.qu = y.p := by
    intro hf
    obtain ⟨y, h1, h2, h3⟩ := lastP_mem (h.qch.first hf)
    exact ⟨y, h1, h.last y h2, h3⟩
  have hfirst : S.qu ≠ [] → S.t.first ≠ 0 := by
    intro hq
    have hc := h.qch
    cases e : S.qu with
    | nil => exact absurd e hq
    | cons y r =>
      rw [e] at hc
      have := ob_pos h.mh (h.qin y (by rw [e]; simp)).1
      rw [hc.1]; omega
  have hah : S.t.ahead ≠ 0 → pre ≠ [] := by
    rintro hz rfl
    exact hz w3
  have hah2 : pre ≠ [] → S.t.ahead ≠ 0 := by
    intro hq
    obtain ⟨y, h1, -, h3⟩ := lastP_mem hq
    have := ob_pos h.mh (h.rin y (hprw y h1)).1
    rw [w3, h3]; omega
  have hoth : ∀ x ∈ S.obs, x.p ≠ o.p → (∀ i, i < x.n → i ≠ 3 → s'.wd x i = S.s.wd x i) ∧ (3 < x.n → s'.wd x 3 = if S.t.first ≠ 0 ∧ x.p = S.t.last then o.p else if S.t.ahead ≠ 0 ∧ x.p = S.t.ahead then S.s.wd o 3 else S.s.wd x 3) := by
    intro x hx e
    obtain ⟨mx, hmx⟩ := h.mh.any hx
    exact (hb.oth _ hmx e).2
  have hw0 : ∀ x ∈ S.rw, x.p ≠ o.p → s'.wd x 0 = S.s.wd x 0 := fun x hx e => (hoth x (h.rin x hx).1 e).1 0 (by rw [(h.rin x hx).2.2]; decide) (by decide)
  have hwr : ∀ x ∈ S.rw, x.p ≠ o.p → s'.wd x 3 = if S.t.ahead ≠ 0 ∧ x.p = S.t.ahead then S.s.wd o 3 else S.s.wd x 3 := by
    intro x hx e
    rw [(hoth x (h.rin x hx).1 e).2 (by rw [(h.rin x hx).2.2]; decide), if_neg]
    rintro ⟨hf, e2⟩
    obtain ⟨y, hy, h1, -⟩ := hlast hf
    exact hrq x hx y hy (e2.trans h1)
  have hwt : ∀ x ∈ td', s'.wd x 3 = S.s.wd x 3 := by
    intro x hx
    rw [hwr x (htrw x hx) (htdo x hx), if_neg]
    rintro ⟨hf, e2⟩
    obtain ⟨y, hy, -, h3⟩ := lastP_mem (hah hf)
    exact hpret y hy x hx (h3.symm.trans (w3.symm.trans e2.symm))
  have hwp : ∀ x ∈ pre, s'.wd x 3 = if x.p = lastP pre then S.s.wd o 3 else S.s.wd x 3 := by
    intro x hx
    rw [hwr x (hprw x hx) (hpreo x hx), w3]
    have : lastP pre ≠ 0 := by rw [← w3]; exact hah2 (List.ne_nil_of_mem hx)
    simp [this]
  have hqo : ∀ x ∈ S.qu, x.p ≠ o.p := fun x hx e => hrq o how x hx e.symm
  have hwq : ∀ x ∈ S.qu, s'.wd x 3 = if x.p = lastP S.qu then o.p else S.s.wd x 3 := by
    intro x hx
    rw [(hoth x (h.qin x hx).1 (hqo x hx)).2 (by rw [(h.qin x hx).2.2]; decide)]
    obtain ⟨y, hy, h1, h2⟩ := hlast (hfirst (List.ne_nil_of_mem hx))
    have hn0 := hfirst (List.ne_nil_of_mem hx)
    rw [h1, h2]
    by_cases e : x.p = y.p
    · rw [if_pos ⟨hn0, e⟩, if_pos e]
    · rw [if_neg (fun k => e k.2), if_neg e, if_neg]
      rintro ⟨hf, e2⟩
      obtain ⟨v, hv, -, h3⟩ := lastP_mem (hah hf)
      exact hrq v (hprw v hv) x hx (h3.symm.trans (w3.symm.trans e2.symm))
  have hprec : pre = X.pre ++ S.dn.filter (fun x => !dec x) := by
    have e : pre ++ (o :: td') = (X.pre ++ S.dn.filter fun x => !dec x) ++ (o :: td') := by
      rw [← w1, d1, htd, List.append_assoc]
    exact List.append_cancel_right e
  have n12 : ¬ (S.c.ph = 1 ∨ S.c.ph = 2) := by omega
  have n40 : ¬ (S.c.ph = 4 ∨ S.c.ph = 0) := by omega
  have hmko : Mkd S.A o := (h.rmk o (.inl how)).resolve_right (fun k => n12 k.1)
  have hSo := h.mS o hoo hmko
  have hbany : ∀ x ∈ S.obs, ∃ x' ∈ bO S.obs o.p, x'.p = x.p ∧ x'.q = x.q := fun x hx => bO_any hx
  have hko1 : ∀ x ∈ S.obs, ∀ x' ∈ bO S.obs o.p, x'.p = x.p → x'.q = x.q := by
    intro x hx x' hx' e
    obtain ⟨y, hy, e1, e2, -⟩ := bO_cases hx'
    rw [e2, hone y hy x hx (e1.symm.trans e)]
  have hcl := h.cl (.inl hp)
  refine ⟨pre ++ td', ?_⟩
  refine ⟨by show c'.ph ≤ 4; omega, h.mh.bury hoo hmm hb, ⟨?_, ?_⟩, ?_, ?_, ?_, fun hx => absurd hx (by show ¬ (c'.ph = 1 ∨ c'.ph = 2); omega), fun _ => h.a0 (by omega), h.nx0, fun hx => absurd hx (by show ¬ (c'.ph = 4 ∨ c'.ph = 0); omega), fun _ => h.nog hp, fun hx => absurd hx (by show ¬ (c'.ph = 1 ∨ c'.ph = 2); omega), fun hx => absurd hx (by show ¬ (c'.ph = 1); omega), fun hx => absurd hx (by show ¬ (c'.ph = 1 ∨ c'.ph = 2); omega),
    ?_, ?_, ?_, ?_, ?_, ?_, ?_, ?_, ?_, ?_, ?_, ?_, ?_, fun _ => ⟨pre, rfl, ?_, ?_⟩, ?_, fun hx => absurd hx (by show ¬ (c'.ph = 4 ∨ c'.ph = 0); omega), fun hx => absurd hx (by show ¬ (c'.ph = 1 ∨ c'.ph = 2); omega), ⟨fun x => dec x || (x.p == o.p), ?_, ?_, ?_, ?_⟩, ?_, ?_, ?_, ?_⟩
  · have := h.xok.1; show s'.x.first = s'.edge; rw [hb.st.x, hb.st.edge]; exact this
  · have := h.xok.2; show s'.x.first + s'.x.places = s'.ws.length; rw [hb.st.x, hb.st.len]; exact this
  · intro c hc
    have hc' : c ∈ (S.A none).W := hc
    rw [h.wn (by omega)] at hc'
    cases hc'
  · intro _; exact h.wn (by omega)
  · intro o' ho' hM
    obtain ⟨x, hx, e1, e2, -⟩ := bO_cases ho'
    rw [e1]
    exact h.mS x hx (hM.at e1.symm e2.symm)
  · intro h1 h2 x hx
    obtain ⟨y, hy, e, hM⟩ := h.fin (by omega) (by omega) x hx
    obtain ⟨y', h3, h4, h5⟩ := hbany y hy
    exact ⟨y', h3, h4.trans e, hM.at h4 h5⟩
  · intro hT o' ho' hS
    obtain ⟨x, hx, e1, e2, -⟩ := bO_cases ho'
    have hS' : g.S o'.p := hS
    rw [e1] at hS'
    rcases h.tight hT x hx hS' with h1 | h1
    · exact .inl (h1.at e1 e2)
    · exact .inr (by show g.R o'.p; rw [e1]; exact h1)
  · intro _ o' ho' hS j hj
    have up : ∀ v, (v = 0 ∨ ∃ x ∈ S.obs, x.p = v ∧ g.S x.p) → (v = 0 ∨ ∃ x ∈ bO S.obs o.p, x.p = v ∧ g.S x.p) := by
      rintro v (h1 | ⟨x, h1, h2, h3⟩)
      · exact .inl h1
      · obtain ⟨x', h4, h5, -⟩ := hbany x h1
        exact .inr ⟨x', h4, h5.trans h2, by rw [h5]; exact h3⟩
    show s'.wd o' j = 0 ∨ ∃ x ∈ bO S.obs o.p, x.p = s'.wd o' j ∧ g.S x.p
    obtain ⟨x, hx, e1, e2, e3, e4, ⟨e, rfl⟩ | ⟨e, rfl⟩⟩ := bO_cases ho'
    · have := hone x hx o hoo e
      subst this
      have hj2 : j = 2 ∨ j = 3 := by
        obtain ⟨j1, j2⟩ := hj
        simp only [Ob.f, Ob.t, lkF, lkT, ho4] at j1 j2
        simp at j1 j2
        omega
      rcases hj2 with rfl | rfl
      · have hw2 : s'.wd x 2 = S.s.wd x 2 := hb.w2
        show s'.wd x 2 = 0 ∨ ∃ y ∈ bO S.obs x.p, y.p = s'.wd x 2 ∧ g.S y.p
        rw [hw2]
        refine up _ (hcl x hoo hSo 2 ?_)
        simp [Lk, Ob.f, Ob.t, lkF, lkT, ho9, ho4]
      · exact .inl hb.w3
    · have hS' : g.S o'.p := hS
      by_cases hj3 : j = 3
      · subst hj3
        rw [(hoth o' hx e).2 hj.lt]
        by_cases c1 : S.t.first ≠ 0 ∧ o'.p = S.t.last
        · rw [if_pos c1]
          exact .inr ⟨_, bO_self hoo, rfl, hSo⟩
        · rw [if_neg c1]
          by_cases c2 : S.t.ahead ≠ 0 ∧ o'.p = S.t.ahead
          · rw [if_pos c2]
            refine up _ (hcl o hoo hSo 3 ?_)
            simp [Lk, Ob.f, Ob.t, lkF, lkT, ho9, ho4]
          · rw [if_neg c2]
            exact up _ (hcl o' hx hS' 3 hj)
      · rw [(hoth o' hx e).1 j hj.lt hj3]
        exact up _ (hcl o' hx hS' j hj)
  · -- rch
    show Chn s' (if S.t.ahead = 0 then S.s.wd o 3 else S.t.row) (pre ++ td')
    have hc := Chn.cut (nx := S.s.wd o 3) rfl hwt (w1 ▸ h.rch) (List.nodup_append.1 hrnd).1 hwp
    by_cases hz : S.t.ahead = 0
    · rw [if_pos (Classical.byContradiction fun hq => hah2 hq hz)] at hc
      rw [if_pos hz]; exact hc
    · rw [if_neg (hah hz)] at hc
      rw [if_neg hz]; exact hc
  · -- qch
    show Chn s' (if S.t.first = 0 then o.p else S.t.first) (S.qu ++ [{ o with k := 10 }])
    have hc := Chn.snoc (o := { o with k := 10 }) hb.w3 h.qch hqnd hwq
    by_cases hz : S.t.first = 0
    · rw [if_pos (Classical.byContradiction fun hq => hfirst hq hz)] at hc
      rw [if_pos hz]; exact hc
    · rw [if_neg (h.qch.first hz)] at hc
      rw [if_neg hz]; exact hc
  · intro y hy
    have hy' : (S.qu ++ [{ o with k := 10 }]).getLast? = some y := hy
    rw [List.getLast?_append] at hy'
    simp at hy'
    subst hy'; rfl
  · intro x hx
    have hx' : x ∈ pre ++ td' := hx
    rcases List.mem_append.1 hx' with h1 | h1
    · exact ⟨bO_ne (h.rin x (hprw x h1)).1 (hpreo x h1), (h.rin x (hprw x h1)).2⟩
    · exact ⟨bO_ne (h.rin x (htrw x h1)).1 (htdo x h1), (h.rin x (htrw x h1)).2⟩
  · intro x hx
    have hx' : x ∈ S.qu ++ [{ o with k := 10 }] := hx
    rcases List.mem_append.1 hx' with h1 | h1
    · exact ⟨bO_ne (h.qin x h1).1 (hqo x h1), (h.qin x h1).2⟩
    · rw [List.mem_singleton.1 h1]
      exact ⟨bO_self hoo, rfl, ho4⟩
  · have := h.rnd
    rw [w1] at this
    exact this.sublist (List.Sublist.append_left (List.sublist_cons_self ..) _)
  · show (S.qu ++ [({ o with k := 10 } : Ob)]).Nodup
    rw [List.nodup_append]
    refine ⟨h.qnd, by simp, fun x hx y hy e => ?_⟩
    rw [List.mem_singleton.1 hy] at e
    exact hqo x hx (by rw [e])
  · intro x hx
    have hx' : x ∈ pre ++ td' := hx
    have hxr : x ∈ S.rw ∧ x.p ≠ o.p := (List.mem_append.1 hx').elim (fun h1 => ⟨hprw x h1, hpreo x h1⟩) (fun h1 => ⟨htrw x h1, htdo x h1⟩)
    obtain ⟨kx, h1, h2⟩ := h.key x hxr.1
    obtain ⟨kx', h3, h4, -⟩ := hbany kx h1
    exact ⟨kx', h3, h4.trans (h2.trans (hw0 x hxr.1 hxr.2).symm)⟩
  · intro _ x hx hn kx hkx ek
    have hx' : x ∈ pre ++ td' := hx
    have hxp : x ∈ pre := (List.mem_append.1 hx').resolve_right hn
    obtain ⟨y, hy, e1, e2, -⟩ := bO_cases hkx
    have hw := hw0 x (hprw x hxp) (hpreo x hxp)
    have hxt : x ∉ S.td := by
      rw [htd]
      intro hc
      rcases List.mem_cons.1 hc with e | e
      · exact hpreo x hxp (by rw [e])
      · exact hn e
    have := h.rm hp x (hprw x hxp) hxt y hy (e1.symm.trans (ek.trans hw))
    exact this.at e1 e2
  · intro x hx
    refine .inl ?_
    have res : ∀ y, y ∈ S.rw ∨ y ∈ S.qu → Mkd S.A y := fun y hy => (h.rmk y hy).resolve_right (fun k => n12 k.1)
    rcases hx with h1 | h1
    · have hx' : x ∈ pre ++ td' := h1
      exact res x (.inl ((List.mem_append.1 hx').elim (hprw x) (htrw x)))
    · have hx' : x ∈ S.qu ++ [{ o with k := 10 }] := h1
      rcases List.mem_append.1 hx' with h2 | h2
      · exact res x (.inr h2)
      · rw [List.mem_singleton.1 h2]; exact hmko.at rfl rfl
  · show Chn s' (S.s.wd o 3) td'
    exact w2.2.congr hwt
  · exact w3
  · show X.row0 = (S.dn ++ [o]) ++ td'
    rw [hrow, htd, List.append_assoc]; rfl
  · show pre ++ td' = X.pre ++ ((S.dn ++ [o]).filter (fun x => !(dec x || (x.p == o.p))) ++ td')
    rw [List.filter_append, f1, hprec]
    simp
  · show S.bl ++ [o.a] = X.bl0 ++ ((S.dn ++ [o]).filter (fun x => dec x || (x.p == o.p))).map Ob.a
    rw [List.filter_append, f2, d2]
    simp
  · intro hT x hx
    have hx' : x ∈ S.dn ++ [o] := hx
    rcases List.mem_append.1 hx' with h1 | h1
    · simpa [hne x h1] using d3 hT x h1
    · rw [List.mem_singleton.1 h1]
      have e0 := h.tdk hT o (by rw [htd]; exact List.mem_cons_self ..)
      simp only [beq_self_eq_true, Bool.or_true, true_iff]
      rw [← e0, ← hk]
      intro hS
      rcases h.tight hT ko hko hS with h2 | h2
      · exact hm h2
      · obtain ⟨y, h3, h4, h5⟩ := h.fin (by omega) (by omega) _ h2
        rw [hone y h3 ko hko h4] at h5
        exact hm h5
  · intro _ he
    exfalso
    have he' : (S.dn ++ [o]).filter (fun x => dec x || (x.p == o.p)) = [] := he
    rw [List.filter_append] at he'
    have := (List.append_eq_nil_iff.1 he').2
    simp at this
  · intro hT x hx
    show s'.wd x 0 = _
    rw [hw0 x (htrw x hx) (htdo x hx)]
    exact h.tdk hT x (by rw [htd]; exact List.mem_cons_of_mem _ hx)
  · intro x hx
    obtain ⟨k1, x', h1, h2, h3, h4, h5, h6⟩ := h.keep x hx
    refine ⟨k1, x', bO_ne h1 (fun e => ?_), h2, h3, h4, h5, h6⟩
    rw [hone x' h1 o hoo e] at h3
    omega
  · show c'.cyc = _
    rw [ec2, h.cyc]
    simp only [ec1]
  · have := h.blen
    rw [w1, List.length_append, List.length_cons] at this
    show (S.bl ++ [o.a]).length + (pre ++ td').length ≤ 10000
    rw [List.length_append, List.length_singleton, List.length_append]
    omega
def mkO (A : Rg) (obs : List Ob) : List Ob := obs.filter fun o => decide (o.p ∈ (A o.q).G ∨ o.p ∈ (A o.q).B)
theorem mem_mkO {A : Rg} {obs : List Ob} {o : Ob} : o ∈ mkO A obs ↔ o ∈ obs ∧ Mkd A o := by
  unfold mkO Mkd
  rw [List.mem_filter]
  simp
theorem mkd_ended {A : Rg} (hno : NoG A) {o : Ob} : Mkd A.ended o ↔ Mkd A o := by
  unfold Mkd Rg.ended
  rw [hno o.q]
theorem CQ.next3 {gl : List Int} {g : MG} {X : CX} {S : CY} (h : CQ gl g X S) (hp : S.c.ph = 3) (ht : S.td = []) {s' : HS} (hi : HI s' S.A.ended S.z) (hw : s'.ws = S.s.ws) (hc : s'.cls = S.s.cls) (he : s'.edge = S.s.edge) (hx : s'.x = S.s.x) (hpa : s'.parity = S.s.parity) :
    CQ gl g X { S with s := s', A := S.A.ended, obs := mkO S.A S.obs, c := { S.c with ph := 4 } } := by
  have hno := h.nog hp
  have hwd : ∀ (o : Ob) (j : Nat), s'.wd o j = S.s.wd o j := fun o j => by unfold HS.wd; rw [hw]
  have hall : ∀ q x, x ∈ (S.A q).all → x ∈ (S.A.ended q).all := by
    intro q x hx
    simp only [Rg.ended, Rows.all, List.mem_append, List.not_mem_nil, false_or] at hx ⊢
    rcases hx with h1 | h1 | h1 | h1
    · exact .inl (.inl h1)
    · exact .inl (.inr h1)
    · rw [hno q] at h1; cases h1
    · exact .inr h1
  have hmk : ∀ o, Mkd S.A.ended o ↔ Mkd S.A o := fun o => mkd_ended hno
  have hrw : ∀ o, o ∈ S.rw ∨ o ∈ S.qu → Mkd S.A o := fun o ho => (h.rmk o ho).resolve_right (fun k => by have := k.1; omega)
  have hone : ∀ x ∈ S.obs, ∀ y ∈ S.obs, x.p = y.p → x = y := fun x hx y hy e => h.mh.one hx hy e
  have mh' : MH s' S.A.ended S.z (mkO S.A S.obs) := by
    refine ⟨hi, by rw [hpa]; exact h.mh.par, ?_, ?_, ?_⟩
    · intro o ho
      obtain ⟨h1, h2⟩ := mem_mkO.1 ho
      rcases h.mh.inn o h1 with ⟨h3, -⟩ | ⟨-, h4⟩
      · exfalso
        have := rows_fm h.mh.hi h3
        exact h2.elim this.1 this.2
      · refine .inr ⟨(hmk o).2 h2, ?_⟩
        rw [hpa]
        exact (h4.rows hw hc (fun x hx => hall _ x hx)).1
    · intro q c hcc
      have hB : c ∈ (S.A q).B := by
        rcases hcc with h1 | h1 | h1
        · cases h1
        · cases h1
        · exact h1
      obtain ⟨o, h1, h2, h3⟩ := h.mh.rows q c (.inr (.inr hB))
      exact ⟨o, mem_mkO.2 ⟨h1, .inr (by rw [h2, h3]; exact hB)⟩, h2, h3⟩
    · exact h.mh.nd.sublist (List.Sublist.map _ (List.filter_sublist))
  obtain ⟨dec, d1, d2, d3, d4⟩ := h.hist
  refine ⟨show 4 ≤ 4 by decide, mh', ⟨?_, ?_⟩, ?_, fun hx => absurd rfl hx, ?_, fun hx => absurd hx (by simp), fun _ => h.a0 (by omega), h.nx0, ?_, fun hx => absurd hx (by simp), fun hx => absurd hx (by simp), fun hx => absurd hx (by simp), fun hx => absurd hx (by simp), ?_, ?_, ?_, ?_, ?_, h.last, ?_, ?_, h.rnd, h.qnd, ?_, fun hx => absurd hx (by simp), ?_, fun hx => absurd hx (by simp), h.row, fun _ => ht, fun hx => absurd hx (by simp), ⟨dec, d1, d2, d3, ?_⟩, ?_, ?_, ?_, h.blen⟩
  · have := h.xok.1; show s'.x.first = s'.edge; rw [hx, he]; exact this
  · have := h.xok.2; show s'.x.first + s'.x.places = s'.ws.length; rw [hx, hw]; exact this
  · intro c hcc
    have hcc' : c ∈ (S.A none).W ++ (S.A none).F := hcc
    rw [h.wn (by omega), List.nil_append] at hcc'
    obtain ⟨o, h1, h2, h3⟩ := h.mh.rows none c (.inl hcc')
    rcases h.mh.inn o h1 with ⟨-, h4⟩ | ⟨h4, -⟩
    · have hr := h4.room
      have hh := h4.head
      simp only [Ob.wm, h2, h3, ln] at hr hh
      exact ⟨o.k, o.n, o.a, 1 - S.s.parity, by show gw s'.ws c = _; rw [hw]; exact hh, h4.hd, hr⟩
    · exfalso
      have := rows_fm h.mh.hi hcc'
      subst h3
      rw [← h2] at this
      exact h4.elim this.1 this.2
  · intro o ho hm
    exact h.mS o (mem_mkO.1 ho).1 ((hmk o).1 hm)
  · intro _ q
    exact ⟨rfl, rfl⟩
  · intro h1 h2 x hx
    obtain ⟨o, h3, h4, h5⟩ := h.fin (by omega) (by omega) x hx
    exact ⟨o, mem_mkO.2 ⟨h3, h5⟩, h4, (hmk o).2 h5⟩
  · intro hT o ho hS
    exact .inl ((hmk o).2 (mem_mkO.1 ho).2)
  · intro hx o ho hS j hj
    have hT : X.T := by
      rcases hx with hx | hx
      · exact absurd hx (by simp)
      · exact hx.2
    rw [show ({ S with s := s', A := S.A.ended, obs := mkO S.A S.obs, c := { S.c with ph := 4 } } : CY).s.wd o j = S.s.wd o j from hwd o j]
    rcases h.cl (.inl hp) o (mem_mkO.1 ho).1 hS j hj with h1 | ⟨o', h1, h2, h3⟩
    · exact .inl h1
    · refine .inr ⟨o', mem_mkO.2 ⟨h1, ?_⟩, h2, h3⟩
      rcases h.tight hT o' h1 h3 with h4 | h4
      · exact h4
      · obtain ⟨y, h5, h6, h7⟩ := h.fin (by omega) (by omega) _ h4
        rw [hone y h5 o' h1 h6] at h7
        exact h7
  · exact h.rch.congr fun o _ => hwd o 3
  · exact h.qch.congr fun o _ => hwd o 3
  · intro o ho
    exact ⟨mem_mkO.2 ⟨(h.rin o ho).1, hrw o (.inl ho)⟩, (h.rin o ho).2⟩
  · intro o ho
    exact ⟨mem_mkO.2 ⟨(h.qin o ho).1, hrw o (.inr ho)⟩, (h.qin o ho).2⟩
  · intro o ho
    obtain ⟨ko, h1, h2⟩ := h.key o ho
    have hkm := h.rm hp o ho (by rw [ht]; exact List.not_mem_nil) ko h1 h2
    exact ⟨ko, mem_mkO.2 ⟨h1, hkm⟩, h2.trans (hwd o 0).symm⟩
  · intro o ho
    exact .inl ((hmk o).2 (hrw o ho))
  · intro hT hn
    obtain ⟨g1, g2⟩ := d4 hT hn
    exact ⟨fun o ho j hj => (hwd o j).trans (g1 o (mem_mkO.1 ho).1 j hj), g2⟩
  · intro hT o ho
    exact (hwd o 0).trans (h.tdk hT o ho)
  · intro o ho
    obtain ⟨k1, o', h1, h2, h3, h4, h5, h6⟩ := h.keep o ho
    exact ⟨k1, o', mem_mkO.2 ⟨h1, h6⟩, h2, h3, h4, h5, (hmk o').2 h6⟩
  · have := h.cyc
    rw [hp] at this
    exact this
theorem CQ.sweep {gl : List Int} {g : MG} {X : CX} {S : CY} (h : CQ gl g X S) (hp : S.c.ph = 4) {c : Int} {Wt : List Int} (hW : (S.A none).W = c :: Wt) {n : Int} (hn : 1 ≤ n) (hnz : n ≤ S.z c) (u' : Int) (L' : HL) :
    CQ gl g X { S with L := L', s := S.s.swept c n u', A := S.A.up none ⟨Wt, (S.A none).F, (S.A none).G, (S.A none).B⟩ } := by
  obtain ⟨g1, -, g3⟩ := h.mh.hi.swept hW hn hnz u'
  have hno := h.black (.inl hp)
  have hnd := (rowsNd (h.mh.hi.allNd none)).1.1
  rw [hW] at hnd
  have hcW : c ∉ Wt := (List.nodup_cons.1 hnd).1
  have hrow : ∀ q, ((S.A.up none ⟨Wt, (S.A none).F, (S.A none).G, (S.A none).B⟩) q).F = (S.A q).F ∧ ((S.A.up none ⟨Wt, (S.A none).F, (S.A none).G, (S.A none).B⟩) q).G = (S.A q).G ∧ ((S.A.up none ⟨Wt, (S.A none).F, (S.A none).G, (S.A none).B⟩) q).B = (S.A q).B := by
    intro q
    by_cases e : q = none
    · subst e; rw [Rg.up_same]; exact ⟨rfl, rfl, rfl⟩
    · rw [Rg.up_ne _ e]; exact ⟨rfl, rfl, rfl⟩
  have hmk : ∀ o, Mkd (S.A.up none ⟨Wt, (S.A none).F, (S.A none).G, (S.A none).B⟩) o ↔ Mkd S.A o := by
    intro o
    unfold Mkd
    rw [(hrow o.q).2.1, (hrow o.q).2.2]
  have hin : ∀ o ∈ S.obs, ∀ m, (o.wm m).In S.s S.A S.z → (o.wm m).In (S.s.swept c n u') (S.A.up none ⟨Wt, (S.A none).F, (S.A none).G, (S.A none).B⟩) S.z ∧ ∀ i, i < o.n → (S.s.swept c n u').wd o i = S.s.wd o i := by
    intro o ho m hm
    have hh := h.mh.hi.holds (s' := { S.s with ws := ct S.s.ws c }) (z := S.z) g3 hm.mem (h.mh.hi.linksApart (q := none) hm.mem)
    refine ⟨hm.of ?_ rfl hh.head rfl, fun i hi => ?_⟩
    · rw [mem_rows, (hrow _).1, (hrow _).2.1, (hrow _).2.2]
      rcases h.mh.inn o ho with ⟨h1, -⟩ | ⟨h1, -⟩
      · exact .inr (.inl h1)
      · exact .inr (.inr h1)
    · exact wd_holds hm (s' := { S.s with ws := ct S.s.ws c }) hh hi
  have hwd : ∀ o ∈ S.obs, ∀ i, i < o.n → (S.s.swept c n u').wd o i = S.s.wd o i := by
    intro o ho
    obtain ⟨m, hm⟩ := h.mh.any ho
    exact (hin o ho m hm).2
  obtain ⟨dec, d1, d2, d3, d4⟩ := h.hist
  have htd := h.tdE (.inl hp)
  refine ⟨h.ph, ⟨g1, h.mh.par, ?_, ?_, h.mh.nd⟩, ⟨h.xok.1, ?_⟩, ?_, fun hx => absurd hp hx, fun o ho hm => h.mS o ho ((hmk o).1 hm), fun hx => absurd hx (by show ¬ (S.c.ph = 1 ∨ S.c.ph = 2); omega), h.a0, h.nx0, ?_, fun hx => absurd hx (by show ¬ (S.c.ph = 3); omega), fun hx => absurd hx (by show ¬ (S.c.ph = 1 ∨ S.c.ph = 2); omega), fun hx => absurd hx (by show ¬ (S.c.ph = 1); omega), fun hx => absurd hx (by show ¬ (S.c.ph = 1 ∨ S.c.ph = 2); omega),
    ?_, ?_, ?_, ?_, ?_, h.last, h.rin, h.qin, h.rnd, h.qnd, ?_, fun hx => absurd hx (by show ¬ (S.c.ph = 3); omega), ?_, fun hx => absurd hx (by show ¬ (S.c.ph = 3); omega), h.row, h.tdE, h.dnE, ⟨dec, d1, d2, d3, ?_⟩, ?_, ?_, h.cyc, h.blen⟩
  · intro o ho
    rcases h.mh.inn o ho with ⟨h1, h2⟩ | ⟨h1, h2⟩
    · exact .inl ⟨by show o.p ∈ _; rw [(hrow o.q).1]; exact h1, (hin o ho _ h2).1⟩
    · exact .inr ⟨(hmk o).2 h1, (hin o ho _ h2).1⟩
  · intro q c2 hc2
    rw [(hrow q).1, (hrow q).2.1, (hrow q).2.2] at hc2
    exact h.mh.rows q c2 hc2
  · have := h.xok.2
    show S.s.x.first + S.s.x.places = (ct S.s.ws c).length
    rw [ct_len]; exact this
  · intro c2 hc2
    have hc2' : c2 ∈ Wt := by
      have : c2 ∈ ((S.A.up none ⟨Wt, (S.A none).F, (S.A none).G, (S.A none).B⟩) none).W := hc2
      rw [Rg.up_same] at this; exact this
    have hm2 : c2 ∈ (S.A none).W := by rw [hW]; exact List.mem_cons_of_mem _ hc2'
    obtain ⟨k, m, a, mk, h1, h2, h3⟩ := h.wh c2 hm2
    have hall : c2 ∈ (S.A none).all := mem_rows.2 (.inl hm2)
    have hh := h.mh.hi.holds (s' := { S.s with ws := ct S.s.ws c }) (z := S.z) g3 hall (h.mh.hi.linksApart (q := none) hall)
    exact ⟨k, m, a, mk, hh.head.trans h1, h2, h3⟩
  · intro _ q
    rw [(hrow q).1, (hrow q).2.1]
    exact hno q
  · intro h1 h2 x hx
    obtain ⟨o, h3, h4, h5⟩ := h.fin h1 h2 x hx
    exact ⟨o, h3, h4, (hmk o).2 h5⟩
  · intro hT o ho hS
    exact (h.tight hT o ho hS).imp (hmk o).2 id
  · intro hx o ho hS j hj
    rw [show ({ S with L := L', s := S.s.swept c n u', A := S.A.up none ⟨Wt, (S.A none).F, (S.A none).G, (S.A none).B⟩ } : CY).s.wd o j = S.s.wd o j from hwd o ho j hj.lt]
    exact h.cl hx o ho hS j hj
  · exact h.rch.congr fun o ho => hwd o (h.rin o ho).1 3 (by rw [(h.rin o ho).2.2]; decide)
  · exact h.qch.congr fun o ho => hwd o (h.qin o ho).1 3 (by rw [(h.qin o ho).2.2]; decide)
  · intro o ho
    obtain ⟨ko, h1, h2⟩ := h.key o ho
    exact ⟨ko, h1, h2.trans (hwd o (h.rin o ho).1 0 (by rw [(h.rin o ho).2.2]; decide)).symm⟩
  · intro o ho
    exact (h.rmk o ho).imp (hmk o).2 id
  · intro hT hn
    obtain ⟨e1, e2⟩ := d4 hT hn
    exact ⟨fun o ho j hj => (hwd o ho j hj).trans (e1 o ho j hj), e2⟩
  · intro hT o ho
    rw [show ({ S with L := L', s := S.s.swept c n u', A := S.A.up none ⟨Wt, (S.A none).F, (S.A none).G, (S.A none).B⟩ } : CY).td = [] from htd] at ho
    cases ho
  · intro o ho
    obtain ⟨k1, o', h1, h2, h3, h4, h5, h6⟩ := h.keep o ho
    exact ⟨k1, o', h1, h2, h3, h4, h5, (hmk o').2 h6⟩
theorem alc_rows {s s' : HS} {A A' : Rg} {z z' : Int → Int} {q : Option Nat} {p word : Int} {n : Nat} (h : Alc s s' A A' z z' q p word n) : (∀ q', (A' q').F = (A q').F ∧ (A' q').G = (A q').G) ∧ (∀ c, c ∈ (A' none).W → c ∈ (A none).W ∧ (q ≠ none ∨ c ≠ p)) ∧ (∀ q' c, c ∈ (A' q').B → c ∈ (A q').B ∨ (q' = q ∧ c = p)) ∧ (A' q).B = (A q).B ++ [p] ∧ (∀ q', q' ≠ q → (A' q').B = (A q').B) := by
  obtain ⟨W', hA', hrow⟩ := h.row
  subst hA'
  refine ⟨fun q' => ?_, fun c hc => ?_, fun q' c hc => ?_, by rw [Rg.up_same], fun q' e => by rw [Rg.up_ne A e]⟩
  · by_cases e : q' = q
    · subst e; rw [Rg.up_same]; exact ⟨rfl, rfl⟩
    · rw [Rg.up_ne A e]; exact ⟨rfl, rfl⟩
  · by_cases e : none = q
    · subst e
      rw [Rg.up_same] at hc
      have hc' : c ∈ W' := hc
      rcases hrow with h1 | ⟨h1, h2, -⟩
      · refine ⟨by rw [h1]; exact List.mem_cons_of_mem _ hc', .inr ?_⟩
        rintro rfl
        have hn := h.hi.allNd none
        have hm : c ∈ ((A.up none ⟨W', (A none).F, (A none).G, (A none).B ++ [c]⟩) none).W := by rw [Rg.up_same]; exact hc'
        have := ((rowsNd hn).2.1 c hm).2.2
        rw [Rg.up_same] at this
        exact this (by simp)
      · refine ⟨by rw [h1]; exact hc', .inr ?_⟩
        rintro rfl
        exact h2 (mem_rows.2 (.inl (by rw [h1]; exact hc')))
    · rw [Rg.up_ne A e] at hc
      exact ⟨hc, .inl fun e2 => e e2.symm⟩
  · by_cases e : q' = q
    · subst e
      rw [Rg.up_same] at hc
      have hc' : c ∈ (A q').B ++ [p] := hc
      rcases List.mem_append.1 hc' with h1 | h1
      · exact .inl h1
      · exact .inr ⟨rfl, List.mem_singleton.1 h1⟩
    · rw [Rg.up_ne A e] at hc
      exact .inl hc
theorem how_xok {s s' : HS} {A A' : Rg} {z z' : Int → Int} {q : Option Nat} {p word : Int} {n : Nat} (hA : Alc s s' A A' z z' q p word n) (hh : How s s' A z z' q p n) (hx : XOk s) : XOk s' := by
  unfold XOk at *
  rw [hA.edge, hA.len]
  rcases hh with ⟨_, _, _, _, _, e, _⟩ | ⟨_, _, _, _, _, _, _, _, e, _⟩ | ⟨_, _, _, _, _, _, _, e, _⟩
  · rw [e]; exact hx
  · rw [e]; exact hx
  · rw [e]; exact hx
theorem CQ.alloc {gl : List Int} {g : MG} {X : CX} {S : CY} (h : CQ gl g X S) (hX : CXK g X) (hS : ∀ x, g.S x) (hT : ¬ X.T) (hW0 : ∀ o ∈ X.ob0, ∀ j, j < o.n → g.W0 o.p j = 0 ∨ ∃ o' ∈ X.ob0, o'.p = g.W0 o.p j)
    {s' : HS} {A' : Rg} {z' : Int → Int} {q : Option Nat} {p k a : Int} {n : Nat} (hd : Hd k n a S.s.parity) (hk : k ≠ 9) (hA : Alc S.s s' S.A A' S.z z' q p (packed k n a S.s.parity) n) (hh : How S.s s' S.A S.z z' q p n) :
    CQ gl g { X with K := X.K ++ [⟨q, p, k, n, a, 0⟩] } { S with s := s', A := A', z := z', obs := S.obs ++ [⟨q, p, k, n, a, 0⟩] } := by
  obtain ⟨m1, hne, hw, hw0, hmk, hB, hpB, hp1⟩ := h.mh.alloc hd hA 0
  obtain ⟨r1, r2, r3, -⟩ := alc_rows hA
  have hnew : Mkd A' ⟨q, p, k, n, a, 0⟩ := .inr hpB
  obtain ⟨dec, d1, d2, d3, d4⟩ := h.hist
  have happ : ∀ o ∈ S.obs, o ∈ S.obs ++ [⟨q, p, k, n, a, 0⟩] := fun o ho => List.mem_append_left _ ho
  refine ⟨h.ph, m1, how_xok hA hh h.xok, ?_, ?_, fun o _ _ => hS _, ?_, h.a0, h.nx0, ?_, ?_, ?_, ?_, ?_, ?_, fun hc => absurd hc hT, ?_, ?_, ?_, h.last, ?_, ?_, h.rnd, h.qnd, ?_, ?_, ?_, ?_, h.row, h.tdE, h.dnE, ⟨dec, d1, d2, d3, fun hc => absurd hc hT⟩, fun hc => absurd hc hT, ?_, h.cyc, h.blen⟩
  · intro c hc
    obtain ⟨h1, h2⟩ := r2 c hc
    obtain ⟨k1, n1, a1, mk1, e1, e2, e3⟩ := h.wh c h1
    have hall : c ∈ (S.A none).all := mem_rows.2 (.inl h1)
    have hh2 := hA.holds none c hall (h2.imp (fun e e2 => e e2.symm) id)
    refine ⟨k1, n1, a1, mk1, hh2.head.trans e1, e2, ?_⟩
    have := hA.lns none c hall
    simp only [ln] at this
    show (n1 : Int) + 3 ≤ z' c
    rw [this]; exact e3
  · intro hne4
    have hW := h.wn hne4
    apply List.eq_nil_iff_forall_not_mem.2
    intro c hc
    have := (r2 c hc).1
    rw [hW] at this
    cases this
  · intro hp
    have hi := h.mi hp
    have hsub := h.sub hp
    refine (hi.alloc hd hA 0 hS (fun x hx => ?_) (fun o ho hR i hl => ?_)).1
    · obtain ⟨o, h1, h2, -⟩ := hX.r1 x hx
      exact ⟨o, hsub o h1, h2⟩
    · obtain ⟨o2, h1, h2, -⟩ := hX.r1 _ hR
      have := h.mh.one (hsub o2 h1) ho h2
      subst this
      rcases hW0 o2 h1 i hl.lt with h3 | ⟨o', h3, h4⟩
      · exact .inl h3
      · exact .inr ⟨o', hsub o' h3, h4⟩
  · intro hp q'
    have h1 := h.black hp q'
    have h2 := r1 q'
    exact ⟨h2.1.trans h1.1, h2.2.trans h1.2⟩
  · intro hp q'
    exact (r1 q').2.trans (h.nog hp q')
  · intro hp x hx o ho e
    rcases List.mem_append.1 ho with h1 | h1
    · exact (h.roots hp x hx o h1 e).imp (hmk o h1).2 id
    · rw [List.mem_singleton.1 h1]; exact .inl hnew
  · intro hp x hx
    rcases h.left hp x hx with h1 | ⟨o, h1, h2⟩
    · exact .inl h1
    · exact .inr ⟨o, happ o h1, h2⟩
  · intro hp o ho
    exact happ o (h.sub hp o ho)
  · intro h1 h2 x hx
    obtain ⟨o, h3, h4, h5⟩ := h.fin h1 h2 x hx
    exact ⟨o, happ o h3, h4, (hmk o h3).2 h5⟩
  · intro hp o ho _ j hj
    rcases List.mem_append.1 ho with h1 | h1
    · rw [show ({ S with s := s', A := A', z := z', obs := S.obs ++ [⟨q, p, k, n, a, 0⟩] } : CY).s.wd o j = S.s.wd o j from hw o h1 j hj.lt]
      rcases h.cl (hp.imp id id) o h1 (hS _) j hj with h2 | ⟨o', h2, h3⟩
      · exact .inl h2
      · exact .inr ⟨o', happ o' h2, h3⟩
    · rw [List.mem_singleton.1 h1] at hj ⊢
      exact .inl (hw0 j hj.lt)
  · exact h.rch.congr fun o ho => hw o (h.rin o ho).1 3 (by rw [(h.rin o ho).2.2]; decide)
  · exact h.qch.congr fun o ho => hw o (h.qin o ho).1 3 (by rw [(h.qin o ho).2.2]; decide)
  · intro o ho
    exact ⟨happ o (h.rin o ho).1, (h.rin o ho).2⟩
  · intro o ho
    exact ⟨happ o (h.qin o ho).1, (h.qin o ho).2⟩
  · intro o ho
    obtain ⟨ko, h1, h2⟩ := h.key o ho
    exact ⟨ko, happ ko h1, h2.trans (hw o (h.rin o ho).1 0 (by rw [(h.rin o ho).2.2]; decide)).symm⟩
  · intro hp o ho hn ko hko e
    rcases List.mem_append.1 hko with h1 | h1
    · exact (hmk ko h1).2 (h.rm hp o ho hn ko h1 (e.trans (hw o (h.rin o ho).1 0 (by rw [(h.rin o ho).2.2]; decide))))
    · rw [List.mem_singleton.1 h1]; exact hnew
  · intro o ho
    have hoo : o ∈ S.obs := ho.elim (fun k => (h.rin o k).1) (fun k => (h.qin o k).1)
    exact (h.rmk o ho).imp (hmk o hoo).2 id
  · intro hp
    obtain ⟨pre, w1, w2, w3⟩ := h.walk hp
    exact ⟨pre, w1, w2.congr fun o ho => hw o (h.rin o (h.tdin o ho)).1 3 (by rw [(h.rin o (h.tdin o ho)).2.2]; decide), w3⟩
  · intro o ho
    have ho' : o ∈ X.K ++ [⟨q, p, k, n, a, 0⟩] := ho
    rcases List.mem_append.1 ho' with h1 | h1
    · obtain ⟨k1, o', h2, h3, h4, h5, h6, h7⟩ := h.keep o h1
      exact ⟨k1, o', happ o' h2, h3, h4, h5, h6, (hmk o' h2).2 h7⟩
    · rw [List.mem_singleton.1 h1]
      exact ⟨hk, _, List.mem_append_right _ (List.mem_singleton.2 rfl), rfl, rfl, rfl, rfl, hnew⟩
structure CI (S : CY) : Prop where
  ph : S.c.ph = 0
  mh : MH S.s S.A S.z S.obs
  xok : XOk S.s
  wn : (S.A none).W = []
  black : NoFG S.A
  a0 : S.a = 0
  nx0 : S.nx = 0
  cl : ∀ o ∈ S.obs, ∀ j, Lk o j → S.s.wd o j = 0 ∨ ∃ o' ∈ S.obs, o'.p = S.s.wd o j
  rch : Chn S.s S.t.row S.rw
  qch : Chn S.s S.t.first S.qu
  last : ∀ o, S.qu.getLast? = some o → S.t.last = o.p
  rin : ∀ o ∈ S.rw, o ∈ S.obs ∧ o.k = 9 ∧ o.n = 4
  qin : ∀ o ∈ S.qu, o ∈ S.obs ∧ o.k = 10 ∧ o.n = 4
  rnd : S.rw.Nodup
  qnd : S.qu.Nodup
  key : ∀ o ∈ S.rw, ∃ ko ∈ S.obs, ko.p = S.s.wd o 0
  blen : S.bl.length + S.rw.length ≤ 10000
theorem CI.inB {S : CY} (h : CI S) : ∀ o ∈ S.obs, o.p ∈ (S.A o.q).B ∧ (o.wm S.s.parity).In S.s S.A S.z := by
  intro o ho
  rcases h.mh.inn o ho with ⟨h1, -⟩ | ⟨h1, h2⟩
  · rw [(h.black o.q).1] at h1; cases h1
  · rcases h1 with h1 | h1
    · rw [(h.black o.q).2] at h1; cases h1
    · exact ⟨h1, h2⟩
theorem CQ.rest {gl : List Int} {g : MG} {X : CX} {S : CY} (h : CQ gl g X S) (hT : X.T) (hp : S.c.ph = 0) : CI S := by
  have hinB : ∀ o ∈ S.obs, Mkd S.A o := by
    intro o ho
    rcases h.mh.inn o ho with ⟨h1, -⟩ | ⟨h1, -⟩
    · rw [(h.black (.inr hp) o.q).1] at h1; cases h1
    · exact h1
  refine ⟨hp, h.mh, h.xok, h.wn (by omega), h.black (.inr hp), h.a0 (by omega), h.nx0 (h.a0 (by omega)), ?_, h.rch, h.qch, h.last, h.rin, h.qin, h.rnd, h.qnd, h.key, h.blen⟩
  · intro o ho j hj
    rcases h.cl (.inr ⟨.inr hp, hT⟩) o ho (h.mS o ho (hinB o ho)) j hj with h1 | ⟨o', h1, h2, -⟩
    · exact .inl h1
    · exact .inr ⟨o', h1, h2⟩
theorem Chn.reach {s : HS} {obs : List Ob} {fr : List Int} (hone : ∀ o ∈ obs, o.p ≠ 0) : ∀ {l : List Ob} {p : Int}, Chn s p l → (∀ o ∈ l, o ∈ obs ∧ (o.k = 9 ∨ o.k = 10) ∧ o.n = 4) → (p ≠ 0 → Rch obs (W0of s) fr p) → ∀ o ∈ l, Rch obs (W0of s) fr o.p
  | [], _, _, _, _ => fun o ho => by cases ho
  | x :: r, p, h, hin, hp => by
    obtain ⟨h1, h2⟩ := h
    obtain ⟨i1, i2, i3⟩ := hin x (List.mem_cons_self ..)
    have hx : Rch obs (W0of s) fr x.p := h1 ▸ hp (h1 ▸ hone x i1)
    intro o ho
    rcases List.mem_cons.1 ho with rfl | ho
    · exact hx
    · refine Chn.reach hone h2 (fun o ho => hin o (List.mem_cons_of_mem _ ho)) (fun hn => ?_) o ho
      cases r with
      | nil => exact absurd h2 hn
      | cons y r' =>
        have hy := hin y (List.mem_cons_of_mem _ (List.mem_cons_self ..))
        rw [h2.1]
        refine .step x y 3 hx i1 ?_ hy.1 h2.1.symm
        rcases i2 with e | e <;> simp [Lk, Ob.f, Ob.t, lkF, lkT, e, i3]
theorem CQ.start {gl : List Int} {S : CY} (h : CI S) (T : Prop) (regs : List Int) (g : MG) (hR : g.R = Rch S.obs (W0of S.s) (nz (gl ++ (regs ++ [S.t.row, S.t.first]) ++ scanW S.k.fs S.k.fs.length))) (hW : g.W0 = W0of S.s)
    (hrt : ∀ x ∈ gl ++ (regs ++ [S.t.row, S.t.first]) ++ scanW S.k.fs S.k.fs.length, x = 0 ∨ ∃ o ∈ S.obs, o.p = x ∧ g.S o.p) (hTS : T → ∀ o ∈ S.obs, g.S o.p → g.R o.p) {s0 s' : HS} {A' : Rg} {U : Nat} (hws : s0.ws = S.s.ws) (hed : s0.edge = S.s.edge) (hxx : s0.x = S.s.x)
    (hi : MI s' A' S.z S.obs g 0 0 U) (hst : MSt s0 s' S.A.begun A' S.obs) (hmk : ∀ x ∈ regs ++ [S.t.row, S.t.first], ∀ o ∈ S.obs, o.p = x → Mkd A' o) (fv' : Value) :
    CXK g ⟨T, nz (gl ++ (regs ++ [S.t.row, S.t.first]) ++ scanW S.k.fs S.k.fs.length), [], S.obs, S.rw, [], S.bl, S.t.row, S.t.first, S.qu, S.c.cyc, S.k.fs, S.c.rv, S.s.cls, none⟩ ∧
    CQ gl g ⟨T, nz (gl ++ (regs ++ [S.t.row, S.t.first]) ++ scanW S.k.fs S.k.fs.length), [], S.obs, S.rw, [], S.bl, S.t.row, S.t.first, S.qu, S.c.cyc, S.k.fs, S.c.rv, S.s.cls, none⟩
      { S with s := s', A := A', U := U, c := { S.c with ph := 1, at' := 0, fv := fv' }, k := { S.k with todo := S.k.fs.length }, fl := [], dn := [], td := S.rw } := by
  have hwd : ∀ o ∈ S.obs, ∀ j, j < o.n → s'.wd o j = S.s.wd o j := fun o ho j hj => (hst.wd o ho j hj).trans (by unfold HS.wd; rw [hws])
  have hone : ∀ o ∈ S.obs, o.p ≠ 0 := fun o ho => by have := ob_pos h.mh ho; omega
  have hr1 : ∀ x, g.R x → ∃ o ∈ S.obs, o.p = x := by
    intro x hx
    rw [hR] at hx
    cases hx with
    | root p hp =>
      unfold nz at hp
      rw [List.mem_filter] at hp
      rcases hrt x hp.1 with h1 | ⟨o, h1, h2, -⟩
      · exact absurd h1 (by simpa using hp.2)
      · exact ⟨o, h1, h2⟩
    | step o o' j _ _ _ ho' e => exact ⟨o', ho', rfl⟩
  have hRR : ∀ o : Ob, g.R o.p = Rch S.obs g.W0 (nz (gl ++ (regs ++ [S.t.row, S.t.first]) ++ scanW S.k.fs S.k.fs.length)) o.p := fun o => by rw [hR, hW]
  have hmem : ∀ x, x ≠ 0 → x ∈ gl ++ (regs ++ [S.t.row, S.t.first]) ++ scanW S.k.fs S.k.fs.length → x ∈ nz (gl ++ (regs ++ [S.t.row, S.t.first]) ++ scanW S.k.fs S.k.fs.length) := by
    intro x hx hm
    unfold nz
    rw [List.mem_filter]
    exact ⟨hm, by simpa using hx⟩
  have hchain : ∀ o, o ∈ S.rw ∨ o ∈ S.qu → g.R o.p := by
    intro o ho
    rw [hR]
    rcases ho with h1 | h1
    · exact Chn.reach hone h.rch (fun o ho => ⟨(h.rin o ho).1, .inl (h.rin o ho).2.1, (h.rin o ho).2.2⟩) (fun hn => .root _ (hmem _ hn (by simp))) o h1
    · exact Chn.reach hone h.qch (fun o ho => ⟨(h.qin o ho).1, .inr (h.qin o ho).2.1, (h.qin o ho).2.2⟩) (fun hn => .root _ (hmem _ hn (by simp))) o h1
  refine ⟨⟨fun x hx => ?_, fun o ho hr => ?_, map_nodup_of h.rnd (fun x hx => (h.rin x hx).1) (fun x hx y hy e => h.mh.one hx hy e)⟩, ?_⟩
  · obtain ⟨o, h1, h2⟩ := hr1 x hx
    refine ⟨o, h1, h2, ?_⟩
    have := hRR o
    rw [h2] at this
    rw [← this]; exact hx
  · rw [hRR o]; exact hr
  have hl0 : (⟨S.L, s', A', S.z, S.obs, S.a, S.nx, U, { S.c with ph := 1, at' := 0, fv := fv' }, S.t, { S.k with todo := S.k.fs.length }, S.P, [], S.bl, S.rw, S.qu, [], S.rw⟩ : CY).left gl = gl ++ scanW S.k.fs S.k.fs.length := by
    unfold CY.left
    simp
  refine ⟨show 1 ≤ 4 by decide, hi.mh, ⟨?_, ?_⟩, ?_, ?_, hi.mS, fun _ => ?_, fun _ => h.a0, fun _ => h.nx0, fun hx => absurd hx (by simp), fun hx => absurd hx (by simp), ?_, ?_, fun _ o ho => ho, fun hx => absurd rfl hx, fun hT o ho hS => .inr (hTS hT o ho hS), fun hx => absurd hx (by simp), ?_, ?_, h.last, h.rin, h.qin, h.rnd, h.qnd, ?_, fun hx => absurd hx (by simp), ?_, fun hx => absurd hx (by simp), rfl, fun hx => absurd hx (by simp), fun _ => ⟨rfl, rfl⟩, ⟨fun _ => false, rfl, (by simp), fun _ o ho => (by cases ho), ?_⟩, ?_, fun o ho => (by cases ho), rfl, h.blen⟩
  · have := h.xok.1; show s'.x.first = s'.edge; rw [hst.sta.x, hst.sta.edge, hxx, hed]; exact this
  · have := h.xok.2; show s'.x.first + s'.x.places = s'.ws.length; rw [hst.sta.x, hst.sta.len, hxx, hws]; exact this
  · intro c hc
    have hc' : c ∈ (A' none).W := hc
    rw [hst.white none] at hc'
    have hc2 : c ∈ (S.A none).W := hc'
    rw [h.wn] at hc2
    cases hc2
  · intro _
    show (A' none).W = []
    rw [hst.white none]
    exact h.wn
  · show MI s' A' S.z S.obs g S.a S.nx U
    rw [h.a0, h.nx0]; exact hi
  · intro _ x hx o ho e
    rw [hl0]
    have hx' : x ∈ nz (gl ++ (regs ++ [S.t.row, S.t.first]) ++ scanW S.k.fs S.k.fs.length) := hx
    unfold nz at hx'
    rw [List.mem_filter] at hx'
    have := hx'.1
    rw [List.mem_append, List.mem_append] at this
    rcases this with (h1 | h1) | h1
    · exact .inr ⟨rfl, List.mem_append_left _ h1⟩
    · exact .inl (hmk x h1 o ho e)
    · exact .inr ⟨rfl, List.mem_append_right _ h1⟩
  · intro _ x hx
    rw [hl0] at hx
    refine hrt x ?_
    rcases List.mem_append.1 hx with h1 | h1
    · exact List.mem_append_left _ (List.mem_append_left _ h1)
    · exact List.mem_append_right _ h1
  · exact h.rch.congr fun o ho => hwd o (h.rin o ho).1 3 (by rw [(h.rin o ho).2.2]; decide)
  · exact h.qch.congr fun o ho => hwd o (h.qin o ho).1 3 (by rw [(h.qin o ho).2.2]; decide)
  · intro o ho
    obtain ⟨ko, h1, h2⟩ := h.key o ho
    exact ⟨ko, h1, h2.trans (hwd o (h.rin o ho).1 0 (by rw [(h.rin o ho).2.2]; decide)).symm⟩
  · intro o ho
    exact .inr ⟨.inl rfl, hchain o ho⟩
  · intro _ _
    refine ⟨fun o ho j hj => ?_, rfl, rfl, rfl⟩
    rw [hW]
    exact hwd o ho j hj
  · intro _ o ho
    rw [hW]
    exact hwd o (h.rin o ho).1 0 (by rw [(h.rin o ho).2.2]; decide)
def CO (E : CE) (S : CY) (b : Nat) : Prop := b = E.kb ∨ b = E.mb ∨ b = E.tb ∨ b = E.sb ∨ b ∈ S.L.fp ∨ S.c.bv.ownBlock = some b
def FB (E : CE) (S : CY) (b : Nat) : Prop := CO E S b ∨ b ∈ S.L.all ∨ S.P b
structure CR (E : CE) (S : CY) (w : World) : Prop where
  hr : HRep w S.L S.s
  m : MBlk w E.mb S.L S.a S.nx
  c : CBlk w E.kb S.L.hb E.mb E.tb S.c
  t : TRep w E.tb S.L.hb E.sh S.t
  k : SkRep w S.P E.sb S.k
  g : RdS w S.P S.c.gv E.gl
  f : RdS w S.P S.c.fv S.fl
  b : Rowi w E.B S.c.bv S.bl
  bB : E.B ≤ w.heap.size
  lv : S.c.lv = .slice (some ⟨E.lb, E.lo, none⟩) 1 E.lc
  lp : S.P E.lb
  ll : E.lb < w.heap.size
  lcell : w.cell? ⟨E.lb, E.lo, none⟩ = some (.pointer (some ⟨E.sb, 0, none⟩))
  hP : ∀ b, S.P b → b < w.heap.size ∧ ¬ CO E S b
  ka : E.kb ∉ S.L.all
  ma : E.mb ∉ S.L.all
  ta : E.tb ∉ S.L.all
  sa : E.sb ∉ S.L.all
  km : E.kb ≠ E.mb
  kt : E.kb ≠ E.tb
  ks : E.kb ≠ E.sb
  mt : E.mb ≠ E.tb
  ms : E.mb ≠ E.sb
  ts : E.tb ≠ E.sb
  bo : ∀ b, S.c.bv.ownBlock = some b → b ≠ E.kb ∧ b ≠ E.mb ∧ b ≠ E.tb ∧ b ≠ E.sb ∧ b ∉ S.L.all
  x0 : S.s.x.places ≠ 0 → ∃ b0, S.L.xlbs = [b0]
  cyc : S.c.cyc ≤ 1000
  todo : S.k.todo ≤ S.k.fs.length
  hb : S.L.hb = E.hb
theorem SkRep.lt {w : World} {P : Nat → Prop} {sb : Nat} {s : Sk} (h : SkRep w P sb s) : sb < w.heap.size := by
  obtain ⟨_, h, _⟩ := h; exact h.lt
theorem FmsV.mono {w : World} {P Q : Nat → Prop} {v : Value} {fs : List Fm} (h : FmsV w P v fs) (hPQ : ∀ b, P b → Q b) : FmsV w Q v fs := by
  obtain ⟨A, c, e, h1, h2, h3⟩ := h
  refine ⟨A, c, e, h1, h2, fun i f hf => ?_⟩
  obtain ⟨g, o, e1, e2, e3, e4, e5, sv, e6, e7⟩ := h3 i f hf
  exact ⟨g, o, e1, hPQ g e2, e3, e4, e5, sv, e6, e7.mono hPQ⟩
theorem SkRep.mono {w : World} {P Q : Nat → Prop} {sb : Nat} {s : Sk} (h : SkRep w P sb s) (hPQ : ∀ b, P b → Q b) : SkRep w Q sb s := by
  obtain ⟨lv, h1, h2⟩ := h
  exact ⟨lv, h1, h2.mono hPQ⟩
theorem CR.ltO {E : CE} {S : CY} {w : World} (h : CR E S w) : ∀ b, CO E S b → b < w.heap.size := by
  rintro b (rfl | rfl | rfl | rfl | hb | hb)
  · exact Blk.lt h.c
  · exact Blk.lt h.m
  · exact Blk.lt h.t
  · exact h.k.lt
  · exact all_lt h.hr (fp_all hb)
  · exact (h.b.lt b hb).2
theorem CR.all_lt {E : CE} {S : CY} {w : World} (h : CR E S w) {b : Nat} (hb : b ∈ S.L.all) : b < w.heap.size := Go.Proofs.YtklnpooninbogaaGreat.all_lt h.hr hb
theorem CR.ltF {E : CE} {S : CY} {w : World} (h : CR E S w) : ∀ b, FB E S b → b < w.heap.size := by
  rintro b (hb | hb | hb)
  · exact h.ltO b hb
  · exact h.all_lt hb
  · exact (h.hP b hb).1
theorem CR.go {E : CE} {S S' : CY} {w w' : World} {Sl : List Nat} (h : CR E S w) (hf : Fr Sl w w') (hSl : ∀ x ∈ Sl, CO E S x) (hLh : S'.L.hb = S.L.hb) (hLf : ∀ x ∈ S'.L.fp, x ∈ S.L.fp ∨ w.heap.size ≤ x) (hLa : ∀ x ∈ S'.L.all, x ∈ S.L.all ∨ w.heap.size ≤ x) (hx0 : S'.s.x.places ≠ 0 → ∃ b0, S'.L.xlbs = [b0])
    (egv : S'.c.gv = S.c.gv) (elv : S'.c.lv = S.c.lv) (hr : HRep w' S'.L S'.s) (hm : MBlk w' E.mb S.L S'.a S'.nx) (hc : CBlk w' E.kb S.L.hb E.mb E.tb S'.c) (ht : TRep w' E.tb S.L.hb E.sh S'.t) (hk : SkRep w' S'.P E.sb S'.k) (hfv : RdS w' S'.P S'.c.fv S'.fl)
    (hb : Rowi w' E.B S'.c.bv S'.bl) (hbo : S'.c.bv.ownBlock = S.c.bv.ownBlock ∨ ∃ g, S'.c.bv.ownBlock = some g ∧ w.heap.size ≤ g ∧ g ∉ S'.L.all) (hPm : ∀ b, S.P b → S'.P b) (hP' : ∀ b, S'.P b → S.P b ∨ (w.heap.size ≤ b ∧ b < w'.heap.size ∧ b ∉ S'.L.fp ∧ S'.c.bv.ownBlock ≠ some b)) (hcy : S'.c.cyc ≤ 1000) (htd : S'.k.todo ≤ S'.k.fs.length) :
    CR E S' w' ∧ FrP (FB E S) w w' ∧ ∀ x, FB E S' x → FB E S x ∨ w.heap.size ≤ x := by
  have hlt := h.ltO
  have hPn : ∀ b, S.P b → b < w.heap.size → b ∉ Sl := fun b hb _ hc => (h.hP b hb).2 (hSl b hc)
  have hCO : ∀ x, CO E S' x → CO E S x ∨ w.heap.size ≤ x := by
    rintro x (e | e | e | e | e | e)
    · exact .inl (.inl e)
    · exact .inl (.inr (.inl e))
    · exact .inl (.inr (.inr (.inl e)))
    · exact .inl (.inr (.inr (.inr (.inl e))))
    · exact (hLf x e).imp (fun k => .inr (.inr (.inr (.inr (.inl k))))) id
    · rcases hbo with h1 | ⟨g, h1, h2, -⟩
      · exact .inl (.inr (.inr (.inr (.inr (.inr (h1.symm.trans e))))))
      · rw [h1] at e; cases e; exact .inr h2
  have hna : ∀ b, b < w.heap.size → b ∉ S.L.all → b ∉ S'.L.all := fun b h1 h2 hc => (hLa b hc).elim h2 (fun h => by omega)
  have hkl := hlt E.kb (.inl rfl)
  have hml := hlt E.mb (.inr (.inl rfl))
  have htl := hlt E.tb (.inr (.inr (.inl rfl)))
  have hsl := hlt E.sb (.inr (.inr (.inr (.inl rfl))))
  have hsz := hf.size
  refine ⟨⟨hr, ?_, by rw [hLh]; exact hc, by rw [hLh]; exact ht, hk, by rw [egv]; exact (h.g.fr hf hPn).mono hPm, hfv, hb, Nat.le_trans h.bB hsz, by rw [elv]; exact h.lv, hPm _ h.lp, Nat.lt_of_lt_of_le h.ll hsz, (cell_fr hf (hPn _ h.lp h.ll) h.ll _).trans h.lcell, ?_, hna _ hkl h.ka, hna _ hml h.ma, hna _ htl h.ta, hna _ hsl h.sa, h.km, h.kt, h.ks, h.mt, h.ms, h.ts, ?_, hx0, hcy, htd, hLh.trans h.hb⟩, FrP.of hf (fun x hx => .inl (.inl (hSl x hx))), fun x hx => by
    rcases hx with hx | hx | hx
    · exact (hCO x hx).imp .inl id
    · exact (hLa x hx).imp (fun k => .inr (.inl k)) id
    · rcases hP' x hx with h1 | h1
      · exact .inl (.inr (.inr h1))
      · exact .inr h1.1⟩
  · unfold MBlk at hm ⊢
    rw [hLh]; exact hm
  · intro b hb
    rcases hP' b hb with h1 | ⟨h1, h2, h3, h4⟩
    · obtain ⟨h5, h6⟩ := h.hP b h1
      exact ⟨Nat.lt_of_lt_of_le h5 hsz, fun hc => (hCO b hc).elim h6 (fun h => by omega)⟩
    · refine ⟨h2, ?_⟩
      rintro (e | e | e | e | e | e)
      · omega
      · omega
      · omega
      · omega
      · exact h3 e
      · exact h4 e
  · intro b hb
    rcases hbo with h1 | ⟨g, h1, h2, h3⟩
    · obtain ⟨b1, b2, b3, b4, b5⟩ := h.bo b (h1.symm.trans hb)
      exact ⟨b1, b2, b3, b4, hna b (hlt b (.inr (.inr (.inr (.inr (.inr (h1.symm.trans hb))))))) b5⟩
    · rw [h1] at hb
      cases hb
      exact ⟨by omega, by omega, by omega, by omega, h3⟩
theorem CR.fr {E : CE} {S : CY} {w w' : World} {Sl : List Nat} (h : CR E S w) (hf : Fr Sl w w') (hSl : ∀ x ∈ Sl, ¬ CO E S x ∧ x ∉ S.L.all ∧ ¬ S.P x) : CR E S w' := by
  have hn : ∀ b, CO E S b → b ∉ Sl := fun b hb hc => (hSl b hc).1 hb
  have hPn : ∀ b, S.P b → b < w.heap.size → b ∉ Sl := fun b hb _ hc => (hSl b hc).2.2 hb
  exact ⟨h.hr.fr hf (fun x hx => (hSl x hx).2.1), Blk.fr h.m hf (hn _ (.inr (.inl rfl))), h.c.fr hf (hn _ (.inl rfl)), h.t.fr hf (hn _ (.inr (.inr (.inl rfl)))), h.k.fr hf (hn _ (.inr (.inr (.inr (.inl rfl))))) hPn, h.g.fr hf hPn, h.f.fr hf hPn, h.b.fr hf (fun g hg => hn g (.inr (.inr (.inr (.inr (.inr hg)))))), Nat.le_trans h.bB hf.size, h.lv, h.lp, Nat.lt_of_lt_of_le h.ll hf.size, (cell_fr hf (hPn _ h.lp h.ll) h.ll _).trans h.lcell, fun b hb => ⟨Nat.lt_of_lt_of_le (h.hP b hb).1 hf.size, (h.hP b hb).2⟩, h.ka, h.ma, h.ta, h.sa, h.km, h.kt, h.ks, h.mt, h.ms, h.ts, h.bo, h.x0, h.cyc, h.todo, h.hb⟩
def meas (gl : List Int) (S : CY) : Nat :=
  if S.c.ph = 1 then (gl.length - S.c.at') + S.fl.length + scanN S.k.fs S.k.todo + (S.U + S.td.length + (S.A none).F.length)
  else if S.c.ph = 2 then S.U + S.td.length + (S.A none).F.length
  else if S.c.ph = 3 then S.td.length + (S.A none).F.length
  else if S.c.ph = 4 then (S.A none).W.length else 0
def CyF (X : CX) (fs : List Fm) (obs : List Ob) (bl : List Int) (rv : Value) (cls : List Int) : Prop :=
  X.cyc0 ≤ 900 ∧ fs = X.fs0 ∧ rv = X.rv0 ∧ cls = X.cls0 ∧ (X.T → ∀ o ∈ obs, ∃ o0 ∈ X.ob0, o0.p = o.p ∧ o0.q = o.q ∧ o0.n = o.n ∧ o0.a = o.a) ∧ (X.T → bl = X.bl0 → ∀ o ∈ obs, o ∈ X.ob0)
theorem CyF.sub {X : CX} {fs : List Fm} {obs obs' : List Ob} {bl : List Int} {rv : Value} {cls : List Int} (h : CyF X fs obs bl rv cls) (hs : ∀ o ∈ obs', o ∈ obs) : CyF X fs obs' bl rv cls :=
  ⟨h.1, h.2.1, h.2.2.1, h.2.2.2.1, fun hT o ho => h.2.2.2.2.1 hT o (hs o ho), fun hT hb o ho => h.2.2.2.2.2 hT hb o (hs o ho)⟩
theorem CyF.bury {X : CX} {fs : List Fm} {obs : List Ob} {bl : List Int} {rv : Value} {cls : List Int} (h : CyF X fs obs bl rv cls) (p a : Int) (hb : X.bl0.length ≤ bl.length) : CyF X fs (bO obs p) (bl ++ [a]) rv cls := by
  refine ⟨h.1, h.2.1, h.2.2.1, h.2.2.2.1, fun hT o ho => ?_, fun hT hb2 => ?_⟩
  · obtain ⟨x, hx, e1, e2, e3, e4, -⟩ := bO_cases ho
    obtain ⟨y, hy, f1, f2, f3, f4⟩ := h.2.2.2.2.1 hT x hx
    exact ⟨y, hy, f1.trans e1.symm, f2.trans e2.symm, f3.trans e3.symm, f4.trans e4.symm⟩
  · have := congrArg List.length hb2
    simp at this
    omega
theorem CyF.alloc {X : CX} {fs : List Fm} {obs obs' : List Ob} {bl : List Int} {rv : Value} {cls : List Int} (h : CyF X fs obs bl rv cls) (hT : ¬ X.T) (K : List Ob) : CyF { X with K := K } fs obs' bl rv cls :=
  ⟨h.1, h.2.1, h.2.2.1, h.2.2.2.1, fun hc => absurd hc hT, fun hc => absurd hc hT⟩
def UB (X : CX) (c : Int) (M : Nat) (u : Int) : Prop := ∀ p, X.ub = some p → p.1 ≤ u ∧ u ≤ p.1 + 40 * ((p.2 : Int) - M) + c
def pwU (ph : Nat) : Int := if ph = 1 then 0 else if ph = 2 then 0 else 36
def pwE (ph : Nat) : Int := if ph = 1 then 0 else 36
theorem UB.go {X : CX} {c c' : Int} {M M' : Nat} {u u' : Int} (h : UB X c M u) (h1 : u ≤ u') (h2 : u' + c ≤ u + 40 * ((M : Int) - M') + c') : UB X c' M' u' := fun p hp => by
  obtain ⟨a, b⟩ := h p hp
  exact ⟨by omega, by omega⟩
def EInv (E : CE) (g : MG) (X : CX) (O : Nat → Prop) (M ph : Nat) (w : World) : Prop := ∃ S, CR E S w ∧ CQ E.gl g X S ∧ S.c.ph = ph ∧ O = FB E S ∧ meas E.gl S ≤ M ∧ M ≤ 60000 ∧ CyF X S.k.fs S.obs S.bl S.c.rv S.s.cls ∧ UB X (pwU ph) M S.s.u
def EEnd (E : CE) (g : MG) (X : CX) (O : Nat → Prop) (M ph : Nat) (w : World) : Prop := ∃ S, CR E S w ∧ CQ E.gl g X S ∧ S.c.ph = ph ∧ O = FB E S ∧ meas E.gl S ≤ M ∧ M ≤ 60000 ∧ (CyF X S.k.fs S.obs S.bl S.c.rv S.s.cls ∧ UB X (pwE ph) M S.s.u) ∧
  (ph = 1 → S.left E.gl = []) ∧ (ph = 2 → S.a = 0 ∧ NoG S.A) ∧ (ph = 3 → S.td = []) ∧ (ph = 4 → (S.A none).W = [])
theorem scan_take {fs : List Fm} {n : Nat} {f : Fm} (h : topF fs n = some f) : 1 ≤ n ∧ scanN fs n = scanN fs (n - 1) + (1 + f.l.length) ∧ scanW fs n = scanW fs (n - 1) ++ f.l := by
  unfold topF at h
  by_cases h0 : n = 0
  · rw [if_pos h0] at h; cases h
  · rw [if_neg h0] at h
    obtain ⟨m, rfl⟩ : ∃ m, n = m + 1 := ⟨n - 1, by omega⟩
    simp only [Nat.add_sub_cancel] at h ⊢
    refine ⟨by omega, ?_, ?_⟩
    · unfold scanN
      rw [List.take_add_one, h]
      simp
    · unfold scanW
      rw [List.take_add_one, h]
      simp
theorem scan_none {fs : List Fm} {n : Nat} (h : topF fs n = none) (hn : n ≤ fs.length) : n = 0 := by
  unfold topF at h
  by_cases h0 : n = 0
  · exact h0
  · rw [if_neg h0, List.getElem?_eq_none_iff] at h
    omega
theorem CR.hpl {E : CE} {S : CY} {w : World} (h : CR E S w) : ∀ b, S.P b → b ∉ S.L.fp ∧ b ≠ E.kb ∧ b ≠ E.sb := fun b hb =>
  ⟨fun hc => (h.hP b hb).2 (.inr (.inr (.inr (.inr (.inl hc))))), fun e => (h.hP b hb).2 (.inl e), fun e => (h.hP b hb).2 (.inr (.inr (.inr (.inl e))))⟩
theorem nfp {L : HL} {b : Nat} (h : b ∉ L.all) : b ∉ L.fp := fun hc => h (fp_all hc)
theorem CR.mf {E : CE} {S : CY} {w : World} (h : CR E S w) : E.kb ∉ S.L.fp ∧ E.mb ∉ S.L.fp ∧ E.tb ∉ S.L.fp ∧ E.sb ∉ S.L.fp := ⟨nfp h.ka, nfp h.ma, nfp h.ta, nfp h.sa⟩
theorem CR.bfr {E : CE} {S : CY} {w : World} (h : CR E S w) {l : List Nat} (hl : ∀ x ∈ l, x = E.kb ∨ x = E.mb ∨ x = E.tb ∨ x = E.sb ∨ x ∈ S.L.all) : ∀ g, S.c.bv.ownBlock = some g → g ∉ l := by
  intro g hg hc
  obtain ⟨b1, b2, b3, b4, b5⟩ := h.bo g hg
  rcases hl g hc with e | e | e | e | e
  · exact b1 e
  · exact b2 e
  · exact b3 e
  · exact b4 e
  · exact b5 e
theorem gv_at {gl : List Int} {at' : Nat} {x : Int} (h : gl[at']? = some x) : gl.drop at' = x :: gl.drop (at' + 1) := by
  obtain ⟨h1, h2⟩ := List.getElem?_eq_some_iff.1 h
  rw [List.drop_eq_getElem_cons h1, h2]
set_option maxHeartbeats 800000 in
theorem eWay1 (E : CE) (g : MG) (X : CX) (O : Nat → Prop) (M : Nat) (w : World) (h : EInv E g X O M 1 w) :
    Calls Tryz.prog 74 #[.pointer (some ⟨E.kb, 0, none⟩)] w fun e w' => ∃ b O' M', e = .returned (.bool b) ∧ FrP O w w' ∧ (∀ x, O' x → O x ∨ w.heap.size ≤ x) ∧ ((b = true ∧ M' + 1 = M ∧ EInv E g X O' M' 1 w') ∨ (b = false ∧ M' = M ∧ EEnd E g X O' M' 1 w')) := by
  obtain ⟨S, hC, hQ, hp, rfl, hm, hM, hcy⟩ := h
  have hi := hQ.mi (.inl hp)
  have ha := hQ.a0 (by omega)
  have hnx := hQ.nx0 ha
  rw [ha, hnx] at hi
  have hmb := hC.m
  rw [ha, hnx] at hmb
  obtain ⟨f1, f2, f3, f4⟩ := hC.mf
  have hpl := hC.hpl
  have hml : meas E.gl S = (E.gl.length - S.c.at') + S.fl.length + scanN S.k.fs S.k.todo + (S.U + S.td.length + (S.A none).F.length) := by unfold meas; rw [if_pos hp]
  -- a unit of shading: what is left
  have fin : ∀ (x : Int) (c' : CS) (fl' : List Int) (P' : Nat → Prop) (w' : World) (e : Ending), SUPost S.L S.s S.A S.z S.obs g S.U E.kb E.mb E.tb c' x w e w' → c'.gv = S.c.gv → c'.lv = S.c.lv → c'.bv = S.c.bv → c'.ph = 1 → c'.cyc = S.c.cyc → c'.rv = S.c.rv → RdS w' S.P c'.fv fl' →
      S.left E.gl = x :: (E.gl.drop c'.at' ++ (fl' ++ scanW S.k.fs S.k.todo)) → (E.gl.length - c'.at') + fl'.length + 1 = (E.gl.length - S.c.at') + S.fl.length →
      ∃ b O' M', e = .returned (.bool b) ∧ FrP (FB E S) w w' ∧ (∀ x, O' x → FB E S x ∨ w.heap.size ≤ x) ∧ ((b = true ∧ M' + 1 = M ∧ EInv E g X O' M' 1 w') ∨ (b = false ∧ M' = M ∧ EEnd E g X O' M' 1 w')) := by
    rintro x c' fl' - w' e ⟨rfl, hF, hc', s', A', hr', hi', hst, hmk⟩ egv elv ebv eph ecy erv hfv hleft hcount
    have hsub : ∀ x ∈ E.kb :: S.L.fp, CO E S x := fun x hx => (List.mem_cons.1 hx).elim (fun e => .inl e) (fun e => .inr (.inr (.inr (.inr (.inl e)))))
    have hqq := hQ.mark (.inl hp) (s' := s') (A' := A') (a' := S.a) (nx' := S.nx) (U' := S.U) (c' := c') (k' := S.k) (fl' := fl') (P' := S.P) (by rw [ha, hnx]; exact hi') hst.toMSt (eph.trans hp.symm) ecy (fun _ => ha) (fun h => hQ.nx0 h)
      (fun _ y hy => by
        rw [hleft] at hy
        rcases List.mem_cons.1 hy with rfl | hy
        · exact .inr (fun o ho e => hmk o ho e)
        · exact .inl hy) (fun _ y hy => by rw [hleft]; exact List.mem_cons_of_mem _ hy)
    obtain ⟨r1, r2, r3⟩ := hC.go (S' := { S with s := s', A := A', a := S.a, nx := S.nx, U := S.U, c := c', k := S.k, fl := fl', P := S.P }) hF hsub rfl (fun x hx => .inl hx) (fun x hx => .inl hx) (fun hx => hC.x0 (by have e : s'.x = S.s.x := hst.sta.x; have hx' : s'.x.places ≠ 0 := hx; rw [e] at hx'; exact hx')) egv elv hr'
      (Blk.fr hC.m hF (by simp only [List.mem_cons, not_or]; exact ⟨fun e => hC.km e.symm, f2⟩)) hc' (hC.t.fr hF (by simp only [List.mem_cons, not_or]; exact ⟨fun e => hC.kt e.symm, f3⟩)) (hC.k.fr hF (by simp only [List.mem_cons, not_or]; exact ⟨fun e => hC.ks e.symm, f4⟩) (fun b hb _ hc => (hC.hP b hb).2 (hsub b hc)))
      hfv (by show Rowi w' E.B c'.bv S.bl; rw [ebv]; exact hC.b.fr hF (hC.bfr fun x hx => (List.mem_cons.1 hx).elim .inl (fun e => .inr (.inr (.inr (.inr (fp_all e))))))) (.inl (by show c'.bv.ownBlock = _; rw [ebv])) (fun b hb => hb) (fun b hb => .inl hb) (by show c'.cyc ≤ 1000; rw [ecy]; exact hC.cyc) hC.todo
    have hlf := hst.lf
    refine ⟨true, _, M - 1, rfl, r2, r3, .inl ⟨rfl, by omega, _, r1, hqq, eph, rfl, ?_, by omega, by show CyF X S.k.fs S.obs S.bl c'.rv s'.cls; rw [erv, hst.sta.cls]; exact hcy.1, hcy.2.go hst.u.1 (by have := hst.u.2; (try dsimp only); omega)⟩⟩
    unfold meas
    rw [if_pos (show c'.ph = 1 from eph)]
    show (E.gl.length - c'.at') + fl'.length + scanN S.k.fs S.k.todo + (S.U + S.td.length + (A' none).F.length) ≤ M - 1
    omega
  have hfull := hQ.left hp
  rcases Nat.lt_or_ge S.c.at' E.gl.length with hat | hat
  · have hx : E.gl[S.c.at']? = some E.gl[S.c.at'] := List.getElem?_eq_getElem hat
    have hd := gv_at hx
    have hleft : S.left E.gl = E.gl[S.c.at'] :: (E.gl.drop (S.c.at' + 1) ++ (S.fl ++ scanW S.k.fs S.k.todo)) := by unfold CY.left; rw [hd]; rfl
    refine (cStack1 S.L S.s S.A S.z S.obs g S.U E.kb E.mb E.tb S.c S.P E.gl _ w hC.hr hmb hi hC.c hC.ka f2 hC.g (fun b hb => ⟨(hpl b hb).1, (hpl b hb).2.1⟩) hx (hfull _ (by rw [hleft]; exact List.mem_cons_self ..))).mono ?_
    intro e w' hpost
    have hF := hpost.2.1
    refine fin _ _ S.fl S.P w' e hpost rfl rfl rfl hp rfl rfl (hC.f.fr hF (fun b hb _ hc => ?_)) hleft (by show (E.gl.length - (S.c.at' + 1)) + S.fl.length + 1 = _; omega)
    rcases List.mem_cons.1 hc with e | e
    · exact (hpl b hb).2.1 e
    · exact (hpl b hb).1 e
  · cases hfl : S.fl with
    | cons x fl' =>
      have hleft : S.left E.gl = x :: (E.gl.drop S.c.at' ++ (fl' ++ scanW S.k.fs S.k.todo)) := by
        unfold CY.left
        rw [hfl, List.drop_eq_nil_of_le hat]; rfl
      have hff := hC.f
      rw [hfl] at hff
      refine (cStack2 S.L S.s S.A S.z S.obs g S.U E.kb E.mb E.tb S.c S.P E.gl fl' x w hC.hr hmb hi hC.c hC.ka f2 hC.g hff (fun b hb => ⟨(hpl b hb).1, (hpl b hb).2.1⟩) hat (hfull _ (by rw [hleft]; exact List.mem_cons_self ..))).mono ?_
      rintro e w' ⟨fv', hpost, hfv⟩
      exact fin _ _ fl' S.P w' e hpost rfl rfl rfl hp rfl rfl hfv hleft (by rw [hfl]; show (E.gl.length - S.c.at') + fl'.length + 1 = _; simp; omega)
    | nil =>
      have hff := hC.f
      rw [hfl] at hff
      have hmsr : (E.gl.length - S.c.at') = 0 := by omega
      refine (cStack3 S.L.hb E.kb E.mb E.tb E.sb E.lb E.lo E.lc S.k S.c S.P E.gl w hC.c hC.g hff (fun b hb => (hpl b hb).2) hat hC.ks hC.lv hC.lp hC.ll hC.lcell hC.k hC.todo).mono ?_
      rintro e w' ⟨hF, hres⟩
      have hsub : ∀ x ∈ [E.kb, E.sb], CO E S x := by
        intro x hx
        simp only [List.mem_cons, List.not_mem_nil, or_false] at hx
        rcases hx with e | e
        · exact .inl e
        · exact .inr (.inr (.inr (.inl e)))
      have hna : ∀ x ∈ [E.kb, E.sb], x ∉ S.L.all := by
        intro x hx
        simp only [List.mem_cons, List.not_mem_nil, or_false] at hx
        rcases hx with e | e
        · rw [e]; exact hC.ka
        · rw [e]; exact hC.sa
      have hr' := hC.hr.fr hF hna
      have hm' : MBlk w' E.mb S.L S.a S.nx := Blk.fr hC.m hF (by simp only [List.mem_cons, List.not_mem_nil, or_false, not_or]; exact ⟨fun e => hC.km e.symm, hC.ms⟩)
      have ht' := hC.t.fr hF (by simp only [List.mem_cons, List.not_mem_nil, or_false, not_or]; exact ⟨fun e => hC.kt e.symm, hC.ts⟩)
      have hb' := hC.b.fr hF (hC.bfr fun x hx => by
        simp only [List.mem_cons, List.not_mem_nil, or_false] at hx
        rcases hx with e | e
        · exact .inl e
        · exact .inr (.inr (.inr (.inl e))))
      have hfv' := hC.f.fr hF (fun b hb _ hc => (hC.hP b hb).2 (hsub b hc))
      have hi0 : MI S.s S.A S.z S.obs g S.a S.nx S.U := hQ.mi (.inl hp)
      cases htop : topF S.k.fs S.k.todo with
      | none =>
        rw [htop] at hres
        obtain ⟨rfl, hk', hc'⟩ := hres
        have ht0 := scan_none htop hC.todo
        obtain ⟨r1, r2, r3⟩ := hC.go (S' := S) hF hsub rfl (fun x hx => .inl hx) (fun x hx => .inl hx) hC.x0 rfl rfl hr' hm' hc' ht' hk' hfv' hb' (.inl rfl) (fun b hb => hb) (fun b hb => .inl hb) hC.cyc hC.todo
        refine ⟨false, _, M, rfl, r2, r3, .inr ⟨rfl, rfl, S, r1, hQ, hp, rfl, hm, hM, ⟨hcy.1, hcy.2.go (Int.le_refl _) (by have h1 : pwU 1 = 0 := rfl; have h2 : pwE 1 = 0 := rfl; (try dsimp only); omega)⟩, fun _ => ?_, fun h => by omega, fun h => by omega, fun h => by omega⟩⟩
        unfold CY.left
        rw [hfl, List.drop_eq_nil_of_le hat, ht0]; rfl
      | some f =>
        rw [htop] at hres
        obtain ⟨gb, rfl, hk', hc', hgb, hB⟩ := hres
        obtain ⟨t1, t2, t3⟩ := scan_take htop
        have hfl9 : f.l.length ≤ 100000 := by
          obtain ⟨lv, -, A, c, -, h1, h2, h3⟩ := hC.k
          unfold topF at htop
          rw [if_neg (by omega)] at htop
          obtain ⟨g1, o1, -, -, -, -, -, sv, -, A2, c2, -, h4, -⟩ := h3 _ _ htop
          exact h4.2
        have hgl : gb < w'.heap.size := hB.lt
        have hga : gb ∉ S.L.fp := fun hc => by have := hC.all_lt (fp_all hc); omega
        have hgbv : S.c.bv.ownBlock ≠ some gb := fun hc => by have := (hC.b.lt gb hc).2; omega
        have hleft : S.left E.gl = E.gl.drop S.c.at' ++ (f.l ++ scanW S.k.fs (S.k.todo - 1)) ∨ True := .inr trivial
        have hl1 : S.left E.gl = scanW S.k.fs S.k.todo := by
          unfold CY.left
          rw [hfl, List.drop_eq_nil_of_le hat]; rfl
        have hqq := hQ.mark (.inl hp) (s' := S.s) (A' := S.A) (a' := S.a) (nx' := S.nx) (U' := S.U) (c' := { S.c with fv := .slice (some ⟨gb, 0, none⟩) f.l.length f.l.length }) (k' := { S.k with todo := S.k.todo - 1 }) (fl' := f.l) (P' := fun b => S.P b ∨ b = gb) hi0 (MSt.refl _ _ _) rfl rfl (fun _ => ha) (fun h => hQ.nx0 h)
          (fun _ y hy => .inl (by
            rw [hl1, t3] at hy
            rcases List.mem_append.1 hy with h1 | h1
            · exact List.mem_append_right _ (List.mem_append_right _ h1)
            · exact List.mem_append_right _ (List.mem_append_left _ h1)))
          (fun _ y hy => by
            rw [hl1, t3]
            have hy' : y ∈ E.gl.drop S.c.at' ++ (f.l ++ scanW S.k.fs (S.k.todo - 1)) := hy
            rw [List.drop_eq_nil_of_le hat, List.nil_append] at hy'
            rcases List.mem_append.1 hy' with h1 | h1
            · exact List.mem_append_right _ h1
            · exact List.mem_append_left _ h1)
        obtain ⟨r1, r2, r3⟩ := hC.go (S' := { S with s := S.s, A := S.A, a := S.a, nx := S.nx, U := S.U, c := { S.c with fv := .slice (some ⟨gb, 0, none⟩) f.l.length f.l.length }, k := { S.k with todo := S.k.todo - 1 }, fl := f.l, P := fun b => S.P b ∨ b = gb }) hF hsub rfl (fun x hx => .inl hx) (fun x hx => .inl hx) hC.x0 rfl rfl hr' hm' hc' ht'
          (hk'.mono fun b hb => .inl hb) (RdS.of_blk (l := f.l) hB (.inr rfl) hfl9) hb' (.inl rfl) (fun b hb => .inl hb)
          (fun b hb => hb.imp id (fun e => by subst e; exact ⟨hgb, hgl, hga, hgbv⟩)) hC.cyc (by show S.k.todo - 1 ≤ S.k.fs.length; have := hC.todo; omega)
        refine ⟨true, _, M - 1, rfl, r2, r3, .inl ⟨rfl, by rw [hfl] at hml; simp only [List.length_nil] at hml; omega, _, r1, hqq, hp, rfl, ?_, by omega, hcy.1, hcy.2.go (Int.le_refl _) (by rw [hfl] at hml; simp only [List.length_nil] at hml; (try dsimp only); omega)⟩⟩
        unfold meas
        rw [if_pos (show S.c.ph = 1 from hp)]
        show (E.gl.length - S.c.at') + f.l.length + scanN S.k.fs (S.k.todo - 1) + (S.U + S.td.length + (S.A none).F.length) ≤ M - 1
        rw [hfl, List.length_nil] at hml
        omega
set_option maxHeartbeats 800000 in
theorem eWay2 (E : CE) (g : MG) (X : CX) (O : Nat → Prop) (M : Nat) (w : World) (h : EInv E g X O M 2 w) :
    Calls Tryz.prog 75 #[.pointer (some ⟨E.kb, 0, none⟩)] w fun e w' => ∃ b O' M', e = .returned (.bool b) ∧ FrP O w w' ∧ (∀ x, O' x → O x ∨ w.heap.size ≤ x) ∧ ((b = true ∧ M' + 1 = M ∧ EInv E g X O' M' 2 w') ∨ (b = false ∧ M' = M ∧ EEnd E g X O' M' 2 w')) := by
  obtain ⟨S, hC, hQ, hp, rfl, hm, hM, hcy⟩ := h
  have hi := hQ.mi (.inr hp)
  obtain ⟨f1, f2, f3, f4⟩ := hC.mf
  have hml : meas E.gl S = S.U + S.td.length + (S.A none).F.length := by unfold meas; rw [if_neg (by omega), if_pos hp]
  refine (cMark S.L S.s S.A S.z S.obs g S.a S.nx S.U E.kb E.mb E.tb S.c w ⟨hC.hr, hC.m, hi, hQ.nx0⟩ hC.ma (by omega) hC.c).mono ?_
  rintro e w' ⟨b, rfl, hF, s', A', a', nx', hst, hres⟩
  have hsub : ∀ x ∈ E.mb :: S.L.fp, CO E S x := fun x hx => (List.mem_cons.1 hx).elim (fun e => .inr (.inl e)) (fun e => .inr (.inr (.inr (.inr (.inl e)))))
  have hlf := hst.lf
  have step : ∀ U', MW w' S.L E.mb s' A' S.z S.obs g a' nx' U' →
      CQ E.gl g X { S with s := s', A := A', a := a', nx := nx', U := U', c := S.c, k := S.k, fl := S.fl, P := S.P } ∧ CR E { S with s := s', A := A', a := a', nx := nx', U := U', c := S.c, k := S.k, fl := S.fl, P := S.P } w' ∧ FrP (FB E S) w w' ∧ ∀ x, FB E { S with s := s', A := A', a := a', nx := nx', U := U', c := S.c, k := S.k, fl := S.fl, P := S.P } x → FB E S x ∨ w.heap.size ≤ x := by
    intro U' hW
    have hqq := hQ.mark (.inr hp) (c' := S.c) (k' := S.k) (fl' := S.fl) (P' := S.P) hW.i hst.toMSt rfl rfl (fun hne => absurd hp hne) hW.z0 (fun h => by omega) (fun h => by omega)
    refine ⟨hqq, ?_⟩
    exact hC.go (S' := { S with s := s', A := A', a := a', nx := nx', U := U', c := S.c, k := S.k, fl := S.fl, P := S.P }) hF hsub rfl (fun x hx => .inl hx) (fun x hx => .inl hx) (fun hx => hC.x0 (by have e : s'.x = S.s.x := hst.sta.x; have hx' : s'.x.places ≠ 0 := hx; rw [e] at hx'; exact hx')) rfl rfl hW.hr hW.m
      (hC.c.fr hF (by simp only [List.mem_cons, not_or]; exact ⟨hC.km, f1⟩)) (hC.t.fr hF (by simp only [List.mem_cons, not_or]; exact ⟨fun e => hC.mt e.symm, f3⟩)) (hC.k.fr hF (by simp only [List.mem_cons, not_or]; exact ⟨fun e => hC.ms e.symm, f4⟩) (fun b hb _ hc => (hC.hP b hb).2 (hsub b hc)))
      (hC.f.fr hF (fun b hb _ hc => (hC.hP b hb).2 (hsub b hc))) (hC.b.fr hF (hC.bfr fun x hx => (List.mem_cons.1 hx).elim (fun e => .inr (.inl e)) (fun e => .inr (.inr (.inr (.inr (fp_all e))))))) (.inl rfl) (fun b hb => hb) (fun b hb => .inl hb) hC.cyc hC.todo
  rcases hres with ⟨rfl, hU, hW⟩ | ⟨rfl, ha', hno, hW⟩
  · obtain ⟨r0, r1, r2, r3⟩ := step _ hW
    refine ⟨true, _, M - 1, rfl, r2, r3, .inl ⟨rfl, by omega, _, r1, r0, hp, rfl, ?_, by omega, by show CyF X S.k.fs S.obs S.bl S.c.rv s'.cls; rw [hst.sta.cls]; exact hcy.1, hcy.2.go hst.u.1 (by have := hst.u.2; (try dsimp only); omega)⟩⟩
    unfold meas
    rw [if_neg (show ¬ S.c.ph = 1 by omega), if_pos (show S.c.ph = 2 from hp)]
    show S.U - 1 + S.td.length + (A' none).F.length ≤ M - 1
    omega
  · obtain ⟨r0, r1, r2, r3⟩ := step _ hW
    refine ⟨false, _, M, rfl, r2, r3, .inr ⟨rfl, rfl, _, r1, r0, hp, rfl, ?_, hM, ⟨by show CyF X S.k.fs S.obs S.bl S.c.rv s'.cls; rw [hst.sta.cls]; exact hcy.1, hcy.2.go hst.u.1 (by have := hst.u.2; have h1 : pwU 2 = 0 := rfl; have h2 : pwE 2 = 36 := rfl; (try dsimp only); omega)⟩, fun h => by omega, fun _ => ⟨ha', hno⟩, fun h => by omega, fun h => by omega⟩⟩
    unfold meas
    rw [if_neg (show ¬ S.c.ph = 1 by omega), if_pos (show S.c.ph = 2 from hp)]
    show S.U + S.td.length + (A' none).F.length ≤ M
    omega
theorem CR.lies {E : CE} {S : CY} {w : World} {gl : List Int} {g : MG} {X : CX} (_ : CR E S w) (h : CQ gl g X S) {o : Ob} (ho : o ∈ S.obs) : ∃ m, (o.wm m).In S.s S.A S.z ∧ (o.wm m).Lies S.s ∧ ((o.p ∈ (S.A o.q).F ∧ m = 1 - S.s.parity) ∨ (Mkd S.A o ∧ m = S.s.parity)) := by
  rcases h.mh.inn o ho with ⟨h1, h2⟩ | ⟨h1, h2⟩
  · exact ⟨_, h2, h2.lies h.mh.hi, .inl ⟨h1, rfl⟩⟩
  · exact ⟨_, h2, h2.lies h.mh.hi, .inr ⟨h1, rfl⟩⟩
set_option maxHeartbeats 800000 in
theorem eWay3 (E : CE) (g : MG) (X : CX) (hX : CXK g X) (O : Nat → Prop) (M : Nat) (w : World) (h : EInv E g X O M 3 w) :
    Calls Tryz.prog 76 #[.pointer (some ⟨E.kb, 0, none⟩)] w fun e w' => ∃ b O' M', e = .returned (.bool b) ∧ FrP O w w' ∧ (∀ x, O' x → O x ∨ w.heap.size ≤ x) ∧ ((b = true ∧ M' + 1 = M ∧ EInv E g X O' M' 3 w') ∨ (b = false ∧ M' = M ∧ EEnd E g X O' M' 3 w')) := by
  obtain ⟨S, hC, hQ, hp, rfl, hm, hM, hcy⟩ := h
  obtain ⟨f1, f2, f3, f4⟩ := hC.mf
  have hml : meas E.gl S = S.td.length + (S.A none).F.length := by unfold meas; rw [if_neg (by omega), if_neg (by omega), if_pos hp]
  obtain ⟨pre, w1, w2, w3⟩ := hQ.walk hp
  cases htd : S.td with
  | nil =>
    rw [htd] at w2
    have h0 : S.t.walk = 0 := w2
    refine (cWeakNo E.kb S.L.hb E.mb E.tb S.c 0 false (fun w' => TRep w' E.tb S.L.hb E.sh { S.t with walking := false } ∧ Fr [E.tb] w w') w hC.c ((tStep0 S.L E.tb E.sh S.t w hC.t h0).mono (fun e w' h => ⟨h.1, h.2⟩))).mono ?_
    rintro e w' ⟨rfl, hT, hF⟩
    have hsub : ∀ x ∈ [E.tb], CO E S x := fun x hx => .inr (.inr (.inl (List.mem_singleton.1 hx)))
    obtain ⟨r1, r2, r3⟩ := hC.go (S' := { S with t := { S.t with walking := false } }) hF hsub rfl (fun x hx => .inl hx) (fun x hx => .inl hx) hC.x0 rfl rfl (hC.hr.fr hF (fun x hx => by rw [List.mem_singleton.1 hx]; exact hC.ta)) (Blk.fr hC.m hF (by simpa using hC.mt)) (hC.c.fr hF (by simpa using hC.kt)) hT
      (hC.k.fr hF (by simpa using fun e => hC.ts e.symm) (fun b hb _ hc => (hC.hP b hb).2 (hsub b hc))) (hC.f.fr hF (fun b hb _ hc => (hC.hP b hb).2 (hsub b hc))) (hC.b.fr hF (hC.bfr fun x hx => .inr (.inr (.inl (List.mem_singleton.1 hx))))) (.inl rfl) (fun b hb => hb) (fun b hb => .inl hb) hC.cyc hC.todo
    refine ⟨false, _, M, rfl, r2, r3, .inr ⟨rfl, rfl, _, r1, hQ.wend false, hp, rfl, hm, hM, ⟨hcy.1, hcy.2.go (Int.le_refl _) (by have h1 : pwU 3 = 36 := rfl; have h2 : pwE 3 = 36 := rfl; (try dsimp only); omega)⟩, fun h => by omega, fun h => by omega, fun _ => htd, fun h => by omega⟩⟩
  | cons o td' =>
    rw [htd] at w2 w1
    have how : o ∈ S.rw := by rw [w1]; simp
    obtain ⟨hoo, ho9, ho4⟩ := hQ.rin o how
    obtain ⟨ko, hko, hk⟩ := hQ.key o how
    obtain ⟨m, hin, hlies, hmm⟩ := hC.lies hQ hoo
    obtain ⟨km, kin, klies, kmm⟩ := hC.lies hQ hko
    have hone : ∀ x ∈ S.obs, ∀ y ∈ S.obs, x.p = y.p → x = y := fun x hx y hy e => hQ.mh.one hx hy e
    have hsub : ∀ x ∈ E.tb :: S.L.fp, CO E S x := fun x hx => (List.mem_cons.1 hx).elim (fun e => .inr (.inr (.inl e))) (fun e => .inr (.inr (.inr (.inr (.inl e)))))
    have htdl : S.td.length = td'.length + 1 := by rw [htd]; rfl
    by_cases hmk : Mkd S.A ko
    · have hkm : (ko.wm km).m = S.s.parity := by
        rcases kmm with ⟨h1, -⟩ | ⟨-, h2⟩
        · exfalso
          have := rows_fm hQ.mh.hi h1
          exact hmk.elim this.1 this.2
        · exact h2
      refine (cWeakNo E.kb S.L.hb E.mb E.tb S.c o.a true (fun w' => HRep w' S.L (S.s.tick 6) ∧ TRep w' E.tb S.L.hb E.sh { S.t with walk := S.s.wd o 3, ahead := o.p } ∧ Fr [S.L.ab, E.tb] w w') w hC.c ((tStepKeep S.L S.s E.tb E.sh S.t (o.wm m) (ko.wm km) (S.s.wd o 3) w hC.hr hC.t hC.ta hlies (by show 4 ≤ o.n; omega) w2.1 klies hk.symm rfl hkm).mono (fun e w' h => ⟨h.1, h.2⟩))).mono ?_
      rintro e w' ⟨rfl, hr', hT, hF0⟩
      have hF : Fr (E.tb :: S.L.fp) w w' := hF0.here (fun x hx => by
        simp only [List.mem_cons, List.not_mem_nil, or_false] at hx
        rcases hx with e | e
        · rw [e]; exact List.mem_cons_of_mem _ (by simp [HL.fp])
        · rw [e]; exact List.mem_cons_self ..)
      have hqq := hQ.wkeep hX hp htd hko hk hmk 6
      obtain ⟨r1, r2, r3⟩ := hC.go (S' := { S with s := S.s.tick 6, t := { S.t with walk := S.s.wd o 3, ahead := o.p }, dn := S.dn ++ [o], td := td' }) hF hsub rfl (fun x hx => .inl hx) (fun x hx => .inl hx) hC.x0 rfl rfl hr' (Blk.fr hC.m hF (by simp only [List.mem_cons, not_or]; exact ⟨hC.mt, f2⟩)) (hC.c.fr hF (by simp only [List.mem_cons, not_or]; exact ⟨hC.kt, f1⟩)) hT
        (hC.k.fr hF (by simp only [List.mem_cons, not_or]; exact ⟨fun e => hC.ts e.symm, f4⟩) (fun b hb _ hc => (hC.hP b hb).2 (hsub b hc))) (hC.f.fr hF (fun b hb _ hc => (hC.hP b hb).2 (hsub b hc))) (hC.b.fr hF (hC.bfr fun x hx => (List.mem_cons.1 hx).elim (fun e => .inr (.inr (.inl e))) (fun e => .inr (.inr (.inr (.inr (fp_all e))))))) (.inl rfl) (fun b hb => hb) (fun b hb => .inl hb) hC.cyc hC.todo
      refine ⟨true, _, M - 1, rfl, r2, r3, .inl ⟨rfl, by omega, _, r1, hqq, hp, rfl, ?_, by omega, hcy.1, hcy.2.go (show S.s.u ≤ S.s.u + 6 by omega) (by show S.s.u + 6 + _ ≤ _; (try dsimp only); omega)⟩⟩
      unfold meas
      rw [if_neg (show ¬ S.c.ph = 1 by omega), if_neg (show ¬ S.c.ph = 2 by omega), if_pos (show S.c.ph = 3 from hp)]
      show td'.length + (S.A none).F.length ≤ M - 1
      omega
    · have hkm : (ko.wm km).m ≠ S.s.parity := by
        rcases kmm with ⟨-, h2⟩ | ⟨h1, -⟩
        · show km ≠ _
          have := hQ.mh.par
          omega
        · exact absurd h1 hmk
      have hrnd := map_nodup_of hQ.rnd (fun x hx => (hQ.rin x hx).1) hone
      rw [w1, List.map_append, List.map_cons] at hrnd
      have hpin : ∀ y ∈ pre, y ∈ S.rw := fun y hy => by rw [w1]; exact List.mem_append_left _ hy
      have hah : S.t.ahead ≠ 0 → ∃ y ∈ pre, S.t.ahead = y.p := by
        intro hz
        have : pre ≠ [] := by rintro rfl; exact hz w3
        obtain ⟨y, h1, -, h3⟩ := lastP_mem this
        exact ⟨y, h1, w3.trans h3⟩
      have hna : S.t.ahead ≠ 0 → (o.wm m).p ≠ S.t.ahead := by
        intro hz e
        obtain ⟨y, h1, h2⟩ := hah hz
        exact (List.nodup_append.1 hrnd).2.2 y.p (List.mem_map_of_mem h1) o.p (List.mem_cons_self ..) (h2.symm.trans e.symm)
      have hah2 : S.t.ahead = 0 ∨ ∃ oa : Ob, oa.In S.s S.A S.z ∧ oa.n = 4 ∧ oa.p = S.t.ahead := by
        by_cases hz : S.t.ahead = 0
        · exact .inl hz
        · obtain ⟨y, h1, h2⟩ := hah hz
          obtain ⟨my, hy, -, -⟩ := hC.lies hQ (hQ.rin y (hpin y h1)).1
          exact .inr ⟨_, hy, (hQ.rin y (hpin y h1)).2.2, h2.symm⟩
      have hla : S.t.first = 0 ∨ ∃ ol : Ob, ol.In S.s S.A S.z ∧ ol.n = 4 ∧ ol.p = S.t.last ∧ ol.p ≠ (o.wm m).p ∧ ol.p ≠ 0 := by
        by_cases hz : S.t.first = 0
        · exact .inl hz
        · obtain ⟨y, h1, h2, -⟩ := lastP_mem (hQ.qch.first hz)
          obtain ⟨y1, y2, y3⟩ := hQ.qin y h1
          obtain ⟨my, hy, -, -⟩ := hC.lies hQ y1
          refine .inr ⟨_, hy, y3, (hQ.last y h2).symm, fun e => ?_, by have := ob_pos hQ.mh y1; show y.p ≠ 0; omega⟩
          have := hone y y1 o hoo e
          rw [this] at y2
          omega
      have hbl : S.bl.length ≤ 100000 := by have := hQ.blen; omega
      refine (cWeakYes E.kb S.L.hb E.mb E.tb E.B S.c S.bl o.a true (fun w' => (∃ s', HRep w' S.L s' ∧ BurU 18 S.s s' S.A S.z (o.wm m) S.t.ahead (S.s.wd o 3) S.t.first S.t.last) ∧ TRep w' E.tb S.L.hb E.sh (({ S.t with walk := S.s.wd o 3 } : TS).buried o.p) ∧ Fr (E.tb :: S.L.fp) w w') w hC.c hbl
        ((tStepBury S.L S.s S.A S.z E.tb E.sh S.t (o.wm m) (ko.wm km) (S.s.wd o 3) w hC.hr hQ.mh.hi hC.t hC.ta hin ho9 ho4 w2.1 klies hk.symm rfl hkm hna hah2 hla).mono ?_)).mono ?_
      · rintro e w' ⟨rfl, h2, h3, h4⟩
        exact ⟨rfl, ⟨h2, h3, h4⟩, hC.c.fr h4 (by simp only [List.mem_cons, not_or]; exact ⟨hC.kt, f1⟩), hC.b.fr h4 (hC.bfr fun x hx => (List.mem_cons.1 hx).elim (fun e => .inr (.inr (.inl e))) (fun e => .inr (.inr (.inr (.inr (fp_all e)))))), Nat.le_trans hC.bB h4.size⟩
      · rintro e w' ⟨rfl, wm, bv', ⟨⟨s', hr1, hbur⟩, hT1, hF1⟩, hR', hc', hF2, how'⟩
        have hF1' : Fr (E.kb :: (S.c.bv.ownBlock.toList ++ E.tb :: S.L.fp)) w wm := hF1.here (fun x hx => List.mem_cons_of_mem _ (List.mem_append_right _ hx))
        have hF2' : Fr (E.kb :: (S.c.bv.ownBlock.toList ++ E.tb :: S.L.fp)) wm w' := hF2.here (fun x hx => (List.mem_cons.1 hx).elim (fun e => by rw [e]; exact List.mem_cons_self ..) (fun e => List.mem_cons_of_mem _ (List.mem_append_left _ e)))
        have hF := hF1'.trans hF2'
        have hsub2 : ∀ x ∈ E.kb :: (S.c.bv.ownBlock.toList ++ E.tb :: S.L.fp), CO E S x := by
          intro x hx
          rcases List.mem_cons.1 hx with e | hx
          · exact .inl e
          · rcases List.mem_append.1 hx with e | hx
            · exact .inr (.inr (.inr (.inr (.inr (by simpa using e)))))
            · exact hsub x hx
        have hown : ∀ x ∈ E.kb :: S.c.bv.ownBlock.toList, x ∉ S.L.all ∧ x ≠ E.mb ∧ x ≠ E.tb ∧ x ≠ E.sb := by
          intro x hx
          rcases List.mem_cons.1 hx with e | e
          · rw [e]; exact ⟨hC.ka, hC.km, hC.kt, hC.ks⟩
          · obtain ⟨b1, b2, b3, b4, b5⟩ := hC.bo x (by simpa using e)
            exact ⟨b5, b2, b3, b4⟩
        have hr' := hr1.fr hF2 (fun x hx => (hown x hx).1)
        have hT' := hT1.fr hF2 (fun hc => (hown _ hc).2.2.1 rfl)
        have hm' : MBlk w' E.mb S.L S.a S.nx := Blk.fr (Blk.fr hC.m hF1 (by simp only [List.mem_cons, not_or]; exact ⟨hC.mt, f2⟩)) hF2 (fun hc => (hown _ hc).2.1 rfl)
        have hk' : SkRep w' S.P E.sb S.k := hC.k.fr hF (fun hc => by
          rcases List.mem_cons.1 hc with e | hc
          · exact hC.ks e.symm
          · rcases List.mem_append.1 hc with e | hc
            · exact (hC.bo _ (by simpa using e)).2.2.2.1 rfl
            · rcases List.mem_cons.1 hc with e | hc
              · exact hC.ts e.symm
              · exact f4 hc) (fun b hb _ hc => (hC.hP b hb).2 (hsub2 b hc))
        obtain ⟨rw', hqq⟩ := hQ.wbury hX hp htd hko hk hmk hmm hbur.toBur { S.c with bv := bv' } rfl rfl
        have hgl : ∀ g, bv'.ownBlock = some g → w.heap.size ≤ g ∨ S.c.bv.ownBlock = some g := by
          intro g hg
          rcases how' with h1 | ⟨g2, h1, h2⟩
          · exact .inr (h1.symm.trans hg)
          · rw [h1] at hg; cases hg; exact .inl (Nat.le_trans hF1.size h2)
        obtain ⟨r1, r2, r3⟩ := hC.go (S' := { S with s := s', obs := bO S.obs o.p, t := ({ S.t with walk := S.s.wd o 3 } : TS).buried o.p, rw := rw', qu := S.qu ++ [{ o with k := 10 }], bl := S.bl ++ [o.a], dn := S.dn ++ [o], td := td', c := { S.c with bv := bv' } }) hF hsub2 rfl (fun x hx => .inl hx) (fun x hx => .inl hx) (fun hx => hC.x0 (by have e : s'.x = S.s.x := hbur.st.x; have hx' : s'.x.places ≠ 0 := hx; rw [e] at hx'; exact hx')) rfl rfl hr' hm' hc' hT'
          hk' (hC.f.fr hF (fun b hb _ hc => (hC.hP b hb).2 (hsub2 b hc))) hR' (how'.imp id (fun ⟨g2, h1, h2⟩ => ⟨g2, h1, Nat.le_trans hF1.size h2, fun hc => by have := hC.all_lt hc; have := hF1.size; omega⟩)) (fun b hb => hb) (fun b hb => .inl hb) hC.cyc hC.todo
        refine ⟨true, _, M - 1, rfl, r2, r3, .inl ⟨rfl, by omega, _, r1, hqq, hp, rfl, ?_, by omega, by show CyF X S.k.fs (bO S.obs o.p) (S.bl ++ [o.a]) S.c.rv s'.cls; rw [hbur.st.cls]; exact hcy.1.bury _ _ (by obtain ⟨dec, -, d2, -⟩ := hQ.hist; rw [d2]; simp), hcy.2.go hbur.u.1 (by have := hbur.u.2; (try dsimp only); omega)⟩⟩
        unfold meas
        rw [if_neg (show ¬ S.c.ph = 1 by omega), if_neg (show ¬ S.c.ph = 2 by omega), if_pos (show S.c.ph = 3 from hp)]
        show td'.length + (S.A none).F.length ≤ M - 1
        omega
theorem newX_fp {L : HL} {b0 b : Nat} (h0 : L.xlbs = [b0]) {sz : Nat} (hb : b = b0 ∨ sz ≤ b) : (∀ x ∈ (L.newX b).fp, x ∈ L.fp ∨ sz ≤ x) ∧ (∀ x ∈ (L.newX b).all, x ∈ L.all ∨ sz ≤ x) := by
  have h1 : ∀ x ∈ (L.newX b).fp, x ∈ L.fp ∨ sz ≤ x := by
    intro x hx
    simp only [HL.fp, HL.newX, List.mem_cons, List.mem_append, List.not_mem_nil, or_false] at hx
    simp only [HL.fp, List.mem_cons, List.mem_append, h0, List.not_mem_nil, or_false]
    rcases hx with e | e | e | e | e | e | e
    · exact .inl (.inl e)
    · exact .inl (.inr (.inl e))
    · exact .inl (.inr (.inr (.inl e)))
    · exact .inl (.inr (.inr (.inr (.inl e))))
    · exact .inl (.inr (.inr (.inr (.inr (.inl e)))))
    · rcases hb with h | h
      · exact .inl (.inr (.inr (.inr (.inr (.inr (.inl (e.trans h)))))))
      · exact .inr (by omega)
    · exact .inl (.inr (.inr (.inr (.inr (.inr (.inr e))))))
  refine ⟨h1, fun x hx => ?_⟩
  rcases List.mem_cons.1 hx with e | hx
  · exact .inl (by rw [e]; exact List.mem_cons_self ..)
  · rcases List.mem_cons.1 hx with e | hx
    · exact .inl (by rw [e]; exact List.mem_cons_of_mem _ (List.mem_cons_self ..))
    · exact (h1 x hx).imp fp_all id
set_option maxHeartbeats 800000 in
theorem eWay4 (E : CE) (g : MG) (X : CX) (O : Nat → Prop) (M : Nat) (w : World) (h : EInv E g X O M 4 w) :
    Calls Tryz.prog 77 #[.pointer (some ⟨E.hb, 0, none⟩)] w fun e w' => ∃ b O' M', e = .returned (.bool b) ∧ FrP O w w' ∧ (∀ x, O' x → O x ∨ w.heap.size ≤ x) ∧ ((b = true ∧ M' + 1 = M ∧ EInv E g X O' M' 4 w') ∨ (b = false ∧ M' = M ∧ EEnd E g X O' M' 4 w')) := by
  obtain ⟨S, hC, hQ, hp, rfl, hm, hM, hcy⟩ := h
  rw [← hC.hb]
  obtain ⟨f1, f2, f3, f4⟩ := hC.mf
  have hml : meas E.gl S = (S.A none).W.length := by unfold meas; rw [if_neg (by omega), if_neg (by omega), if_neg (by omega), if_pos hp]
  cases hW : (S.A none).W with
  | nil =>
    refine (hSweepNo S.L S.s S.A S.z w hC.hr hQ.mh.hi hW).mono ?_
    rintro e w' ⟨rfl, rfl⟩
    exact ⟨false, _, M, rfl, FrP.refl _ _, fun x hx => .inl hx, .inr ⟨rfl, rfl, S, hC, hQ, hp, rfl, hm, hM, ⟨hcy.1, hcy.2.go (Int.le_refl _) (by have h1 : pwU 4 = 36 := rfl; have h2 : pwE 4 = 36 := rfl; (try dsimp only); omega)⟩, fun h => by omega, fun h => by omega, fun h => by omega, fun _ => hW⟩⟩
  | cons c Wt =>
    obtain ⟨k, n, a, mk, h1, h2, h3⟩ := hQ.wh c (by rw [hW]; exact List.mem_cons_self ..)
    have hpl : S.s.x.places ≠ 0 := by
      have h4 := (hQ.mh.hi.linn c (mem_rows.2 (.inl (by rw [hW]; exact List.mem_cons_self ..))))
      have h5 := hQ.xok
      unfold XOk at h5
      omega
    obtain ⟨b0, hx0⟩ := hC.x0 hpl
    refine (hSweepYes S.L S.s S.A S.z c Wt k n a mk b0 w hC.hr hQ.mh.hi hQ.xok hx0 hW h1 h2 h3).mono ?_
    rintro e w' ⟨rfl, ⟨b, u', hu', hb, hr'⟩, hF⟩
    have hqq := hQ.sweep hp hW (n := (n : Int) + 3) (by omega) h3 u' (S.L.newX b)
    obtain ⟨n1, n2⟩ := newX_fp hx0 hb
    have hsub : ∀ x ∈ S.L.fp, CO E S x := fun x hx => .inr (.inr (.inr (.inr (.inl hx))))
    obtain ⟨r1, r2, r3⟩ := hC.go (S' := { S with L := S.L.newX b, s := S.s.swept c ((n : Int) + 3) u', A := S.A.up none ⟨Wt, (S.A none).F, (S.A none).G, (S.A none).B⟩ }) hF hsub rfl n1 n2 (fun _ => ⟨b, rfl⟩) rfl rfl hr' (Blk.fr hC.m hF f2) (hC.c.fr hF f1) (hC.t.fr hF f3)
      (hC.k.fr hF f4 (fun b hb _ hc => (hC.hP b hb).2 (hsub b hc))) (hC.f.fr hF (fun b hb _ hc => (hC.hP b hb).2 (hsub b hc))) (hC.b.fr hF (hC.bfr fun x hx => .inr (.inr (.inr (.inr (fp_all hx)))))) (.inl rfl) (fun b hb => hb) (fun b hb => .inl hb) hC.cyc hC.todo
    refine ⟨true, _, M - 1, rfl, r2, r3, .inl ⟨rfl, by rw [hW] at hml; simp at hml; omega, _, r1, hqq, hp, rfl, ?_, by omega, hcy.1, hcy.2.go (show S.s.u ≤ u' from hu'.1) (by show u' + _ ≤ _; rw [hW] at hml; simp at hml; (try dsimp only); omega)⟩⟩
    unfold meas
    rw [if_neg (show ¬ S.c.ph = 1 by omega), if_neg (show ¬ S.c.ph = 2 by omega), if_neg (show ¬ S.c.ph = 3 by omega), if_pos (show S.c.ph = 4 from hp)]
    show ((S.A.up none ⟨Wt, (S.A none).F, (S.A none).G, (S.A none).B⟩) none).W.length ≤ M - 1
    rw [Rg.up_same]
    rw [hW] at hml
    simp at hml
    show Wt.length ≤ M - 1
    omega
set_option maxHeartbeats 800000 in
theorem eNext (E : CE) (g : MG) (X : CX) (hX : CXK g X) (O : Nat → Prop) (M ph : Nat) (w : World) (h : EEnd E g X O M ph w) (h1 : 1 ≤ ph) (h4 : ph ≤ 4) :
    Calls Tryz.prog 78 #[.pointer (some ⟨E.kb, 0, none⟩)] w fun e w' => e = .returned (.tuple #[]) ∧ FrP O w w' ∧ ∃ O' M', (∀ x, O' x → O x ∨ w.heap.size ≤ x) ∧ M' = M ∧ EInv E g X O' M' ((ph + 1) % 5) w' := by
  obtain ⟨S, hC, hQ, hp, rfl, hm, hM, hcy, e1, e2, e3, e4⟩ := h
  obtain ⟨f1, f2, f3, f4⟩ := hC.mf
  have hcyc := hQ.cyc
  have hPn : ∀ (l : List Nat), (∀ x ∈ l, CO E S x) → ∀ b, S.P b → b < w.heap.size → b ∉ l := fun l hl b hb _ hc => (hC.hP b hb).2 (hl b hc)
  obtain rfl | rfl | rfl | rfl : ph = 1 ∨ ph = 2 ∨ ph = 3 ∨ ph = 4 := by omega
  · refine (cNext1 E.kb S.L.hb E.mb E.tb S.c w hC.c hp).mono ?_
    rintro e w' ⟨rfl, hc', hF⟩
    have hsub : ∀ x ∈ [E.kb], CO E S x := fun x hx => .inl (List.mem_singleton.1 hx)
    obtain ⟨r1, r2, r3⟩ := hC.go (S' := { S with c := { S.c with ph := 2 } }) hF hsub rfl (fun x hx => .inl hx) (fun x hx => .inl hx) hC.x0 rfl rfl (hC.hr.fr hF (fun x hx => by rw [List.mem_singleton.1 hx]; exact hC.ka)) (Blk.fr hC.m hF (by simpa using fun e => hC.km e.symm)) hc' (hC.t.fr hF (by simpa using fun e => hC.kt e.symm))
      (hC.k.fr hF (by simpa using fun e => hC.ks e.symm) (hPn _ hsub)) (hC.f.fr hF (hPn _ hsub)) (hC.b.fr hF (hC.bfr fun x hx => .inl (List.mem_singleton.1 hx))) (.inl rfl) (fun b hb => hb) (fun b hb => .inl hb) hC.cyc hC.todo
    refine ⟨rfl, r2, _, M, r3, rfl, _, r1, hQ.next1 hp (e1 rfl), rfl, rfl, ?_, hM, hcy.1, hcy.2.go (Int.le_refl _) (by have h1 : pwE 1 = 0 := rfl; have h2 : pwU ((1 + 1) % 5) = 0 := rfl; (try dsimp only); omega)⟩
    unfold meas at hm ⊢
    rw [if_pos hp] at hm
    rw [if_neg (show ¬ 2 = 1 by decide), if_pos (show 2 = 2 from rfl)]
    show S.U + S.td.length + (S.A none).F.length ≤ M
    omega
  · obtain ⟨ha, hno⟩ := e2 rfl
    refine (cNext2 S.L E.kb E.mb E.tb S.c E.sh S.t w hC.c hp hC.t hC.kt).mono ?_
    rintro e w' ⟨rfl, hc', hT', hF⟩
    have hsub : ∀ x ∈ [E.kb, E.tb], CO E S x := by
      intro x hx
      simp only [List.mem_cons, List.not_mem_nil, or_false] at hx
      rcases hx with e | e
      · exact .inl e
      · exact .inr (.inr (.inl e))
    obtain ⟨r1, r2, r3⟩ := hC.go (S' := { S with c := { S.c with ph := 3 }, t := { S.t with walk := S.t.row, ahead := 0, walking := true } }) hF hsub rfl (fun x hx => .inl hx) (fun x hx => .inl hx) hC.x0 rfl rfl (hC.hr.fr hF (fun x hx => by
        simp only [List.mem_cons, List.not_mem_nil, or_false] at hx
        rcases hx with e | e
        · rw [e]; exact hC.ka
        · rw [e]; exact hC.ta)) (Blk.fr hC.m hF (by simp only [List.mem_cons, List.not_mem_nil, or_false, not_or]; exact ⟨fun e => hC.km e.symm, hC.mt⟩)) hc' hT'
      (hC.k.fr hF (by simp only [List.mem_cons, List.not_mem_nil, or_false, not_or]; exact ⟨fun e => hC.ks e.symm, fun e => hC.ts e.symm⟩) (hPn _ hsub)) (hC.f.fr hF (hPn _ hsub)) (hC.b.fr hF (hC.bfr fun x hx => by
        simp only [List.mem_cons, List.not_mem_nil, or_false] at hx
        rcases hx with e | e
        · exact .inl e
        · exact .inr (.inr (.inl e)))) (.inl rfl) (fun b hb => hb) (fun b hb => .inl hb) hC.cyc hC.todo
    refine ⟨rfl, r2, _, M, r3, rfl, _, r1, hQ.next2 hX hp ha hno, rfl, rfl, ?_, hM, hcy.1, hcy.2.go (Int.le_refl _) (by have h1 : pwE 2 = 36 := rfl; have h2 : pwU ((2 + 1) % 5) = 36 := rfl; (try dsimp only); omega)⟩
    unfold meas at hm ⊢
    rw [if_neg (by omega), if_pos hp] at hm
    rw [if_neg (show ¬ 3 = 1 by decide), if_neg (show ¬ 3 = 2 by decide), if_pos (show 3 = 3 from rfl)]
    show S.td.length + (S.A none).F.length ≤ M
    omega
  · have ht := e3 rfl
    have hno := hQ.nog hp
    refine (cNext3 E.kb S.L.hb E.mb E.tb S.c (fun e w' => Fr S.L.fp w w' ∧ ∃ s', HRep w' S.L s' ∧ HI s' S.A.ended S.z ∧ s'.ws = S.s.ws ∧ s'.cls = S.s.cls ∧ s'.edge = S.s.edge ∧ s'.x = S.s.x ∧ s'.parity = S.s.parity ∧ s'.u = S.s.u) w hC.c hp ((hEndRows S.L S.s S.A S.z w hC.hr hQ.mh.hi).mono ?_)).mono ?_
    · rintro e w' ⟨hF, ⟨hn, -⟩ | ⟨-, rfl, s', q1, q2, q3, q4, q5, -, q7, q8, q9⟩⟩
      · exact absurd hno hn
      · exact ⟨0, rfl, ⟨hF, s', q1, q2, q3, q4, q5, q7, q9, q8⟩, hC.c.fr hF f1⟩
    · rintro e w' ⟨rfl, -, wm, ⟨hF1, s', q1, q2, q3, q4, q5, q6, q7, q8⟩, hc', hF2⟩
      have hF : Fr (E.kb :: S.L.fp) w w' := (hF1.here (fun x hx => List.mem_cons_of_mem _ hx)).trans (hF2.here (fun x hx => by rw [List.mem_singleton.1 hx]; exact List.mem_cons_self ..))
      have hsub : ∀ x ∈ E.kb :: S.L.fp, CO E S x := fun x hx => (List.mem_cons.1 hx).elim (fun e => .inl e) (fun e => .inr (.inr (.inr (.inr (.inl e)))))
      obtain ⟨r1, r2, r3⟩ := hC.go (S' := { S with s := s', A := S.A.ended, obs := mkO S.A S.obs, c := { S.c with ph := 4 } }) hF hsub rfl (fun x hx => .inl hx) (fun x hx => .inl hx) (fun hx => hC.x0 (by have hx' : s'.x.places ≠ 0 := hx; rw [q6] at hx'; exact hx')) rfl rfl (q1.fr hF2 (fun x hx => by rw [List.mem_singleton.1 hx]; exact hC.ka)) (Blk.fr hC.m hF (by simp only [List.mem_cons, not_or]; exact ⟨fun e => hC.km e.symm, f2⟩)) hc' (hC.t.fr hF (by simp only [List.mem_cons, not_or]; exact ⟨fun e => hC.kt e.symm, f3⟩))
        (hC.k.fr hF (by simp only [List.mem_cons, not_or]; exact ⟨fun e => hC.ks e.symm, f4⟩) (hPn _ hsub)) (hC.f.fr hF (hPn _ hsub)) (hC.b.fr hF (hC.bfr fun x hx => (List.mem_cons.1 hx).elim .inl (fun e => .inr (.inr (.inr (.inr (fp_all e))))))) (.inl rfl) (fun b hb => hb) (fun b hb => .inl hb) hC.cyc hC.todo
      refine ⟨rfl, r2, _, M, r3, rfl, _, r1, hQ.next3 hp ht q2 q3 q4 q5 q6 q7, rfl, rfl, ?_, hM, by show CyF X S.k.fs (mkO S.A S.obs) S.bl S.c.rv s'.cls; rw [q4]; exact hcy.1.sub (fun o ho => (mem_mkO.1 ho).1), hcy.2.go (by show S.s.u ≤ s'.u; omega) (by show s'.u + _ ≤ _; have h1 : pwE 3 = 36 := rfl; have h2 : pwU ((3 + 1) % 5) = 36 := rfl; (try dsimp only); omega)⟩
      unfold meas at hm ⊢
      rw [if_neg (by omega), if_neg (by omega), if_pos hp] at hm
      rw [if_neg (show ¬ 4 = 1 by decide), if_neg (show ¬ 4 = 2 by decide), if_neg (show ¬ 4 = 3 by decide), if_pos (show 4 = 4 from rfl)]
      show ((S.A none).W ++ (S.A none).F).length ≤ M
      rw [hQ.wn (by omega), List.nil_append]
      omega
  · have hcy2 : S.c.cyc ≤ 900 := by rw [hcyc, hp]; simp; exact hcy.1.1
    refine (cNext4 E.kb S.L.hb E.mb E.tb S.c w hC.c hp (by omega)).mono ?_
    rintro e w' ⟨rfl, hc', hF⟩
    have hsub : ∀ x ∈ [E.kb], CO E S x := fun x hx => .inl (List.mem_singleton.1 hx)
    obtain ⟨r1, r2, r3⟩ := hC.go (S' := { S with c := { S.c with ph := 0, cyc := S.c.cyc + 1 } }) hF hsub rfl (fun x hx => .inl hx) (fun x hx => .inl hx) hC.x0 rfl rfl (hC.hr.fr hF (fun x hx => by rw [List.mem_singleton.1 hx]; exact hC.ka)) (Blk.fr hC.m hF (by simpa using fun e => hC.km e.symm)) hc' (hC.t.fr hF (by simpa using fun e => hC.kt e.symm))
      (hC.k.fr hF (by simpa using fun e => hC.ks e.symm) (hPn _ hsub)) (hC.f.fr hF (hPn _ hsub)) (hC.b.fr hF (hC.bfr fun x hx => .inl (List.mem_singleton.1 hx))) (.inl rfl) (fun b hb => hb) (fun b hb => .inl hb) (by show S.c.cyc + 1 ≤ 1000; omega) hC.todo
    refine ⟨rfl, r2, _, M, r3, rfl, _, r1, hQ.next4 hp (e4 rfl), rfl, rfl, ?_, hM, hcy.1, hcy.2.go (Int.le_refl _) (by have h1 : pwE 4 = 36 := rfl; have h2 : pwU ((4 + 1) % 5) = 36 := rfl; (try dsimp only); omega)⟩
    unfold meas
    rw [if_neg (show ¬ 0 = 1 by decide), if_neg (show ¬ 0 = 2 by decide), if_neg (show ¬ 0 = 3 by decide), if_neg (show ¬ 0 = 4 by decide)]
    exact Nat.zero_le _
theorem eEng (E : CE) (g : MG) (X : CX) (hX : CXK g X) : Eng E.kb E.hb (EInv E g X) (EEnd E g X) where
  lt := by
    rintro O M ph w ⟨S, hC, hQ, hp, rfl, -⟩
    exact ⟨hC.ltF, hp ▸ hQ.ph⟩
  k := by
    rintro O M ph w ⟨S, hC, hQ, hp, rfl, -⟩
    refine ⟨?_, ?_⟩
    · rw [← hp]; exact Blk.cell hC.c (i := 6) rfl
    · rw [← hC.hb]; exact Blk.cell hC.c (i := 0) rfl
  calm := by
    rintro O M ph w w' ⟨S, hC, hQ, h⟩ hF
    exact ⟨S, hC.fr hF (by simp), hQ, h⟩
  way1 := eWay1 E g X
  way2 := eWay2 E g X
  way3 := eWay3 E g X hX
  way4 := eWay4 E g X
  next := eNext E g X hX
def PlBlk (w : World) (pb : Nat) (hb sb : Nat) (kv : Value) (wb : Nat) (wv : Value) (km : Nat) (full : Bool) : Prop := Blk w pb [.pointer (some ⟨hb, 0, none⟩), .pointer (some ⟨sb, 0, none⟩), kv, .pointer (some ⟨wb, 0, none⟩), wv, .map (some km), .bool full] 36
def PAPost (pb hb sb : Nat) (kv : Value) (wb : Nat) (wv : Value) (km : Nat) (mp : Nat) (m : List (Int × Value)) (k a : Int) (n : Nat) (No : World → Prop) (Yes : Int → World → Prop) (e : Ending) (w' : World) : Prop :=
  (∃ w1, No w1 ∧ e = .returned (.tuple #[.int .i64 0, .bool false]) ∧ Fr [pb] w1 w' ∧ PlBlk w' pb hb sb kv wb wv km true) ∨
  ∃ p w1 g, Yes p w1 ∧ e = .returned (.tuple #[.int .i64 p, .bool true]) ∧ w1.heap.size ≤ g ∧ IM w' mp (mput m p (obV k n a 0 g n)) ∧ Blk w' g (List.replicate n (.int .i64 0)) 2 ∧ Fr [mp] w1 w'
set_option maxRecDepth 100000 in
set_option maxHeartbeats 3200000 in
theorem yAllocF (pb hb sb wb km : Nat) (kv wv : Value) (full : Bool) (c : WS) (m : List (Int × Value)) (k a : Int) (n : Nat) (hn : n ≤ 100) (w : World) (Sl : List Nat) (No : World → Prop) (Yes : Int → World → Prop)
    (hpb : PlBlk w pb hb sb kv wb wv km full) (hwb : WBlk w wb c) (him : IM w c.mp m) (hS : pb ∉ Sl ∧ wb ∉ Sl ∧ c.mp ∉ Sl)
    (hA : Calls Tryz.prog 16 #[.pointer (some ⟨hb, 0, none⟩), .int .i64 k, .int .i64 a, .int .i64 n] w fun e w' => Fr Sl w w' ∧ ((e = .returned (.tuple #[.int .i64 0, .int .i64 2]) ∧ No w') ∨ ∃ p, e = .returned (.tuple #[.int .i64 p, .int .i64 0]) ∧ Yes p w'))
    (hR : ∀ p w1, Yes p w1 → Fr Sl w w1 → Calls Tryz.prog 21 #[.pointer (some ⟨wb, 0, none⟩)] w1 fun e w' => ∃ (om lk : Nat) (l : List Int), e = .returned (.tuple #[.map (some om), .int .i64 lk]) ∧ IM w' om (l.map fun x => (x, .bool true)) ∧ p ∉ l ∧ Fr [] w1 w')
    (hY : ∀ p w1 w2, Yes p w1 → Fr [] w1 w2 → Yes p w2) :
    Calls Tryz.prog 31 #[.pointer (some ⟨pb, 0, none⟩), .int .i64 k, .int .i64 a, .int .i64 n] w (PAPost pb hb sb kv wb wv km c.mp m k a n No Yes) := by
  have c0 := Blk.cell hpb (i := 0) rfl
  have HPB := hid hpb
  have HWB := hid hwb
  have HIM := hid him
  have HS := hid hS
  have HA := hid hA
  have HR := hid hR
  have HY := hid hY
  have HN := hid hn
  have hmk := run_mk64 n (by omega)
  clear hpb hwb him hS hA hR hn hY
  go_enter Tryz.func31, Tryz.ntmps31
  go_wp2_with fail
  refine HA.out.mono ?_
  rintro e w1 ⟨hF1, ⟨rfl, hno⟩ | ⟨p, rfl, hyes⟩⟩
  · have hB1 := Blk.fr HPB.out hF1 HS.out.1
    have y6 := Blk.frozen hB1 6
    have d6 := Blk.cell hB1 (i := 6) rfl
    have HNO := hid hno
    have HB := hid (Blk.set hB1 6 (.bool true))
    have HF : Hid (Fr [pb] w1 (w1.setCell ⟨pb, 6, none⟩ (.bool true))) := hid ((Fr.refl _ w1).set (by simp) _)
    clear hB1 hF1 hno c0
    go_wp2_with fail
    go_ret2
    exact .inl ⟨w1, HNO.out, rfl, HF.out, HB.out⟩
  · have hB1 := Blk.fr HPB.out hF1 HS.out.1
    have d3 := Blk.cell hB1 (i := 3) rfl
    have HF1 := hid hF1
    have HYES := hid hyes
    have Hr := hid (HR.out p w1 hyes hF1)
    clear hF1 hyes c0
    go_wp2_with fail
    refine Hr.out.mono ?_
    rintro e w2 ⟨om, lk, l, rfl, hom, hpl, hF2⟩
    have hg0 : mget (l.map fun x => (x, Value.bool true)) p = none := mget_none (by simpa [List.map_map] using hpl)
    have hlk := run_lookup_im (P := Tryz.prog) hom Tryz.underlying53 Tryz.underlying3 (z := .bool false) (by kernel_rfl) p false
    rw [hg0] at hlk
    simp only [Option.getD_none, Bool.false_eq_true, if_false] at hlk
    have hB2 := Blk.fr hB1 hF2 (by simp)
    have e3 := Blk.cell hB2 (i := 3) rfl
    have hW2 := Blk.fr (Blk.fr HWB.out HF1.out HS.out.2.1) hF2 (by simp)
    have e0 := Blk.cell hW2 (i := 0) rfl
    have hI2 := (HIM.out.fr HF1.out HS.out.2.2).fr hF2 (by simp)
    have ez : (List.replicate n (Value.int .i64 0)).toArray = Array.replicate n (Value.int .i64 0) := by simp
    have HYES2 := hid (HY.out p w1 w2 HYES.out hF2)
    have HW2 := hid hW2
    have HB2 := hid hB2
    have HI2 := hid hI2
    clear hom hpl hF2 hB1 d3 hg0 hB2 hW2 hI2
    go_wp2_with fail
    have hF3 : Fr [] w2 (w2.alloc (.cells (Array.replicate n (.int .i64 0)) 2)).drew := ((Fr.refl _ w2).alloc _).drew
    have hg3 : Blk (w2.alloc (.cells (Array.replicate n (.int .i64 0)) 2)).drew w2.heap.size (List.replicate n (.int .i64 0)) 2 := by
      have := Blk.new w2 (List.replicate n (.int .i64 0)) 2
      rw [ez] at this
      exact this.fr ((Fr.refl [] _).drew) (by simp)
    have hI3 : IM (w2.alloc (.cells (Array.replicate n (.int .i64 0)) 2)).drew c.mp m := (HI2.out.alloc _).drew
    obtain ⟨w4, hrun, hI4, hF4⟩ := run_mapUpdate_im (P := Tryz.prog) hI3 Tryz.underlying66 Tryz.underlying3 p (obV k n a 0 w2.heap.size n)
    unfold obV at hrun
    have q3 := (HB2.out.fr hF3 (by simp)).cell (i := 3) rfl
    have q0 := (HW2.out.fr hF3 (by simp)).cell (i := 0) rfl
    have hne : w2.heap.size ≠ c.mp := by have := HI2.out.lt; omega
    have HG4 := hid (hg3.fr hF4 (by simpa using hne))
    have HI4 := hid hI4
    have HF4 := hid hF4
    have HF3 := hid hF3
    clear hI4 hF4 hI3 hg3 hF3 ez hlk hne
    go_region
    all_goals
      go_wp2_with fail
      go_ret2
      exact .inr ⟨p, w2, w2.heap.size, HYES2.out, rfl, Nat.le_refl _, HI4.out, HG4.out, (HF3.out.here (by simp)).trans HF4.out⟩
def PSPost (g j : Nat) (cs : List Value) (v : Int) (P3 : World → Prop) (e : Ending) (w' : World) : Prop :=
  e = .returned (.tuple #[]) ∧ ∃ w3, P3 w3 ∧ Fr [g] w3 w' ∧ Blk w' g (cs.set j (.int .i64 v)) 2
set_option maxRecDepth 100000 in
set_option maxHeartbeats 3200000 in
theorem yPSetF (pb hb sb kb wb km : Nat) (wv : Value) (full : Bool) (c : WS) (m : List (Int × Value)) (p x v : Int) (kk aa : Int) (n g j : Nat) (cs : List Value) (b : Bool) (w : World) (Sl : List Nat) (P1 P2 P3 : World → Prop)
    (hpb : PlBlk w pb hb sb (.pointer (some ⟨kb, 0, none⟩)) wb wv km full) (hwb : WBlk w wb c) (him : IM w c.mp m) (hg : mget m p = some (obV kk n aa 0 g n)) (hB : Blk w g cs 2) (hcs : cs.length = n) (hj : j < n) (hS : pb ∉ Sl ∧ wb ∉ Sl ∧ c.mp ∉ Sl ∧ g ∉ Sl) (hd : Hd kk n aa 0) (hlb : b = lkB kk n j)
    (hG : Calls Tryz.prog 59 #[.pointer (some ⟨hb, 0, none⟩), .int .i64 p, .int .i64 j] w fun e w' => e = .returned (.tuple #[.int .i64 x, .int .i64 0]) ∧ P1 w' ∧ Fr Sl w w')
    (h1 : ∀ w1 w2, P1 w1 → Fr [] w1 w2 → P1 w2)
    (hBa : b = true → ∀ w1, P1 w1 → Fr Sl w w1 → Calls Tryz.prog 72 #[.pointer (some ⟨kb, 0, none⟩), .int .i64 x] w1 fun e w' => e = .returned (.tuple #[]) ∧ P2 w' ∧ Fr Sl w1 w') (hNo : b = false → ∀ w1, P1 w1 → P2 w1)
    (hSe : ∀ w2, P2 w2 → Fr Sl w w2 → Calls Tryz.prog 79 #[.pointer (some ⟨hb, 0, none⟩), .int .i64 p, .int .i64 j, .int .i64 v] w2 fun e w' => e = .returned (.int .i64 0) ∧ P3 w' ∧ Fr Sl w2 w')
    (h3 : ∀ w1 w2, P3 w1 → Fr [] w1 w2 → P3 w2) :
    Calls Tryz.prog 36 #[.pointer (some ⟨pb, 0, none⟩), .int .i64 p, .int .i64 j, .int .i64 v] w (PSPost g j cs v P3) := by
  have c0 := Blk.cell hpb (i := 0) rfl
  have HPB := hid hpb
  have HWB := hid hwb
  have HIM := hid him
  have HS := hid hS
  have HG := hid hG
  have H1 := hid h1
  have HBA := hid hBa
  have HNO := hid hNo
  have HSE := hid hSe
  have H3 := hid h3
  have HBB := hid hB
  have HMG := hid hg
  have HD := hid hd
  have HBE := hid hlb
  have HCS := hid hcs
  have g1 : decide ((j : Int) < 0) = false := by simp
  have g2 : decide ((n : Int) ≤ (j : Int)) = false := by simp; omega
  have i1 : (0 : Int) ≤ (j : Int) := by omega
  have i2 : (j : Int) < (n : Int) := by omega
  have HJ := hid hj
  clear hpb hwb him hS hG h1 hBa hNo hSe h3 hB hg hd hlb hcs hj
  go_enter Tryz.func36, Tryz.ntmps36
  go_wp2_with fail
  refine HG.out.mono ?_
  rintro e w1 ⟨rfl, hp1, hF1⟩
  have hB1 := Blk.fr HPB.out hF1 HS.out.1
  have d3 := Blk.cell hB1 (i := 3) rfl
  have HF1 := hid hF1
  have HP1 := hid hp1
  have HB1 := hid hB1
  clear hF1 hp1 hB1 c0
  go_wp2_with fail
  refine (yLink wb c m p kk aa n g j w1 (Blk.fr HWB.out HF1.out HS.out.2.1) (HIM.out.fr HF1.out HS.out.2.2.1) HMG.out HD.out).mono ?_
  rintro e w2 ⟨rfl, hF2⟩
  rw [← HBE.out]
  have HP2 := hid (H1.out w1 w2 HP1.out hF2)
  have HF2 : Hid (Fr Sl w w2) := hid (HF1.out.trans (hF2.here (by simp)))
  clear hF2 d3
  have fin : ∀ (w3 : World), P2 w3 → Fr Sl w w3 → Hid (P2 w3 ∧ Fr Sl w w3) := fun w3 h1 h2 => hid ⟨h1, h2⟩
  cases b with
  | true =>
    have e2 := (Blk.fr HPB.out HF2.out HS.out.1).cell (i := 2) rfl
    go_wp2_with fail
    refine (HBA.out (by simp) w2 HP2.out HF2.out).mono ?_
    rintro e w3 ⟨rfl, hp3, hF3⟩
    have HX := fin w3 hp3 (HF2.out.trans hF3)
    have f0 := (Blk.fr HPB.out HX.out.2 HS.out.1).cell (i := 0) rfl
    clear hp3 hF3 e2 fin
    go_wp2_with fail
    refine (HSE.out w3 HX.out.1 HX.out.2).mono ?_
    rintro e w4 ⟨rfl, hp4, hF4⟩
    have HP4 := hid hp4
    have HF4 := hid (HX.out.2.trans hF4)
    have hB4 := Blk.fr HPB.out HF4.out HS.out.1
    have j3 := hB4.cell (i := 3) rfl
    have j0 := (Blk.fr HWB.out HF4.out HS.out.2.1).cell (i := 0) rfl
    have him4 := HIM.out.fr HF4.out HS.out.2.2.1
    have hlk := run_lookup_im (P := Tryz.prog) him4 Tryz.underlying66 Tryz.underlying3 (obZero w4) p false
    rw [HMG.out] at hlk
    simp only [Option.getD_some, obV, if_neg (show ¬ false = true by decide)] at hlk
    have hfw := fieldW kk n aa 0 g n
    have hB5 := HBB.out.fr HF4.out HS.out.2.2.2
    obtain ⟨u, hu⟩ : ∃ u, cs[j]? = some u := ⟨_, List.getElem?_eq_getElem (by have := HCS.out; have := HJ.out; omega)⟩
    have k0 := hB5.cell hu
    have y0 := hB5.frozen j
    have HB5 := hid (hB5.set j (.int .i64 v))
    clear hp4 hF4 hB4 him4 hB5 hu f0
    go_wp2_with fail
    go_end0
    exact ⟨rfl, w4, HP4.out, (Fr.refl _ w4).set (by simp) _, HB5.out⟩
  | false =>
    have HX := fin w2 (HNO.out (by simp) w2 HP2.out) HF2.out
    have f0 := (Blk.fr HPB.out HX.out.2 HS.out.1).cell (i := 0) rfl
    clear fin
    go_wp2_with fail
    refine (HSE.out w2 HX.out.1 HX.out.2).mono ?_
    rintro e w4 ⟨rfl, hp4, hF4⟩
    have HP4 := hid hp4
    have HF4 := hid (HX.out.2.trans hF4)
    have hB4 := Blk.fr HPB.out HF4.out HS.out.1
    have j3 := hB4.cell (i := 3) rfl
    have j0 := (Blk.fr HWB.out HF4.out HS.out.2.1).cell (i := 0) rfl
    have him4 := HIM.out.fr HF4.out HS.out.2.2.1
    have hlk := run_lookup_im (P := Tryz.prog) him4 Tryz.underlying66 Tryz.underlying3 (obZero w4) p false
    rw [HMG.out] at hlk
    simp only [Option.getD_some, obV, if_neg (show ¬ false = true by decide)] at hlk
    have hfw := fieldW kk n aa 0 g n
    have hB5 := HBB.out.fr HF4.out HS.out.2.2.2
    obtain ⟨u, hu⟩ : ∃ u, cs[j]? = some u := ⟨_, List.getElem?_eq_getElem (by have := HCS.out; have := HJ.out; omega)⟩
    have k0 := hB5.cell hu
    have y0 := hB5.frozen j
    have HB5 := hid (hB5.set j (.int .i64 v))
    clear hp4 hF4 hB4 him4 hB5 hu f0
    go_wp2_with fail
    go_end0
    exact ⟨rfl, w4, HP4.out, (Fr.refl _ w4).set (by simp) _, HB5.out⟩
def FrV (w : World) (P : Nat → Prop) (v : Value) (ls : List (List Int)) : Prop := ∃ vs : List SV, Rowv w 0 v vs ∧ vs.length = ls.length ∧ ∀ (i : Nat) (l : List Int), ls[i]? = some l → ∃ x, vs[i]? = some x ∧ RdS w P (sval x) l
theorem FrV.fr {Sl : List Nat} {w w' : World} {P : Nat → Prop} {v : Value} {ls : List (List Int)} (h : FrV w P v ls) (hf : Fr Sl w w') (h1 : ∀ g, v.ownBlock = some g → g ∉ Sl) (h2 : ∀ g, P g → g < w.heap.size → g ∉ Sl) : FrV w' P v ls := by
  obtain ⟨vs, a, b, c⟩ := h
  exact ⟨vs, a.fr hf h1, b, fun i l hl => by obtain ⟨x, e1, e2⟩ := c i l hl; exact ⟨x, e1, e2.fr hf h2⟩⟩
theorem FrV.mono {w : World} {P Q : Nat → Prop} {v : Value} {ls : List (List Int)} (h : FrV w P v ls) (hPQ : ∀ g, P g → Q g) : FrV w Q v ls := by
  obtain ⟨vs, a, b, c⟩ := h
  exact ⟨vs, a, b, fun i l hl => by obtain ⟨x, e1, e2⟩ := c i l hl; exact ⟨x, e1, e2.mono hPQ⟩⟩
theorem FrV.nil (w : World) (P : Nat → Prop) : FrV w P (.slice none 0 0) [] := ⟨[], Rowv.nil w 0, rfl, fun i l hl => by simp at hl⟩
theorem FrV.rdss {w : World} {P : Nat → Prop} {v : Value} {ls : List (List Int)} (h : FrV w P v ls) (ho : ∀ g, v.ownBlock = some g → P g) (hl : ls.length ≤ 1000) : RdSS w P v ls := by
  obtain ⟨vs, a, b, c⟩ := h
  obtain ⟨A, cp, e⟩ := a.form
  subst e
  refine ⟨A, cp, by rw [b], ?_, fun i l hi => ?_⟩
  · rcases Nat.eq_zero_or_pos vs.length with h0 | h0
    · omega
    · obtain ⟨g, -, -, -, -, h5, -⟩ := a.at h0
      omega
  · obtain ⟨x, h1, h2⟩ := c i l hi
    have h0 : 0 < vs.length := by have := (List.getElem?_eq_some_iff.1 h1).1; omega
    obtain ⟨g, e1, -, e3, -, -, -, e7⟩ := a.at h0
    subst e1
    exact ⟨g, 0, sval x, rfl, ho g (by simp [Value.ownBlock]), e3, by rw [Nat.zero_add]; exact e7 i x h1, h2⟩
theorem Rowl.rds {w : World} {B : Nat} {P : Nat → Prop} {v : Value} {l : List Int} (h : Rowl w B v l) (ho : ∀ g, v.ownBlock = some g → P g) (hl : l.length ≤ 1000) : RdS w P v l := by
  obtain ⟨A, cp, e⟩ := h.form
  subst e
  refine ⟨A, cp, rfl, ?_, fun i x hi => ?_⟩
  · rcases Nat.eq_zero_or_pos l.length with h0 | h0
    · omega
    · obtain ⟨g, -, -, -, -, h5, -⟩ := h.at h0
      omega
  · have h0 : 0 < l.length := by have := (List.getElem?_eq_some_iff.1 hi).1; omega
    obtain ⟨g, e1, -, e3, -, -, -, e7⟩ := h.at h0
    subst e1
    exact ⟨g, 0, rfl, ho g (by simp [Value.ownBlock]), e3, by rw [Nat.zero_add]; exact e7 i x hi⟩
structure DA where
  pb : Nat
  hb : Nat
  sb : Nat
  kv : Value
  wb : Nat
  rb : Nat
  bx : Nat
  kp : Nat → Nat → Option Value
  w0 : World
structure DPs where
  c : WS
  wv : Value
  km : Nat
  full : Bool
  m : List (Int × Value)
  kml : List (Int × Value)
  G : Int → Nat
  regs : List Int
  lab : Nat → Int
def BX (a : DA) (lab : Nat → Int) (w : World) : Prop := (∀ b i v, a.kp b i = some v → w.cell? ⟨b, i, none⟩ = some v ∧ lab b = -1) ∧ Fr [] a.w0 w ∧ ∀ k, k < a.w0.heap.size → lab k = -1
theorem BX.lab {a : DA} {lab lab' : Nat → Int} {w : World} (h : BX a lab w) (hl : ∀ b, lab b ≠ 0 → lab' b = lab b) : BX a lab' w := ⟨fun b i v hv => ⟨(h.1 b i v hv).1, (hl b (by rw [(h.1 b i v hv).2]; decide)).trans (h.1 b i v hv).2⟩, h.2.1, fun k hk => (hl k (by rw [h.2.2 k hk]; decide)).trans (h.2.2 k hk)⟩
theorem BX.fr {a : DA} {lab : Nat → Int} {w w' : World} {Sl : List Nat} (h : BX a lab w) (hf : Fr Sl w w') (hS : ∀ x ∈ Sl, lab x ≠ -1) (hlt : ∀ b, lab b ≠ 0 → b < w.heap.size) : BX a lab w' := by
  refine ⟨fun b i v hv => ?_, h.2.1.step hf (fun y hy => .inr (Nat.le_of_not_lt fun hc => hS y hy (h.2.2 y hc))), h.2.2⟩
  obtain ⟨h1, h2⟩ := h.1 b i v hv
  exact ⟨(cell_fr hf (fun hc => hS b hc h2) (hlt b (by rw [h2]; decide)) i).trans h1, h2⟩
structure DR (F : Nat → Prop) (a : DA) (obs : List Ob) (wd : Ob → Nat → Int) (gl : List Int) (fs : List (List Int)) (row wks : List Int) (D : DPs) (w : World) : Prop where
  p : PlBlk w a.pb a.hb a.sb a.kv a.wb D.wv D.km D.full
  wb : WBlk w a.wb D.c
  im : IM w D.c.mp D.m
  kim : IM w D.km D.kml
  dob : DObs w 0 D.m 0 obs D.G wd
  rb : Blk w a.rb (D.regs.map (.int .i64)) 2
  rv : D.c.rv = .slice (some ⟨a.rb, 0, none⟩) 4 4
  rl : D.regs.length = 4
  gv : Rowl w 0 D.c.gv gl
  fv : FrV w (fun b => D.lab b = 2) D.c.fv fs
  row : Rowi w 0 D.c.row row
  qv : D.c.qv = .slice none 0 0
  wk : Rowi w 0 D.wv wks
  lp : D.lab a.pb = 6
  lw : D.lab a.wb = 7
  lr : D.lab a.rb = 1
  lm : D.lab D.c.mp = 8
  lk : D.lab D.km = 9
  lG : ∀ o ∈ obs, D.lab (D.G o.p) = 10 + o.p
  lg : ∀ g, D.c.gv.ownBlock = some g → D.lab g = 2
  lf : ∀ g, D.c.fv.ownBlock = some g → D.lab g = 5
  lo : ∀ g, D.c.row.ownBlock = some g → D.lab g = 4
  lx : ∀ g, D.wv.ownBlock = some g → D.lab g = 3
  pos : ∀ o ∈ obs, 1 ≤ o.p
  sep : ∀ b, D.lab b ≠ 0 → b < w.heap.size ∧ ¬ F b
  bx : BX a D.lab w
structure DK (a : DA) (obs : List Ob) (wd : Ob → Nat → Int) (gl : List Int) (fs : List (List Int)) (row wks : List Int) (D : DPs) (L0 : Int) (w' : World) : Prop where
  p : L0 ≠ 6 → PlBlk w' a.pb a.hb a.sb a.kv a.wb D.wv D.km D.full
  wb : L0 ≠ 7 → WBlk w' a.wb D.c
  im : L0 ≠ 8 → IM w' D.c.mp D.m
  kim : L0 ≠ 9 → IM w' D.km D.kml
  ob : ∀ o ∈ obs, L0 ≠ 10 + o.p → Blk w' (D.G o.p) (wcs o (wd o)) 2
  rb : L0 ≠ 1 → Blk w' a.rb (D.regs.map (.int .i64)) 2
  gv : L0 ≠ 2 → Rowl w' 0 D.c.gv gl
  fv : L0 ≠ 2 → L0 ≠ 5 → FrV w' (fun b => D.lab b = 2) D.c.fv fs
  row : L0 ≠ 4 → Rowi w' 0 D.c.row row
  wk : L0 ≠ 3 → Rowi w' 0 D.wv wks
  bx : L0 ≠ -1 → BX a D.lab w'
theorem DR.keep {F : Nat → Prop} {a : DA} {obs : List Ob} {wd : Ob → Nat → Int} {gl : List Int} {fs : List (List Int)} {row wks : List Int} {D : DPs} {w w' : World} {Sl : List Nat} (h : DR F a obs wd gl fs row wks D w) (hf : Fr Sl w w') (L0 : Int) (hS : ∀ x ∈ Sl, D.lab x = L0 ∨ D.lab x = 0) : DK a obs wd gl fs row wks D L0 w' := by
  have key : ∀ b l, D.lab b = l → l ≠ 0 → L0 ≠ l → b ∉ Sl := by
    intro b l e h0 hne hc
    rcases hS b hc with h1 | h1
    · exact hne (h1.symm.trans e)
    · exact h0 (e.symm.trans h1)
  refine ⟨fun hn => Blk.fr h.p hf (key _ _ h.lp (by decide) hn), fun hn => Blk.fr h.wb hf (key _ _ h.lw (by decide) hn), fun hn => h.im.fr hf (key _ _ h.lm (by decide) hn), fun hn => h.kim.fr hf (key _ _ h.lk (by decide) hn), fun o ho hn => (h.dob.blk o ho).2.fr hf (key _ _ (h.lG o ho) (by have := h.pos o ho; omega) hn), fun hn => h.rb.fr hf (key _ _ h.lr (by decide) hn),
    fun hn => h.gv.fr hf (fun g hg => key _ _ (h.lg g hg) (by decide) hn), fun h2 h5 => h.fv.fr hf (fun g hg => key _ _ (h.lf g hg) (by decide) h5) (fun g hg _ => key _ _ hg (by decide) h2), fun hn => h.row.fr hf (fun g hg => key _ _ (h.lo g hg) (by decide) hn), fun hn => h.wk.fr hf (fun g hg => key _ _ (h.lx g hg) (by decide) hn), fun hn => h.bx.fr hf (fun x hx e => by rcases hS x hx with h1 | h1 <;> omega) (fun b hb => (h.sep b hb).1)⟩
theorem DR.fr {F F' : Nat → Prop} {a : DA} {obs : List Ob} {wd wd' : Ob → Nat → Int} {gl : List Int} {fs : List (List Int)} {row wks : List Int} {D : DPs} {w w' : World} {Sl : List Nat} (h : DR F a obs wd gl fs row wks D w) (hf : Fr Sl w w') (hS : ∀ x ∈ Sl, D.lab x = 0) (hw : ∀ o ∈ obs, ∀ j, j < o.n → wd' o j = wd o j) (hF : ∀ b, b < w.heap.size → F' b → F b) : DR F' a obs wd' gl fs row wks D w' := by
  have k := h.keep hf 100000000 (fun x hx => .inr (hS x hx))
  refine ⟨k.p (by decide), k.wb (by decide), k.im (by decide), k.kim (by decide), h.dob.fr hf (fun o ho hc => ?_) hw, k.rb (by decide), h.rv, h.rl, k.gv (by decide), k.fv (by decide) (by decide), k.row (by decide), h.qv, k.wk (by decide), h.lp, h.lw, h.lr, h.lm, h.lk, h.lG, h.lg, h.lf, h.lo, h.lx, h.pos, fun b hb => ?_, k.bx (by decide)⟩
  · have h1 := hS _ hc
    rw [h.lG o ho] at h1
    have := h.pos o ho
    omega
  · obtain ⟨h1, h2⟩ := h.sep b hb
    exact ⟨Nat.lt_of_lt_of_le h1 hf.size, fun hc => h2 (hF b h1 hc)⟩
theorem DR.reached {F : Nat → Prop} {a : DA} {s : HS} {obs : List Ob} {gl : List Int} {fs : List (List Int)} {row wks : List Int} {D : DPs} {w : World} (h : DR F a obs s.wd gl fs row wks D w)
    (hone : ∀ o ∈ obs, ∀ o' ∈ obs, o.p = o'.p → o = o') (hnd : obs.Nodup) (hhd : ∀ o ∈ obs, Hd o.k o.n o.a 0) (hwr : ∀ o ∈ obs, ∀ j, j < o.n → s.wd o j = 0 ∨ ∃ o' ∈ obs, o'.p = s.wd o j) (hpos : ∀ o ∈ obs, 1 ≤ o.p ∧ o.p ≤ 65536) (hol : obs.length ≤ 200)
    (hroots : ∀ x ∈ rootsL gl D.regs fs row [], ∃ o ∈ obs, o.p = x) (hgl : gl.length ≤ 100) (hfl : fs.length ≤ 200) (hff : ∀ l ∈ fs, l.length ≤ 2) (hrl : row.length ≤ 200) :
    Calls Tryz.prog 21 #[.pointer (some ⟨a.wb, 0, none⟩)] w (Reach18 obs (W0of s) (rootsL gl D.regs fs row []) w) := by
  have hsum : ∀ i, ((fs.take i).map List.length).sum ≤ 400 := by
    intro i
    have h1 : ((fs.take i).map List.length).sum ≤ 2 * (fs.take i).length := by
      have hm : ∀ l ∈ fs.take i, l.length ≤ 2 := fun l hl => hff l (List.mem_of_mem_take hl)
      generalize fs.take i = q at hm
      induction q with
      | nil => simp
      | cons b r ih =>
        have hb := hm b (List.mem_cons_self ..)
        have := ih (fun l hl => hm l (List.mem_cons_of_mem _ hl))
        simp only [List.map_cons, List.sum_cons, List.length_cons]
        omega
    have h2 : (fs.take i).length ≤ fs.length := by rw [List.length_take]; omega
    omega
  have hP : ∀ b, D.lab b ≠ 0 → b < w.heap.size := fun b hb => (h.sep b hb).1
  have hrl4 := h.rl
  refine dReach18 a.wb D.c obs (W0of s) _ w h.wb (fun wx hx => ?_) (fun wx v hx hv => ?_)
  · have hh := h.fr hx (by simp) (wd' := s.wd) (fun _ _ _ _ => rfl) (fun _ _ h => h)
    have hq : Rowi wx 0 D.c.qv [] := by rw [h.qv]; exact Rowi.nil wx 0
    have hr : RdS wx (fun b => D.lab b ≠ 0) D.c.rv D.regs := by
      rw [h.rv]
      have := RdS.of_blk (P := fun b => D.lab b ≠ 0) (l := D.regs) hh.rb (by show D.lab a.rb ≠ 0; rw [h.lr]; decide) (by omega)
      rw [hrl4] at this
      exact this
    exact dRoots a.wb D.c (fun b => D.lab b ≠ 0) 0 gl D.regs fs row [] wx hh.wb (hh.gv.rds (fun g hg => by rw [h.lg g hg]; decide) (by omega)) hr
      ((hh.fv.mono (fun b hb => by show D.lab b ≠ 0; rw [hb]; decide)).rdss (fun g hg => by rw [h.lf g hg]; decide) (by omega)) hh.row hq (fun b hb => Nat.lt_of_lt_of_le (hP b hb) hx.size) (fun i => by have := hsum i; simp only [List.length_nil]; omega) (fun l hl => by have := hff l hl; omega) (by omega)
  · have hh := h.fr hx (by simp) (wd' := s.wd) (fun _ _ _ _ => rfl) (fun _ _ h => h)
    refine dReached D.c.mp 0 D.m obs D.G s.wd (W0of s) _ v wx hh.im hh.dob (hv.base (Nat.zero_le _)) ?_ hol (fun _ _ _ => rfl) hone hnd hhd hwr hpos hroots
    have h1 : (nz gl).length ≤ gl.length := List.length_filter_le _ _
    have h2 : (nz D.regs).length ≤ D.regs.length := List.length_filter_le _ _
    have h3 := nz_flat (fs.take fs.length)
    have h4 := hsum fs.length
    rw [List.take_length] at h3 h4
    unfold rootsL
    simp only [List.length_append, List.length_nil]
    omega
theorem CR.heap {E : CE} {S : CY} {w w' : World} {Sl : List Nat} (h : CR E S w) (hf : Fr Sl w w') (hSl : ∀ x ∈ Sl, x ∈ S.L.fp) {s' : HS} (A' : Rg) (z' : Int → Int) (obs' rw' : List Ob) (hr : HRep w' S.L s') (hx : s'.x.places = S.s.x.places) : CR E { S with s := s', A := A', z := z', obs := obs', rw := rw' } w' := by
  obtain ⟨f1, f2, f3, f4⟩ := h.mf
  have hn : ∀ b, b ∉ S.L.fp → b ∉ Sl := fun b hb hc => hb (hSl b hc)
  exact (h.go (S' := { S with s := s', A := A', z := z', obs := obs', rw := rw' }) hf (fun x hx => .inr (.inr (.inr (.inr (.inl (hSl x hx)))))) rfl (fun x hx => .inl hx) (fun x hx => .inl hx) (fun hx' => h.x0 (by rw [← hx]; exact hx')) rfl rfl hr (Blk.fr h.m hf (hn _ f2)) (h.c.fr hf (hn _ f1)) (h.t.fr hf (hn _ f3))
    (h.k.fr hf (hn _ f4) (fun b hb _ => hn b (h.hpl b hb).1)) (h.f.fr hf (fun b hb _ => hn b (h.hpl b hb).1)) (h.b.fr hf (fun g hg hc => (h.bo g hg).2.2.2.2 (fp_all (hSl g hc)))) (.inl rfl) (fun b hb => hb) (fun b hb => .inl hb) h.cyc h.todo).1
theorem how_places {s s' : HS} {A : Rg} {z z' : Int → Int} {q : Option Nat} {p : Int} {n : Nat} (hh : How s s' A z z' q p n) : s'.x.places = s.x.places := by
  rcases hh with ⟨_, _, _, _, _, e, _⟩ | ⟨_, _, _, _, _, _, _, _, e, _⟩ | ⟨_, _, _, _, _, _, _, e, _⟩ <;> rw [e]
theorem CI.tick {S : CY} (h : CI S) (n : Int) : CI { S with s := S.s.tick n } :=
  ⟨h.ph, h.mh.tick n, h.xok, h.wn, h.black, h.a0, h.nx0, h.cl, h.rch.congr fun _ _ => rfl, h.qch.congr fun _ _ => rfl, h.last, h.rin, h.qin, h.rnd, h.qnd, h.key, h.blen⟩
theorem CI.put {S : CY} (h : CI S) {o : Ob} (ho : o ∈ S.obs) {j : Nat} (hj : j < o.n) {v : Int} (hv : v = 0 ∨ ∃ o' ∈ S.obs, o'.p = v) (hrw : o ∈ S.rw → j = 1 ∨ j = 2) (hqu : o ∉ S.qu) (n : Int) :
    CI { S with s := S.s.put (o.p + 3 + j) v n } ∧ (∀ o' ∈ S.obs, ∀ i, i < o'.n → (S.s.put (o.p + 3 + j) v n).wd o' i = if o'.p = o.p ∧ i = j then v else S.s.wd o' i) := by
  obtain ⟨m1, m2, m3⟩ := h.mh.put ho hj v n
  have hw : ∀ o' ∈ S.obs, ∀ i, i < o'.n → (S.s.put (o.p + 3 + j) v n).wd o' i = if o'.p = o.p ∧ i = j then v else S.s.wd o' i := by
    intro o' ho' i hi
    by_cases e : o'.p = o.p
    · have := h.mh.one ho' ho e
      subst this
      rw [m3 i hi]
      by_cases e2 : i = j
      · rw [if_pos e2, if_pos ⟨rfl, e2⟩]
      · rw [if_neg e2, if_neg (fun k => e2 k.2)]
    · rw [m2 o' ho' (fun k => e (by rw [k])) i hi, if_neg (fun k => e k.1)]
  have st := Sta.put S.s (o.p + 3 + j) v n
  refine ⟨⟨h.ph, m1, ⟨?_, ?_⟩, h.wn, h.black, h.a0, h.nx0, ?_, ?_, ?_, h.last, h.rin, h.qin, h.rnd, h.qnd, ?_, h.blen⟩, hw⟩
  · exact h.xok.1
  · exact h.xok.2.trans (congrArg (fun k : Nat => (k : Int)) st.len.symm)
  · intro o' ho' i hi
    show (S.s.put (o.p + 3 + j) v n).wd o' i = 0 ∨ ∃ x ∈ S.obs, x.p = (S.s.put (o.p + 3 + j) v n).wd o' i
    rw [hw o' ho' i hi.lt]
    split
    · exact hv
    · exact h.cl o' ho' i hi
  · refine h.rch.congr fun o' ho' => ?_
    rw [show ({ S with s := S.s.put (o.p + 3 + j) v n } : CY).s.wd o' 3 = _ from hw o' (h.rin o' ho').1 3 (by rw [(h.rin o' ho').2.2]; decide), if_neg]
    rintro ⟨e, rfl⟩
    have e2 := h.mh.one (h.rin o' ho').1 ho e
    subst e2
    have := hrw ho'
    omega
  · refine h.qch.congr fun o' ho' => ?_
    rw [show ({ S with s := S.s.put (o.p + 3 + j) v n } : CY).s.wd o' 3 = _ from hw o' (h.qin o' ho').1 3 (by rw [(h.qin o' ho').2.2]; decide), if_neg]
    rintro ⟨e, -⟩
    have e2 := h.mh.one (h.qin o' ho').1 ho e
    subst e2
    exact hqu ho'
  · intro o' ho'
    obtain ⟨ko, h1, h2⟩ := h.key o' ho'
    refine ⟨ko, h1, h2.trans ?_⟩
    show _ = (S.s.put (o.p + 3 + j) v n).wd o' 0
    rw [hw o' (h.rin o' ho').1 0 (by rw [(h.rin o' ho').2.2]; decide), if_neg]
    rintro ⟨e, rfl⟩
    have e2 := h.mh.one (h.rin o' ho').1 ho e
    subst e2
    have := hrw ho'
    omega
theorem CI.alloc {S : CY} (h : CI S) {s' : HS} {A' : Rg} {z' : Int → Int} {q : Option Nat} {p k a : Int} {n : Nat} (hd : Hd k n a S.s.parity) (hA : Alc S.s s' S.A A' S.z z' q p (packed k n a S.s.parity) n) (hh : How S.s s' S.A S.z z' q p n) :
    CI { S with s := s', A := A', z := z', obs := S.obs ++ [⟨q, p, k, n, a, 0⟩] } ∧ (∀ o ∈ S.obs, o.p ≠ p) ∧ (∀ o ∈ S.obs, ∀ j, j < o.n → s'.wd o j = S.s.wd o j) ∧ (∀ j, j < n → s'.wd ⟨q, p, k, n, a, 0⟩ j = 0) ∧ 1 ≤ p ∧ (A' q).B = (S.A q).B ++ [p] ∧ ∀ q', q' ≠ q → (A' q').B = (S.A q').B := by
  obtain ⟨m1, hne, hw, hw0, hmk, hB, hpB, hp1⟩ := h.mh.alloc hd hA 0
  obtain ⟨r1, r2, r3, r4, r5⟩ := alc_rows hA
  have happ : ∀ o ∈ S.obs, o ∈ S.obs ++ [⟨q, p, k, n, a, 0⟩] := fun o ho => List.mem_append_left _ ho
  refine ⟨⟨h.ph, m1, how_xok hA hh h.xok, ?_, fun q' => ⟨(r1 q').1.trans (h.black q').1, (r1 q').2.trans (h.black q').2⟩, h.a0, h.nx0, ?_, ?_, ?_, h.last, ?_, ?_, h.rnd, h.qnd, ?_, h.blen⟩, hne, hw, hw0, hp1, r4, r5⟩
  · apply List.eq_nil_iff_forall_not_mem.2
    intro c hc
    have := (r2 c hc).1
    rw [h.wn] at this
    cases this
  · intro o ho j hj
    rcases List.mem_append.1 ho with h1 | h1
    · rw [show ({ S with s := s', A := A', z := z', obs := S.obs ++ [⟨q, p, k, n, a, 0⟩] } : CY).s.wd o j = S.s.wd o j from hw o h1 j hj.lt]
      rcases h.cl o h1 j hj with h2 | ⟨o', h2, h3⟩
      · exact .inl h2
      · exact .inr ⟨o', happ o' h2, h3⟩
    · rw [List.mem_singleton.1 h1] at hj ⊢
      exact .inl (hw0 j hj.lt)
  · exact h.rch.congr fun o ho => hw o (h.rin o ho).1 3 (by rw [(h.rin o ho).2.2]; decide)
  · exact h.qch.congr fun o ho => hw o (h.qin o ho).1 3 (by rw [(h.qin o ho).2.2]; decide)
  · intro o ho
    exact ⟨happ o (h.rin o ho).1, (h.rin o ho).2⟩
  · intro o ho
    exact ⟨happ o (h.qin o ho).1, (h.qin o ho).2⟩
  · intro o ho
    obtain ⟨ko, h1, h2⟩ := h.key o ho
    exact ⟨ko, happ ko h1, h2.trans (hw o (h.rin o ho).1 0 (by rw [(h.rin o ho).2.2]; decide)).symm⟩
theorem CI.add {S : CY} (h : CI S) {o : Ob} (ho : o ∈ S.obs) (hk : o.k = 9) (hn : o.n = 4) (hnr : o ∉ S.rw) (hkey : ∃ ko ∈ S.obs, ko.p = S.s.wd o 0) (hlen : S.bl.length + S.rw.length + 1 ≤ 10000) (hq : o ∉ S.qu) (n : Int) (t' : TS) (ht1 : t'.row = o.p) (ht2 : t'.first = S.t.first) (ht3 : t'.last = S.t.last) :
    CI { S with s := S.s.put (o.p + 3 + (3 : Nat)) S.t.row n, t := t', rw := o :: S.rw } ∧ (∀ o' ∈ S.obs, ∀ i, i < o'.n → (S.s.put (o.p + 3 + (3 : Nat)) S.t.row n).wd o' i = if o'.p = o.p ∧ i = 3 then S.t.row else S.s.wd o' i) := by
  have hv : S.t.row = 0 ∨ ∃ o' ∈ S.obs, o'.p = S.t.row := by
    have hc := h.rch
    cases e : S.rw with
    | nil => rw [e] at hc; exact .inl hc
    | cons y r => rw [e] at hc; exact .inr ⟨y, (h.rin y (by rw [e]; exact List.mem_cons_self ..)).1, hc.1.symm⟩
  obtain ⟨g1, g2⟩ := h.put ho (j := 3) (by omega) hv (fun hc => absurd hc hnr) hq n
  refine ⟨⟨h.ph, g1.mh, g1.xok, g1.wn, g1.black, g1.a0, g1.nx0, g1.cl, ?_, ?_, fun y hy => ht3.trans (h.last y hy), ?_, g1.qin, List.nodup_cons.2 ⟨hnr, h.rnd⟩, h.qnd, ?_, by show S.bl.length + (S.rw.length + 1) ≤ 10000; omega⟩, g2⟩
  · refine ⟨ht1, ?_⟩
    show Chn (S.s.put (o.p + 3 + (3 : Nat)) S.t.row n) ((S.s.put (o.p + 3 + (3 : Nat)) S.t.row n).wd o 3) S.rw
    rw [g2 o ho 3 (by omega), if_pos ⟨rfl, rfl⟩]
    exact g1.rch
  · show Chn (S.s.put (o.p + 3 + (3 : Nat)) S.t.row n) t'.first S.qu
    rw [ht2]
    exact g1.qch
  · intro y hy
    rcases List.mem_cons.1 hy with rfl | hy
    · exact ⟨ho, hk, hn⟩
    · exact h.rin y hy
  · intro y hy
    rcases List.mem_cons.1 hy with rfl | hy
    · obtain ⟨ko, h1, h2⟩ := hkey
      refine ⟨ko, h1, h2.trans ?_⟩
      show _ = (S.s.put (y.p + 3 + (3 : Nat)) S.t.row n).wd y 0
      rw [g2 y ho 0 (by omega), if_neg (by rintro ⟨-, h⟩; omega)]
    · exact g1.key y hy
def hO (obs : List Ob) (p k : Int) (a : Int) : List Ob := updO obs p fun o => { o with k := k, a := a }
theorem CI.turn {S : CY} (h : CI S) {o : Ob} (ho : o ∈ S.obs) {k' a' : Int} (hd : ∀ m, (m = 0 ∨ m = 1) → Hd k' o.n a' m) (hnr : o ∉ S.rw) (hnq : o ∉ S.qu) (hlk : ∀ j, Lk { o with k := k', a := a' } j → Lk o j) (n : Int) :
    CI { S with s := S.s.put o.p (packed k' o.n a' S.s.parity) n, obs := hO S.obs o.p k' a' } ∧ (∀ o' ∈ S.obs, ∀ i, i < o'.n → (S.s.put o.p (packed k' o.n a' S.s.parity) n).wd o' i = S.s.wd o' i) := by
  have hone : ∀ x ∈ S.obs, ∀ y ∈ S.obs, x.p = y.p → x = y := fun x hx y hy e => h.mh.one hx hy e
  obtain ⟨hB, hin⟩ := h.inB o ho
  obtain ⟨t1, t2, t3, t4⟩ := turnw h.mh.hi hin (hd _ h.mh.par) n
  have hw : ∀ o' ∈ S.obs, ∀ i, i < o'.n → (S.s.put o.p (packed k' o.n a' S.s.parity) n).wd o' i = S.s.wd o' i := by
    intro o' ho' i hi
    by_cases e : o'.p = o.p
    · have := hone o' ho' o ho e
      subst this
      exact t3 i hi
    · exact (t4 _ (h.inB o' ho').2 e).2 i hi
  have hcase : ∀ o' ∈ hO S.obs o.p k' a', ∃ x ∈ S.obs, o'.p = x.p ∧ o'.q = x.q ∧ o'.n = x.n ∧ ((x = o ∧ o' = { o with k := k', a := a' }) ∨ (x.p ≠ o.p ∧ o' = x)) := by
    intro o' ho'
    obtain ⟨x, hx, rfl⟩ := mem_updO.1 ho'
    refine ⟨x, hx, ?_⟩
    by_cases e : x.p = o.p
    · rw [if_pos e]
      have := hone x hx o ho e
      subst this
      exact ⟨rfl, rfl, rfl, .inl ⟨rfl, rfl⟩⟩
    · rw [if_neg e]; exact ⟨rfl, rfl, rfl, .inr ⟨e, rfl⟩⟩
  have hup : ∀ x ∈ S.obs, ∃ x' ∈ hO S.obs o.p k' a', x'.p = x.p ∧ x'.q = x.q := by
    intro x hx
    refine ⟨_, mem_updO.2 ⟨x, hx, rfl⟩, ?_⟩
    split <;> exact ⟨rfl, rfl⟩
  have hsame : ∀ x ∈ S.obs, x.p ≠ o.p → x ∈ hO S.obs o.p k' a' := fun x hx e => mem_updO.2 ⟨x, hx, by rw [if_neg e]⟩
  have hrp : ∀ x ∈ S.rw, x.p ≠ o.p := fun x hx e => hnr (hone x (h.rin x hx).1 o ho e ▸ hx)
  have hqp : ∀ x ∈ S.qu, x.p ≠ o.p := fun x hx e => hnq (hone x (h.qin x hx).1 o ho e ▸ hx)
  have st := Sta.put S.s o.p (packed k' o.n a' S.s.parity) n
  refine ⟨⟨h.ph, ⟨t1, h.mh.par, ?_, ?_, ?_⟩, ⟨h.xok.1, ?_⟩, h.wn, h.black, h.a0, h.nx0, ?_, ?_, ?_, h.last, ?_, ?_, h.rnd, h.qnd, ?_, h.blen⟩, hw⟩
  · intro o' ho'
    obtain ⟨x, hx, e1, e2, e3, ⟨rfl, rfl⟩ | ⟨e, rfl⟩⟩ := hcase o' ho'
    · exact .inr ⟨.inr hB, t2⟩
    · exact .inr ⟨.inr (h.inB o' hx).1, (t4 _ (h.inB o' hx).2 e).1⟩
  · intro q c hc
    obtain ⟨x, hx, rfl, rfl⟩ := h.mh.rows q c hc
    obtain ⟨x', h1, h2, h3⟩ := hup x hx
    exact ⟨x', h1, h3, h2⟩
  · have : (hO S.obs o.p k' a').map Ob.p = S.obs.map Ob.p := by
      unfold hO updO
      rw [List.map_map]
      apply List.map_congr_left
      intro x _
      simp only [Function.comp]
      split <;> rfl
    show ((hO S.obs o.p k' a').map Ob.p).Nodup
    rw [this]; exact h.mh.nd
  · exact h.xok.2.trans (congrArg (fun k : Nat => (k : Int)) st.len.symm)
  · intro o' ho' j hj
    have up : ∀ v, (v = 0 ∨ ∃ x ∈ S.obs, x.p = v) → (v = 0 ∨ ∃ x ∈ hO S.obs o.p k' a', x.p = v) := by
      rintro v (h1 | ⟨x, h1, h2⟩)
      · exact .inl h1
      · obtain ⟨x', h4, h5, -⟩ := hup x h1
        exact .inr ⟨x', h4, h5.trans h2⟩
    show (S.s.put o.p (packed k' o.n a' S.s.parity) n).wd o' j = 0 ∨ ∃ x ∈ hO S.obs o.p k' a', x.p = (S.s.put o.p (packed k' o.n a' S.s.parity) n).wd o' j
    obtain ⟨x, hx, e1, e2, e3, ⟨rfl, rfl⟩ | ⟨e, rfl⟩⟩ := hcase o' ho'
    · have hl := hlk j hj
      have e9 : (S.s.put x.p (packed k' x.n a' S.s.parity) n).wd { x with k := k', a := a' } j = S.s.wd x j := hw x hx j hl.lt
      rw [e9]
      exact up _ (h.cl x hx j hl)
    · rw [hw o' hx j hj.lt]
      exact up _ (h.cl o' hx j hj)
  · exact h.rch.congr fun o' ho' => hw o' (h.rin o' ho').1 3 (by rw [(h.rin o' ho').2.2]; decide)
  · exact h.qch.congr fun o' ho' => hw o' (h.qin o' ho').1 3 (by rw [(h.qin o' ho').2.2]; decide)
  · intro y hy
    exact ⟨hsame y (h.rin y hy).1 (hrp y hy), (h.rin y hy).2⟩
  · intro y hy
    exact ⟨hsame y (h.qin y hy).1 (hqp y hy), (h.qin y hy).2⟩
  · intro y hy
    obtain ⟨ko, h1, h2⟩ := h.key y hy
    obtain ⟨ko', h3, h4, -⟩ := hup ko h1
    exact ⟨ko', h3, h4.trans (h2.trans (hw y (h.rin y hy).1 0 (by rw [(h.rin y hy).2.2]; decide)).symm)⟩
structure PJ (E : CE) (a : DA) (S : CY) (row wks : List Int) (D : DPs) (w : World) : Prop where
  cr : CR E S w
  ci : CI S
  dr : DR (FB E S) a S.obs S.s.wd E.gl (S.k.fs.map Fm.l) row wks D w
  ah : a.hb = E.hb
  asb : a.sb = E.sb
  ak : a.kv = .pointer (some ⟨E.kb, 0, none⟩)
  fr2 : ∀ f ∈ S.k.fs, f.k = 2 ∧ f.n = 0 ∧ f.l.length = 2
  room : S.k.room = 400
  used : S.k.used = 4 * S.k.fs.length
  fcnt : S.k.fs.length ≤ 100
  todo : S.k.todo = 0
  qu : S.qu = []
  wkg : S.t.walking = false
  bl : S.bl = []
  hkp : a.kp a.bx 0 = some (.pointer (some ⟨a.pb, 0, none⟩))
  rvv : S.c.rv = .func (.func 33) #[] #[.pointer (some ⟨a.bx, 0, none⟩)] ∧ S.c.cyc = 0
theorem PJ.fp0 {E : CE} {a : DA} {S : CY} {row wks : List Int} {D : DPs} {w : World} (h : PJ E a S row wks D w) : ∀ x, FB E S x → D.lab x = 0 := fun x hx => Classical.byContradiction fun hc => (h.dr.sep x hc).2 hx
theorem fb_fp {E : CE} {S : CY} {x : Nat} (h : x ∈ S.L.fp) : FB E S x := .inl (.inr (.inr (.inr (.inr (.inl h)))))
theorem PJ.nfb {E : CE} {a : DA} {S : CY} {row wks : List Int} {D : DPs} {w : World} (h : PJ E a S row wks D w) {x : Nat} {l : Int} (hx : D.lab x = l) (hl : l ≠ 0) : ¬ FB E S x := (h.dr.sep x (by rw [hx]; exact hl)).2
theorem CI.ond {S : CY} (h : CI S) : S.obs.Nodup := MH.ndo h.mh
theorem CI.opos {S : CY} (h : CI S) : ∀ o ∈ S.obs, 1 ≤ o.p ∧ o.p ≤ 65536 := by
  intro o ho
  obtain ⟨hB, hin⟩ := h.inB o ho
  have h1 := hin.bound h.mh.hi
  have h2 := h.mh.hi.len
  simp only [Ob.wm] at h1
  omega
structure RG (S : CY) (gl regs : List Int) (fs : List (List Int)) (row : List Int) : Prop where
  wr : ∀ o ∈ S.obs, ∀ j, j < o.n → S.s.wd o j = 0 ∨ ∃ o' ∈ S.obs, o'.p = S.s.wd o j
  ol : S.obs.length ≤ 200
  rt : ∀ x ∈ rootsL gl regs fs row [], ∃ o ∈ S.obs, o.p = x
  gll : gl.length ≤ 100
  fsl : fs.length ≤ 200
  ff : ∀ l ∈ fs, l.length ≤ 2
  rl : row.length ≤ 200
theorem PJ.reached {E : CE} {a : DA} {S : CY} {row wks : List Int} {D : DPs} {w : World} (h : PJ E a S row wks D w) (hg : RG S E.gl D.regs (S.k.fs.map Fm.l) row) {w1 : World} {Sl : List Nat} (hf : Fr Sl w w1) (hS : ∀ x ∈ Sl, FB E S x) :
    Calls Tryz.prog 21 #[.pointer (some ⟨a.wb, 0, none⟩)] w1 (Reach18 S.obs (W0of S.s) (rootsL E.gl D.regs (S.k.fs.map Fm.l) row []) w1) :=
  (h.dr.fr hf (fun x hx => h.fp0 x (hS x hx)) (wd' := S.s.wd) (fun _ _ _ _ => rfl) (F' := FB E S) (fun _ _ h => h)).reached (fun _ hx _ hy e => h.ci.mh.one hx hy e) h.ci.ond (fun _ ho => h.ci.mh.hd ho 0 (.inl rfl)) hg.wr h.ci.opos hg.ol hg.rt hg.gll hg.fsl hg.ff hg.rl
def labU (lab : Nat → Int) (g : Nat) (l : Int) : Nat → Int := fun b => if b = g then l else lab b
theorem labU_ne {lab : Nat → Int} {g b : Nat} {l : Int} (h : b ≠ g) : labU lab g l b = lab b := by unfold labU; rw [if_neg h]
theorem labU_eq (lab : Nat → Int) (g : Nat) (l : Int) : labU lab g l g = l := by unfold labU; rw [if_pos rfl]
def JAPost (E : CE) (a : DA) (S : CY) (row wks : List Int) (D : DPs) (k aux : Int) (n : Nat) (e : Ending) (w' : World) : Prop :=
  (e = .returned (.tuple #[.int .i64 0, .bool false]) ∧ PJ E a S row wks { D with full := true } w') ∨
  ∃ q p s' A' z' g, e = .returned (.tuple #[.int .i64 p, .bool true]) ∧ (∀ o ∈ S.obs, o.p ≠ p) ∧ (∀ o ∈ S.obs, ∀ j, j < o.n → s'.wd o j = S.s.wd o j) ∧ (∀ j, j < n → s'.wd ⟨q, p, k, n, aux, 0⟩ j = 0) ∧ 1 ≤ p ∧
    PJ E a { S with s := s', A := A', z := z', obs := S.obs ++ [⟨q, p, k, n, aux, 0⟩] } row wks { D with m := mput D.m p (obV k n aux 0 g n), G := fun x => if x = p then g else D.G x, lab := labU D.lab g (10 + p) } w'
set_option maxHeartbeats 800000 in
theorem jAlloc (E : CE) (a : DA) (S : CY) (row wks : List Int) (D : DPs) (w : World) (h : PJ E a S row wks D w) (hg : RG S E.gl D.regs (S.k.fs.map Fm.l) row) (k aux : Int) (n : Nat) (hd : Hd k n aux S.s.parity) :
    Calls Tryz.prog 31 #[.pointer (some ⟨a.pb, 0, none⟩), .int .i64 k, .int .i64 aux, .int .i64 n] w (JAPost E a S row wks D k aux n) := by
  have hn : n ≤ 100 := by have := hd.s1; omega
  have hnf : ∀ x l, D.lab x = l → l ≠ 0 → x ∉ S.L.fp := fun x l e hl hc => h.nfb e hl (fb_fp hc)
  refine (yAllocF a.pb a.hb a.sb a.wb D.km a.kv D.wv D.full D.c D.m k aux n hn w S.L.fp (fun w' => HRep w' S.L S.s ∧ Fr S.L.fp w w') (fun p w1 => ∃ q s' A' z', HRep w1 S.L s' ∧ Alc S.s s' S.A A' S.z z' q p (packed k n aux S.s.parity) n ∧ How S.s s' S.A S.z z' q p n ∧ Fr S.L.fp w w1) h.dr.p h.dr.wb h.dr.im
    ⟨hnf _ _ h.dr.lp (by decide), hnf _ _ h.dr.lw (by decide), hnf _ _ h.dr.lm (by decide)⟩ ?_ ?_ ?_).mono ?_
  · rw [h.ah, ← h.cr.hb]
    refine (hAllocX S.L S.s S.A S.z k aux n w h.cr.hr h.ci.mh.hi hd).mono ?_
    rintro e w' ⟨hF, ⟨rfl, hr, -⟩ | ⟨q, p, s', A', z', rfl, hr, hA, hh⟩⟩
    · exact ⟨hF, .inl ⟨rfl, hr, hF⟩⟩
    · exact ⟨hF, .inr ⟨p, rfl, q, s', A', z', hr, hA, hh, hF⟩⟩
  · rintro p w1 ⟨q, s', A', z', hr, hA, hh, -⟩ hF
    refine (h.reached hg hF (fun x hx => fb_fp hx)).mono ?_
    rintro e w' ⟨om, lk, Lv, rfl, -, h2, -, h4, -, -, h7⟩
    refine ⟨om, lk, Lv.map Ob.p, rfl, h2, fun hc => ?_, h7⟩
    obtain ⟨o, h8, h9⟩ := List.mem_map.1 hc
    exact (h.ci.alloc hd hA hh).2.1 o (h4 o h8) h9
  · rintro p w1 w2 ⟨q, s', A', z', hr, hA, hh, hF1⟩ hF
    exact ⟨q, s', A', z', hr.fr hF (by simp), hA, hh, hF1.trans (hF.here (by simp))⟩
  · rintro e w' (⟨w1, ⟨hr, hF1⟩, rfl, hF2, hP⟩ | ⟨p, w1, g, ⟨q, s', A', z', hr, hA, hh, hF1⟩, rfl, hgl, hI, hB, hF2⟩)
    · refine .inl ⟨rfl, ?_⟩
      have hc1 := h.cr.heap hF1 (fun x hx => hx) S.A S.z S.obs S.rw hr rfl
      have hd1 := h.dr.fr hF1 (fun x hx => h.fp0 x (fb_fp hx)) (wd' := S.s.wd) (fun _ _ _ _ => rfl) (F' := FB E S) (fun _ _ h => h)
      have hpn := h.nfb h.dr.lp (by decide)
      have k := hd1.keep hF2 6 (fun x hx => by rw [List.mem_singleton.1 hx]; exact .inl h.dr.lp)
      refine ⟨hc1.fr hF2 (fun x hx => ?_), h.ci, ⟨hP, k.wb (by decide), k.im (by decide), k.kim (by decide), hd1.dob.fr hF2 (fun o ho hc => ?_) (fun _ _ _ _ => rfl), k.rb (by decide), h.dr.rv, h.dr.rl, k.gv (by decide), k.fv (by decide) (by decide), k.row (by decide), h.dr.qv, k.wk (by decide), h.dr.lp, h.dr.lw, h.dr.lr, h.dr.lm, h.dr.lk, h.dr.lG, h.dr.lg, h.dr.lf, h.dr.lo, h.dr.lx, h.dr.pos, fun b hb => ⟨Nat.lt_of_lt_of_le (hd1.sep b hb).1 hF2.size, (hd1.sep b hb).2⟩, k.bx (by decide)⟩, h.ah, h.asb, h.ak, h.fr2, h.room, h.used, h.fcnt, h.todo, h.qu, h.wkg, h.bl, h.hkp, h.rvv⟩
      · rw [List.mem_singleton.1 hx]
        exact ⟨fun hc => hpn (.inl hc), fun hc => hpn (.inr (.inl hc)), fun hc => hpn (.inr (.inr hc))⟩
      · have h1 := h.dr.lG o ho
        rw [List.mem_singleton.1 hc, h.dr.lp] at h1
        have := h.dr.pos o ho
        omega
    · obtain ⟨i1, i2, i3, i4, i5, -, -⟩ := h.ci.alloc hd hA hh
      have hc1 := h.cr.heap hF1 (fun x hx => hx) A' z' (S.obs ++ [⟨q, p, k, n, aux, 0⟩]) S.rw hr (how_places hh)
      have hd1 := h.dr.fr hF1 (fun x hx => h.fp0 x (fb_fp hx)) (wd' := s'.wd) i3 (F' := FB E S) (fun _ _ h => h)
      have kk := hd1.keep hF2 8 (fun x hx => by rw [List.mem_singleton.1 hx]; exact .inl h.dr.lm)
      have hmn := h.nfb h.dr.lm (by decide)
      have hgn : ∀ b, D.lab b ≠ 0 → b ≠ g := fun b hb e => by have := (hd1.sep b hb).1; omega
      have hlab : ∀ b l, D.lab b = l → l ≠ 0 → labU D.lab g (10 + p) b = l := fun b l e hl => by rw [labU_ne (hgn b (by rw [e]; exact hl))]; exact e
      have hne : ∀ o ∈ S.obs, (if o.p = p then g else D.G o.p) = D.G o.p := fun o ho => if_neg (i2 o ho)
      have hgb : g < w'.heap.size := hB.lt
      have hgf : ¬ FB E S g := by
        rintro (hc | hc | hc)
        · have := h.cr.ltO g hc; have := hF1.size; omega
        · have := h.cr.all_lt hc; have := hF1.size; omega
        · have := (h.cr.hP g hc).1; have := hF1.size; omega
      refine .inr ⟨q, p, s', A', z', g, rfl, i2, i3, i4, i5, hc1.fr hF2 (fun x hx => ?_), i1, ?_, h.ah, h.asb, h.ak, h.fr2, h.room, h.used, h.fcnt, h.todo, h.qu, h.wkg, h.bl, h.hkp, h.rvv⟩
      · rw [List.mem_singleton.1 hx]
        exact ⟨fun hc => hmn (.inl hc), fun hc => hmn (.inr (.inl hc)), fun hc => hmn (.inr (.inr hc))⟩
      · refine ⟨kk.p (by decide), kk.wb (by decide), hI, kk.kim (by decide), ?_, kk.rb (by decide), h.dr.rv, h.dr.rl, kk.gv (by decide), (kk.fv (by decide) (by decide)).mono (fun b hb => hlab b 2 hb (by decide)), kk.row (by decide), h.dr.qv, kk.wk (by decide), hlab _ _ h.dr.lp (by decide), hlab _ _ h.dr.lw (by decide), hlab _ _ h.dr.lr (by decide), hlab _ _ h.dr.lm (by decide), hlab _ _ h.dr.lk (by decide), ?_, fun x hx => hlab _ _ (h.dr.lg x hx) (by decide), fun x hx => hlab _ _ (h.dr.lf x hx) (by decide), fun x hx => hlab _ _ (h.dr.lo x hx) (by decide), fun x hx => hlab _ _ (h.dr.lx x hx) (by decide), ?_, ?_, (kk.bx (by decide)).lab (fun b hb => labU_ne (hgn b hb))⟩
        · refine hd1.dob.new (fun o ho => kk.ob o ho (by have := h.dr.pos o ho; omega)) ⟨q, p, k, n, aux, 0⟩ g (Nat.zero_le _) (fun o ho => ⟨i2 o ho, fun e => ?_⟩) hB (fun _ _ _ _ => rfl) i4
          have h1 := h.dr.lG o ho
          have := hgn (D.G o.p) (by rw [h1]; have := h.dr.pos o ho; omega)
          exact this e
        · intro o ho
          rcases List.mem_append.1 ho with h1 | h1
          · show labU D.lab g (10 + p) (if o.p = p then g else D.G o.p) = _
            rw [hne o h1]
            exact hlab _ _ (h.dr.lG o h1) (by have := h.dr.pos o h1; omega)
          · rw [List.mem_singleton.1 h1]
            show labU D.lab g (10 + p) (if p = p then g else D.G p) = _
            rw [if_pos rfl, labU_eq]
        · intro o ho
          rcases List.mem_append.1 ho with h1 | h1
          · exact h.dr.pos o h1
          · rw [List.mem_singleton.1 h1]; exact i5
        · intro b hb
          by_cases e : b = g
          · subst e; exact ⟨hgb, hgf⟩
          · have hb' : labU D.lab g (10 + p) b ≠ 0 := hb
            rw [labU_ne e] at hb'
            exact ⟨Nat.lt_of_lt_of_le (hd1.sep b hb').1 hF2.size, (hd1.sep b hb').2⟩
set_option maxHeartbeats 800000 in
theorem jSet (E : CE) (a : DA) (S : CY) (row wks : List Int) (D : DPs) (w : World) (h : PJ E a S row wks D w) (o : Ob) (ho : o ∈ S.obs) (j : Nat) (hj : j < o.n) (v : Int) (hv : v = 0 ∨ ∃ o' ∈ S.obs, o'.p = v) (hrw : o ∈ S.rw → j = 1 ∨ j = 2) :
    Calls Tryz.prog 36 #[.pointer (some ⟨a.pb, 0, none⟩), .int .i64 o.p, .int .i64 j, .int .i64 v] w fun e w' => e = .returned (.tuple #[]) ∧ ∃ s', (∀ o' ∈ S.obs, ∀ i, i < o'.n → s'.wd o' i = if o'.p = o.p ∧ i = j then v else S.s.wd o' i) ∧ s'.parity = S.s.parity ∧ PJ E a { S with s := s' } row wks D w' := by
  have hnf : ∀ x l, D.lab x = l → l ≠ 0 → x ∉ S.L.fp := fun x l e hl hc => h.nfb e hl (fb_fp hc)
  have hone : ∀ x ∈ S.obs, ∀ y ∈ S.obs, x.p = y.p → x = y := fun x hx y hy e => h.ci.mh.one hx hy e
  obtain ⟨hB, hin⟩ := h.ci.inB o ho
  have hb := hin.bound h.ci.mh.hi
  simp only [Ob.wm] at hb
  have hpo := h.dr.pos o ho
  have hGl := h.dr.lG o ho
  obtain ⟨-, hdb⟩ := h.dr.dob.blk o ho
  have h6 := Blk.cell h.cr.c (i := 6) rfl
  rw [h.ci.ph] at h6
  have hkl := Blk.lt h.cr.c
  have hkf := h.cr.mf.1
  have hdp := h.dr.p
  rw [h.ak] at hdp
  refine (yPSetF a.pb a.hb a.sb E.kb a.wb D.km D.wv D.full D.c D.m o.p (S.s.wd o j) v o.k o.a o.n (D.G o.p) j (wcs o (S.s.wd o)) _ w S.L.fp (fun w' => HRep w' S.L (S.s.tick 2)) (fun w' => HRep w' S.L (S.s.tick 2)) (fun w' => HRep w' S.L ((S.s.tick 2).put (o.p + 3 + j) v 2) ∧ Fr S.L.fp w w') hdp h.dr.wb h.dr.im (h.dr.dob.get o ho) hdb (wcs_len _ _) hj
    ⟨hnf _ _ h.dr.lp (by decide), hnf _ _ h.dr.lw (by decide), hnf _ _ h.dr.lm (by decide), hnf _ _ hGl (by omega)⟩ (h.ci.mh.hd ho 0 (.inl rfl)) rfl ?_ ?_ ?_ ?_ ?_ ?_).mono ?_
  · rw [h.ah, ← h.cr.hb]
    refine (hGet S.L S.s o.p o.k o.n o.a S.s.parity j w h.cr.hr (by omega) (by omega) hin.head hin.hd (by omega) (by omega)).mono ?_
    rintro e w' ⟨rfl, hr, hF⟩
    exact ⟨rfl, hr, hF.here ab_fp⟩
  · intro w1 w2 hr hF
    exact hr.fr hF (by simp)
  · intro _ w1 hr hF
    refine (cBarrier0 E.kb (S.s.wd o j) w1 ((cell_fr hF hkf hkl 6).trans h6)).mono ?_
    rintro e w' ⟨rfl, rfl⟩
    exact ⟨rfl, hr, Fr.refl _ _⟩
  · intro _ w1 hr
    exact hr
  · intro w2 hr hF
    rw [h.ah, ← h.cr.hb]
    refine (hSet S.L (S.s.tick 2) o.p o.k o.n o.a S.s.parity j v w2 hr (by omega) (by show o.p + 3 + o.n ≤ S.s.ws.length; omega) hin.head hin.hd (by omega) (by omega)).mono ?_
    rintro e w' ⟨rfl, hr', hF'⟩
    have hF2 : Fr S.L.fp w2 w' := hF'.here (fun x hx => by
      simp only [List.mem_cons, List.not_mem_nil, or_false] at hx
      rcases hx with e | e <;> rw [e] <;> simp [HL.fp])
    exact ⟨rfl, ⟨hr', hF.trans hF2⟩, hF2⟩
  · rintro w1 w2 ⟨hr, hF1⟩ hF
    exact ⟨hr.fr hF (by simp), hF1.trans (hF.here (by simp))⟩
  · rintro e w' ⟨rfl, w3, ⟨hr, hF1⟩, hF2, hBg⟩
    obtain ⟨i1, i2⟩ := (h.ci.tick 2).put ho hj hv hrw (by rw [show ({ S with s := S.s.tick 2 } : CY).qu = S.qu from rfl, h.qu]; exact List.not_mem_nil) 2
    have hw2 : ∀ o' ∈ S.obs, ∀ i, i < o'.n → ((S.s.tick 2).put (o.p + 3 + j) v 2).wd o' i = if o'.p = o.p ∧ i = j then v else S.s.wd o' i := i2
    have hc1 := h.cr.heap hF1 (fun x hx => hx) S.A S.z S.obs S.rw hr rfl
    have hd1 := h.dr.fr hF1 (fun x hx => h.fp0 x (fb_fp hx)) (wd' := S.s.wd) (fun _ _ _ _ => rfl) (F' := FB E S) (fun _ _ h => h)
    have kk := hd1.keep hF2 (10 + o.p) (fun x hx => by rw [List.mem_singleton.1 hx]; exact .inl hGl)
    have hgn := h.nfb hGl (by omega)
    refine ⟨rfl, _, hw2, rfl, hc1.fr hF2 (fun x hx => ?_), i1, ⟨kk.p (by omega), kk.wb (by omega), kk.im (by omega), kk.kim (by omega), hd1.dob.put hone ho hF2 hBg (fun o' ho' hne i hi => ?_) (fun i hi => ?_), kk.rb (by omega), h.dr.rv, h.dr.rl, kk.gv (by omega), kk.fv (by omega) (by omega), kk.row (by omega), h.dr.qv, kk.wk (by omega), h.dr.lp, h.dr.lw, h.dr.lr, h.dr.lm, h.dr.lk, h.dr.lG, h.dr.lg, h.dr.lf, h.dr.lo, h.dr.lx, h.dr.pos, fun b hb => ⟨Nat.lt_of_lt_of_le (hd1.sep b hb).1 hF2.size, (hd1.sep b hb).2⟩, kk.bx (by omega)⟩, h.ah, h.asb, h.ak, h.fr2, h.room, h.used, h.fcnt, h.todo, h.qu, h.wkg, h.bl, h.hkp, h.rvv⟩
    · rw [List.mem_singleton.1 hx]
      exact ⟨fun hc => hgn (.inl hc), fun hc => hgn (.inr (.inl hc)), fun hc => hgn (.inr (.inr hc))⟩
    · exact (hw2 o' ho' i hi).trans (if_neg (fun k => hne (hone o' ho' o ho k.1)))
    · refine (hw2 o ho i hi).trans ?_
      by_cases e : i = j
      · rw [if_pos ⟨rfl, e⟩, if_pos e]
      · rw [if_neg (fun k => e k.2), if_neg e]
def Val (obs : List Ob) (x : Int) : Prop := x = 0 ∨ ∃ o ∈ obs, o.p = x ∧ (o.k = 1 ∨ o.k = 6)
theorem Val.ob {obs : List Ob} {x : Int} (h : Val obs x) : x = 0 ∨ ∃ o ∈ obs, o.p = x := h.imp id fun ⟨o, h1, h2, _⟩ => ⟨o, h1, h2⟩
theorem Val.app {obs : List Ob} {x : Int} (h : Val obs x) (l : List Ob) : Val (obs ++ l) x := h.imp id fun ⟨o, h1, h2⟩ => ⟨o, List.mem_append_left _ h1, h2⟩
structure PT (S : CY) (gl regs : List Int) (kml : List (Int × Value)) (nn : Nat) : Prop where
  kinds : ∀ o ∈ S.obs, o.k = 1 ∨ o.k = 6 ∨ o.k = 9
  a0 : ∀ o ∈ S.obs, 0 ≤ o.a ∧ o.a < 1000
  small : ∀ o ∈ S.obs, o.n ≤ 10
  con : ∀ o ∈ S.obs, (o.k = 1 ∨ o.k = 6) → ∀ j, j < o.n → Val S.obs (S.s.wd o j)
  wk : ∀ o ∈ S.obs, o.k = 9 → o ∈ S.rw ∧ o.n = 4 ∧ (Val S.obs (S.s.wd o 0) ∧ S.s.wd o 0 ≠ 0) ∧ Val S.obs (S.s.wd o 1) ∧ Val S.obs (S.s.wd o 2)
  rgs : ∀ x ∈ regs, Val S.obs x
  glv : ∀ x ∈ gl, Val S.obs x
  gll : gl.length ≤ 10
  fs : ∀ f ∈ S.k.fs, ∀ x ∈ f.l, Val S.obs x
  num : ∀ (i : Nat) (o : Ob), S.rw.reverse[i]? = some o → o.a = i ∧ mget kml i = some (.int .i64 (S.s.wd o 0))
  rwl : S.rw.length ≤ S.obs.length
  rl : regs.length = 4
  cnt : S.obs.length + S.k.fs.length ≤ nn
theorem PT.rg {S : CY} {gl regs : List Int} {kml : List (Int × Value)} {nn : Nat} (h : PT S gl regs kml nn) (hi : CI S) (hn : nn ≤ 150) (hf : ∀ f ∈ S.k.fs, f.l.length = 2) : RG S gl regs (S.k.fs.map Fm.l) (S.rw.map Ob.p) := by
  refine ⟨?_, ?_, ?_, ?_, ?_, ?_, ?_⟩
  · intro o ho j hj
    rcases h.kinds o ho with hk | hk | hk
    · exact (h.con o ho (.inl hk) j hj).ob
    · exact (h.con o ho (.inr hk) j hj).ob
    · obtain ⟨-, h4, h0, h1, h2⟩ := h.wk o ho hk
      rw [h4] at hj
      obtain rfl | rfl | rfl | rfl : j = 0 ∨ j = 1 ∨ j = 2 ∨ j = 3 := by omega
      · exact h0.1.ob
      · exact h1.ob
      · exact h2.ob
      · exact hi.cl o ho 3 (by simp [Lk, Ob.f, Ob.t, lkF, lkT, hk, h4])
  · have := h.cnt; omega
  · have nzv : ∀ (l : List Int), (∀ x ∈ l, Val S.obs x) → ∀ x ∈ nz l, ∃ o ∈ S.obs, o.p = x := by
      intro l hl x hx
      unfold nz at hx
      rw [List.mem_filter] at hx
      rcases hl x hx.1 with h1 | ⟨o, h1, h2, -⟩
      · exact absurd h1 (by simpa using hx.2)
      · exact ⟨o, h1, h2⟩
    intro x hx
    unfold rootsL at hx
    simp only [List.append_nil, List.mem_append] at hx
    rcases hx with ((hx | hx) | hx) | hx
    · exact nzv _ h.glv x hx
    · exact nzv _ h.rgs x hx
    · rw [List.mem_flatten] at hx
      obtain ⟨l, hl, hx⟩ := hx
      obtain ⟨l2, hl2, rfl⟩ := List.mem_map.1 hl
      obtain ⟨f, hf1, rfl⟩ := List.mem_map.1 hl2
      exact nzv _ (h.fs f hf1) x hx
    · obtain ⟨o, ho, rfl⟩ := List.mem_map.1 hx
      exact ⟨o, (hi.rin o ho).1, rfl⟩
  · have := h.gll; omega
  · rw [List.length_map]; have := h.cnt; omega
  · intro l hl
    obtain ⟨f, hf1, rfl⟩ := List.mem_map.1 hl
    rw [hf f hf1]; exact Nat.le_refl _
  · rw [List.length_map]; have := h.rwl; have := h.cnt; omega
theorem PT.new {S : CY} {gl regs : List Int} {kml : List (Int × Value)} {nn : Nat} (h : PT S gl regs kml nn) (hi : CI S) {s' : HS} {A' : Rg} {z' : Int → Int} {q : Option Nat} {p aux : Int} {n : Nat} (hn : n ≤ 10) (ha : 0 ≤ aux ∧ aux < 1000) (_hne : ∀ o ∈ S.obs, o.p ≠ p) (hw : ∀ o ∈ S.obs, ∀ j, j < o.n → s'.wd o j = S.s.wd o j) (h0 : ∀ j, j < n → s'.wd ⟨q, p, 1, n, aux, 0⟩ j = 0) :
    PT { S with s := s', A := A', z := z', obs := S.obs ++ [⟨q, p, 1, n, aux, 0⟩] } gl regs kml (nn + 1) := by
  refine ⟨?_, ?_, ?_, ?_, ?_, fun x hx => (h.rgs x hx).app _, fun x hx => (h.glv x hx).app _, h.gll, fun f hf x hx => (h.fs f hf x hx).app _, ?_, ?_, h.rl, ?_⟩
  · intro o ho
    rcases List.mem_append.1 ho with h1 | h1
    · exact h.kinds o h1
    · rw [List.mem_singleton.1 h1]; exact .inl rfl
  · intro o ho
    rcases List.mem_append.1 ho with h1 | h1
    · exact h.a0 o h1
    · rw [List.mem_singleton.1 h1]; exact ha
  · intro o ho
    rcases List.mem_append.1 ho with h1 | h1
    · exact h.small o h1
    · rw [List.mem_singleton.1 h1]; exact hn
  · intro o ho hk j hj
    rcases List.mem_append.1 ho with h1 | h1
    · rw [show ({ S with s := s', A := A', z := z', obs := S.obs ++ [⟨q, p, 1, n, aux, 0⟩] } : CY).s.wd o j = S.s.wd o j from hw o h1 j hj]
      exact (h.con o h1 hk j hj).app _
    · rw [List.mem_singleton.1 h1] at hj ⊢
      exact .inl (h0 j hj)
  · intro o ho hk
    rcases List.mem_append.1 ho with h1 | h1
    · obtain ⟨w1, w2, w3, w4, w5⟩ := h.wk o h1 hk
      have e : ∀ j, j < 4 → ({ S with s := s', A := A', z := z', obs := S.obs ++ [⟨q, p, 1, n, aux, 0⟩] } : CY).s.wd o j = S.s.wd o j := fun j hj => hw o h1 j (by omega)
      refine ⟨w1, w2, ?_, ?_, ?_⟩
      · rw [e 0 (by decide)]; exact ⟨w3.1.app _, w3.2⟩
      · rw [e 1 (by decide)]; exact w4.app _
      · rw [e 2 (by decide)]; exact w5.app _
    · rw [List.mem_singleton.1 h1] at hk
      exact absurd hk (by simp)
  · intro i o ho
    obtain ⟨n1, n2⟩ := h.num i o ho
    have hm : o ∈ S.rw := List.mem_reverse.1 (List.mem_of_getElem? ho)
    refine ⟨n1, ?_⟩
    rw [n2, show ({ S with s := s', A := A', z := z', obs := S.obs ++ [⟨q, p, 1, n, aux, 0⟩] } : CY).s.wd o 0 = S.s.wd o 0 from hw o (hi.rin o hm).1 0 (by rw [(hi.rin o hm).2.2]; decide)]
  · show S.rw.length ≤ (S.obs ++ [_]).length
    rw [List.length_append]; have := h.rwl; omega
  · show (S.obs ++ [_]).length + S.k.fs.length ≤ nn + 1
    rw [List.length_append, List.length_singleton]; have := h.cnt; omega
theorem PT.put {S : CY} {gl regs : List Int} {kml : List (Int × Value)} {nn : Nat} (h : PT S gl regs kml nn) (hi : CI S) {s' : HS} {o : Ob} (ho : o ∈ S.obs) (hk : o.k = 1 ∨ o.k = 6) {j : Nat} {v : Int} (hv : Val S.obs v) (hw : ∀ o' ∈ S.obs, ∀ i, i < o'.n → s'.wd o' i = if o'.p = o.p ∧ i = j then v else S.s.wd o' i) : PT { S with s := s' } gl regs kml nn := by
  have hne : ∀ o' ∈ S.obs, o'.k = 9 → o'.p ≠ o.p := by
    intro o' ho' h9 e
    have := hi.mh.one ho' ho e
    subst this
    omega
  have hw9 : ∀ o' ∈ S.obs, o'.k = 9 → ∀ i, i < o'.n → s'.wd o' i = S.s.wd o' i := fun o' ho' h9 i hi' => (hw o' ho' i hi').trans (if_neg fun k => hne o' ho' h9 k.1)
  refine ⟨h.kinds, h.a0, h.small, ?_, ?_, h.rgs, h.glv, h.gll, h.fs, ?_, h.rwl, h.rl, h.cnt⟩
  · intro o' ho' hk' i hi'
    rw [show ({ S with s := s' } : CY).s.wd o' i = _ from hw o' ho' i hi']
    split
    · exact hv
    · exact h.con o' ho' hk' i hi'
  · intro o' ho' h9
    obtain ⟨w1, w2, w3, w4, w5⟩ := h.wk o' ho' h9
    have e : ∀ j, j < 4 → ({ S with s := s' } : CY).s.wd o' j = S.s.wd o' j := fun j hj => hw9 o' ho' h9 j (by omega)
    refine ⟨w1, w2, ?_, ?_, ?_⟩
    · rw [e 0 (by decide)]; exact w3
    · rw [e 1 (by decide)]; exact w4
    · rw [e 2 (by decide)]; exact w5
  · intro i o' ho'
    obtain ⟨n1, n2⟩ := h.num i o' ho'
    have hm : o' ∈ S.rw := List.mem_reverse.1 (List.mem_of_getElem? ho')
    refine ⟨n1, ?_⟩
    rw [n2, show ({ S with s := s' } : CY).s.wd o' 0 = S.s.wd o' 0 from hw9 o' (hi.rin o' hm).1 (hi.rin o' hm).2.1 0 (by rw [(hi.rin o' hm).2.2]; decide)]
theorem PT.reg {S : CY} {gl regs regs' : List Int} {kml : List (Int × Value)} {nn : Nat} (h : PT S gl regs kml nn) (hr : ∀ x ∈ regs', Val S.obs x) (hl : regs'.length = 4) : PT S gl regs' kml nn :=
  ⟨h.kinds, h.a0, h.small, h.con, h.wk, hr, h.glv, h.gll, h.fs, h.num, h.rwl, hl, h.cnt⟩
theorem PT.le {S : CY} {gl regs : List Int} {kml : List (Int × Value)} {nn nn' : Nat} (h : PT S gl regs kml nn) (hn : nn ≤ nn') : PT S gl regs kml nn' :=
  ⟨h.kinds, h.a0, h.small, h.con, h.wk, h.rgs, h.glv, h.gll, h.fs, h.num, h.rwl, h.rl, Nat.le_trans h.cnt hn⟩
theorem PT.frames {S : CY} {gl regs : List Int} {kml : List (Int × Value)} {nn nn' : Nat} (h : PT S gl regs kml nn) (k' : Sk) (P' : Nat → Prop) (hf : ∀ f ∈ k'.fs, ∀ x ∈ f.l, Val S.obs x) (hn : S.obs.length + k'.fs.length ≤ nn') : PT { S with k := k', P := P' } gl regs kml nn' :=
  ⟨h.kinds, h.a0, h.small, h.con, h.wk, h.rgs, h.glv, h.gll, hf, h.num, h.rwl, h.rl, hn⟩
theorem PT.turn {S : CY} {gl regs : List Int} {kml : List (Int × Value)} {nn : Nat} (h : PT S gl regs kml nn) (hi : CI S) {s' : HS} {o : Ob} (ho : o ∈ S.obs) (hk : o.k = 1 ∨ o.k = 6) (hw : ∀ o' ∈ S.obs, ∀ i, i < o'.n → s'.wd o' i = S.s.wd o' i) : PT { S with s := s', obs := hO S.obs o.p 6 0 } gl regs kml nn := by
  have hone : ∀ x ∈ S.obs, ∀ y ∈ S.obs, x.p = y.p → x = y := fun x hx y hy e => hi.mh.one hx hy e
  have hcase : ∀ o' ∈ hO S.obs o.p 6 0, ∃ x ∈ S.obs, o'.p = x.p ∧ o'.n = x.n ∧ ((x = o ∧ o' = { o with k := 6, a := 0 }) ∨ (x.p ≠ o.p ∧ o' = x)) := by
    intro o' ho'
    obtain ⟨x, hx, rfl⟩ := mem_updO.1 ho'
    refine ⟨x, hx, ?_⟩
    by_cases e : x.p = o.p
    · rw [if_pos e]
      have := hone x hx o ho e
      subst this
      exact ⟨rfl, rfl, .inl ⟨rfl, rfl⟩⟩
    · rw [if_neg e]; exact ⟨rfl, rfl, .inr ⟨e, rfl⟩⟩
  have up : ∀ x, Val S.obs x → Val (hO S.obs o.p 6 0) x := by
    rintro x (h1 | ⟨y, h1, h2, h3⟩)
    · exact .inl h1
    · refine .inr ⟨_, mem_updO.2 ⟨y, h1, rfl⟩, ?_, ?_⟩
      · split <;> exact h2
      · split
        · exact .inr rfl
        · exact h3
  have hlen : (hO S.obs o.p 6 0).length = S.obs.length := by unfold hO updO; rw [List.length_map]
  have h9 : ∀ o' ∈ S.obs, o'.k = 9 → o'.p ≠ o.p := by
    intro o' ho' e9 e
    have := hone o' ho' o ho e
    subst this
    omega
  refine ⟨?_, ?_, ?_, ?_, ?_, fun x hx => up x (h.rgs x hx), fun x hx => up x (h.glv x hx), h.gll, fun f hf x hx => up x (h.fs f hf x hx), ?_, ?_, h.rl, ?_⟩
  · intro o' ho'
    obtain ⟨x, hx, -, -, ⟨rfl, rfl⟩ | ⟨-, rfl⟩⟩ := hcase o' ho'
    · exact .inr (.inl rfl)
    · exact h.kinds o' hx
  · intro o' ho'
    obtain ⟨x, hx, -, -, ⟨rfl, rfl⟩ | ⟨-, rfl⟩⟩ := hcase o' ho'
    · exact ⟨Int.le_refl _, show (0 : Int) < 1000 by decide⟩
    · exact h.a0 o' hx
  · intro o' ho'
    obtain ⟨x, hx, -, e, -⟩ := hcase o' ho'
    rw [e]; exact h.small x hx
  · intro o' ho' hk' j hj
    obtain ⟨x, hx, -, e, ⟨rfl, rfl⟩ | ⟨-, rfl⟩⟩ := hcase o' ho'
    · exact up _ (by rw [show ({ S with s := s', obs := hO S.obs x.p 6 0 } : CY).s.wd { x with k := 6, a := 0 } j = S.s.wd x j from hw x hx j hj]; exact h.con x hx hk j hj)
    · exact up _ (by rw [show ({ S with s := s', obs := hO S.obs o.p 6 0 } : CY).s.wd o' j = S.s.wd o' j from hw o' hx j hj]; exact h.con o' hx hk' j hj)
  · intro o' ho' hk'
    obtain ⟨x, hx, -, e, ⟨rfl, rfl⟩ | ⟨-, rfl⟩⟩ := hcase o' ho'
    · exact absurd hk' (by simp)
    · obtain ⟨w1, w2, w3, w4, w5⟩ := h.wk o' hx hk'
      have e : ∀ j, j < 4 → ({ S with s := s', obs := hO S.obs o.p 6 0 } : CY).s.wd o' j = S.s.wd o' j := fun j hj => hw o' hx j (by omega)
      refine ⟨w1, w2, ?_, ?_, ?_⟩
      · rw [e 0 (by decide)]; exact ⟨up _ w3.1, w3.2⟩
      · rw [e 1 (by decide)]; exact up _ w4
      · rw [e 2 (by decide)]; exact up _ w5
  · intro i o' ho'
    obtain ⟨n1, n2⟩ := h.num i o' ho'
    have hm : o' ∈ S.rw := List.mem_reverse.1 (List.mem_of_getElem? ho')
    refine ⟨n1, ?_⟩
    rw [n2, show ({ S with s := s', obs := hO S.obs o.p 6 0 } : CY).s.wd o' 0 = S.s.wd o' 0 from hw o' (hi.rin o' hm).1 0 (by rw [(hi.rin o' hm).2.2]; decide)]
  · show S.rw.length ≤ (hO S.obs o.p 6 0).length
    rw [hlen]; exact h.rwl
  · show (hO S.obs o.p 6 0).length + _ ≤ nn
    rw [hlen]; exact h.cnt
theorem PT.weak {S : CY} {gl regs : List Int} {kml : List (Int × Value)} {nn : Nat} (h : PT S gl regs kml nn) (hi : CI S) {s' : HS} {A' : Rg} {z' : Int → Int} {t' : TS} {q : Option Nat} {p aux key value : Int} (ha : aux = S.rw.length) (hal : S.rw.length < 1000) (hw : ∀ o ∈ S.obs, ∀ j, j < o.n → s'.wd o j = S.s.wd o j)
    (h0 : s'.wd ⟨q, p, 9, 4, aux, 0⟩ 0 = key) (h1 : s'.wd ⟨q, p, 9, 4, aux, 0⟩ 1 = value) (h2 : s'.wd ⟨q, p, 9, 4, aux, 0⟩ 2 = value) (hk : Val S.obs key) (hk0 : key ≠ 0) (hv : Val S.obs value) :
    PT { S with s := s', A := A', z := z', t := t', obs := S.obs ++ [⟨q, p, 9, 4, aux, 0⟩], rw := ⟨q, p, 9, 4, aux, 0⟩ :: S.rw } gl regs (mput kml aux (.int .i64 key)) (nn + 1) := by
  refine ⟨?_, ?_, ?_, ?_, ?_, fun x hx => (h.rgs x hx).app _, fun x hx => (h.glv x hx).app _, h.gll, fun f hf x hx => (h.fs f hf x hx).app _, ?_, ?_, h.rl, ?_⟩
  · intro o ho
    rcases List.mem_append.1 ho with h1 | h1
    · exact h.kinds o h1
    · rw [List.mem_singleton.1 h1]; exact .inr (.inr rfl)
  · intro o ho
    rcases List.mem_append.1 ho with h1 | h1
    · exact h.a0 o h1
    · rw [List.mem_singleton.1 h1]; show 0 ≤ aux ∧ aux < 1000; omega
  · intro o ho
    rcases List.mem_append.1 ho with h1 | h1
    · exact h.small o h1
    · rw [List.mem_singleton.1 h1]; show 4 ≤ 10; decide
  · intro o ho hk j hj
    rcases List.mem_append.1 ho with h1 | h1
    · rw [show ({ S with s := s', A := A', z := z', t := t', obs := S.obs ++ [⟨q, p, 9, 4, aux, 0⟩], rw := ⟨q, p, 9, 4, aux, 0⟩ :: S.rw } : CY).s.wd o j = S.s.wd o j from hw o h1 j hj]
      exact (h.con o h1 hk j hj).app _
    · rw [List.mem_singleton.1 h1] at hk
      exact absurd hk (by simp)
  · intro o ho hk9
    rcases List.mem_append.1 ho with h3 | h3
    · obtain ⟨w1, w2, w3, w4, w5⟩ := h.wk o h3 hk9
      have e : ∀ j, j < 4 → ({ S with s := s', A := A', z := z', t := t', obs := S.obs ++ [⟨q, p, 9, 4, aux, 0⟩], rw := ⟨q, p, 9, 4, aux, 0⟩ :: S.rw } : CY).s.wd o j = S.s.wd o j := fun j hj => hw o h3 j (by omega)
      refine ⟨List.mem_cons_of_mem _ w1, w2, ?_, ?_, ?_⟩
      · rw [e 0 (by decide)]; exact ⟨w3.1.app _, w3.2⟩
      · rw [e 1 (by decide)]; exact w4.app _
      · rw [e 2 (by decide)]; exact w5.app _
    · rw [List.mem_singleton.1 h3]
      refine ⟨List.mem_cons_self .., rfl, ?_, ?_, ?_⟩
      · show Val _ (s'.wd _ 0) ∧ s'.wd _ 0 ≠ 0
        rw [h0]; exact ⟨hk.app _, hk0⟩
      · show Val _ (s'.wd _ 1)
        rw [h1]; exact hv.app _
      · show Val _ (s'.wd _ 2)
        rw [h2]; exact hv.app _
  · intro i o ho
    have ho' : ((⟨q, p, 9, 4, aux, 0⟩ : Ob) :: S.rw).reverse[i]? = some o := ho
    rw [List.reverse_cons] at ho'
    by_cases hil : i < S.rw.length
    · rw [List.getElem?_append_left (by rw [List.length_reverse]; exact hil)] at ho'
      obtain ⟨n1, n2⟩ := h.num i o ho'
      have hm : o ∈ S.rw := List.mem_reverse.1 (List.mem_of_getElem? ho')
      refine ⟨n1, ?_⟩
      rw [mget_mput_ne _ (by omega), n2]
      rw [show ({ S with s := s', A := A', z := z', t := t', obs := S.obs ++ [⟨q, p, 9, 4, aux, 0⟩], rw := ⟨q, p, 9, 4, aux, 0⟩ :: S.rw } : CY).s.wd o 0 = S.s.wd o 0 from hw o (hi.rin o hm).1 0 (by rw [(hi.rin o hm).2.2]; decide)]
    · rw [List.getElem?_append_right (by rw [List.length_reverse]; omega), List.length_reverse] at ho'
      have hi0 : i - S.rw.length = 0 := by
        have := (List.getElem?_eq_some_iff.1 ho').1
        simp at this; omega
      rw [hi0] at ho'
      simp at ho'
      subst ho'
      have : (i : Int) = aux := by omega
      rw [this, mget_mput_same]
      exact ⟨rfl, by rw [show ({ S with s := s', A := A', z := z', t := t', obs := S.obs ++ [⟨q, p, 9, 4, aux, 0⟩], rw := ⟨q, p, 9, 4, aux, 0⟩ :: S.rw } : CY).s.wd ⟨q, p, 9, 4, aux, 0⟩ 0 = key from h0]⟩
  · show (_ :: S.rw).length ≤ (S.obs ++ [_]).length
    rw [List.length_append, List.length_cons, List.length_singleton]; have := h.rwl; omega
  · show (S.obs ++ [_]).length + S.k.fs.length ≤ nn + 1
    rw [List.length_append, List.length_singleton]; have := h.cnt; omega
structure PQ (E : CE) (a : DA) (nn : Nat) (S : CY) (D : DPs) (w : World) : Prop where
  j : PJ E a S (S.rw.map Ob.p) (S.rw.reverse.map Ob.p) D w
  t : PT S E.gl D.regs D.kml nn
theorem CR.table {E : CE} {S : CY} {w w' : World} {Sl : List Nat} (h : CR E S w) (hf : Fr Sl w w') (hSl : ∀ x ∈ Sl, x ∈ S.L.fp ∨ x = E.tb) {s' : HS} {t' : TS} (rw' : List Ob) (hr : HRep w' S.L s') (ht : TRep w' E.tb S.L.hb E.sh t') (hx : s'.x.places = S.s.x.places) : CR E { S with s := s', t := t', rw := rw' } w' := by
  obtain ⟨f1, f2, f3, f4⟩ := h.mf
  have hn : ∀ b, b ∉ S.L.fp → b ≠ E.tb → b ∉ Sl := fun b hb h2 hc => (hSl b hc).elim hb h2
  have hP : ∀ b, S.P b → b < w.heap.size → b ∉ Sl := fun b hb _ => hn b (h.hpl b hb).1 (fun e => (h.hP b hb).2 (.inr (.inr (.inl e))))
  exact (h.go (S' := { S with s := s', t := t', rw := rw' }) hf (fun x hx => (hSl x hx).elim (fun e => .inr (.inr (.inr (.inr (.inl e))))) (fun e => .inr (.inr (.inl e)))) rfl (fun x hx => .inl hx) (fun x hx => .inl hx) (fun hx' => h.x0 (by rw [← hx]; exact hx')) rfl rfl hr (Blk.fr h.m hf (hn _ f2 h.mt)) (h.c.fr hf (hn _ f1 h.kt)) ht
    (h.k.fr hf (hn _ f4 (fun e => h.ts e.symm)) hP) (h.f.fr hf hP) (h.b.fr hf (fun g hg hc => by
      obtain ⟨b1, b2, b3, b4, b5⟩ := h.bo g hg
      exact (hSl g hc).elim (fun e => b5 (fp_all e)) b3)) (.inl rfl) (fun b hb => hb) (fun b hb => .inl hb) h.cyc h.todo).1
theorem jAdd (E : CE) (a : DA) (S : CY) (row wks : List Int) (D : DPs) (w : World) (h : PJ E a S row wks D w) (o : Ob) (ho : o ∈ S.obs) (hk : o.k = 9) (hn : o.n = 4) (hnr : o ∉ S.rw) (hkey : ∃ ko ∈ S.obs, ko.p = S.s.wd o 0) (hlen : S.rw.length + 1 ≤ 10000) :
    Calls Tryz.prog 85 #[.pointer (some ⟨E.tb, 0, none⟩), .int .i64 o.p] w fun e w' => e = .returned (.int .i64 0) ∧ ∃ s', Fr [S.L.ab, S.L.wb, E.tb] w w' ∧ (∀ o' ∈ S.obs, ∀ i, i < o'.n → s'.wd o' i = if o'.p = o.p ∧ i = 3 then S.t.row else S.s.wd o' i) ∧ s'.parity = S.s.parity ∧
      CR E { S with s := s', t := S.t.added o.p, rw := o :: S.rw } w' ∧ CI { S with s := s', t := S.t.added o.p, rw := o :: S.rw } := by
  obtain ⟨-, hin⟩ := h.ci.inB o ho
  have hl := hin.lies h.ci.mh.hi
  refine (tAdd S.L S.s E.tb E.sh S.t (o.wm S.s.parity) w h.cr.hr h.cr.t h.cr.ta hl hk hn).mono ?_
  rintro e w' ⟨rfl, hr, hT, hF⟩
  obtain ⟨i1, i2⟩ := (h.ci.tick 1).add ho hk hn hnr hkey (by show S.bl.length + S.rw.length + 1 ≤ 10000; rw [h.bl]; simpa using hlen) (by rw [show ({ S with s := S.s.tick 1 } : CY).qu = S.qu from rfl, h.qu]; exact List.not_mem_nil) 2 (S.t.added o.p) rfl rfl rfl
  refine ⟨rfl, _, hF, i2, rfl, h.cr.table hF (fun x hx => ?_) _ hr hT rfl, i1⟩
  simp only [List.mem_cons, List.not_mem_nil, or_false] at hx
  rcases hx with e | e | e
  · exact .inl (by rw [e]; simp [HL.fp])
  · exact .inl (by rw [e]; simp [HL.fp])
  · exact .inr e
theorem DR.setRow {F : Nat → Prop} {a : DA} {obs : List Ob} {wd : Ob → Nat → Int} {gl : List Int} {fs : List (List Int)} {row wks : List Int} {D : DPs} {w w9 : World} (h : DR F a obs wd gl fs row wks D w) (hFl : ∀ b, F b → b < w.heap.size) (hf : Fr [] w w9) {v' : Value} {row' : List Int} (hR : Rowi w9 0 v' row') (hown : ∀ g, v'.ownBlock = some g → w.heap.size ≤ g) :
    ∃ lab', DR F a obs wd gl fs row' wks { D with c := { D.c with row := v' }, lab := lab' } (w9.setCell ⟨a.wb, 4, none⟩ v') ∧ ∀ b, D.lab b ≠ 0 → lab' b = D.lab b := by
  have h9 := h.fr hf (by simp) (wd' := wd) (fun _ _ _ _ => rfl) (F' := F) (fun _ _ h => h)
  have hset : Fr [a.wb] w9 (w9.setCell ⟨a.wb, 4, none⟩ v') := (Fr.refl _ w9).set (by simp) _
  have kk := h9.keep hset 7 (fun x hx => by rw [List.mem_singleton.1 hx]; exact .inl h.lw)
  have hRw : Rowi (w9.setCell ⟨a.wb, 4, none⟩ v') 0 v' row' := hR.fr hset (fun g hg hc => by
    have h1 := hown g hg
    have h2 := (h.sep a.wb (by rw [h.lw]; decide)).1
    have h3 := List.mem_singleton.1 hc
    omega)
  have mk : ∀ lab', (∀ b, D.lab b ≠ 0 → lab' b = D.lab b) → (∀ g, v'.ownBlock = some g → lab' g = 4) → (∀ b, lab' b ≠ 0 → D.lab b ≠ 0 ∨ (w.heap.size ≤ b ∧ b < w9.heap.size)) → DR F a obs wd gl fs row' wks { D with c := { D.c with row := v' }, lab := lab' } (w9.setCell ⟨a.wb, 4, none⟩ v') := by
    intro lab' h1 h2 h3
    have hl : ∀ b l, D.lab b = l → l ≠ 0 → lab' b = l := fun b l e hl => (h1 b (by rw [e]; exact hl)).trans e
    refine ⟨kk.p (by decide), Blk.set h9.wb 4 v', kk.im (by decide), kk.kim (by decide), h9.dob.fr hset (fun o ho hc => ?_) (fun _ _ _ _ => rfl), kk.rb (by decide), h.rv, h.rl, kk.gv (by decide), (kk.fv (by decide) (by decide)).mono (fun b hb => hl b 2 hb (by decide)), hRw, h.qv, kk.wk (by decide), hl _ _ h.lp (by decide), hl _ _ h.lw (by decide), hl _ _ h.lr (by decide), hl _ _ h.lm (by decide), hl _ _ h.lk (by decide), fun o ho => hl _ _ (h.lG o ho) (by have := h.pos o ho; omega), fun x hx => hl _ _ (h.lg x hx) (by decide), fun x hx => hl _ _ (h.lf x hx) (by decide), h2, fun x hx => hl _ _ (h.lx x hx) (by decide), h.pos, fun b hb => ?_, (kk.bx (by decide)).lab h1⟩
    · have e1 := h.lG o ho
      rw [List.mem_singleton.1 hc, h.lw] at e1
      have := h.pos o ho
      omega
    · have hsz := hset.size
      rcases h3 b hb with h4 | ⟨h4, h5⟩
      · exact ⟨Nat.lt_of_lt_of_le (h9.sep b h4).1 hsz, (h9.sep b h4).2⟩
      · exact ⟨Nat.lt_of_lt_of_le h5 hsz, fun hc => by have := hFl b hc; omega⟩
  cases hv : v'.ownBlock with
  | none => exact ⟨D.lab, mk _ (fun _ _ => rfl) (fun g hg => by rw [hv] at hg; cases hg) (fun b hb => .inl hb), fun _ _ => rfl⟩
  | some g =>
    have hg1 := hown g hv
    have hg2 := (hR.lt g hv).2
    refine ⟨labU D.lab g 4, mk _ (fun b hb => labU_ne (fun e => by have := (h.sep b hb).1; omega)) (fun g' hg' => by rw [hv] at hg'; cases hg'; exact labU_eq _ _ _) (fun b hb => ?_), fun b hb => labU_ne (fun e => by have := (h.sep b hb).1; omega)⟩
    by_cases e : b = g
    · exact .inr (by rw [e]; exact ⟨hg1, hg2⟩)
    · rw [labU_ne e] at hb; exact .inl hb
theorem DR.setWks {F : Nat → Prop} {a : DA} {obs : List Ob} {wd : Ob → Nat → Int} {gl : List Int} {fs : List (List Int)} {row wks : List Int} {D : DPs} {w w9 : World} (h : DR F a obs wd gl fs row wks D w) (hFl : ∀ b, F b → b < w.heap.size) (hf : Fr D.wv.ownBlock.toList w w9) {v' : Value} {wks' : List Int} (hR : Rowi w9 0 v' wks') (hown : v'.ownBlock = D.wv.ownBlock ∨ ∃ g, v'.ownBlock = some g ∧ w.heap.size ≤ g) :
    ∃ lab', DR F a obs wd gl fs row wks' { D with wv := v', lab := lab' } (w9.setCell ⟨a.pb, 4, none⟩ v') ∧ ∀ b, D.lab b ≠ 0 → lab' b = D.lab b := by
  have hS3 : ∀ x ∈ D.wv.ownBlock.toList, D.lab x = 3 := fun x hx => h.lx x (by simpa using hx)
  have k9 := h.keep hf 3 (fun x hx => .inl (hS3 x hx))
  have hset : Fr [a.pb] w9 (w9.setCell ⟨a.pb, 4, none⟩ v') := (Fr.refl _ w9).set (by simp) _
  have hne : ∀ b l, D.lab b = l → l ≠ 6 → b ∉ [a.pb] := fun b l e hl hc => hl (by rw [← e, List.mem_singleton.1 hc]; exact h.lp)
  have hplt : a.pb < w.heap.size := (h.sep a.pb (by rw [h.lp]; decide)).1
  have hRw : Rowi (w9.setCell ⟨a.pb, 4, none⟩ v') 0 v' wks' := hR.fr hset (fun g hg hc => by
    rcases hown with h1 | ⟨g', h1, h2⟩
    · exact hne g 3 (h.lx g (h1.symm.trans hg)) (by decide) hc
    · rw [h1] at hg; cases hg
      have h3 := List.mem_singleton.1 hc
      omega)
  have mk : ∀ lab', (∀ b, D.lab b ≠ 0 → lab' b = D.lab b) → (∀ g, v'.ownBlock = some g → lab' g = 3) → (∀ b, lab' b ≠ 0 → D.lab b ≠ 0 ∨ (w.heap.size ≤ b ∧ b < w9.heap.size)) → DR F a obs wd gl fs row wks' { D with wv := v', lab := lab' } (w9.setCell ⟨a.pb, 4, none⟩ v') := by
    intro lab' h1 h2 h3
    have hl : ∀ b l, D.lab b = l → l ≠ 0 → lab' b = l := fun b l e hl => (h1 b (by rw [e]; exact hl)).trans e
    refine ⟨Blk.set (k9.p (by decide)) 4 v', Blk.fr (k9.wb (by decide)) hset (hne _ _ h.lw (by decide)), (k9.im (by decide)).fr hset (hne _ _ h.lm (by decide)), (k9.kim (by decide)).fr hset (hne _ _ h.lk (by decide)), ⟨h.dob.get, fun o ho => ⟨Nat.zero_le _, (k9.ob o ho (by have := h.pos o ho; omega)).fr hset (hne _ _ (h.lG o ho) (by have := h.pos o ho; omega))⟩, h.dob.inj, h.dob.only⟩, (k9.rb (by decide)).fr hset (hne _ _ h.lr (by decide)), h.rv, h.rl, (k9.gv (by decide)).fr hset (fun g hg => hne _ _ (h.lg g hg) (by decide)), ((k9.fv (by decide) (by decide)).fr hset (fun g hg => hne _ _ (h.lf g hg) (by decide)) (fun g hg _ => hne _ _ hg (by decide))).mono (fun b hb => hl b 2 hb (by decide)), (k9.row (by decide)).fr hset (fun g hg => hne _ _ (h.lo g hg) (by decide)), h.qv, hRw, hl _ _ h.lp (by decide), hl _ _ h.lw (by decide), hl _ _ h.lr (by decide), hl _ _ h.lm (by decide), hl _ _ h.lk (by decide), fun o ho => hl _ _ (h.lG o ho) (by have := h.pos o ho; omega), fun x hx => hl _ _ (h.lg x hx) (by decide), fun x hx => hl _ _ (h.lf x hx) (by decide), fun x hx => hl _ _ (h.lo x hx) (by decide), h2, h.pos, fun b hb => ?_, ((k9.bx (by decide)).fr hset (fun x hx e => by rw [List.mem_singleton.1 hx, h.lp] at e; exact absurd e (by decide)) (fun b hb => Nat.lt_of_lt_of_le (h.sep b hb).1 hf.size)).lab h1⟩
    have hsz := hset.size
    rcases h3 b hb with h4 | ⟨h4, h5⟩
    · exact ⟨Nat.lt_of_lt_of_le (h.sep b h4).1 (Nat.le_trans hf.size hsz), (h.sep b h4).2⟩
    · exact ⟨Nat.lt_of_lt_of_le h5 hsz, fun hc => by have := hFl b hc; omega⟩
  rcases hown with h1 | ⟨g, hv, hg1⟩
  · exact ⟨D.lab, mk _ (fun _ _ => rfl) (fun g hg => h.lx g (h1.symm.trans hg)) (fun b hb => .inl hb), fun _ _ => rfl⟩
  · have hg2 := (hR.lt g hv).2
    refine ⟨labU D.lab g 3, mk _ (fun b hb => labU_ne (fun e => by have := (h.sep b hb).1; omega)) (fun g' hg' => by rw [hv] at hg'; cases hg'; exact labU_eq _ _ _) (fun b hb => ?_), fun b hb => labU_ne (fun e => by have := (h.sep b hb).1; omega)⟩
    by_cases e : b = g
    · exact .inr (by rw [e]; exact ⟨hg1, hg2⟩)
    · rw [labU_ne e] at hb; exact .inl hb
theorem DR.setKey {F : Nat → Prop} {a : DA} {obs : List Ob} {wd : Ob → Nat → Int} {gl : List Int} {fs : List (List Int)} {row wks : List Int} {D : DPs} {w w' : World} (h : DR F a obs wd gl fs row wks D w) (hf : Fr [D.km] w w') {kml' : List (Int × Value)} (hI : IM w' D.km kml') : DR F a obs wd gl fs row wks { D with kml := kml' } w' := by
  have kk := h.keep hf 9 (fun x hx => by rw [List.mem_singleton.1 hx]; exact .inl h.lk)
  exact ⟨kk.p (by decide), kk.wb (by decide), kk.im (by decide), hI, ⟨h.dob.get, fun o ho => ⟨Nat.zero_le _, kk.ob o ho (by have := h.pos o ho; omega)⟩, h.dob.inj, h.dob.only⟩, kk.rb (by decide), h.rv, h.rl, kk.gv (by decide), kk.fv (by decide) (by decide), kk.row (by decide), h.qv, kk.wk (by decide), h.lp, h.lw, h.lr, h.lm, h.lk, h.lG, h.lg, h.lf, h.lo, h.lx, h.pos, fun b hb => ⟨Nat.lt_of_lt_of_le (h.sep b hb).1 hf.size, (h.sep b hb).2⟩, kk.bx (by first | decide | omega)⟩
theorem DR.setWord {F : Nat → Prop} {a : DA} {obs : List Ob} {wd wd' : Ob → Nat → Int} {gl : List Int} {fs : List (List Int)} {row wks : List Int} {D : DPs} {w w' : World} (h : DR F a obs wd gl fs row wks D w) (hone : ∀ o ∈ obs, ∀ o' ∈ obs, o.p = o'.p → o = o') {o : Ob} (ho : o ∈ obs) {j : Nat} {v : Int} (hf : Fr [D.G o.p] w w') (hB : Blk w' (D.G o.p) ((wcs o (wd o)).set j (.int .i64 v)) 2)
    (hw : ∀ o' ∈ obs, ∀ i, i < o'.n → wd' o' i = if o'.p = o.p ∧ i = j then v else wd o' i) : DR F a obs wd' gl fs row wks D w' := by
  have hp := h.pos o ho
  have hGl := h.lG o ho
  have kk := h.keep hf (10 + o.p) (fun x hx => by rw [List.mem_singleton.1 hx]; exact .inl hGl)
  refine ⟨kk.p (by omega), kk.wb (by omega), kk.im (by omega), kk.kim (by omega), h.dob.put hone ho hf hB (fun o' ho' hne i hi => (hw o' ho' i hi).trans (if_neg (fun k => hne (hone o' ho' o ho k.1)))) (fun i hi => ?_), kk.rb (by omega), h.rv, h.rl, kk.gv (by omega), kk.fv (by omega) (by omega), kk.row (by omega), h.qv, kk.wk (by omega), h.lp, h.lw, h.lr, h.lm, h.lk, h.lG, h.lg, h.lf, h.lo, h.lx, h.pos, fun b hb => ⟨Nat.lt_of_lt_of_le (h.sep b hb).1 hf.size, (h.sep b hb).2⟩, kk.bx (by first | decide | omega)⟩
  refine (hw o ho i hi).trans ?_
  by_cases e : i = j
  · rw [if_pos ⟨rfl, e⟩, if_pos e]
  · rw [if_neg (fun k => e k.2), if_neg e]
theorem DR.setReg {F : Nat → Prop} {a : DA} {obs : List Ob} {wd : Ob → Nat → Int} {gl : List Int} {fs : List (List Int)} {row wks : List Int} {D : DPs} {w w' : World} (h : DR F a obs wd gl fs row wks D w) (hf : Fr [a.rb] w w') {regs' : List Int} (hB : Blk w' a.rb (regs'.map (.int .i64)) 2) (hl : regs'.length = 4) : DR F a obs wd gl fs row wks { D with regs := regs' } w' := by
  have kk := h.keep hf 1 (fun x hx => by rw [List.mem_singleton.1 hx]; exact .inl h.lr)
  exact ⟨kk.p (by decide), kk.wb (by decide), kk.im (by decide), kk.kim (by decide), ⟨h.dob.get, fun o ho => ⟨Nat.zero_le _, kk.ob o ho (by have := h.pos o ho; omega)⟩, h.dob.inj, h.dob.only⟩, hB, h.rv, hl, kk.gv (by decide), kk.fv (by decide) (by decide), kk.row (by decide), h.qv, kk.wk (by decide), h.lp, h.lw, h.lr, h.lm, h.lk, h.lG, h.lg, h.lf, h.lo, h.lx, h.pos, fun b hb => ⟨Nat.lt_of_lt_of_le (h.sep b hb).1 hf.size, (h.sep b hb).2⟩, kk.bx (by first | decide | omega)⟩
theorem CR.fbl {E : CE} {S : CY} {w : World} (h : CR E S w) : ∀ b, FB E S b → b < w.heap.size := by
  rintro b (hb | hb | hb)
  · exact h.ltO b hb
  · exact h.all_lt hb
  · exact (h.hP b hb).1
structure PM (a : DA) (S : CY) (gl : List Int) (D : DPs) (nn : Nat) (w : World) : Prop where
  hr : HRep w S.L S.s
  ci : CI S
  dr : DR (fun b => b ∈ S.L.all ∨ b = a.sb) a S.obs S.s.wd gl [] [] [] D w
  pt : PT S gl D.regs D.kml nn
  ah : a.hb = S.L.hb
  sk : Blk w a.sb [.slice none 0 0, .int .i64 400, .int .i64 0, .int .i64 0] 128
  sn : a.sb ∉ S.L.all
  x0 : S.s.x.places ≠ 0 → ∃ b0, S.L.xlbs = [b0]
  hkp : a.kp a.bx 0 = some (.pointer (some ⟨a.pb, 0, none⟩))
  e0 : S.rw = [] ∧ S.qu = [] ∧ S.k.fs = [] ∧ S.t = ⟨0, 0, 0, 0, 0, false⟩ ∧ S.bl = []
def MAPost (a : DA) (S : CY) (gl : List Int) (D : DPs) (nn : Nat) (_aux : Int) (e : Ending) (w' : World) : Prop :=
  (e = .returned (.tuple #[.int .i64 0, .bool false]) ∧ PM a S gl { D with full := true } (nn + 1) w') ∨
  ∃ p S' D', e = .returned (.tuple #[.int .i64 p, .bool true]) ∧ PM a S' gl D' (nn + 1) w' ∧ D'.c = D.c ∧ Val S'.obs p
set_option maxHeartbeats 800000 in
theorem mAlloc (a : DA) (S : CY) (gl : List Int) (D : DPs) (nn : Nat) (w : World) (h : PM a S gl D nn w) (hnn : nn ≤ 100) (aux : Int) (ha : 0 ≤ aux ∧ aux < 256) :
    Calls Tryz.prog 31 #[.pointer (some ⟨a.pb, 0, none⟩), .int .i64 1, .int .i64 aux, .int .i64 2] w (MAPost a S gl D nn aux) := by
  have hfp0 : ∀ x, x ∈ S.L.all → D.lab x = 0 := fun x hx => Classical.byContradiction fun hc => (h.dr.sep x hc).2 (.inl hx)
  have hnf : ∀ x l, D.lab x = l → l ≠ 0 → x ∉ S.L.fp := fun x l e hl hc => hl (by rw [← e]; exact hfp0 x (fp_all hc))
  have hd : Hd 1 (2 : Nat) aux S.s.parity := ⟨by decide, by decide, by have := h.ci.mh.par; omega, by have := h.ci.mh.par; omega, by decide, by decide, by omega, by omega⟩
  have hrg := h.pt.rg h.ci (by omega) (fun f hf => by rw [h.e0.2.2.1] at hf; cases hf)
  rw [h.e0.1, h.e0.2.2.1] at hrg
  have hsn : a.sb ∉ S.L.fp := fun hc => h.sn (fp_all hc)
  refine (yAllocF a.pb a.hb a.sb a.wb D.km a.kv D.wv D.full D.c D.m 1 aux 2 (by decide) w S.L.fp (fun w' => HRep w' S.L S.s ∧ Fr S.L.fp w w') (fun p w1 => ∃ q s' A' z', HRep w1 S.L s' ∧ Alc S.s s' S.A A' S.z z' q p (packed 1 (2 : Nat) aux S.s.parity) 2 ∧ How S.s s' S.A S.z z' q p 2 ∧ Fr S.L.fp w w1) h.dr.p h.dr.wb h.dr.im
    ⟨hnf _ _ h.dr.lp (by decide), hnf _ _ h.dr.lw (by decide), hnf _ _ h.dr.lm (by decide)⟩ ?_ ?_ ?_).mono ?_
  · rw [h.ah]
    refine (hAllocX S.L S.s S.A S.z 1 aux 2 w h.hr h.ci.mh.hi hd).mono ?_
    rintro e w' ⟨hF, ⟨rfl, hr, -⟩ | ⟨q, p, s', A', z', rfl, hr, hA, hh⟩⟩
    · exact ⟨hF, .inl ⟨rfl, hr, hF⟩⟩
    · exact ⟨hF, .inr ⟨p, rfl, q, s', A', z', hr, hA, hh, hF⟩⟩
  · rintro p w1 ⟨q, s', A', z', hr, hA, hh, -⟩ hF
    refine ((h.dr.fr hF (fun x hx => hfp0 x (fp_all hx)) (wd' := S.s.wd) (fun _ _ _ _ => rfl) (F' := fun b => b ∈ S.L.all ∨ b = a.sb) (fun _ _ h => h)).reached (fun x hx y hy e => h.ci.mh.one hx hy e) h.ci.ond (fun o ho => h.ci.mh.hd ho 0 (.inl rfl)) hrg.wr h.ci.opos hrg.ol hrg.rt hrg.gll hrg.fsl hrg.ff hrg.rl).mono ?_
    rintro e w' ⟨om, lk, Lv, rfl, -, h2, -, h4, -, -, h7⟩
    refine ⟨om, lk, Lv.map Ob.p, rfl, h2, fun hc => ?_, h7⟩
    obtain ⟨o, h8, h9⟩ := List.mem_map.1 hc
    exact (h.ci.alloc hd hA hh).2.1 o (h4 o h8) h9
  · rintro p w1 w2 ⟨q, s', A', z', hr, hA, hh, hF1⟩ hF
    exact ⟨q, s', A', z', hr.fr hF (by simp), hA, hh, hF1.trans (hF.here (by simp))⟩
  · rintro e w' (⟨w1, ⟨hr, hF1⟩, rfl, hF2, hP⟩ | ⟨p, w1, g, ⟨q, s', A', z', hr, hA, hh, hF1⟩, rfl, hgl, hI, hB, hF2⟩)
    · refine .inl ⟨rfl, ?_⟩
      have hd1 := h.dr.fr hF1 (fun x hx => hfp0 x (fp_all hx)) (wd' := S.s.wd) (fun _ _ _ _ => rfl) (F' := fun b => b ∈ S.L.all ∨ b = a.sb) (fun _ _ h => h)
      have hpn := (h.dr.sep a.pb (by rw [h.dr.lp]; decide)).2
      have k := hd1.keep hF2 6 (fun x hx => by rw [List.mem_singleton.1 hx]; exact .inl h.dr.lp)
      refine ⟨hr.fr hF2 (fun x hx => by rw [List.mem_singleton.1 hx]; exact fun hc => hpn (.inl hc)), h.ci, ⟨hP, k.wb (by decide), k.im (by decide), k.kim (by decide), hd1.dob.fr hF2 (fun o ho hc => ?_) (fun _ _ _ _ => rfl), k.rb (by decide), h.dr.rv, h.dr.rl, k.gv (by decide), k.fv (by decide) (by decide), k.row (by decide), h.dr.qv, k.wk (by decide), h.dr.lp, h.dr.lw, h.dr.lr, h.dr.lm, h.dr.lk, h.dr.lG, h.dr.lg, h.dr.lf, h.dr.lo, h.dr.lx, h.dr.pos, fun b hb => ⟨Nat.lt_of_lt_of_le (hd1.sep b hb).1 hF2.size, (hd1.sep b hb).2⟩, k.bx (by decide)⟩, h.pt.le (Nat.le_succ nn), h.ah, (h.sk.fr hF1 hsn).fr hF2 (by simp; exact fun e => hpn (.inr e.symm)), h.sn, h.x0, h.hkp, h.e0⟩
      have h1 := h.dr.lG o ho
      rw [List.mem_singleton.1 hc, h.dr.lp] at h1
      have := h.dr.pos o ho
      omega
    · obtain ⟨i1, i2, i3, i4, i5, -, -⟩ := h.ci.alloc hd hA hh
      have hd1 := h.dr.fr hF1 (fun x hx => hfp0 x (fp_all hx)) (wd' := s'.wd) i3 (F' := fun b => b ∈ S.L.all ∨ b = a.sb) (fun _ _ h => h)
      have kk := hd1.keep hF2 8 (fun x hx => by rw [List.mem_singleton.1 hx]; exact .inl h.dr.lm)
      have hmn := (h.dr.sep _ (by rw [h.dr.lm]; decide)).2
      have hgn : ∀ b, D.lab b ≠ 0 → b ≠ g := fun b hb e => by have := (hd1.sep b hb).1; omega
      have hlab : ∀ b l, D.lab b = l → l ≠ 0 → labU D.lab g (10 + p) b = l := fun b l e hl => by rw [labU_ne (hgn b (by rw [e]; exact hl))]; exact e
      have hgb : g < w'.heap.size := hB.lt
      have hgf : ¬ (g ∈ S.L.all ∨ g = a.sb) := by
        rintro (hc | hc)
        · have := all_lt h.hr hc; have := hF1.size; omega
        · have := Blk.lt h.sk; have := hF1.size; omega
      have hptn := h.pt.new (q := q) (A' := A') (z' := z') (p := p) (aux := aux) (n := 2) h.ci (by decide) (by omega) i2 i3 i4
      refine .inr ⟨p, { S with s := s', A := A', z := z', obs := S.obs ++ [⟨q, p, 1, (2 : Nat), aux, 0⟩] }, { D with m := mput D.m p (obV 1 (2 : Nat) aux 0 g 2), G := fun x => if x = p then g else D.G x, lab := labU D.lab g (10 + p) }, rfl, ⟨hr.fr hF2 (fun x hx => by rw [List.mem_singleton.1 hx]; exact fun hc => hmn (.inl hc)), i1, ?_, hptn, h.ah, (h.sk.fr hF1 hsn).fr hF2 (by simp; exact fun e => hmn (.inr e.symm)), h.sn, fun hx => h.x0 (by rw [← how_places hh]; exact hx), h.hkp, h.e0⟩, rfl, .inr ⟨_, List.mem_append_right _ (List.mem_singleton.2 rfl), rfl, .inl rfl⟩⟩
      refine ⟨kk.p (by decide), kk.wb (by decide), hI, kk.kim (by decide), ?_, kk.rb (by decide), h.dr.rv, h.dr.rl, kk.gv (by decide), (kk.fv (by decide) (by decide)).mono (fun b hb => hlab b 2 hb (by decide)), kk.row (by decide), h.dr.qv, kk.wk (by decide), hlab _ _ h.dr.lp (by decide), hlab _ _ h.dr.lw (by decide), hlab _ _ h.dr.lr (by decide), hlab _ _ h.dr.lm (by decide), hlab _ _ h.dr.lk (by decide), ?_, fun x hx => hlab _ _ (h.dr.lg x hx) (by decide), fun x hx => hlab _ _ (h.dr.lf x hx) (by decide), fun x hx => hlab _ _ (h.dr.lo x hx) (by decide), fun x hx => hlab _ _ (h.dr.lx x hx) (by decide), ?_, ?_, (kk.bx (by decide)).lab (fun b hb => labU_ne (hgn b hb))⟩
      · refine hd1.dob.new (fun o ho => kk.ob o ho (by have := h.dr.pos o ho; omega)) ⟨q, p, 1, 2, aux, 0⟩ g (Nat.zero_le _) (fun o ho => ⟨i2 o ho, fun e => ?_⟩) hB (fun _ _ _ _ => rfl) i4
        have h1 := h.dr.lG o ho
        exact hgn (D.G o.p) (by rw [h1]; have := h.dr.pos o ho; omega) e
      · intro o ho
        rcases List.mem_append.1 ho with h1 | h1
        · show labU D.lab g (10 + p) (if o.p = p then g else D.G o.p) = _
          rw [if_neg (i2 o h1)]
          exact hlab _ _ (h.dr.lG o h1) (by have := h.dr.pos o h1; omega)
        · rw [List.mem_singleton.1 h1]
          show labU D.lab g (10 + p) (if p = p then g else D.G p) = _
          rw [if_pos rfl, labU_eq]
      · intro o ho
        rcases List.mem_append.1 ho with h1 | h1
        · exact h.dr.pos o h1
        · rw [List.mem_singleton.1 h1]; exact i5
      · intro b hb
        by_cases e : b = g
        · subst e; exact ⟨hgb, hgf⟩
        · have hb' : labU D.lab g (10 + p) b ≠ 0 := hb
          rw [labU_ne e] at hb'
          exact ⟨Nat.lt_of_lt_of_le (hd1.sep b hb').1 hF2.size, (hd1.sep b hb').2⟩
theorem DR.setGl {F : Nat → Prop} {a : DA} {obs : List Ob} {wd : Ob → Nat → Int} {gl gl' : List Int} {fs : List (List Int)} {row wks : List Int} {D : DPs} {w w9 : World} (h : DR F a obs wd gl fs row wks D w) (hFl : ∀ b, F b → b < w.heap.size) (hf : Fr D.c.gv.ownBlock.toList w w9) {v' : Value} (hR : Rowl w9 0 v' gl') (hown : v'.ownBlock = D.c.gv.ownBlock ∨ ∃ g, v'.ownBlock = some g ∧ w.heap.size ≤ g) (hfv : D.c.fv = .slice none 0 0) (hfs : fs = []) :
    ∃ lab', DR F a obs wd gl' fs row wks { D with c := { D.c with gv := v' }, lab := lab' } (w9.setCell ⟨a.wb, 1, none⟩ v') := by
  have hS3 : ∀ x ∈ D.c.gv.ownBlock.toList, D.lab x = 2 := fun x hx => h.lg x (by simpa using hx)
  have k9 := h.keep hf 2 (fun x hx => .inl (hS3 x hx))
  have hset : Fr [a.wb] w9 (w9.setCell ⟨a.wb, 1, none⟩ v') := (Fr.refl _ w9).set (by simp) _
  have hne : ∀ b l, D.lab b = l → l ≠ 7 → b ∉ [a.wb] := fun b l e hl hc => hl (by rw [← e, List.mem_singleton.1 hc]; exact h.lw)
  have hplt : a.wb < w.heap.size := (h.sep a.wb (by rw [h.lw]; decide)).1
  have hRw : Rowl (w9.setCell ⟨a.wb, 1, none⟩ v') 0 v' gl' := hR.fr hset (fun g hg hc => by
    rcases hown with h1 | ⟨g', h1, h2⟩
    · exact hne g 2 (h.lg g (h1.symm.trans hg)) (by decide) hc
    · rw [h1] at hg; cases hg
      have h3 := List.mem_singleton.1 hc
      omega)
  have mk : ∀ lab', (∀ b, D.lab b ≠ 0 → lab' b = D.lab b) → (∀ g, v'.ownBlock = some g → lab' g = 2) → (∀ b, lab' b ≠ 0 → D.lab b ≠ 0 ∨ (w.heap.size ≤ b ∧ b < w9.heap.size)) → DR F a obs wd gl' fs row wks { D with c := { D.c with gv := v' }, lab := lab' } (w9.setCell ⟨a.wb, 1, none⟩ v') := by
    intro lab' h1 h2 h3
    have hl : ∀ b l, D.lab b = l → l ≠ 0 → lab' b = l := fun b l e hl => (h1 b (by rw [e]; exact hl)).trans e
    refine ⟨(k9.p (by decide)).fr hset (hne _ _ h.lp (by decide)), Blk.set (k9.wb (by decide)) 1 v', (k9.im (by decide)).fr hset (hne _ _ h.lm (by decide)), (k9.kim (by decide)).fr hset (hne _ _ h.lk (by decide)), ⟨h.dob.get, fun o ho => ⟨Nat.zero_le _, (k9.ob o ho (by have := h.pos o ho; omega)).fr hset (hne _ _ (h.lG o ho) (by have := h.pos o ho; omega))⟩, h.dob.inj, h.dob.only⟩, (k9.rb (by decide)).fr hset (hne _ _ h.lr (by decide)), h.rv, h.rl, hRw, ?_, (k9.row (by decide)).fr hset (fun g hg => hne _ _ (h.lo g hg) (by decide)), h.qv, (k9.wk (by decide)).fr hset (fun g hg => hne _ _ (h.lx g hg) (by decide)), hl _ _ h.lp (by decide), hl _ _ h.lw (by decide), hl _ _ h.lr (by decide), hl _ _ h.lm (by decide), hl _ _ h.lk (by decide), fun o ho => hl _ _ (h.lG o ho) (by have := h.pos o ho; omega), h2, fun x hx => hl _ _ (h.lf x hx) (by decide), fun x hx => hl _ _ (h.lo x hx) (by decide), fun x hx => hl _ _ (h.lx x hx) (by decide), h.pos, fun b hb => ?_, ((k9.bx (by decide)).fr hset (fun x hx e => by rw [List.mem_singleton.1 hx, h.lw] at e; exact absurd e (by decide)) (fun b hb => Nat.lt_of_lt_of_le (h.sep b hb).1 hf.size)).lab h1⟩
    · show FrV _ _ D.c.fv fs
      rw [hfv, hfs]; exact FrV.nil _ _
    · have hsz := hset.size
      rcases h3 b hb with h4 | ⟨h4, h5⟩
      · exact ⟨Nat.lt_of_lt_of_le (h.sep b h4).1 (Nat.le_trans hf.size hsz), (h.sep b h4).2⟩
      · exact ⟨Nat.lt_of_lt_of_le h5 hsz, fun hc => by have := hFl b hc; omega⟩
  rcases hown with h1 | ⟨g, hv, hg1⟩
  · exact ⟨D.lab, mk _ (fun _ _ => rfl) (fun g hg => h.lg g (h1.symm.trans hg)) (fun b hb => .inl hb)⟩
  · have hg2 := (hR.lt g hv).2
    refine ⟨labU D.lab g 2, mk _ (fun b hb => labU_ne (fun e => by have := (h.sep b hb).1; omega)) (fun g' hg' => by rw [hv] at hg'; cases hg'; exact labU_eq _ _ _) (fun b hb => ?_)⟩
    by_cases e : b = g
    · exact .inr (by rw [e]; exact ⟨hg1, hg2⟩)
    · rw [labU_ne e] at hb; exact .inl hb
def s0 (L : HL) (W Lg : Nat) (cls : List Int) : CY := ⟨L, HS.new W Lg cls, fun _ => ⟨[], [], [], []⟩, fun _ => 0, [], 0, 0, 0, ⟨.slice none 0 0, .slice none 0 0, .slice none 0 0, 0, 0, .slice none 0 0, 0, .slice none 0 0⟩, ⟨0, 0, 0, 0, 0, false⟩, ⟨[], 400, 0, 0⟩, fun _ => False, [], [], [], [], [], []⟩
theorem ci0 (L : HL) {W Lg : Nat} {cls : List Int} (hR : RightC W Lg cls) : CI (s0 L W Lg cls) := by
  have hi := HI.new hR
  have h2 := hR.l1
  refine ⟨rfl, ⟨hi, .inl rfl, fun o ho => (by cases ho), fun q c hc => ?_, List.nodup_nil⟩, ⟨?_, ?_⟩, rfl, fun _ => ⟨rfl, rfl⟩, rfl, rfl, fun o ho => (by cases ho), rfl, rfl, fun o ho => (by cases ho), fun o ho => (by cases ho), fun o ho => (by cases ho), List.nodup_nil, List.nodup_nil, fun o ho => (by cases ho), by show 0 + 0 ≤ 10000; decide⟩
  · rcases hc with h | h | h <;> cases h
  · rfl
  · show (W : Int) - Lg + Lg = ((List.replicate W (0 : Int)).length : Nat)
    rw [List.length_replicate]; omega
theorem pt0 (L : HL) (W Lg : Nat) (cls : List Int) : PT (s0 L W Lg cls) [] [0, 0, 0, 0] [] 0 :=
  ⟨fun o ho => (by cases ho), fun o ho => (by cases ho), fun o ho => (by cases ho), fun o ho => (by cases ho), fun o ho => (by cases ho), fun x hx => Or.inl (by simp at hx; exact hx), fun x hx => (by cases hx), by decide, fun f hf => (by cases hf), fun i o ho => (by simp [s0] at ho), Nat.le_refl _, rfl, Nat.le_refl _⟩
def a0 (L : HL) (sb n : Nat) (kq : Nat → Nat → Option Value) (w0 : World) : DA := ⟨n + 4, L.hb, sb, .pointer none, n + 2, n + 1, n + 5, fun b i => if b = n + 5 then (if i = 0 then some (.pointer (some ⟨n + 4, 0, none⟩)) else none) else kq b i, w0⟩
def d0 (n : Nat) (xb : List Nat) : DPs := ⟨⟨n, .slice none 0 0, .slice (some ⟨n + 1, 0, none⟩) 4 4, .slice none 0 0, .slice none 0 0, .slice none 0 0⟩, .slice none 0 0, n + 3, false, [], [], fun _ => 0, [0, 0, 0, 0], fun b => if b = n + 4 then 6 else if b = n + 2 then 7 else if b = n + 1 then 1 else if b = n then 8 else if b = n + 3 then 9 else if b = n + 5 then -1 else if b ∈ xb then -1 else 0⟩
theorem pm0 (L : HL) {W Lg : Nat} {cls : List Int} (hR : RightC W Lg cls) (sb : Nat) (w w6 : World) (hH : HRep w L (HS.new W Lg cls)) (hB : Blk w sb [.slice none 0 0, .int .i64 400, .int .i64 0, .int .i64 0] 128) (hsb : sb ∉ L.all) (kq : Nat → Nat → Option Value) (xb : List Nat) (hkq : ∀ b i v, kq b i = some v → b ∈ xb ∧ w.cell? ⟨b, i, none⟩ = some v) (hxb : ∀ b ∈ xb, b < w.heap.size ∧ b ∉ L.all ∧ b ≠ sb)
    (w0 : World) (hF0 : Fr [] w0 w) (hxr : ∀ k, k < w0.heap.size → k ∈ xb) (h6 : w6 = (((((w.alloc (.map #[] 0)).alloc (.cells #[.int .i64 0, .int .i64 0, .int .i64 0, .int .i64 0] 2)).alloc (.cells #[.map (some w.heap.size), .slice none 0 0, .slice (some ⟨w.heap.size + 1, 0, none⟩) 4 4, .slice none 0 0, .slice none 0 0, .slice none 0 0] 70)).alloc (.map #[] 0)).alloc (.cells #[.pointer (some ⟨L.hb, 0, none⟩), .pointer (some ⟨sb, 0, none⟩), .pointer none, .pointer (some ⟨w.heap.size + 2, 0, none⟩), .slice none 0 0, .map (some (w.heap.size + 3)), .bool false] 36)).alloc (.cells #[.pointer (some ⟨w.heap.size + 4, 0, none⟩)] 27)) :
    PM (a0 L sb w.heap.size kq w0) (s0 L W Lg cls) [] (d0 w.heap.size xb) 0 w6 ∧ Fr [] w w6 := by
  obtain ⟨n, hn⟩ : ∃ n, n = w.heap.size := ⟨_, rfl⟩
  rw [← hn] at h6 hxb ⊢
  obtain ⟨w1, h1⟩ : ∃ w1, w1 = w.alloc (.map #[] 0) := ⟨_, rfl⟩
  obtain ⟨w2, h2⟩ : ∃ w2, w2 = w1.alloc (.cells #[.int .i64 0, .int .i64 0, .int .i64 0, .int .i64 0] 2) := ⟨_, rfl⟩
  obtain ⟨w3, h3⟩ : ∃ w3, w3 = w2.alloc (.cells #[.map (some n), .slice none 0 0, .slice (some ⟨n + 1, 0, none⟩) 4 4, .slice none 0 0, .slice none 0 0, .slice none 0 0] 70) := ⟨_, rfl⟩
  obtain ⟨w4, h4⟩ : ∃ w4, w4 = w3.alloc (.map #[] 0) := ⟨_, rfl⟩
  obtain ⟨w5, h5⟩ : ∃ w5, w5 = w4.alloc (.cells #[.pointer (some ⟨L.hb, 0, none⟩), .pointer (some ⟨sb, 0, none⟩), .pointer none, .pointer (some ⟨n + 2, 0, none⟩), .slice none 0 0, .map (some (n + 3)), .bool false] 36) := ⟨_, rfl⟩
  rw [← h1, ← h2, ← h3, ← h4, ← h5] at h6
  have s1 : w1.heap.size = n + 1 := by rw [h1, World.size_alloc, hn]
  have s2 : w2.heap.size = n + 2 := by rw [h2, World.size_alloc, s1]
  have s3 : w3.heap.size = n + 3 := by rw [h3, World.size_alloc, s2]
  have s4 : w4.heap.size = n + 4 := by rw [h4, World.size_alloc, s3]
  have s5 : w5.heap.size = n + 5 := by rw [h5, World.size_alloc, s4]
  have s6 : w6.heap.size = n + 6 := by rw [h6, World.size_alloc, s5]
  have f1 : Fr [] w w1 := by rw [h1]; exact (Fr.refl _ _).alloc _
  have f2 : Fr [] w1 w2 := by rw [h2]; exact (Fr.refl _ _).alloc _
  have f3 : Fr [] w2 w3 := by rw [h3]; exact (Fr.refl _ _).alloc _
  have f4 : Fr [] w3 w4 := by rw [h4]; exact (Fr.refl _ _).alloc _
  have f5 : Fr [] w4 w5 := by rw [h5]; exact (Fr.refl _ _).alloc _
  have f6 : Fr [] w5 w6 := by rw [h6]; exact (Fr.refl _ _).alloc _
  have f26 := f3.trans (f4.trans (f5.trans f6))
  have F := f1.trans (f2.trans f26)
  have b1 : IM w6 n [] := by
    have := IM.new w
    rw [← h1, ← hn] at this
    exact this.fr (f2.trans f26) (by simp)
  have b2 : Blk w6 (n + 1) ([0, 0, 0, 0].map (.int .i64)) 2 := by
    have := Blk.new w1 [.int .i64 0, .int .i64 0, .int .i64 0, .int .i64 0] 2
    rw [← s1]
    have e : w1.alloc (.cells [.int .i64 0, .int .i64 0, .int .i64 0, .int .i64 0].toArray 2) = w2 := h2.symm
    rw [e] at this
    exact this.fr f26 (by simp)
  have b3 : Blk w6 (n + 2) [.map (some n), .slice none 0 0, .slice (some ⟨n + 1, 0, none⟩) 4 4, .slice none 0 0, .slice none 0 0, .slice none 0 0] 70 := by
    have := Blk.new w2 [.map (some n), .slice none 0 0, .slice (some ⟨n + 1, 0, none⟩) 4 4, .slice none 0 0, .slice none 0 0, .slice none 0 0] 70
    rw [← s2]
    have e : w2.alloc (.cells [.map (some n), .slice none 0 0, .slice (some ⟨n + 1, 0, none⟩) 4 4, .slice none 0 0, .slice none 0 0, .slice none 0 0].toArray 70) = w3 := h3.symm
    rw [e] at this
    exact this.fr (f4.trans (f5.trans f6)) (by simp)
  have b4 : IM w6 (n + 3) [] := by
    have := IM.new w3
    rw [← h4, s3] at this
    exact this.fr (f5.trans f6) (by simp)
  have b5 : PlBlk w6 (n + 4) L.hb sb (.pointer none) (n + 2) (.slice none 0 0) (n + 3) false := by
    have := Blk.new w4 [.pointer (some ⟨L.hb, 0, none⟩), .pointer (some ⟨sb, 0, none⟩), .pointer none, .pointer (some ⟨n + 2, 0, none⟩), .slice none 0 0, .map (some (n + 3)), .bool false] 36
    rw [s4] at this
    have e : w4.alloc (.cells [.pointer (some ⟨L.hb, 0, none⟩), .pointer (some ⟨sb, 0, none⟩), .pointer none, .pointer (some ⟨n + 2, 0, none⟩), .slice none 0 0, .map (some (n + 3)), .bool false].toArray 36) = w5 := h5.symm
    rw [e] at this
    exact this.fr f6 (by simp)
  have b6 : Blk w6 (n + 5) [.pointer (some ⟨n + 4, 0, none⟩)] 27 := by
    have := Blk.new w5 [.pointer (some ⟨n + 4, 0, none⟩)] 27
    rw [s5] at this
    have e : w5.alloc (.cells [.pointer (some ⟨n + 4, 0, none⟩)].toArray 27) = w6 := h6.symm
    rw [e] at this
    exact this
  have hlt : ∀ b ∈ L.all, b < n := fun b hb => hn ▸ all_lt hH hb
  have hsl : sb < n := hn ▸ hB.lt
  refine ⟨⟨hH.fr F (by simp), ci0 L hR, ?_, pt0 L W Lg cls, rfl, hB.fr F (by simp), hsb, ?_, by simp [a0], rfl, rfl, rfl, rfl, rfl⟩, F⟩
  · have hl : ∀ b, (d0 n xb).lab b ≠ 0 → (n ≤ b ∧ b < n + 6) ∨ b ∈ xb := by
      intro b hb
      have hb' : (if b = n + 4 then (6 : Int) else if b = n + 2 then 7 else if b = n + 1 then 1 else if b = n then 8 else if b = n + 3 then 9 else if b = n + 5 then -1 else if b ∈ xb then -1 else 0) ≠ 0 := hb
      by_cases e1 : b = n + 4
      · left; omega
      · rw [if_neg e1] at hb'
        by_cases e2 : b = n + 2
        · left; omega
        · rw [if_neg e2] at hb'
          by_cases e3 : b = n + 1
          · left; omega
          · rw [if_neg e3] at hb'
            by_cases e4 : b = n
            · left; omega
            · rw [if_neg e4] at hb'
              by_cases e5 : b = n + 3
              · left; omega
              · rw [if_neg e5] at hb'
                by_cases e6 : b = n + 5
                · left; omega
                · rw [if_neg e6] at hb'
                  by_cases e7 : b ∈ xb
                  · exact .inr e7
                  · rw [if_neg e7] at hb'
                    exact absurd rfl hb'
    refine ⟨b5, b3, b1, b4, ⟨fun o ho => (by cases ho), fun o ho => (by cases ho), fun o ho => (by cases ho), fun p hp => (by simp [d0, mget] at hp)⟩, b2, rfl, rfl, Rowl.nil _ _, FrV.nil _ _, Rowi.nil _ _, rfl, Rowi.nil _ _, ?_, ?_, ?_, ?_, ?_, fun o ho => (by cases ho), fun g hg => (by cases hg), fun g hg => (by cases hg), fun g hg => (by cases hg), fun g hg => (by cases hg), fun o ho => (by cases ho), fun b hb => ?_, ⟨fun b i v hv => ?_, hF0.trans F, fun k hk => ?_⟩⟩
    · simp [d0, a0]
    · simp [d0, a0]
    · simp [d0, a0]
    · simp [d0]
    · simp [d0]
    · rcases hl b hb with ⟨q1, q2⟩ | q1
      · refine ⟨by omega, ?_⟩
        rintro (hc | hc)
        · have := hlt b hc; omega
        · have hc' : b = sb := hc
          omega
      · obtain ⟨q2, q3, q4⟩ := hxb b q1
        exact ⟨by omega, fun hc => hc.elim q3 q4⟩
    · have hv' : (if b = n + 5 then (if i = 0 then some (Value.pointer (some ⟨n + 4, 0, none⟩)) else none) else kq b i) = some v := hv
      by_cases e1 : b = n + 5
      · rw [if_pos e1] at hv'
        by_cases e2 : i = 0
        · rw [if_pos e2] at hv'
          cases hv'
          subst e1
          subst e2
          exact ⟨b6.cell (i := 0) rfl, by simp [d0]⟩
        · rw [if_neg e2] at hv'; cases hv'
      · rw [if_neg e1] at hv'
        obtain ⟨q1, q2⟩ := hkq b i v hv'
        obtain ⟨q3, -, -⟩ := hxb b q1
        refine ⟨(cell_fr F (by simp) (hn ▸ q3) i).trans q2, ?_⟩
        show (if b = n + 4 then (6 : Int) else if b = n + 2 then 7 else if b = n + 1 then 1 else if b = n then 8 else if b = n + 3 then 9 else if b = n + 5 then -1 else if b ∈ xb then -1 else 0) = -1
        rw [if_neg (by omega), if_neg (by omega), if_neg (by omega), if_neg (by omega), if_neg (by omega), if_neg (by omega), if_pos q1]
    · have q1 := hxr k hk
      obtain ⟨q3, -, -⟩ := hxb k q1
      show (if k = n + 4 then (6 : Int) else if k = n + 2 then 7 else if k = n + 1 then 1 else if k = n then 8 else if k = n + 3 then 9 else if k = n + 5 then -1 else if k ∈ xb then -1 else 0) = -1
      rw [if_neg (by omega), if_neg (by omega), if_neg (by omega), if_neg (by omega), if_neg (by omega), if_neg (by omega), if_pos q1]
  · intro hp
    obtain ⟨sv, -, h⟩ := hH.x.s
    rcases h with ⟨-, -, hx⟩ | ⟨b, cp, rest, hx, -⟩
    · exfalso
      have hp' : (Lg : Int) ≠ 0 := hp
      have hx' : (if (Lg : Int) = 0 then ([] : List (Int × Int)) else [((W : Int) - Lg, (Lg : Int))]) = [] := hx
      rw [if_neg hp'] at hx'
      cases hx'
    · exact ⟨b, hx⟩
def MEnd (gn : Nat) (kq : Nat → Nat → Option Value) (wq : World) (e : Ending) (w' : World) : Prop :=
  ∃ E a S D, e = .returned (.tuple #[.pointer (some ⟨a.pb, 0, none⟩), .bool true]) ∧ PQ E a gn S D w' ∧ (∀ b i v, kq b i = some v → a.kp b i = some v) ∧ E.gl.length ≤ gn ∧ a.w0 = wq
theorem pm_end {a : DA} {S : CY} {gl : List Int} {D : DPs} {nn gn : Nat} {w w8 w9 : World} (h : PM a S gl D nn w) (hn : nn ≤ gn) (hgl : gl.length ≤ nn) (hF8 : Fr [] w w8) {kb mb tb : Nat} {gv : Value} {lb lc : Nat} (hF9 : Fr [] w8 w9)
    (q1 : w8.heap.size ≤ mb) (q2 : mb < kb) (q3 : kb < tb) (q4 : w8.heap.size ≤ lb) (q5 : lb ≠ kb) (q6 : lb ≠ mb) (q7 : lb ≠ tb) (q8 : lb < w9.heap.size)
    (hc : CBlk w9 kb S.L.hb mb tb ⟨gv, .slice (some ⟨lb, 0, none⟩) 1 lc, .func (.func 33) #[] #[.pointer (some ⟨a.bx, 0, none⟩)], 0, 0, .slice none 0 0, 0, .slice none 0 0⟩)
    (hm : Blk w9 mb [.pointer (some ⟨S.L.hb, 0, none⟩), .int .i64 0, .int .i64 0] 177) (ht : TRep w9 tb S.L.hb (.func (.func 72) #[.pointer (some ⟨kb, 0, none⟩)] #[]) ⟨0, 0, 0, 0, 0, false⟩)
    (hg : RdS w9 (fun b => w8.heap.size ≤ b ∧ b ≠ kb ∧ b ≠ mb ∧ b ≠ tb) gv gl) (hl : w9.cell? ⟨lb, 0, none⟩ = some (.pointer (some ⟨a.sb, 0, none⟩))) (kq : Nat → Nat → Option Value) (hk : ∀ b i v, kq b i = some v → a.kp b i = some v) (wq : World) (hwq : a.w0 = wq) (n : Nat) :
    MEnd gn kq wq (.returned (.tuple #[.pointer (some ⟨a.pb, 0, none⟩), .bool true])) ((w9.setCell ⟨a.pb, 2, none⟩ (.pointer (some ⟨kb, 0, none⟩))).drewN n) := by
  obtain ⟨w', hw'⟩ : ∃ w', w' = (w9.setCell ⟨a.pb, 2, none⟩ (.pointer (some ⟨kb, 0, none⟩))).drewN n := ⟨_, rfl⟩
  have hset : Fr [a.pb] w9 w' := by rw [hw']; exact ((Fr.refl _ w9).set (by simp) _).drewN n
  have hF := hF8.trans hF9
  have hplt : a.pb < w.heap.size := (h.dr.sep a.pb (by rw [h.dr.lp]; decide)).1
  have hsz8 := hF8.size
  have hsz9 := hF9.size
  have hszs := hset.size
  have hsl := Blk.lt h.sk
  have hal : ∀ b ∈ S.L.all, b < w.heap.size := fun b hb => all_lt h.hr hb
  have hpn : ¬ (a.pb ∈ S.L.all ∨ a.pb = a.sb) := (h.dr.sep a.pb (by rw [h.dr.lp]; decide)).2
  have nb : ∀ b, w8.heap.size ≤ b → b ∉ [a.pb] := fun b hb hc => by have := List.mem_singleton.1 hc; omega
  have htlt := Blk.lt ht
  have hdr9 := h.dr.fr hF (by simp) (wd' := S.s.wd) (fun _ _ _ _ => rfl) (F' := fun b => b ∈ S.L.all ∨ b = a.sb) (fun _ _ h => h)
  have kk := hdr9.keep hset 6 (fun x hx => by rw [List.mem_singleton.1 hx]; exact .inl h.dr.lp)
  have hp' : PlBlk w' a.pb a.hb a.sb (.pointer (some ⟨kb, 0, none⟩)) a.wb D.wv D.km D.full := by rw [hw']; exact (Blk.set hdr9.p 2 _).drewN n
  rw [← hw']
  clear hw'
  obtain ⟨e1, e2, e3, e4, e5⟩ := h.e0
  refine ⟨⟨S.L.hb, kb, mb, tb, a.sb, lb, 0, lc, 0, .func (.func 72) #[.pointer (some ⟨kb, 0, none⟩)] #[], gl⟩, { a with kv := .pointer (some ⟨kb, 0, none⟩) },
    { S with c := ⟨gv, .slice (some ⟨lb, 0, none⟩) 1 lc, .func (.func 33) #[] #[.pointer (some ⟨a.bx, 0, none⟩)], 0, 0, .slice none 0 0, 0, .slice none 0 0⟩, t := ⟨0, 0, 0, 0, 0, false⟩, k := ⟨[], 400, 0, 0⟩, P := fun b => w8.heap.size ≤ b ∧ b < w'.heap.size ∧ b ≠ kb ∧ b ≠ mb ∧ b ≠ tb, fl := [], bl := [] }, D, rfl, ⟨⟨?_, ?_, ?_, h.ah, rfl, rfl, fun f hf => (by cases hf), rfl, rfl, Nat.zero_le _, rfl, e2, rfl, rfl, h.hkp, rfl, rfl⟩, ?_⟩, hk, (by show gl.length ≤ gn; omega), hwq⟩
  · -- CR
    refine ⟨(h.hr.fr hF (by simp)).fr hset (fun x hx => by rw [List.mem_singleton.1 hx]; exact fun hc => hpn (.inl hc)), ?_, ?_, ?_, ?_, ?_, ?_, Rowi.nil _ _, Nat.zero_le _, rfl, ?_, ?_, ?_, ?_, ?_, ?_, ?_, h.sn, ?_, ?_, ?_, ?_, ?_, ?_, fun b hb => (by cases hb), h.x0, Nat.zero_le _, Nat.zero_le _, rfl⟩
    · show Blk w' mb [.pointer (some ⟨S.L.hb, 0, none⟩), .int .i64 S.a, .int .i64 S.nx] 177
      rw [h.ci.a0, h.ci.nx0]
      exact hm.fr hset (nb mb q1)
    · exact CBlk.fr hc hset (nb kb (by omega))
    · exact TRep.fr ht hset (nb tb (by omega))
    · refine ⟨.slice none 0 0, (h.sk.fr hF (by simp)).fr hset (fun hc => hpn (.inr (List.mem_singleton.1 hc).symm)), none, 0, rfl, Nat.zero_le _, Nat.zero_le _, fun i f hf => ?_⟩
      simp at hf
    · have := hg.fr hset (fun g hg _ => nb g hg.1)
      obtain ⟨A, cc, e, hl2, hx⟩ := this
      exact ⟨A, cc, e, hl2, fun i x hix => by obtain ⟨g, o, g1, g2, g3, g4⟩ := hx i x hix; exact ⟨g, o, g1, ⟨g2.1, g3, g2.2⟩, g3, g4⟩⟩
    · exact RdS.nil _ _ none 0
    · exact ⟨q4, Nat.lt_of_lt_of_le q8 hszs, q5, q6, q7⟩
    · show lb < w'.heap.size
      omega
    · exact (cell_fr hset (nb lb q4) q8 0).trans hl
    · rintro b ⟨b1, b2, b3, b4, b5⟩
      refine ⟨b2, ?_⟩
      rintro (e | e | e | e | e | e)
      · exact b3 e
      · exact b4 e
      · exact b5 e
      · have e' : b = a.sb := e
        omega
      · have := hal b (fp_all e)
        omega
      · cases e
    · show kb ∉ S.L.all
      exact fun hc => by have := hal kb hc; omega
    · show mb ∉ S.L.all
      exact fun hc => by have := hal mb hc; omega
    · show tb ∉ S.L.all
      exact fun hc => by have := hal tb hc; omega
    · show kb ≠ mb
      omega
    · show kb ≠ tb
      omega
    · show kb ≠ a.sb
      omega
    · show mb ≠ tb
      omega
    · show mb ≠ a.sb
      omega
    · show tb ≠ a.sb
      omega
  · have hi := h.ci
    refine ⟨rfl, hi.mh, hi.xok, hi.wn, hi.black, hi.a0, hi.nx0, hi.cl, ?_, ?_, fun o ho => (by rw [show ({ S with c := ⟨gv, .slice (some ⟨lb, 0, none⟩) 1 lc, .func (.func 33) #[] #[.pointer (some ⟨a.bx, 0, none⟩)], 0, 0, .slice none 0 0, 0, .slice none 0 0⟩, t := ⟨0, 0, 0, 0, 0, false⟩, k := ⟨[], 400, 0, 0⟩, P := fun b => w8.heap.size ≤ b ∧ b < w'.heap.size ∧ b ≠ kb ∧ b ≠ mb ∧ b ≠ tb, fl := [], bl := [] } : CY).qu = [] from e2] at ho; cases ho), hi.rin, hi.qin, hi.rnd, hi.qnd, hi.key, ?_⟩
    · have := hi.rch; rw [e4] at this; exact this
    · have := hi.qch; rw [e4] at this; exact this
    · show 0 + S.rw.length ≤ 10000
      rw [e1]; decide
  · show DR _ _ S.obs S.s.wd gl [] (S.rw.map Ob.p) (S.rw.reverse.map Ob.p) D w'
    rw [e1]
    refine ⟨hp', kk.wb (by decide), kk.im (by decide), kk.kim (by decide), ⟨hdr9.dob.get, fun o ho => ⟨Nat.zero_le _, kk.ob o ho (by have := h.dr.pos o ho; omega)⟩, hdr9.dob.inj, hdr9.dob.only⟩, kk.rb (by decide), h.dr.rv, h.dr.rl, kk.gv (by decide), kk.fv (by decide) (by decide), kk.row (by decide), h.dr.qv, kk.wk (by decide), h.dr.lp, h.dr.lw, h.dr.lr, h.dr.lm, h.dr.lk, h.dr.lG, h.dr.lg, h.dr.lf, h.dr.lo, h.dr.lx, h.dr.pos, fun b hb => ?_, kk.bx (by decide)⟩
    obtain ⟨s1, s2⟩ := h.dr.sep b hb
    refine ⟨by omega, ?_⟩
    rintro (hc | hc | hc)
    · rcases hc with e | e | e | e | e | e
      · have e' : b = kb := e
        omega
      · have e' : b = mb := e
        omega
      · have e' : b = tb := e
        omega
      · exact s2 (.inr e)
      · exact s2 (.inl (fp_all e))
      · cases e
    · exact s2 (.inl hc)
    · have := hc.1
      omega
  · have hp := h.pt.le hn
    exact ⟨hp.kinds, hp.a0, hp.small, hp.con, hp.wk, hp.rgs, hp.glv, hp.gll, fun f hf => (by cases hf), hp.num, hp.rwl, hp.rl, by show S.obs.length + 0 ≤ gn; have := hp.cnt; omega⟩
set_option maxRecDepth 100000 in
set_option maxHeartbeats 6400000 in
theorem yMade (W Lg : Nat) (a1 a2 a3 a4 : Int) (cls : List Int) (cb o cap gn : Nat) (w : World) (hR : RightC W Lg cls) (hr : RdAt w cb o (cls.map (.int .i64))) (hgn : gn ≤ 6) (kq : Nat → Nat → Option Value) (xb : List Nat) (hkq : ∀ b i v, kq b i = some v → b ∈ xb ∧ w.cell? ⟨b, i, none⟩ = some v) (hxb : ∀ b ∈ xb, b < w.heap.size) (hxr : ∀ k, k < w.heap.size → k ∈ xb) :
    Calls Tryz.prog 10 #[.agg #[.int .i64 W, .int .i64 Lg, .int .i64 a1, .int .i64 a2, .int .i64 a3, .int .i64 a4, .slice (some ⟨cb, o, none⟩) cls.length cap], .int .i64 gn] w (MEnd gn kq w) := by
  have hr1 := hr.fr ((Fr.refl [] w).alloc (.cells #[.int .i64 W, .int .i64 Lg, .int .i64 a1, .int .i64 a2, .int .i64 a3, .int .i64 a4, .slice (some ⟨cb, o, none⟩) cls.length cap] 24)) (by simp)
  have B0 := Blk.new w [.int .i64 W, .int .i64 Lg, .int .i64 a1, .int .i64 a2, .int .i64 a3, .int .i64 a4, .slice (some ⟨cb, o, none⟩) cls.length cap] 24
  have c0 := B0.cell (i := 0) rfl
  have c1 := B0.cell (i := 1) rfl
  have c2 := B0.cell (i := 2) rfl
  have c3 := B0.cell (i := 3) rfl
  have c4 := B0.cell (i := 4) rfl
  have c5 := B0.cell (i := 5) rfl
  have c6 := B0.cell (i := 6) rfl
  have HN := hid (hNew W Lg a1 a2 a3 a4 cls cb o cap _ hR hr1)
  have HR := hid hR
  have hmm := @run_makeMap Tryz.prog
  have hmk4 : ∀ w : World, (Instr.makeSlice 67 (.int .i64 4) (.int .i64 4)).run Tryz.prog w = .ok (.slice (some ⟨w.heap.size, 0, none⟩) 4 4) (w.alloc (.cells #[.int .i64 0, .int .i64 0, .int .i64 0, .int .i64 0] 2)) := fun w => run_mk64 4 (by decide) w
  have HKQ := hid hkq
  have HXB := hid hxb
  have HXR := hid hxr
  clear hR hr hr1 B0 hkq hxb hxr
  go_enter Tryz.func10, Tryz.ntmps10
  go_wp2_with fail
  refine HN.out.mono ?_
  rintro e w1 ⟨L, rfl, hH1, hF1, hlow⟩
  have HH1 := hid hH1
  have HF1 : Hid (Fr [] w w1) := hid (((Fr.refl _ w).alloc _).trans hF1)
  have HLOW := hid hlow
  clear hH1 hF1 hlow c0 c1 c2 c3 c4 c5 c6
  go_wp2_with fail
  refine (sNew w1).mono ?_
  rintro e w2 ⟨rfl, hB2, hF2⟩
  have HB2 := hid hB2
  have HF2 := hid (HF1.out.trans hF2)
  have HH2 := hid (HH1.out.fr hF2 (by simp))
  clear hB2 hF2
  go_wp2_with fail
  obtain ⟨w6, h6⟩ : ∃ w6, w6 = (((((w2.alloc (.map #[] 0)).alloc (.cells #[.int .i64 0, .int .i64 0, .int .i64 0, .int .i64 0] 2)).alloc (.cells #[.map (some w2.heap.size), .slice none 0 0, .slice (some ⟨w2.heap.size + 1, 0, none⟩) 4 4, .slice none 0 0, .slice none 0 0, .slice none 0 0] 70)).alloc (.map #[] 0)).alloc (.cells #[.pointer (some ⟨L.hb, 0, none⟩), .pointer (some ⟨w1.heap.size, 0, none⟩), .pointer none, .pointer (some ⟨w2.heap.size + 1 + 1, 0, none⟩), .slice none 0 0, .map (some (w2.heap.size + 1 + 1 + 1)), .bool false] 36)).alloc (.cells #[.pointer (some ⟨w2.heap.size + 1 + 1 + 1 + 1, 0, none⟩)] 27) := ⟨_, rfl⟩
  have hsn : w1.heap.size ∉ L.all := fun hc => by have := all_lt HH1.out hc; omega
  have hpm := pm0 L HR.out w1.heap.size w2 w6 HH2.out HB2.out hsn kq xb (fun b i v hv => by
    obtain ⟨q1, q2⟩ := HKQ.out b i v hv
    exact ⟨q1, (cell_fr HF2.out (by simp) (HXB.out b q1) i).trans q2⟩) (fun b hb => by
    have h1 := HXB.out b hb
    have h2 := HF2.out.size
    have h3 := HF1.out.size
    refine ⟨by omega, fun hc => ?_, by omega⟩
    have := HLOW.out b hc
    simp at this
    omega) w HF2.out HXR.out h6
  obtain ⟨a, ha⟩ : ∃ a, a = a0 L w1.heap.size w2.heap.size kq w := ⟨_, rfl⟩
  rw [← ha] at hpm
  have ea : a.pb = w2.heap.size + 1 + 1 + 1 + 1 := by rw [ha]; rfl
  have eb : a.bx = w2.heap.size + 1 + 1 + 1 + 1 + 1 := by rw [ha]; rfl
  rw [← h6, ← eb, ← ea]
  have HPM := hid hpm.1
  have HF6 := hid (HF2.out.trans hpm.2)
  have HA := hid ha
  have HKP : Hid (∀ b i v, kq b i = some v → a.kp b i = some v) := hid (fun b i v hv => by
    have h1 := HXB.out b (HKQ.out b i v hv).1
    have h2 := HF2.out.size
    rw [ha]
    show (if b = w2.heap.size + 5 then _ else kq b i) = some v
    rw [if_neg (by omega)]; exact hv)
  have HAH : Hid (a.hb = L.hb ∧ a.sb = w1.heap.size) := hid (by rw [ha]; exact ⟨rfl, rfl⟩)
  have HAW : Hid (a.w0 = w) := hid (by rw [ha]; rfl)
  clear h6 hpm ea eb ha hsn
  go_loopw [11] (fun kv wr => ∃ (k : Nat) (S : CY) (gl : List Int) (D : DPs), kv = .int .i64 k ∧ k ≤ gn ∧ PM a S gl D k wr ∧ gl.length ≤ k ∧ D.c.fv = .slice none 0 0 ∧ (gl = [] → D.c.gv = .slice none 0 0)) (fun kv _ => gn - (intOf kv).toNat)
  case atStart => exact ⟨0, _, _, _, rfl, Nat.zero_le _, HPM.out, Nat.le_refl _, rfl, fun _ => rfl⟩
  case round =>
    obtain ⟨k, S, gl, D, rfl, hk, hpm, hgl, hfv, hgn0⟩ := hrel
    have b0 := (hpm.dr.bx.1 _ _ _ hpm.hkp).1
    have HPM := hid hpm
    have HK := hid hk
    have HGL := hid hgl
    have HFV := hid hfv
    have HGN := hid hgn0
    clear hpm hgl hfv hgn0
    by_cases hlt : k < gn
    · have HMA := hid (mAlloc a S gl D k wr HPM.out (by omega) k ⟨by omega, by omega⟩)
      go_wp2_with fail
      refine HMA.out.mono ?_
      rintro e w7 (⟨rfl, hp7⟩ | ⟨p, S', D', rfl, hp7, hc7, hv7⟩)
      · have HP7 := hid hp7
        have b1 := (hp7.dr.bx.1 _ _ _ hp7.hkp).1
        clear hp7
        have TB0 := (HP7.out.dr.bx.1 _ _ _ HP7.out.hkp).1
        have hgv := HP7.out.dr.gv
        obtain ⟨Ag, cg, eg⟩ := hgv.form
        obtain ⟨N, hN⟩ : ∃ N, N = gl.length := ⟨_, rfl⟩
        rw [← hN] at eg
        have x3 := Blk.cell HP7.out.dr.p (i := 3) rfl
        have x1 := Blk.cell HP7.out.dr.wb (i := 1) rfl
        rw [show ({ D with full := true } : DPs).c.gv = D.c.gv from rfl, eg] at x1
        have plt := Blk.lt HP7.out.dr.p
        have wlt := Blk.lt HP7.out.dr.wb
        have blt := World.block_lt_of_cell? w7 _ TB0
        have HS : Hid (∀ wx, Fr [] w7 wx → wx.cell? ⟨a.bx, 0, none⟩ = some (.pointer (some ⟨a.pb, 0, none⟩)) ∧ wx.cell? ⟨a.pb, 3, none⟩ = some (.pointer (some ⟨a.wb, 0, none⟩)) ∧ wx.cell? ⟨a.wb, 1, none⟩ = some (.slice Ag N cg)) := hid (fun wx h => ⟨(cell_fr h (by simp) blt 0).trans TB0, (cell_fr h (by simp) plt 3).trans x3, (cell_fr h (by simp) wlt 1).trans x1⟩)
        have hcl : ∀ wx, Fr [] w7 wx → Calls Tryz.prog 69 #[.slice Ag N cg] wx fun e w' => ∃ v', e = .returned v' ∧ RdS w' (fun b => wx.heap.size ≤ b) v' gl ∧ Fr [] wx w' := by
          intro wx hx
          rcases List.eq_nil_or_concat gl with hgl0 | ⟨_, _, hgl0⟩
          · have h1 := HGN.out hgl0
            rw [eg] at h1
            cases h1
            refine (cloneN wx).mono ?_
            rintro e w' ⟨rfl, rfl⟩
            exact ⟨_, rfl, by rw [hgl0]; exact RdS.nil _ _ _ _, Fr.refl _ _⟩
          · have hpos : 0 < gl.length := by rw [hgl0]; simp
            have hgx := (hgv.fr hx (by simp))
            rw [eg] at hgx
            obtain ⟨g, e1, -, e3, e4, e5, -, e7⟩ := hgx.at hpos
            subst e1
            refine (cloneI g 0 cg N (gl.map (.int .i64)) wx (by rw [List.length_map]; exact hN.symm) (by omega) (by have := HGL.out; omega) e3 (fun i v hv => ?_) (fun v hv => ?_)).mono ?_
            · rw [List.getElem?_map, Option.map_eq_some_iff] at hv
              obtain ⟨y, hy, rfl⟩ := hv
              rw [Nat.zero_add]
              exact e7 i y hy
            · obtain ⟨y, -, rfl⟩ := List.mem_map.1 hv
              rfl
            · rintro e w' ⟨g', cap', rfl, h1, h2, h3, h4, h5⟩
              exact ⟨_, rfl, ⟨_, cap', by rw [hN], ⟨by omega, by have := HGL.out; omega⟩, fun i y hy => ⟨g', 0, rfl, h1, h2, by rw [Nat.zero_add]; exact h4 i _ (by rw [List.getElem?_map, hy]; rfl)⟩⟩, h5⟩
        have HCALL : Hid (∀ wx, Fr [] w7 wx → w7.heap.size < wx.heap.size → wx.cell? ⟨w7.heap.size, 0, none⟩ = some (.pointer (some ⟨a.sb, 0, none⟩)) → Calls Tryz.prog 32 #[.pointer (some ⟨L.hb, 0, none⟩), .slice Ag N cg, .slice (some ⟨w7.heap.size, 0, none⟩) 1 1, .func (.func 33) #[] #[.pointer (some ⟨a.bx, 0, none⟩)]] wx (CNewPost L.hb gl a.sb (.func (.func 33) #[] #[.pointer (some ⟨a.bx, 0, none⟩)]) wx)) := hid (fun wx hx hl0 hlc =>
          cNew L.hb (.slice Ag N cg) gl w7.heap.size 0 1 a.sb a.bx wx hl0 hlc (fun wy hy => hcl wy (hx.trans hy)))
        have HPLT := hid plt
        have HNE : Hid (a.bx ∉ [a.pb] ∧ a.wb ∉ [a.pb]) := hid ⟨fun hc => (by have h1 := HP7.out.dr.lp; have h2 := (HP7.out.dr.bx.1 _ _ _ HP7.out.hkp).2; rw [← List.mem_singleton.1 hc, h2] at h1; exact absurd h1 (by decide)), fun hc => (by have h1 := HP7.out.dr.lp; have h2 := HP7.out.dr.lw; rw [← List.mem_singleton.1 hc, h2] at h1; exact absurd h1 (by decide))⟩
        have HEG := hid eg
        rw [← HAH.out.2]
        clear hgv eg hN x3 x1 plt wlt blt hcl b1
        go_wp2_with fail
        have hs0 := HS.out w7.drew ((Fr.refl _ w7).drew)
        have hsB := HS.out ((w7.alloc (.cells #[.pointer (some ⟨a.sb, 0, none⟩)] 31)).drew) (((Fr.refl _ w7).alloc _).drew)
        go_region_held3 (fun w' => w'.cell? ⟨a.bx, 0, none⟩ = some (.pointer (some ⟨a.pb, 0, none⟩)) ∧ w'.cell? ⟨a.pb, 3, none⟩ = some (.pointer (some ⟨a.wb, 0, none⟩)) ∧ w'.cell? ⟨a.wb, 1, none⟩ = some (.slice Ag N cg))
          (first
            | (with_reducible exact hs0)
            | (with_reducible exact hsB)
            | (with_reducible exact hsA)
            | (with_reducible exact hsC _)
            | go_keep)
          (first | (go_at_call 32; refine (HCALL.out _ (((Fr.refl _ w7).alloc _).drew) (by simp) ?_).mono ?_; (exact ((Blk.new w7 [.pointer (some ⟨a.sb, 0, none⟩)] 31).drew).cell (i := 0) rfl); rintro e wA ⟨kb, mb, tb, gv', lb, lc, rfl, hres⟩; have HRES := hid hres; have hFA : Fr [] w7 wA := (((Fr.refl _ w7).alloc (.cells #[.pointer (some ⟨a.sb, 0, none⟩)] 31)).drew).trans hres.2.2.2.2.2.2.2.2.2.2.2.2.2.2; have hsA := HS.out wA hFA; have hpA := Blk.fr HP7.out.dr.p hFA (by simp); have zA := Blk.frozen hpA 2; have zB := Blk.cell hpA (i := 2) rfl; have hsC : ∀ v, (wA.setCell ⟨a.pb, 2, none⟩ v).cell? ⟨a.bx, 0, none⟩ = some (.pointer (some ⟨a.pb, 0, none⟩)) ∧ (wA.setCell ⟨a.pb, 2, none⟩ v).cell? ⟨a.pb, 3, none⟩ = some (.pointer (some ⟨a.wb, 0, none⟩)) ∧ (wA.setCell ⟨a.pb, 2, none⟩ v).cell? ⟨a.wb, 1, none⟩ = some (.slice Ag N cg) := (fun v => ⟨(cell_fr ((Fr.refl [a.pb] wA).set (by simp) v) HNE.out.1 (World.block_lt_of_cell? wA _ hsA.1) 0).trans hsA.1, Blk.cell (Blk.set hpA 2 v) (i := 3) rfl, (cell_fr ((Fr.refl [a.pb] wA).set (by simp) v) HNE.out.2 (World.block_lt_of_cell? wA _ hsA.2.2) 1).trans hsA.2.2⟩); have HPA := hid hpA; have HFA := hid hFA; clear hres hFA hpA))
        all_goals
          obtain ⟨r1, r2, r3, r4, r5, r6, r7, r8, r9, r10, r11, r12, r13, r14, r15⟩ := HRES.out
          have eL : L.hb = S.L.hb := HAH.out.1.symm.trans HP7.out.ah
          have HEND := hid (fun n => pm_end HP7.out (Nat.succ_le_of_lt hlt) (Nat.le_succ_of_le HGL.out) (((Fr.refl _ w7).alloc (.cells #[.pointer (some ⟨a.sb, 0, none⟩)] 31)).drew) r15 r1 r2 r3 r4 r5 r6 r7 r8 (by rw [← eL]; exact r10) (by rw [← eL]; exact r11) (by rw [← eL]; exact r12) r13 r14 kq HKP.out w HAW.out n)
          have hpk := ((HP7.out.dr.sep a.pb (by rw [HP7.out.dr.lp]; decide)).1)
          have hF8 : Fr [a.pb] wA (wA.setCell ⟨a.pb, 2, none⟩ (.pointer (some ⟨kb, 0, none⟩))) := (Fr.refl [a.pb] wA).set (by simp) (.pointer (some ⟨kb, 0, none⟩))
          have hC8 := CBlk.fr r10 hF8 (by simp at r1 ⊢; omega)
          have HT : Hid (∀ n, Calls Tryz.prog 34 #[.pointer (some ⟨kb, 0, none⟩)] ((wA.setCell ⟨a.pb, 2, none⟩ (.pointer (some ⟨kb, 0, none⟩))).drewN n) fun e w' => e = .returned (.pointer (some ⟨tb, 0, none⟩)) ∧ w' = (wA.setCell ⟨a.pb, 2, none⟩ (.pointer (some ⟨kb, 0, none⟩))).drewN n) := hid (fun n => (cTable kb L.hb mb tb _ _ (CBlk.fr hC8 ((Fr.refl [] _).drewN n) (by simp))).mono (fun e w' h => ⟨h.1, h.2.symm⟩))
          have hsD := hsC (.pointer (some ⟨kb, 0, none⟩))
          have zD := Blk.cell (Blk.set HPA.out 2 (.pointer (some ⟨kb, 0, none⟩))) (i := 2) rfl
          obtain ⟨zD0, -, -⟩ := hsD
          clear hs0 hsB hsA hsC hpk r1 r2 r3 r4 r5 r6 r7 r8 r9 r10 r11 r12 r13 r14 r15 hC8 hF8 eL
          go_wp2_with fail
          go_quiet ((go_at_call 34; exact Calls.quiet_of_same (HT.out _)))
          go_wp2_with fail
          go_ret2
          exact HEND.out _
      · have HP7 := hid hp7
        have HV7 := hid hv7
        have b1 := (hp7.dr.bx.1 _ _ _ hp7.hkp).1
        have hgv := hp7.dr.gv
        obtain ⟨Ag, cg, eg⟩ := hgv.form
        obtain ⟨N, hN⟩ : ∃ N, N = gl.length := ⟨_, rfl⟩
        rw [← hN] at eg
        have hFa : Fr [] w7 (w7.alloc (.cells #[.int .i64 p] 2)).drew := ((Fr.refl _ w7).alloc _).drew
        have hFd : Fr [] w7 w7.drew := (Fr.refl _ w7).drew
        have x3 := Blk.cell hp7.dr.p (i := 3) rfl
        have x1 := Blk.cell hp7.dr.wb (i := 1) rfl
        rw [eg] at x1
        have plt := Blk.lt hp7.dr.p
        have wlt := Blk.lt hp7.dr.wb
        have blt := World.block_lt_of_cell? w7 _ b1
        have xd0 := (cell_fr hFd (by simp) blt 0).trans b1
        have xd3 := (cell_fr hFd (by simp) plt 3).trans x3
        have xd1 := (cell_fr hFd (by simp) wlt 1).trans x1
        have xa0 := (cell_fr hFa (by simp) blt 0).trans b1
        have xa3 := (cell_fr hFa (by simp) plt 3).trans x3
        have xa1 := (cell_fr hFa (by simp) wlt 1).trans x1
        have hrow : Rowl (w7.alloc (.cells #[.int .i64 p] 2)).drew 0 (.slice Ag N cg) gl := by rw [← eg]; exact hgv.fr hFa (by simp)
        have hsrc : Srcl (w7.alloc (.cells #[.int .i64 p] 2)).drew (some ⟨w7.heap.size, 0, none⟩) 1 [p] := (Rowl.one w7 p (Nat.zero_le _)).drew.src
        have HOW2 : Hid (∀ g, D'.c.gv.ownBlock = some g → g < w7.heap.size ∧ D'.lab g = 2) := hid (fun g hg => ⟨(hp7.dr.sep g (by rw [hp7.dr.lg g hg]; decide)).1, hp7.dr.lg g hg⟩)
        have hrest : ∀ (A9 : Option Addr) (n9 c9 : Nat) (w9 : World), Rowl w9 0 (.slice A9 n9 c9) (gl ++ [p]) → Fr D'.c.gv.ownBlock.toList w7 w9 → ((Value.slice A9 n9 c9).ownBlock = D'.c.gv.ownBlock ∨ ∃ g, (Value.slice A9 n9 c9).ownBlock = some g ∧ w7.heap.size ≤ g) → ∃ (S' : CY) (gl' : List Int) (D'' : DPs), PM a S' gl' D'' (k + 1) (w9.setCell ⟨a.wb, 1, none⟩ (.slice A9 n9 c9)) ∧ gl'.length ≤ k + 1 ∧ D''.c.fv = .slice none 0 0 ∧ (gl' = [] → D''.c.gv = .slice none 0 0) := by
          intro A9 n9 c9 w9 hR9 hF9 how9
          have hlt : ∀ b, (b ∈ S'.L.all ∨ b = a.sb) → b < w7.heap.size := by
            rintro b (hb | hb)
            · exact all_lt HP7.out.hr hb
            · rw [hb]; exact Blk.lt HP7.out.sk
          obtain ⟨lab', hdr⟩ := HP7.out.dr.setGl hlt hF9 hR9 how9 (by rw [hc7]; exact HFV.out) rfl
          have hFt : Fr (a.wb :: D'.c.gv.ownBlock.toList) w7 (w9.setCell ⟨a.wb, 1, none⟩ (.slice A9 n9 c9)) := (hF9.here (fun x hx => List.mem_cons_of_mem _ hx)).set (by simp) _
          have hnl : ∀ x ∈ a.wb :: D'.c.gv.ownBlock.toList, ¬ (x ∈ S'.L.all ∨ x = a.sb) := by
            intro x hx
            rcases List.mem_cons.1 hx with e | hx
            · rw [e]; exact (HP7.out.dr.sep a.wb (by rw [HP7.out.dr.lw]; decide)).2
            · exact (HP7.out.dr.sep x (by rw [(HOW2.out x (by simpa using hx)).2]; decide)).2
          have hpt := HP7.out.pt
          refine ⟨S', gl ++ [p], { D' with c := { D'.c with gv := .slice A9 n9 c9 }, lab := lab' }, ⟨HP7.out.hr.fr hFt (fun x hx hc => hnl x hx (.inl hc)), HP7.out.ci, hdr, ⟨hpt.kinds, hpt.a0, hpt.small, hpt.con, hpt.wk, hpt.rgs, fun x hx => ?_, ?_, hpt.fs, hpt.num, hpt.rwl, hpt.rl, hpt.cnt⟩, HP7.out.ah, HP7.out.sk.fr hFt (fun hc => hnl _ hc (.inr rfl)), HP7.out.sn, HP7.out.x0, HP7.out.hkp, HP7.out.e0⟩, ?_, ?_, fun hc => absurd hc (by simp)⟩
          · rcases List.mem_append.1 hx with h1 | h1
            · exact hpt.glv x h1
            · rw [List.mem_singleton.1 h1]; exact HV7.out
          · rw [List.length_append, List.length_singleton]; have := HGL.out; omega
          · rw [List.length_append, List.length_singleton]; have := HGL.out; omega
          · show D'.c.fv = _
            rw [hc7]; exact HFV.out
        have HROW := hid hrow
        have HSRC := hid hsrc
        have HFA := hid hFa
        have HPLT := hid plt
        have HWLT := hid wlt
        have HBLT := hid blt
        have HX3 := hid x3
        have HX1 := hid x1
        have HB1 := hid b1
        have HEG := hid eg
        have HN := hid hN
        have HREST := hid hrest
        have HK := hid (And.intro hk hlt)
        clear hp7 hv7 hgv eg hN hFa hFd x3 x1 plt wlt blt hrow hsrc hrest hc7
        go_wp2_with fail
        go_region_law (first
          | (refine step_appl (by rfl) _ _ (by rfl) 0 _ gl (by rfl) HROW.out (some ⟨w7.heap.size, 0, none⟩) 1 1 [p] (by rfl) HSRC.out (by simp) (by have := HN.out; have := HGL.out; have := HK.out; omega) (Nat.zero_le _) ?_; intro v9 w9 hR9 hF9 hown9; obtain ⟨A9, c9, n9, e9⟩ : ∃ A9 c9 n9, v9 = .slice A9 n9 c9 := (by obtain ⟨A9, c9, e⟩ := hR9.form; exact ⟨A9, c9, _, e⟩); subst e9; have hF79 : Fr D'.c.gv.ownBlock.toList w7 w9 := (HFA.out.here (by simp)).trans (by rw [HEG.out]; exact hF9); have hwn : a.wb ∉ D'.c.gv.ownBlock.toList := (fun hc => by have h1 := (HOW2.out a.wb (by simpa using hc)).2; rw [HP7.out.dr.lw] at h1; exact absurd h1 (by decide)); have y9 := Blk.frozen (Blk.fr HP7.out.dr.wb hF79 hwn) 1; have y91 := (cell_fr hF79 hwn HWLT.out 1).trans HX1.out; have y93 := (cell_fr hF79 (fun hc => by have h1 := (HOW2.out a.pb (by simpa using hc)).2; rw [HP7.out.dr.lp] at h1; exact absurd h1 (by decide)) HPLT.out 3).trans HX3.out; have y90 := (cell_fr hF79 (fun hc => by have h1 := (HOW2.out a.bx (by simpa using hc)).2; have h2 := (HP7.out.dr.bx.1 _ _ _ HP7.out.hkp).2; rw [h2] at h1; exact absurd h1 (by decide)) HBLT.out 0).trans HB1.out; have HFIN := hid (HREST.out A9 n9 c9 w9 hR9 hF79 (hown9.elim (fun h => .inl (by rw [h, HEG.out])) (fun h => .inr ⟨_, h, by simp⟩))); clear hR9 hF9 hown9 hF79 hwn))
        all_goals
          go_wp2_with fail
          go_roundw
          case rel =>
            obtain ⟨S9, gl9, D9, q1, q2, q3, q4⟩ := HFIN.out
            exact ⟨k + 1, S9, gl9, D9, by go_num, by have := HK.out; omega, q1, q2, q3, q4⟩
          case measure => have := HK.out; simp [intOf]; omega
    · have hlt' : ¬ (k : Int) < (gn : Int) := by omega
      have TB0 := (HPM.out.dr.bx.1 _ _ _ HPM.out.hkp).1
      have hgv := HPM.out.dr.gv
      obtain ⟨Ag, cg, eg⟩ := hgv.form
      obtain ⟨N, hN⟩ : ∃ N, N = gl.length := ⟨_, rfl⟩
      rw [← hN] at eg
      have x3 := Blk.cell HPM.out.dr.p (i := 3) rfl
      have x1 := Blk.cell HPM.out.dr.wb (i := 1) rfl
      rw [eg] at x1
      have plt := Blk.lt HPM.out.dr.p
      have wlt := Blk.lt HPM.out.dr.wb
      have blt := World.block_lt_of_cell? wr _ TB0
      have HS : Hid (∀ wx, Fr [] wr wx → wx.cell? ⟨a.bx, 0, none⟩ = some (.pointer (some ⟨a.pb, 0, none⟩)) ∧ wx.cell? ⟨a.pb, 3, none⟩ = some (.pointer (some ⟨a.wb, 0, none⟩)) ∧ wx.cell? ⟨a.wb, 1, none⟩ = some (.slice Ag N cg)) := hid (fun wx h => ⟨(cell_fr h (by simp) blt 0).trans TB0, (cell_fr h (by simp) plt 3).trans x3, (cell_fr h (by simp) wlt 1).trans x1⟩)
      have hcl : ∀ wx, Fr [] wr wx → Calls Tryz.prog 69 #[.slice Ag N cg] wx fun e w' => ∃ v', e = .returned v' ∧ RdS w' (fun b => wx.heap.size ≤ b) v' gl ∧ Fr [] wx w' := by
        intro wx hx
        rcases List.eq_nil_or_concat gl with hgl0 | ⟨_, _, hgl0⟩
        · have h1 := HGN.out hgl0
          rw [eg] at h1
          cases h1
          refine (cloneN wx).mono ?_
          rintro e w' ⟨rfl, rfl⟩
          exact ⟨_, rfl, by rw [hgl0]; exact RdS.nil _ _ _ _, Fr.refl _ _⟩
        · have hpos : 0 < gl.length := by rw [hgl0]; simp
          have hgx := (hgv.fr hx (by simp))
          rw [eg] at hgx
          obtain ⟨g, e1, -, e3, e4, e5, -, e7⟩ := hgx.at hpos
          subst e1
          refine (cloneI g 0 cg N (gl.map (.int .i64)) wx (by rw [List.length_map]; exact hN.symm) (by omega) (by have := HGL.out; omega) e3 (fun i v hv => ?_) (fun v hv => ?_)).mono ?_
          · rw [List.getElem?_map, Option.map_eq_some_iff] at hv
            obtain ⟨y, hy, rfl⟩ := hv
            rw [Nat.zero_add]
            exact e7 i y hy
          · obtain ⟨y, -, rfl⟩ := List.mem_map.1 hv
            rfl
          · rintro e w' ⟨g', cap', rfl, h1, h2, h3, h4, h5⟩
            exact ⟨_, rfl, ⟨_, cap', by rw [hN], ⟨by omega, by have := HGL.out; omega⟩, fun i y hy => ⟨g', 0, rfl, h1, h2, by rw [Nat.zero_add]; exact h4 i _ (by rw [List.getElem?_map, hy]; rfl)⟩⟩, h5⟩
      have HCALL : Hid (∀ wx, Fr [] wr wx → wr.heap.size < wx.heap.size → wx.cell? ⟨wr.heap.size, 0, none⟩ = some (.pointer (some ⟨a.sb, 0, none⟩)) → Calls Tryz.prog 32 #[.pointer (some ⟨L.hb, 0, none⟩), .slice Ag N cg, .slice (some ⟨wr.heap.size, 0, none⟩) 1 1, .func (.func 33) #[] #[.pointer (some ⟨a.bx, 0, none⟩)]] wx (CNewPost L.hb gl a.sb (.func (.func 33) #[] #[.pointer (some ⟨a.bx, 0, none⟩)]) wx)) := hid (fun wx hx hl0 hlc =>
        cNew L.hb (.slice Ag N cg) gl wr.heap.size 0 1 a.sb a.bx wx hl0 hlc (fun wy hy => hcl wy (hx.trans hy)))
      have HPLT := hid plt
      have HNE : Hid (a.bx ∉ [a.pb] ∧ a.wb ∉ [a.pb]) := hid ⟨fun hc => (by have h1 := HPM.out.dr.lp; have h2 := (HPM.out.dr.bx.1 _ _ _ HPM.out.hkp).2; rw [← List.mem_singleton.1 hc, h2] at h1; exact absurd h1 (by decide)), fun hc => (by have h1 := HPM.out.dr.lp; have h2 := HPM.out.dr.lw; rw [← List.mem_singleton.1 hc, h2] at h1; exact absurd h1 (by decide))⟩
      have HEG := hid eg
      rw [← HAH.out.2]
      clear hgv eg hN x3 x1 plt wlt blt hcl b0
      go_wp2_with fail
      have hs0 := HS.out wr.drew ((Fr.refl _ wr).drew)
      have hsB := HS.out ((wr.alloc (.cells #[.pointer (some ⟨a.sb, 0, none⟩)] 31)).drew) (((Fr.refl _ wr).alloc _).drew)
      go_region_held3 (fun w' => w'.cell? ⟨a.bx, 0, none⟩ = some (.pointer (some ⟨a.pb, 0, none⟩)) ∧ w'.cell? ⟨a.pb, 3, none⟩ = some (.pointer (some ⟨a.wb, 0, none⟩)) ∧ w'.cell? ⟨a.wb, 1, none⟩ = some (.slice Ag N cg))
        (first
          | (with_reducible exact hs0)
          | (with_reducible exact hsB)
          | (with_reducible exact hsA)
          | (with_reducible exact hsC _)
          | go_keep)
        (first | (go_at_call 32; refine (HCALL.out _ (((Fr.refl _ wr).alloc _).drew) (by simp) ?_).mono ?_; (exact ((Blk.new wr [.pointer (some ⟨a.sb, 0, none⟩)] 31).drew).cell (i := 0) rfl); rintro e wA ⟨kb, mb, tb, gv', lb, lc, rfl, hres⟩; have HRES := hid hres; have hFA : Fr [] wr wA := (((Fr.refl _ wr).alloc (.cells #[.pointer (some ⟨a.sb, 0, none⟩)] 31)).drew).trans hres.2.2.2.2.2.2.2.2.2.2.2.2.2.2; have hsA := HS.out wA hFA; have hpA := Blk.fr HPM.out.dr.p hFA (by simp); have zA := Blk.frozen hpA 2; have zB := Blk.cell hpA (i := 2) rfl; have hsC : ∀ v, (wA.setCell ⟨a.pb, 2, none⟩ v).cell? ⟨a.bx, 0, none⟩ = some (.pointer (some ⟨a.pb, 0, none⟩)) ∧ (wA.setCell ⟨a.pb, 2, none⟩ v).cell? ⟨a.pb, 3, none⟩ = some (.pointer (some ⟨a.wb, 0, none⟩)) ∧ (wA.setCell ⟨a.pb, 2, none⟩ v).cell? ⟨a.wb, 1, none⟩ = some (.slice Ag N cg) := (fun v => ⟨(cell_fr ((Fr.refl [a.pb] wA).set (by simp) v) HNE.out.1 (World.block_lt_of_cell? wA _ hsA.1) 0).trans hsA.1, Blk.cell (Blk.set hpA 2 v) (i := 3) rfl, (cell_fr ((Fr.refl [a.pb] wA).set (by simp) v) HNE.out.2 (World.block_lt_of_cell? wA _ hsA.2.2) 1).trans hsA.2.2⟩); have HPA := hid hpA; have HFA := hid hFA; clear hres hFA hpA))
      all_goals
        obtain ⟨r1, r2, r3, r4, r5, r6, r7, r8, r9, r10, r11, r12, r13, r14, r15⟩ := HRES.out
        have eL : L.hb = S.L.hb := HAH.out.1.symm.trans HPM.out.ah
        have HEND := hid (fun n => pm_end HPM.out HK.out HGL.out (((Fr.refl _ wr).alloc (.cells #[.pointer (some ⟨a.sb, 0, none⟩)] 31)).drew) r15 r1 r2 r3 r4 r5 r6 r7 r8 (by rw [← eL]; exact r10) (by rw [← eL]; exact r11) (by rw [← eL]; exact r12) r13 r14 kq HKP.out w HAW.out n)
        have hpk := ((HPM.out.dr.sep a.pb (by rw [HPM.out.dr.lp]; decide)).1)
        have hF8 : Fr [a.pb] wA (wA.setCell ⟨a.pb, 2, none⟩ (.pointer (some ⟨kb, 0, none⟩))) := (Fr.refl [a.pb] wA).set (by simp) (.pointer (some ⟨kb, 0, none⟩))
        have hC8 := CBlk.fr r10 hF8 (by simp at r1 ⊢; omega)
        have HT : Hid (∀ n, Calls Tryz.prog 34 #[.pointer (some ⟨kb, 0, none⟩)] ((wA.setCell ⟨a.pb, 2, none⟩ (.pointer (some ⟨kb, 0, none⟩))).drewN n) fun e w' => e = .returned (.pointer (some ⟨tb, 0, none⟩)) ∧ w' = (wA.setCell ⟨a.pb, 2, none⟩ (.pointer (some ⟨kb, 0, none⟩))).drewN n) := hid (fun n => (cTable kb L.hb mb tb _ _ (CBlk.fr hC8 ((Fr.refl [] _).drewN n) (by simp))).mono (fun e w' h => ⟨h.1, h.2.symm⟩))
        have hsD := hsC (.pointer (some ⟨kb, 0, none⟩))
        have zD := Blk.cell (Blk.set HPA.out 2 (.pointer (some ⟨kb, 0, none⟩))) (i := 2) rfl
        obtain ⟨zD0, -, -⟩ := hsD
        clear hs0 hsB hsA hsC hpk r1 r2 r3 r4 r5 r6 r7 r8 r9 r10 r11 r12 r13 r14 r15 hC8 hF8 eL
        go_wp2_with fail
        go_quiet ((go_at_call 34; exact Calls.quiet_of_same (HT.out _)))
        go_wp2_with fail
        go_ret2
        exact HEND.out _
end Go.Proofs.YtklnpooninbogaaGreat
