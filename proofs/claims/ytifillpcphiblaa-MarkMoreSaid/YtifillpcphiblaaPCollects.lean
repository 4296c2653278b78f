import Derived.Test.YtifillpcphiblaaPObj
namespace Go.Proofs.Ytifillpcphiblaa
open Go Go.Proofs Go.RowKit

/-! Plain laws for HeapCollects: the states of its loops. -/

def OVal (s : HS) (o : Ob) : Prop := 0 < o.n → s.wd o (o.n - 1) = 1000 + o.a

/-- All objects are black. -/
structure C1 (s : HS) (A : Rg) (z : Int → Int) (obs : List Ob) : Prop where
  hi : HI s A z
  par : s.parity = 0
  rows : ∀ q, (A q).W = [] ∧ (A q).F = [] ∧ (A q).G = []
  ob : ∀ o ∈ obs, o.In s A z ∧ o.m = 0 ∧ o.k = 7 ∧ OVal s o
  ne : obs.Pairwise Ob.ne

theorem C1.new {W Lg : Nat} {cls : List Int} (hR : RightC W Lg cls) : C1 (HS.new W Lg cls) (fun _ => ⟨[], [], [], []⟩) (fun _ => 0) [] :=
  ⟨HI.new hR, rfl, fun _ => ⟨rfl, rfl, rfl⟩, by simp, List.Pairwise.nil⟩

/-- An object came, whose words are nought. -/
structure C1a (s : HS) (A : Rg) (z : Int → Int) (obs : List Ob) (o1 : Ob) : Prop where
  c : C1 s A z obs
  o : o1.In s A z
  m : o1.m = 0
  k : o1.k = 7
  ne : ∀ o ∈ obs, o.ne o1

theorem C1.alloc {s s' : HS} {A A' : Rg} {z z' : Int → Int} {obs : List Ob} (h : C1 s A z obs) {q : Option Nat} {p a : Int} {n : Nat} (k : Alc s s' A A' z z' q p (packed 7 n a s.parity) n) (hd : Hd 7 n a 0) : C1a s' A' z' obs ⟨q, p, 7, n, a, 0⟩ := by
  have hp := h.par
  rw [hp] at k
  have hnW : ∀ o ∈ obs, o.p ∉ (A o.q).W := fun o _ hc => by rw [(h.rows o.q).1] at hc; cases hc
  obtain ⟨W, hA, hr⟩ := k.row
  have hW : W = [] := by
    rcases hr with hr | ⟨hr, _⟩
    · rw [(h.rows q).1] at hr; cases hr
    · rw [(h.rows q).1] at hr; exact hr.symm
  refine ⟨⟨k.hi, k.parity.trans hp, ?_, ?_, h.ne⟩, (Ob.In.new k hd).1, rfl, rfl, ?_⟩
  · intro q'
    rw [hA]
    by_cases e : q' = q
    · subst e
      rw [Rg.up_same]
      exact ⟨hW, (h.rows q').2.1, (h.rows q').2.2⟩
    · rw [Rg.up_ne A e]; exact h.rows q'
  · intro o ho
    obtain ⟨o1, o2, o3, o4⟩ := h.ob o ho
    obtain ⟨g1, g2⟩ := o1.alloc k (hnW o ho)
    exact ⟨g1, o2, o3, fun hn => (g2 _ (by omega)).trans (o4 hn)⟩
  · intro o ho
    exact alc_ne k (h.ob o ho).1.mem (hnW o ho)

theorem C1a.zero {s : HS} {A : Rg} {z : Int → Int} {obs : List Ob} {o1 : Ob} (h : C1a s A z obs o1) (hn : o1.n = 0) : C1 s A z (obs ++ [o1]) := by
  refine ⟨h.c.hi, h.c.par, h.c.rows, ?_, ?_⟩
  · intro o ho
    rcases List.mem_append.1 ho with ho | ho
    · exact h.c.ob o ho
    · obtain rfl := List.mem_singleton.1 ho
      exact ⟨h.o, h.m, h.k, fun h0 => by omega⟩
  · rw [List.pairwise_append]
    exact ⟨h.c.ne, List.pairwise_singleton _ _, fun o ho o' ho' => by obtain rfl := List.mem_singleton.1 ho'; exact h.ne o ho⟩
theorem C1a.put {s : HS} {A : Rg} {z : Int → Int} {obs : List Ob} {o1 : Ob} (h : C1a s A z obs o1) (hn : 0 < o1.n) (n : Int) : C1 (s.put (o1.p + 3 + (o1.n - 1 : Nat)) (1000 + o1.a) n) A z (obs ++ [o1]) := by
  refine ⟨h.c.hi.putOb h.o (by omega) _ _, h.c.par, h.c.rows, ?_, ?_⟩
  · intro o ho
    rcases List.mem_append.1 ho with ho | ho
    · obtain ⟨k1, k2, k3, k4⟩ := h.c.ob o ho
      obtain ⟨g1, g2, g3⟩ := Ob.In.put h.c.hi h.o k1 (j := o1.n - 1) (by omega) (1000 + o1.a) n
      exact ⟨g1, k2, k3, fun h0 => (g2 (h.ne o ho).symm _ (by omega)).trans (k4 h0)⟩
    · obtain rfl := List.mem_singleton.1 ho
      obtain ⟨g1, g2, g3⟩ := Ob.In.put h.c.hi h.o h.o (j := o.n - 1) (by omega) (1000 + o.a) n
      exact ⟨g1, h.m, h.k, fun h0 => by have := g3 (o.n - 1) (by omega); rw [if_pos rfl] at this; exact this⟩
  · rw [List.pairwise_append]
    exact ⟨h.c.ne, List.pairwise_singleton _ _, fun o ho o' ho' => by obtain rfl := List.mem_singleton.1 ho'; exact h.ne o ho⟩

def gN (A : Rg) (n : Nat) : Nat := sumK A n (fun R => R.G.length)
def bN (A : Rg) (n : Nat) : Nat := sumK A n (fun R => R.B.length)
def Ob.with (o : Ob) (b : Bool) : Ob := { o with m := if b then 1 else 0 }
theorem Ob.with_ne {o o' : Ob} (h : o.ne o') (b b' : Bool) : (o.with b).ne (o'.with b') := h
theorem Ob.with_false {o : Ob} (h : o.m = 0) : o.with false = o := by cases o; simp [Ob.with] at *; exact h.symm

/-- Some are grey, those of the first i that are kept. -/
structure C2 (s : HS) (A : Rg) (z : Int → Int) (obs : List Ob) (kb : Nat → Bool) (i cnt : Nat) : Prop where
  hi : HI s A z
  par : s.parity = 1
  rows : ∀ q, (A q).W = [] ∧ (A q).B = []
  gn : gN A s.cls.length = cnt
  le : cnt ≤ i
  ob : ∀ (j : Nat) (o : Ob), obs[j]? = some o → (o.with (decide (j < i) && kb j)).In s A z ∧ (o.p ∈ (if (decide (j < i) && kb j) = true then (A o.q).G else (A o.q).F)) ∧ OVal s o
  gr : ∀ (q : Option Nat) (c : Int), c ∈ (A q).G → ∃ j o, obs[j]? = some o ∧ kb j = true ∧ j < i ∧ o.q = q ∧ o.p = c
  ne : obs.Pairwise Ob.ne
  kd : ∀ o ∈ obs, o.k = 7

theorem OVal.with {s : HS} {o : Ob} (b : Bool) : OVal s (o.with b) ↔ OVal s o := Iff.rfl
theorem mem_all_of (R : Rows) (c : Int) : (c ∈ R.F ∨ c ∈ R.G ∨ c ∈ R.B) → c ∈ R.all := by
  intro h; simp [Rows.all]; rcases h with h | h | h <;> simp [h]

theorem C1.begin {s s' : HS} {A : Rg} {z : Int → Int} {obs : List Ob} (h : C1 s A z obs) (kb : Nat → Bool) (hI : HI s' A.begun z) (hw : s'.ws = s.ws) (hc : s'.cls = s.cls) (hp : s'.parity = 1 - s.parity) : C2 s' A.begun z obs kb 0 0 := by
  have hall : ∀ q x, x ∈ (A q).all → x ∈ (A.begun q).all := by
    intro q x hx
    have := h.rows q
    simp [Rows.all, Rg.begun, this.1, this.2.1, this.2.2] at hx ⊢
    exact hx
  refine ⟨hI, by rw [hp, h.par]; rfl, fun q => ⟨(h.rows q).1, rfl⟩, sumK_all (fun q => rfl), Nat.le_refl _, ?_, ?_, h.ne, fun o ho => (h.ob o ho).2.2.1⟩
  · intro j o hj
    obtain ⟨o1, o2, o3, o4⟩ := h.ob o (List.mem_of_getElem? hj)
    obtain ⟨g1, g2⟩ := o1.rows (A' := A.begun) hw hc (hall o.q)
    have hb : (decide (j < 0) && kb j) = false := by simp
    rw [hb, if_neg (by simp), Ob.with_false o2]
    refine ⟨g1, ?_, fun h0 => (g2 _).trans (o4 h0)⟩
    have := o1.mem
    have hr := h.rows o.q
    simp [Rows.all, hr.1, hr.2.1, hr.2.2] at this
    exact this
  · intro q c hc
    cases hc

theorem not_fg {s : HS} {A : Rg} {z : Int → Int} (h : HI s A z) {q : Option Nat} {c : Int} (hF : c ∈ (A q).F) (hG : c ∈ (A q).G) : False := by
  have hn : (A q).all.Nodup := by
    cases q with
    | none => exact h.lring.cells.nodup
    | some k =>
      have hk : k < s.rs.length := by
        rcases Nat.lt_or_ge k s.rs.length with h1 | h1
        · exact h1
        · have := h.out k h1
          have hm := mem_all_of (A (some k)) c (.inl hF)
          rw [this] at hm; cases hm
      exact (h.ring k _ (List.getElem?_eq_getElem hk)).cells.nodup
  unfold Rows.all at hn
  rw [List.nodup_append] at hn
  have h2 := hn.2.1
  rw [List.nodup_append] at h2
  exact h2.2.2 c hF c (List.mem_append.2 (.inl hG)) rfl

/-- One that isn't kept. -/
theorem C2.skip {s : HS} {A : Rg} {z : Int → Int} {obs : List Ob} {kb : Nat → Bool} {i cnt : Nat} (h : C2 s A z obs kb i cnt) (hk : kb i = false) : C2 s A z obs kb (i + 1) cnt := by
  refine ⟨h.hi, h.par, h.rows, h.gn, by have := h.le; omega, fun j o hj => ?_, fun q c hc => ?_, h.ne, h.kd⟩
  · have := h.ob j o hj
    by_cases e : j = i
    · subst e
      have e1 : (decide (j < j) && kb j) = (decide (j < j + 1) && kb j) := by simp [hk]
      rw [e1] at this; exact this
    · have e1 : (decide (j < i) && kb j) = (decide (j < i + 1) && kb j) := by
        have : (j < i) ↔ (j < i + 1) := by omega
        simp only [this]
      rw [e1] at this; exact this
  · obtain ⟨j, o, h1, h2, h3, h4⟩ := h.gr q c hc
    exact ⟨j, o, h1, h2, by omega, h4⟩

/-- One that is kept, shaded. -/
theorem C2.shade {s s' : HS} {A : Rg} {z : Int → Int} {obs : List Ob} {kb : Nat → Bool} {i cnt : Nat} (h : C2 s A z obs kb i cnt) (hk : kb i = true) {o : Ob} (ho : obs[i]? = some o) {F1 F2 : List Int} (hF : (A o.q).F = F1 ++ o.p :: F2)
    (k : Shd s s' A z o.q o.p F1 F2 (packed o.k o.n o.a s.parity)) : C2 s' (A.up o.q ⟨(A o.q).W, F1 ++ F2, (A o.q).G ++ [o.p], (A o.q).B⟩) z obs kb (i + 1) (cnt + 1) := by
  obtain ⟨o1, o2, o3⟩ := h.ob i o ho
  have hb : (decide (i < i) && kb i) = false := by simp
  rw [hb] at o1 o2
  rw [h.par] at k
  have hkey := h.hi.key o1.mem
  refine ⟨k.hi, k.st.parity.trans h.par, ?_, ?_, by have := h.le; omega, ?_, ?_, h.ne, h.kd⟩
  · intro q
    by_cases e : q = o.q
    · subst e; rw [Rg.up_same]; exact h.rows o.q
    · rw [Rg.up_ne A e]; exact h.rows q
  · have := sumK_up A s.cls.length (fun R => R.G.length) o.q ⟨(A o.q).W, F1 ++ F2, (A o.q).G ++ [o.p], (A o.q).B⟩ hkey
    have hg := h.gn
    unfold gN at hg ⊢
    rw [k.st.cls]
    simp only [List.length_append, List.length_cons, List.length_nil] at this
    omega
  · intro j o' hj
    by_cases e : j = i
    · subst e
      rw [ho] at hj; cases hj
      have e1 : (decide (j < j + 1) && kb j) = true := by simp [hk]
      rw [e1, if_pos rfl]
      have hd : Hd o.k o.n o.a 1 := ⟨o1.hd.k0, o1.hd.k1, by decide, by decide, o1.hd.s0, o1.hd.s1, o1.hd.a0, o1.hd.a1⟩
      obtain ⟨g1, g2⟩ := Ob.In.shaded (o := o.with false) (m' := 1) k o1 hd
      refine ⟨g1, ?_, fun h0 => (g2 _ (by show o.n - 1 < o.n; omega)).trans (o3 h0)⟩
      rw [Rg.up_same]; simp
    · have e1 : (decide (j < i + 1) && kb j) = (decide (j < i) && kb j) := by
        have : (j < i + 1) ↔ (j < i) := by omega
        simp only [this]
      rw [e1]
      obtain ⟨p1, p2, p3⟩ := h.ob j o' hj
      have hne : o'.ne o := by
        have hp := List.pairwise_iff_getElem.1 h.ne
        obtain ⟨li, rfl⟩ := List.getElem?_eq_some_iff.1 ho
        obtain ⟨lj, rfl⟩ := List.getElem?_eq_some_iff.1 hj
        rcases Nat.lt_or_gt_of_ne e with h1 | h1
        · exact hp j i lj li h1
        · exact (hp i j li lj h1).symm
      obtain ⟨g1, g2⟩ := Ob.In.shade k hF p1 hne
      refine ⟨g1, ?_, fun h0 => (g2 _ (by show o'.n - 1 < o'.n; omega)).trans (p3 h0)⟩
      by_cases e2 : o'.q = o.q
      · have hpne : o'.p ≠ o.p := by
          rcases hne with h1 | h1
          · exact absurd e2 h1
          · exact h1
        rw [e2] at p2 ⊢
        rw [Rg.up_same]
        split
        · rename_i hb'
          rw [if_pos hb'] at p2
          simp only [List.mem_append]; exact .inl p2
        · rename_i hb'
          rw [if_neg hb', hF] at p2
          simp only [List.mem_append, List.mem_cons] at p2 ⊢
          rcases p2 with h1 | h1 | h1
          · exact .inl h1
          · exact absurd h1 hpne
          · exact .inr h1
      · rw [Rg.up_ne A e2]; exact p2
  · intro q c hc
    by_cases e : q = o.q
    · subst e
      rw [Rg.up_same] at hc
      simp only [List.mem_append, List.mem_singleton] at hc
      rcases hc with hc | rfl
      · obtain ⟨j, o', h1, h2, h3, h4⟩ := h.gr _ c hc
        exact ⟨j, o', h1, h2, by omega, h4⟩
      · exact ⟨i, o, ho, hk, by omega, rfl, rfl⟩
    · rw [Rg.up_ne A e] at hc
      obtain ⟨j, o', h1, h2, h3, h4⟩ := h.gr _ c hc
      exact ⟨j, o', h1, h2, by omega, h4⟩

/-- Of cnt that were grey, k are done. -/
structure C3 (s : HS) (A : Rg) (z : Int → Int) (obs : List Ob) (kb : Nat → Bool) (cnt k : Nat) : Prop where
  hi : HI s A z
  par : s.parity = 1
  sum : gN A s.cls.length + bN A s.cls.length = cnt
  gn : gN A s.cls.length + k ≤ cnt ∨ gN A s.cls.length = 0
  ob : ∀ (j : Nat) (o : Ob), obs[j]? = some o → kb j = true → (o.with true).In s A z ∧ OVal s o
  gr : ∀ (q : Option Nat) (c : Int), c ∈ (A q).G → ∃ j o, obs[j]? = some o ∧ kb j = true ∧ o.q = q ∧ o.p = c

theorem C2.over {s : HS} {A : Rg} {z : Int → Int} {obs : List Ob} {kb : Nat → Bool} {cnt : Nat} (h : C2 s A z obs kb obs.length cnt) : C3 s A z obs kb cnt 0 := by
  have hb : bN A s.cls.length = 0 := sumK_all (fun q => by rw [(h.rows q).2]; rfl)
  refine ⟨h.hi, h.par, by rw [h.gn, hb]; rfl, .inl (by rw [h.gn]; omega), ?_, ?_⟩
  · intro j o hj hk
    have hl := (List.getElem?_eq_some_iff.1 hj).1
    obtain ⟨o1, o2, o3⟩ := h.ob j o hj
    have e : (decide (j < obs.length) && kb j) = true := by simp [hl, hk]
    rw [e] at o1
    exact ⟨o1, o3⟩
  · intro q c hc
    obtain ⟨j, o, h1, h2, h3, h4⟩ := h.gr q c hc
    exact ⟨j, o, h1, h2, h4⟩

theorem C3.none {s : HS} {A : Rg} {z : Int → Int} {obs : List Ob} {kb : Nat → Bool} {cnt k : Nat} (h : C3 s A z obs kb cnt k) (hno : NoG A) : C3 s A z obs kb cnt (k + 1) :=
  ⟨h.hi, h.par, h.sum, .inr (sumK_all (fun q => by rw [hno q]; rfl)), h.ob, h.gr⟩
theorem C3.tick {s : HS} {A : Rg} {z : Int → Int} {obs : List Ob} {kb : Nat → Bool} {cnt k : Nat} (h : C3 s A z obs kb cnt k) (n : Int) : C3 (s.tick n) A z obs kb cnt k :=
  ⟨h.hi.tick n, h.par, h.sum, h.gn, fun j o hj hk => by obtain ⟨a, b⟩ := h.ob j o hj hk; exact ⟨⟨a.mem, a.room, a.head, a.hd, a.ring⟩, b⟩, h.gr⟩

theorem C3.done {s s' : HS} {A : Rg} {z : Int → Int} {obs : List Ob} {kb : Nat → Bool} {cnt k : Nat} (h : C3 s A z obs kb cnt k) {q : Option Nat} {c : Int} {G : List Int} (hG : (A q).G = G ++ [c]) (d : Dne s s' A z q c G) : C3 s' (A.up q ⟨(A q).W, (A q).F, G, c :: (A q).B⟩) z obs kb cnt (k + 1) := by
  have hkey : Key s.cls.length q := h.hi.key (c := c) (by simp [Rows.all, hG])
  have s1 := sumK_up A s.cls.length (fun R => R.G.length) q ⟨(A q).W, (A q).F, G, c :: (A q).B⟩ hkey
  have s2 := sumK_up A s.cls.length (fun R => R.B.length) q ⟨(A q).W, (A q).F, G, c :: (A q).B⟩ hkey
  simp only [hG, List.length_append, List.length_cons, List.length_nil] at s1 s2
  have hs := h.sum
  have hg := h.gn
  unfold gN at hg
  unfold gN bN at hs
  refine ⟨d.hi, d.st.parity.trans h.par, ?_, ?_, ?_, ?_⟩
  · unfold gN bN; rw [d.st.cls]; omega
  · unfold gN; rw [d.st.cls]
    rcases hg with hg | hg
    · left; omega
    · right
      omega
  · intro j o hj hk
    obtain ⟨o1, o2⟩ := h.ob j o hj hk
    obtain ⟨g1, g2⟩ := o1.rows (A' := A.up q ⟨(A q).W, (A q).F, G, c :: (A q).B⟩) d.ws d.st.cls (fun x hx => by
      by_cases e : (o.with true).q = q
      · rw [e] at hx ⊢
        rw [Rg.up_same]
        simp [Rows.all, hG] at hx ⊢
        rcases hx with h | h | h | h | h <;> simp [h]
      · rw [Rg.up_ne A e]; exact hx)
    exact ⟨g1, fun h0 => (g2 _).trans (o2 h0)⟩
  · intro q' c' hc
    by_cases e : q' = q
    · subst e
      rw [Rg.up_same] at hc
      exact h.gr q' c' (by rw [hG]; simp only [List.mem_append]; exact .inl hc)
    · rw [Rg.up_ne A e] at hc; exact h.gr q' c' hc

theorem C3.noG {s : HS} {A : Rg} {z : Int → Int} {obs : List Ob} {kb : Nat → Bool} {cnt k : Nat} (h : C3 s A z obs kb cnt k) (hk : cnt ≤ k) : NoG A ∧ bN A s.cls.length = cnt := by
  have h0 : gN A s.cls.length = 0 := by rcases h.gn with h1 | h1 <;> omega
  refine ⟨fun q => ?_, by have := h.sum; omega⟩
  cases e : (A q).G with
  | nil => rfl
  | cons c l =>
    have := sumK_zero h0 (h.hi.key (q := q) (c := c) (mem_all_of _ _ (.inr (.inl (by rw [e]; simp)))))
    rw [e] at this; cases this

theorem C3.end' {s s' : HS} {A : Rg} {z : Int → Int} {obs : List Ob} {kb : Nat → Bool} {cnt k : Nat} (h : C3 s A z obs kb cnt k) (hno : NoG A) (hw : s'.ws = s.ws) (hc : s'.cls = s.cls) : ∀ (j : Nat) (o : Ob), obs[j]? = some o → kb j = true → (o.with true).In s' A.ended z ∧ OVal s' o := by
  intro j o hj hk
  obtain ⟨o1, o2⟩ := h.ob j o hj hk
  obtain ⟨g1, g2⟩ := o1.rows (A' := A.ended) hw hc (fun x hx => by
    have hG := hno (o.with true).q
    simp [Rows.all, Rg.ended, hG] at hx ⊢
    rcases hx with h | h | h <;> simp [h])
  exact ⟨g1, fun h0 => (g2 _).trans (o2 h0)⟩
end Go.Proofs.Ytifillpcphiblaa
