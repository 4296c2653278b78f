import Derived.Test.YtklnpooninbogaaGreatDoorHRows
import Derived.Test.YtklnpooninbogaaGreatDoorMXDel
namespace Go.Proofs.YtklnpooninbogaaGreatDoor
open Go Go.Proofs Go.RowKit

/-! Plain laws: objects in a heap. -/

structure Ob where
  q : Option Nat
  p : Int
  k : Int
  n : Nat
  a : Int
  m : Int
def Ob.word (o : Ob) : Int := packed o.k o.n o.a o.m

structure Ob.In (o : Ob) (s : HS) (A : Rg) (z : Int → Int) : Prop where
  mem : o.p ∈ (A o.q).all
  room : o.n + 3 ≤ ln s.cls z o.q o.p
  head : gw s.ws o.p = o.word
  hd : Hd o.k o.n o.a o.m
  ring : o.q = qOf s.cls o.n

/-- A word of an object. -/
def HS.wd (s : HS) (o : Ob) (j : Nat) : Int := gw s.ws (o.p + 3 + j)

def Ob.ne (o o' : Ob) : Prop := o.q ≠ o'.q ∨ o.p ≠ o'.p
theorem Ob.ne.symm {o o' : Ob} (h : o.ne o') : o'.ne o := by rcases h with h | h; (· exact .inl (Ne.symm h)); (· exact .inr (Ne.symm h))

theorem Ob.In.bound {o : Ob} {s : HS} {A : Rg} {z : Int → Int} (h : o.In s A z) (hI : HI s A z) : 1 ≤ o.p ∧ o.p + 3 + o.n ≤ s.ws.length := by
  have := hI.bound h.mem
  have := h.room
  omega
theorem Ob.In.low {o : Ob} {s : HS} {A : Rg} {z : Int → Int} (h : o.In s A z) (hI : HI s A z) : o.q = none ∨ o.p < s.edge := by
  have h1 := h.mem
  cases e : o.q with
  | none => exact .inl rfl
  | some k =>
    rw [e] at h1
    have := hI.inn k _ h1
    have := hI.top2
    have := hI.pos _ _ h1
    right; omega

/-- What a step leaves of an object. -/
theorem Ob.In.of {o : Ob} {s s' : HS} {A A' : Rg} {z z' : Int → Int} (h : o.In s A z) (hm : o.p ∈ (A' o.q).all) (hl : ln s'.cls z' o.q o.p = ln s.cls z o.q o.p) (hh : gw s'.ws o.p = gw s.ws o.p) (hc : s'.cls = s.cls) : o.In s' A' z' :=
  ⟨hm, by rw [hl]; exact h.room, hh.trans h.head, h.hd, by rw [hc]; exact h.ring⟩
theorem wd_holds {o : Ob} {s s' : HS} {A : Rg} {z : Int → Int} (h : o.In s A z) (hh : Holds s s' z o.q o.p) {j : Nat} (hj : j < o.n) : s'.wd o j = s.wd o j := by
  have := hh.body (3 + j) (by omega) (by have := h.room; omega)
  unfold HS.wd
  rw [Int.add_assoc]
  exact this

/-- An object that is not free lies apart from what an allocation takes. -/
theorem alc_ne {s s' : HS} {A A' : Rg} {z z' : Int → Int} {q : Option Nat} {p word : Int} {n : Nat} (h : Alc s s' A A' z z' q p word n) {q' : Option Nat} {c : Int} (hc : c ∈ (A q').all) (hW : c ∉ (A q').W) : q' ≠ q ∨ c ≠ p := by
  obtain ⟨W, _, hr⟩ := h.row
  by_cases e : q' = q
  · subst e
    refine .inr (fun e2 => ?_)
    subst e2
    rcases hr with hr | ⟨_, hr, _⟩
    · exact hW (by rw [hr]; simp)
    · exact hr hc
  · exact .inl e

theorem Ob.In.alloc {o : Ob} {s s' : HS} {A A' : Rg} {z z' : Int → Int} {q : Option Nat} {p word : Int} {n : Nat} (h : Alc s s' A A' z z' q p word n) (ho : o.In s A z) (hW : o.p ∉ (A o.q).W) : o.In s' A' z' ∧ ∀ j, j < o.n → s'.wd o j = s.wd o j := by
  have hne := alc_ne h ho.mem hW
  have hh := h.holds o.q o.p ho.mem hne
  exact ⟨ho.of (h.old ho.mem) (by rw [h.cls]; exact h.lns _ _ ho.mem) hh.head h.cls, fun j hj => wd_holds ho hh hj⟩

theorem Ob.In.new {s s' : HS} {A A' : Rg} {z z' : Int → Int} {q : Option Nat} {p : Int} {k a m : Int} {n : Nat} (h : Alc s s' A A' z z' q p (packed k n a m) n) (hd : Hd k n a m) : (⟨q, p, k, n, a, m⟩ : Ob).In s' A' z' ∧ ∀ j, j < n → s'.wd ⟨q, p, k, n, a, m⟩ j = 0 := by
  refine ⟨⟨h.mem, by rw [h.cls]; exact h.room, h.head, hd, ?_⟩, fun j hj => h.body j (by omega) (by omega)⟩
  rw [h.cls]; exact h.ring

theorem Ob.In.shade {o : Ob} {s s' : HS} {A : Rg} {z : Int → Int} {q : Option Nat} {p word : Int} {F1 F2 : List Int} (h : Shd s s' A z q p F1 F2 word) (hF : (A q).F = F1 ++ p :: F2) (ho : o.In s A z) (hne : o.q ≠ q ∨ o.p ≠ p) :
    o.In s' (A.up q ⟨(A q).W, F1 ++ F2, (A q).G ++ [p], (A q).B⟩) z ∧ ∀ j, j < o.n → s'.wd o j = s.wd o j := by
  have hh := h.holds o.q o.p ho.mem hne
  refine ⟨ho.of ?_ (by rw [h.st.cls]) hh.head h.st.cls, fun j hj => wd_holds ho hh hj⟩
  have := ho.mem
  by_cases e : o.q = q
  · rw [e] at this ⊢
    rw [Rg.up_same]
    simp [Rows.all, hF] at this ⊢
    rcases this with h | h | h | h | h | h <;> simp [h]
  · rw [Rg.up_ne A e]; exact this

theorem Ob.In.shaded {o : Ob} {s s' : HS} {A : Rg} {z : Int → Int} {F1 F2 : List Int} {m' : Int} (h : Shd s s' A z o.q o.p F1 F2 (packed o.k o.n o.a m')) (ho : o.In s A z) (hd : Hd o.k o.n o.a m') :
    ({ o with m := m' } : Ob).In s' (A.up o.q ⟨(A o.q).W, F1 ++ F2, (A o.q).G ++ [o.p], (A o.q).B⟩) z ∧ ∀ j, j < o.n → s'.wd o j = s.wd o j := by
  refine ⟨⟨?_, by rw [h.st.cls]; exact ho.room, h.head, hd, by rw [h.st.cls]; exact ho.ring⟩, fun j hj => ?_⟩
  · show o.p ∈ _
    rw [Rg.up_same]; simp [Rows.all]
  · have := h.body (3 + j) (by omega) (by have := ho.room; omega)
    unfold HS.wd
    rw [Int.add_assoc]
    exact this

theorem Ob.In.rows {o : Ob} {s s' : HS} {A A' : Rg} {z : Int → Int} (ho : o.In s A z) (hw : s'.ws = s.ws) (hc : s'.cls = s.cls) (hm : ∀ x, x ∈ (A o.q).all → x ∈ (A' o.q).all) : o.In s' A' z ∧ ∀ j, s'.wd o j = s.wd o j :=
  ⟨ho.of (hm _ ho.mem) (by rw [hc]) (by rw [hw]) hc, fun j => by unfold HS.wd; rw [hw]⟩

/-- A word of an object is set. -/
theorem Ob.In.put {o o' : Ob} {s : HS} {A : Rg} {z : Int → Int} (hI : HI s A z) (ho : o.In s A z) (ho' : o'.In s A z) {j : Nat} (hj : j < o.n) (v n : Int) :
    o'.In (s.put (o.p + 3 + j) v n) A z ∧ (o.ne o' → ∀ i, i < o'.n → (s.put (o.p + 3 + j) v n).wd o' i = s.wd o' i) ∧ (∀ i, i < o.n → (s.put (o.p + 3 + j) v n).wd o i = if i = j then v else s.wd o i) := by
  have b := ho.bound hI
  have b' := ho'.bound hI
  have hr := ho.room
  have hr' := ho'.room
  have hkey : ∀ i : Int, 0 ≤ i → i ≠ o.p + 3 + j → gw (s.put (o.p + 3 + j) v n).ws i = gw s.ws i := fun i hi hne => put_ne _ _ _ _ _ (by omega) (by omega) hi hne
  have hap : o.ne o' → o.p + ln s.cls z o.q o.p ≤ o'.p ∨ o'.p + ln s.cls z o'.q o'.p ≤ o.p := fun h => hI.apart o.q o.p o'.q o'.p ho.mem ho'.mem h
  have hhead : gw (s.put (o.p + 3 + j) v n).ws o'.p = gw s.ws o'.p := by
    refine hkey _ (by omega) ?_
    by_cases e : o.q = o'.q ∧ o.p = o'.p
    · omega
    · have : o.ne o' := by
        by_cases e1 : o.q = o'.q
        · exact .inr (fun e2 => e ⟨e1, e2⟩)
        · exact .inl e1
      have := hap this
      omega
  refine ⟨ho'.of ho'.mem rfl hhead rfl, fun hne i hi => ?_, fun i hi => ?_⟩
  · have := hap hne
    exact hkey _ (by omega) (by omega)
  · by_cases e : i = j
    · subst e; rw [if_pos rfl]; exact put_at _ _ _ _ (by omega) (by omega)
    · rw [if_neg e]; exact hkey _ (by omega) (by omega)

theorem HI.putOb {s : HS} {A : Rg} {z : Int → Int} (hI : HI s A z) {o : Ob} (ho : o.In s A z) {j : Nat} (hj : j < o.n) (v n : Int) : HI (s.put (o.p + 3 + j) v n) A z := by
  have hr := ho.room
  rw [Int.add_assoc]
  exact hI.put ho.mem (.inr ⟨by omega, by omega⟩) v n

/-- The last but one: what an object becomes. -/
theorem Ob.In.turned {o : Ob} {s : HS} {A : Rg} {z : Int → Int} (hI : HI s A z) (ho : o.In s A z) {k' a' : Int} (hd : Hd k' o.n a' o.m) (n : Int) :
    HI (s.put o.p (packed k' o.n a' o.m) n) A z ∧ ({ o with k := k', a := a' } : Ob).In (s.put o.p (packed k' o.n a' o.m) n) A z ∧ (∀ i, i < o.n → (s.put o.p (packed k' o.n a' o.m) n).wd o i = s.wd o i) ∧
    ∀ o' : Ob, o'.In s A z → o.ne o' → o'.In (s.put o.p (packed k' o.n a' o.m) n) A z ∧ ∀ i, i < o'.n → (s.put o.p (packed k' o.n a' o.m) n).wd o' i = s.wd o' i := by
  have b := ho.bound hI
  obtain ⟨h1, h2, h3, h4⟩ := hI.headPut ho.mem (packed k' o.n a' o.m) n
  have hr := ho.room
  refine ⟨h1, ⟨ho.mem, ho.room, h2, hd, ho.ring⟩, fun i hi => ?_, fun o' ho' hne => ?_⟩
  · have := h3 (3 + i) (by omega) (by omega)
    unfold HS.wd
    rw [Int.add_assoc]; exact this
  · have hh := h4 o'.q o'.p ho'.mem hne.symm
    exact ⟨ho'.of ho'.mem rfl hh.head rfl, fun i hi => wd_holds ho' hh hi⟩

/-! Sums over the rings. -/
def keys (n : Nat) : List (Option Nat) := (List.range n).map some ++ [none]
def sumK (A : Rg) (n : Nat) (f : Rows → Nat) : Nat := ((List.range n).map (fun k => f (A (some k)))).sum + f (A none)
def Key (n : Nat) (q : Option Nat) : Prop := ∀ k, q = some k → k < n
theorem sum_point (g g' : Nat → Nat) (k : Nat) (h : ∀ j, j ≠ k → g' j = g j) : ∀ n, ((List.range n).map g').sum + (if k < n then g k else 0) = ((List.range n).map g).sum + (if k < n then g' k else 0) := by
  intro n
  induction n with
  | zero => simp
  | succ n ih =>
    simp only [List.range_succ, List.map_append, List.map_cons, List.map_nil, List.sum_append, List.sum_cons, List.sum_nil]
    by_cases e : k = n
    · subst e
      simp at ih ⊢
      omega
    · have := h n (Ne.symm e)
      by_cases e2 : k < n
      · rw [if_pos e2, if_pos e2] at ih
        rw [if_pos (by omega), if_pos (by omega)]; omega
      · rw [if_neg e2, if_neg e2] at ih
        rw [if_neg (by omega), if_neg (by omega)]; omega
theorem sumK_up (A : Rg) (n : Nat) (f : Rows → Nat) (q : Option Nat) (R : Rows) (hq : Key n q) : sumK (A.up q R) n f + f (A q) = sumK A n f + f R := by
  unfold sumK
  cases q with
  | none =>
    have : ∀ k, (A.up none R) (some k) = A (some k) := fun k => Rg.up_ne A (by simp) R
    simp only [this, Rg.up_same]
    omega
  | some k =>
    have h1 := sum_point (fun j => f (A (some j))) (fun j => f ((A.up (some k) R) (some j))) k (fun j hj => by simp only [Rg.up_ne A (show (some j : Option Nat) ≠ some k by simpa using hj) R]) n
    have hk := hq k rfl
    rw [if_pos hk, if_pos hk] at h1
    simp only [Rg.up_same] at h1
    have h2 : (A.up (some k) R) none = A none := Rg.up_ne A (by simp) R
    rw [h2]
    omega
theorem sumK_zero {A : Rg} {n : Nat} {f : Rows → Nat} (h : sumK A n f = 0) {q : Option Nat} (hq : Key n q) : f (A q) = 0 := by
  unfold sumK at h
  cases q with
  | none => omega
  | some k =>
    have h1 : ((List.range n).map (fun k => f (A (some k)))).sum = 0 := by omega
    rw [List.sum_eq_zero_iff_forall_eq_nat] at h1
    exact h1 _ (List.mem_map.2 ⟨k, List.mem_range.2 (hq k rfl), rfl⟩)
theorem sumK_all {A : Rg} {n : Nat} {f : Rows → Nat} (h : ∀ q, f (A q) = 0) : sumK A n f = 0 := by
  unfold sumK
  have : ((List.range n).map (fun k => f (A (some k)))).sum = 0 := by
    rw [List.sum_eq_zero_iff_forall_eq_nat]
    intro x hx
    obtain ⟨k, _, rfl⟩ := List.mem_map.1 hx
    exact h _
  rw [this, h]
theorem HI.key {s : HS} {A : Rg} {z : Int → Int} (h : HI s A z) {q : Option Nat} {c : Int} (hc : c ∈ (A q).all) : Key s.cls.length q := by
  intro k e
  subst e
  rcases Nat.lt_or_ge k s.cls.length with h1 | h1
  · exact h1
  · rw [h.out k (by rw [h.nrs]; exact h1)] at hc; cases hc
end Go.Proofs.YtklnpooninbogaaGreatDoor
