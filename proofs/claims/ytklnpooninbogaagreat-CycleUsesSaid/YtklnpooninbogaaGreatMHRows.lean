
import Derived.Test.YtklnpooninbogaaGreatHBegin
import Derived.Test.YtklnpooninbogaaGreatMMHeapAlloc
import Derived.Test.YtklnpooninbogaaGreatMMXDel
import Derived.Test.YtklnpooninbogaaGreatMHNext2
import Derived.Test.YtklnpooninbogaaGreatMMHNew
import Derived.Deep.QuietTactic
import Derived.BigQuiet
namespace Go.Proofs.YtklnpooninbogaaGreat
open Go Go.Proofs Go.RowKit
structure Sta (s s' : HS) : Prop where
  cls : s'.cls = s.cls
  parity : s'.parity = s.parity
  edge : s'.edge = s.edge
  top : s'.top = s.top
  x : s'.x = s.x
  len : s'.ws.length = s.ws.length
theorem Sta.refl (s : HS) : Sta s s := ⟨rfl, rfl, rfl, rfl, rfl, rfl⟩
theorem Sta.trans {a b c : HS} (h : Sta a b) (k : Sta b c) : Sta a c := ⟨k.cls.trans h.cls, k.parity.trans h.parity, k.edge.trans h.edge, k.top.trans h.top, k.x.trans h.x, k.len.trans h.len⟩
theorem Sta.tick (s : HS) (n : Int) : Sta s (s.tick n) := ⟨rfl, rfl, rfl, rfl, rfl, rfl⟩
def qOf (cls : List Int) (n : Int) : Option Nat := if ixGe cls n = -1 then none else some (ixGe cls n).toNat
theorem qOf_some {cls : List Int} {n : Int} {j : Nat} (h : qOf cls n = some j) : ixGe cls n = j := by
  unfold qOf at h
  split at h
  · cases h
  · rcases ixGe_cases cls n with h2 | ⟨k, _, h2, _⟩
    · contradiction
    · have := Option.some.inj h; omega
theorem qOf_none {cls : List Int} {n : Int} (h : qOf cls n = none) : ixGe cls n = -1 := by
  unfold qOf at h
  split at h
  · assumption
  · cases h
structure Shd (s s' : HS) (A : Rg) (z : Int → Int) (q : Option Nat) (p : Int) (F1 F2 : List Int) (word : Int) : Prop where
  hi : HI s' (A.up q ⟨(A q).W, F1 ++ F2, (A q).G ++ [p], (A q).B⟩) z
  head : gw s'.ws p = word
  body : ∀ j, 3 ≤ j → j < ln s.cls z q p → gw s'.ws (p + j) = gw s.ws (p + j)
  holds : ∀ q' c, c ∈ (A q').all → (q' ≠ q ∨ c ≠ p) → Holds s s' z q' c
  st : Sta s s'
  u : s.u ≤ s'.u ∧ s'.u ≤ s.u + 14
theorem shW_len (ws : List Int) (r : RS) (c : Int) : (shW ws r c).length = ws.length := by
  unfold shW; split <;> simp [pt_len, ct_len]
theorem hShadeAny (L : HL) (s : HS) (A : Rg) (z : Int → Int) (q : Option Nat) (p : Int) (k n a m : Int) (F1 F2 : List Int) (w : World) (hH : HRep w L s) (hI : HI s A z) (hF : (A q).F = F1 ++ p :: F2)
    (hp : gw s.ws p = packed k n a m) (hd : Hd k n a m) (hd' : Hd k n a s.parity) (hm : ¬ m = s.parity) (hq : q = qOf s.cls n) :
    Calls Tryz.prog 126 #[.pointer (some ⟨L.hb, 0, none⟩), .int .i64 p] w fun e w' => e = .returned (.tuple #[.bool true, .int .i64 0]) ∧ (∃ s', HRep w' L s' ∧ Shd s s' A z q p F1 F2 (packed k n a s.parity)) ∧ Fr L.fp w w' := by
  have hmem : p ∈ (A q).all := by simp [Rows.all, hF]
  have hb := hI.bound hmem
  have hl : (shW (sw s.ws p (packed k n a s.parity)) s.lg p).length = s.ws.length := by rw [shW_len, sw_len]
  cases q with
  | none =>
    obtain ⟨g1, g2⟩ := hI.shadeL hF (packed k n a s.parity)
    have hR := hI.lring
    refine (hShadeLarge L s p k n a m s.lg (.inr (qOf_none hq.symm)) rfl w hH (by omega) (by omega) hp hd hd' hm (by rw [hR.nf, hF]; simp; omega) g1).mono ?_
    rintro e w' ⟨rfl, ⟨u', hu', hH'⟩, hF'⟩
    obtain ⟨h1, h2, h3, h4⟩ := g2 u'
    exact ⟨rfl, ⟨_, hH', h1, h2, h3, h4, ⟨rfl, rfl, rfl, rfl, rfl, by rw [shW_len, sw_len]⟩, hu'⟩, hF'⟩
  | some j =>
    have hj : j < s.rs.length := by
      rcases Nat.lt_or_ge j s.rs.length with h | h
      · exact h
      · rw [hI.out j h] at hmem; cases hmem
    obtain ⟨rb, r, e1, e2, e3, e4⟩ := hH.at (by rw [← hI.nrs]; exact hj)
    obtain ⟨g1, g2⟩ := hI.shadeK e2 hF (packed k n a s.parity)
    have hR := hI.ring j r e2
    have h1 := hI.inn j p hmem
    have h2 := hI.top2
    refine (hShadeSmall L s p k n a m j rb r (qOf_some hq.symm) (by omega) e1 e2 w hH (by omega) (by omega) hp hd hd' hm (by rw [hR.nf, hF]; simp; omega) g1).mono ?_
    rintro e w' ⟨rfl, ⟨u', hu', hH'⟩, hF'⟩
    obtain ⟨h1, h2, h3, h4⟩ := g2 u'
    exact ⟨rfl, ⟨_, hH', h1, h2, h3, h4, ⟨rfl, rfl, rfl, rfl, rfl, by rw [shW_len, sw_len]⟩, hu'⟩, hF'⟩
structure Dne (s s' : HS) (A : Rg) (z : Int → Int) (q : Option Nat) (c : Int) (G : List Int) : Prop where
  hi : HI s' (A.up q ⟨(A q).W, (A q).F, G, c :: (A q).B⟩) z
  ws : s'.ws = s.ws
  st : Sta s s'
  u : s.u ≤ s'.u ∧ s'.u ≤ s.u + 14
theorem hDoneAny (L : HL) (s : HS) (A : Rg) (z : Int → Int) (q : Option Nat) (p c : Int) (k n a m : Int) (G : List Int) (w : World) (hH : HRep w L s) (hI : HI s A z) (hG : (A q).G = G ++ [c])
    (p0 : 0 ≤ p) (p1 : p < s.ws.length) (pe : q = none ∨ p < s.edge) (hp : gw s.ws p = packed k n a m) (hd : Hd k n a m) (hq : q = qOf s.cls n) :
    Calls Tryz.prog 167 #[.pointer (some ⟨L.hb, 0, none⟩), .int .i64 p] w fun e w' => e = .returned (.int .i64 0) ∧ (∃ s', HRep w' L s' ∧ Dne s s' A z q c G) ∧ Fr L.fp w w' := by
  have hmem : c ∈ (A q).all := by simp [Rows.all, hG]
  have hsub : ∀ x ∈ (⟨(A q).W, (A q).F, G, c :: (A q).B⟩ : Rows).all, x ∈ (A q).all := by
    intro x hx
    simp [Rows.all, hG] at hx ⊢
    rcases hx with h | h | h | h | h <;> simp [h]
  cases q with
  | none =>
    have hR := hI.lring
    obtain ⟨o1, o2⟩ := hR.next hG
    refine (hDoneLarge L s p k n a m w hH p0 p1 hp hd (.inr (qOf_none hq.symm)) (by rw [hR.ng, hG]; simp) o1).mono ?_
    rintro e w' ⟨rfl, ⟨u', hu', hH'⟩, hF'⟩
    refine ⟨rfl, ⟨_, hH', ?_, rfl, ⟨rfl, rfl, rfl, rfl, rfl, rfl⟩, hu'⟩, hF'⟩
    have := hI.ringL u' (Same.refl _ _) (hR.done hG) hsub
    simp only [RS.finished, ← o2] at this ⊢
    exact this
  | some j =>
    have hj : j < s.rs.length := by
      rcases Nat.lt_or_ge j s.rs.length with h | h
      · exact h
      · rw [hI.out j h] at hmem; cases hmem
    obtain ⟨rb, r, e1, e2, e3, e4⟩ := hH.at (by rw [← hI.nrs]; exact hj)
    have hR := hI.ring j r e2
    obtain ⟨o1, o2⟩ := hR.next hG
    refine (hDoneSmall L s p k n a m j rb r w hH p0 p1 hp hd (qOf_some hq.symm) (by rcases pe with h | h; (· cases h); (· exact h)) e1 e2 (by rw [hR.ng, hG]; simp) o1).mono ?_
    rintro e w' ⟨rfl, ⟨u', hu', hH'⟩, hF'⟩
    refine ⟨rfl, ⟨_, hH', ?_, rfl, ⟨rfl, rfl, rfl, rfl, rfl, rfl⟩, hu'⟩, hF'⟩
    have := hI.ringK u' (Same.refl _ _) (hR.done hG) hsub
    simp only [RS.finished, ← o2] at this ⊢
    exact this
def Ahead : Option Nat → Option Nat → Prop
  | some j, some k => j < k
  | some _, none => True
  | none, _ => False
def NextRows (L : HL) (s : HS) (A : Rg) (w : World) (e : Ending) (w' : World) : Prop :=
  Fr [L.ab] w w' ∧ ((e = .returned (.tuple #[.int .i64 0, .bool false]) ∧ HRep w' L s ∧ NoG A) ∨
    ∃ q G c, (A q).G = G ++ [c] ∧ (∀ q', Ahead q' q → (A q').G = []) ∧ e = .returned (.tuple #[.int .i64 c, .bool true]) ∧ HRep w' L (s.tick 1))
theorem hNextRows (L : HL) (s : HS) (A : Rg) (z : Int → Int) (w : World) (hH : HRep w L s) (hI : HI s A z) :
    Calls Tryz.prog 166 #[.pointer (some ⟨L.hb, 0, none⟩)] w (NextRows L s A w) := by
  have hgl : ∀ (q : Option Nat) (r : RS), RI s.ws r (A q) → 1 ≤ r.g → ∃ G c, (A q).G = G ++ [c] := by
    intro q r hR hg
    have := hR.ng
    rcases List.eq_nil_or_concat (A q).G with e | ⟨G, c, e⟩
    · rw [e] at this; simp at this; omega
    · exact ⟨G, c, by rw [e, List.concat_eq_append]⟩
  have hzero : ∀ (q : Option Nat) (r : RS), RI s.ws r (A q) → r.g = 0 → (A q).G = [] := fun q r hR hg => List.length_eq_zero_iff.1 (hR.ng.symm.trans hg)
  refine (hNext L s w hH ?_ (ringAt_uniq hH)).mono ?_
  · intro x r hr hg
    obtain ⟨q, hR, _⟩ := ringAt_rows hH hI hr
    obtain ⟨G, c, e⟩ := hgl q r hR hg
    exact (hR.next e).1
  rintro e w' ⟨hF, ⟨rfl, hH', hno⟩ | ⟨pre, x, r, hpre, hno, hr, hg, rfl, hH'⟩⟩
  · refine ⟨hF, .inl ⟨rfl, hH', ?_⟩⟩
    intro q
    by_cases hq : (A q).all = []
    · simp [Rows.all] at hq; exact hq.2.2.1
    · obtain ⟨x, r, hr, hR, hx⟩ := rows_ringAt hH hI q hq
      have hm : x ∈ L.rbs ++ [L.lb] := by
        rcases hx with ⟨rfl, _⟩ | ⟨k, hk, _⟩
        · simp
        · simp [List.mem_of_getElem? hk]
      exact hzero q r hR (hno ⟨x, hm⟩ (List.mem_attach _ _) r hr)
  · obtain ⟨q, hR, hx⟩ := ringAt_rows hH hI hr
    obtain ⟨G, c, e⟩ := hgl q r hR hg
    refine ⟨hF, .inr ⟨q, G, c, e, ?_, by rw [(hR.next e).2], hH'⟩⟩
    intro q' hq'
    have hlen : pre.length < (att L).length := by
      have := hpre.length_le
      simp at this; omega
    have hat : ∀ (i : Nat) (hi : i < pre.length), (att L)[i]'(by omega) = pre[i] := by
      intro i hi
      obtain ⟨t, ht⟩ := hpre
      simp only [← ht]
      rw [List.getElem_append_left (by simp; omega), List.getElem_append_left hi]
    have hatx : (att L)[pre.length] = x := by
      obtain ⟨t, ht⟩ := hpre
      simp only [← ht]
      rw [List.getElem_append_left (by simp), List.getElem_append_right (Nat.le_refl _)]
      simp
    have hxv : (L.rbs ++ [L.lb])[pre.length]'(by simpa [att] using hlen) = x.1 := by rw [← att_get L _ hlen, hatx]
    by_cases hq0 : (A q').all = []
    · simp [Rows.all] at hq0; exact hq0.2.2.1
    obtain ⟨y, ry, hry, hRy, hy⟩ := rows_ringAt hH hI q' hq0
    rcases hy with ⟨_, rfl⟩ | ⟨k', hk', rfl⟩
    · cases hq'
    have hk'l : k' < pre.length := by
      rcases hx with ⟨hxl, rfl⟩ | ⟨k, hk, rfl⟩
      · have h1 := (List.getElem?_eq_some_iff.1 hk').1
        rcases Nat.lt_or_ge pre.length L.rbs.length with h2 | h2
        · rw [List.getElem_append_left h2] at hxv
          exact absurd (hxv.trans hxl) (hH.rapart (List.getElem_mem h2)).2.2.2.1
        · omega
      · have hkk : k' < k := hq'
        rcases Nat.lt_or_ge pre.length L.rbs.length with h2 | h2
        · rw [List.getElem_append_left h2] at hxv
          have : pre.length = k := hH.rinj ((List.getElem?_eq_getElem h2).trans (congrArg some hxv)) hk
          omega
        · have := (List.getElem?_eq_some_iff.1 hk).1
          omega
    have hyv : (pre[k']).1 = y := by
      rw [← hat k' hk'l, att_get, List.getElem_append_left (List.getElem?_eq_some_iff.1 hk').1]
      exact (List.getElem?_eq_some_iff.1 hk').2
    exact hzero _ ry hRy (hno (pre[k']) (List.getElem_mem _) ry (by rw [hyv]; exact hry))
structure Ob where
  q : Option Nat
  p : Int
  k : Int
  n : Nat
  a : Int
  m : Int
def Ob.word (o : Ob) : Int := packed o.k o.n o.a o.m
structure Ob.In (o : Ob) (s : HS) (A : Rg) (z : Int → Int) : Prop where
  mem : o.p ∈ (A o.q).all
  room : o.n + 3 ≤ ln s.cls z o.q o.p
  head : gw s.ws o.p = o.word
  hd : Hd o.k o.n o.a o.m
  ring : o.q = qOf s.cls o.n
def HS.wd (s : HS) (o : Ob) (j : Nat) : Int := gw s.ws (o.p + 3 + j)
def Ob.ne (o o' : Ob) : Prop := o.q ≠ o'.q ∨ o.p ≠ o'.p
theorem Ob.ne.symm {o o' : Ob} (h : o.ne o') : o'.ne o := by rcases h with h | h; (· exact .inl (Ne.symm h)); (· exact .inr (Ne.symm h))
theorem Ob.In.bound {o : Ob} {s : HS} {A : Rg} {z : Int → Int} (h : o.In s A z) (hI : HI s A z) : 1 ≤ o.p ∧ o.p + 3 + o.n ≤ s.ws.length := by
  have := hI.bound h.mem
  have := h.room
  omega
theorem Ob.In.low {o : Ob} {s : HS} {A : Rg} {z : Int → Int} (h : o.In s A z) (hI : HI s A z) : o.q = none ∨ o.p < s.edge := by
  have h1 := h.mem
  cases e : o.q with
  | none => exact .inl rfl
  | some k =>
    rw [e] at h1
    have := hI.inn k _ h1
    have := hI.top2
    have := hI.pos _ _ h1
    right; omega
theorem Ob.In.of {o : Ob} {s s' : HS} {A A' : Rg} {z z' : Int → Int} (h : o.In s A z) (hm : o.p ∈ (A' o.q).all) (hl : ln s'.cls z' o.q o.p = ln s.cls z o.q o.p) (hh : gw s'.ws o.p = gw s.ws o.p) (hc : s'.cls = s.cls) : o.In s' A' z' :=
  ⟨hm, by rw [hl]; exact h.room, hh.trans h.head, h.hd, by rw [hc]; exact h.ring⟩
theorem wd_holds {o : Ob} {s s' : HS} {A : Rg} {z : Int → Int} (h : o.In s A z) (hh : Holds s s' z o.q o.p) {j : Nat} (hj : j < o.n) : s'.wd o j = s.wd o j := by
  have := hh.body (3 + j) (by omega) (by have := h.room; omega)
  unfold HS.wd
  rw [Int.add_assoc]
  exact this
theorem alc_ne {s s' : HS} {A A' : Rg} {z z' : Int → Int} {q : Option Nat} {p word : Int} {n : Nat} (h : Alc s s' A A' z z' q p word n) {q' : Option Nat} {c : Int} (hc : c ∈ (A q').all) (hW : c ∉ (A q').W) : q' ≠ q ∨ c ≠ p := by
  obtain ⟨W, _, hr⟩ := h.row
  by_cases e : q' = q
  · subst e
    refine .inr (fun e2 => ?_)
    subst e2
    rcases hr with hr | ⟨_, hr, _⟩
    · exact hW (by rw [hr]; simp)
    · exact hr hc
  · exact .inl e
theorem Ob.In.alloc {o : Ob} {s s' : HS} {A A' : Rg} {z z' : Int → Int} {q : Option Nat} {p word : Int} {n : Nat} (h : Alc s s' A A' z z' q p word n) (ho : o.In s A z) (hW : o.p ∉ (A o.q).W) : o.In s' A' z' ∧ ∀ j, j < o.n → s'.wd o j = s.wd o j := by
  have hne := alc_ne h ho.mem hW
  have hh := h.holds o.q o.p ho.mem hne
  exact ⟨ho.of (h.old ho.mem) (by rw [h.cls]; exact h.lns _ _ ho.mem) hh.head h.cls, fun j hj => wd_holds ho hh hj⟩
theorem Ob.In.new {s s' : HS} {A A' : Rg} {z z' : Int → Int} {q : Option Nat} {p : Int} {k a m : Int} {n : Nat} (h : Alc s s' A A' z z' q p (packed k n a m) n) (hd : Hd k n a m) : (⟨q, p, k, n, a, m⟩ : Ob).In s' A' z' ∧ ∀ j, j < n → s'.wd ⟨q, p, k, n, a, m⟩ j = 0 := by
  refine ⟨⟨h.mem, by rw [h.cls]; exact h.room, h.head, hd, ?_⟩, fun j hj => h.body j (by omega) (by omega)⟩
  rw [h.cls]; exact h.ring
theorem Ob.In.shade {o : Ob} {s s' : HS} {A : Rg} {z : Int → Int} {q : Option Nat} {p word : Int} {F1 F2 : List Int} (h : Shd s s' A z q p F1 F2 word) (hF : (A q).F = F1 ++ p :: F2) (ho : o.In s A z) (hne : o.q ≠ q ∨ o.p ≠ p) :
    o.In s' (A.up q ⟨(A q).W, F1 ++ F2, (A q).G ++ [p], (A q).B⟩) z ∧ ∀ j, j < o.n → s'.wd o j = s.wd o j := by
  have hh := h.holds o.q o.p ho.mem hne
  refine ⟨ho.of ?_ (by rw [h.st.cls]) hh.head h.st.cls, fun j hj => wd_holds ho hh hj⟩
  have := ho.mem
  by_cases e : o.q = q
  · rw [e] at this ⊢
    rw [Rg.up_same]
    simp [Rows.all, hF] at this ⊢
    rcases this with h | h | h | h | h | h <;> simp [h]
  · rw [Rg.up_ne A e]; exact this
theorem Ob.In.shaded {o : Ob} {s s' : HS} {A : Rg} {z : Int → Int} {F1 F2 : List Int} {m' : Int} (h : Shd s s' A z o.q o.p F1 F2 (packed o.k o.n o.a m')) (ho : o.In s A z) (hd : Hd o.k o.n o.a m') :
    ({ o with m := m' } : Ob).In s' (A.up o.q ⟨(A o.q).W, F1 ++ F2, (A o.q).G ++ [o.p], (A o.q).B⟩) z ∧ ∀ j, j < o.n → s'.wd o j = s.wd o j := by
  refine ⟨⟨?_, by rw [h.st.cls]; exact ho.room, h.head, hd, by rw [h.st.cls]; exact ho.ring⟩, fun j hj => ?_⟩
  · show o.p ∈ _
    rw [Rg.up_same]; simp [Rows.all]
  · have := h.body (3 + j) (by omega) (by have := ho.room; omega)
    unfold HS.wd
    rw [Int.add_assoc]
    exact this
theorem Ob.In.rows {o : Ob} {s s' : HS} {A A' : Rg} {z : Int → Int} (ho : o.In s A z) (hw : s'.ws = s.ws) (hc : s'.cls = s.cls) (hm : ∀ x, x ∈ (A o.q).all → x ∈ (A' o.q).all) : o.In s' A' z ∧ ∀ j, s'.wd o j = s.wd o j :=
  ⟨ho.of (hm _ ho.mem) (by rw [hc]) (by rw [hw]) hc, fun j => by unfold HS.wd; rw [hw]⟩
theorem Ob.In.put {o o' : Ob} {s : HS} {A : Rg} {z : Int → Int} (hI : HI s A z) (ho : o.In s A z) (ho' : o'.In s A z) {j : Nat} (hj : j < o.n) (v n : Int) :
    o'.In (s.put (o.p + 3 + j) v n) A z ∧ (o.ne o' → ∀ i, i < o'.n → (s.put (o.p + 3 + j) v n).wd o' i = s.wd o' i) ∧ (∀ i, i < o.n → (s.put (o.p + 3 + j) v n).wd o i = if i = j then v else s.wd o i) := by
  have b := ho.bound hI
  have b' := ho'.bound hI
  have hr := ho.room
  have hr' := ho'.room
  have hkey : ∀ i : Int, 0 ≤ i → i ≠ o.p + 3 + j → gw (s.put (o.p + 3 + j) v n).ws i = gw s.ws i := fun i hi hne => put_ne _ _ _ _ _ (by omega) (by omega) hi hne
  have hap : o.ne o' → o.p + ln s.cls z o.q o.p ≤ o'.p ∨ o'.p + ln s.cls z o'.q o'.p ≤ o.p := fun h => hI.apart o.q o.p o'.q o'.p ho.mem ho'.mem h
  have hhead : gw (s.put (o.p + 3 + j) v n).ws o'.p = gw s.ws o'.p := by
    refine hkey _ (by omega) ?_
    by_cases e : o.q = o'.q ∧ o.p = o'.p
    · omega
    · have : o.ne o' := by
        by_cases e1 : o.q = o'.q
        · exact .inr (fun e2 => e ⟨e1, e2⟩)
        · exact .inl e1
      have := hap this
      omega
  refine ⟨ho'.of ho'.mem rfl hhead rfl, fun hne i hi => ?_, fun i hi => ?_⟩
  · have := hap hne
    exact hkey _ (by omega) (by omega)
  · by_cases e : i = j
    · subst e; rw [if_pos rfl]; exact put_at _ _ _ _ (by omega) (by omega)
    · rw [if_neg e]; exact hkey _ (by omega) (by omega)
theorem HI.putOb {s : HS} {A : Rg} {z : Int → Int} (hI : HI s A z) {o : Ob} (ho : o.In s A z) {j : Nat} (hj : j < o.n) (v n : Int) : HI (s.put (o.p + 3 + j) v n) A z := by
  have hr := ho.room
  rw [Int.add_assoc]
  exact hI.put ho.mem (.inr ⟨by omega, by omega⟩) v n
theorem Ob.In.turned {o : Ob} {s : HS} {A : Rg} {z : Int → Int} (hI : HI s A z) (ho : o.In s A z) {k' a' : Int} (hd : Hd k' o.n a' o.m) (n : Int) :
    HI (s.put o.p (packed k' o.n a' o.m) n) A z ∧ ({ o with k := k', a := a' } : Ob).In (s.put o.p (packed k' o.n a' o.m) n) A z ∧ (∀ i, i < o.n → (s.put o.p (packed k' o.n a' o.m) n).wd o i = s.wd o i) ∧
    ∀ o' : Ob, o'.In s A z → o.ne o' → o'.In (s.put o.p (packed k' o.n a' o.m) n) A z ∧ ∀ i, i < o'.n → (s.put o.p (packed k' o.n a' o.m) n).wd o' i = s.wd o' i := by
  have b := ho.bound hI
  obtain ⟨h1, h2, h3, h4⟩ := hI.headPut ho.mem (packed k' o.n a' o.m) n
  have hr := ho.room
  refine ⟨h1, ⟨ho.mem, ho.room, h2, hd, ho.ring⟩, fun i hi => ?_, fun o' ho' hne => ?_⟩
  · have := h3 (3 + i) (by omega) (by omega)
    unfold HS.wd
    rw [Int.add_assoc]; exact this
  · have hh := h4 o'.q o'.p ho'.mem hne.symm
    exact ⟨ho'.of ho'.mem rfl hh.head rfl, fun i hi => wd_holds ho' hh hi⟩
def sumK (A : Rg) (n : Nat) (f : Rows → Nat) : Nat := ((List.range n).map (fun k => f (A (some k)))).sum + f (A none)
def Key (n : Nat) (q : Option Nat) : Prop := ∀ k, q = some k → k < n
theorem sum_point (g g' : Nat → Nat) (k : Nat) (h : ∀ j, j ≠ k → g' j = g j) : ∀ n, ((List.range n).map g').sum + (if k < n then g k else 0) = ((List.range n).map g).sum + (if k < n then g' k else 0) := by
  intro n
  induction n with
  | zero => simp
  | succ n ih =>
    simp only [List.range_succ, List.map_append, List.map_cons, List.map_nil, List.sum_append, List.sum_cons, List.sum_nil]
    by_cases e : k = n
    · subst e
      simp at ih ⊢
      omega
    · have := h n (Ne.symm e)
      by_cases e2 : k < n
      · rw [if_pos e2, if_pos e2] at ih
        rw [if_pos (by omega), if_pos (by omega)]; omega
      · rw [if_neg e2, if_neg e2] at ih
        rw [if_neg (by omega), if_neg (by omega)]; omega
theorem sumK_up (A : Rg) (n : Nat) (f : Rows → Nat) (q : Option Nat) (R : Rows) (hq : Key n q) : sumK (A.up q R) n f + f (A q) = sumK A n f + f R := by
  unfold sumK
  cases q with
  | none =>
    have : ∀ k, (A.up none R) (some k) = A (some k) := fun k => Rg.up_ne A (by simp) R
    simp only [this, Rg.up_same]
    omega
  | some k =>
    have h1 := sum_point (fun j => f (A (some j))) (fun j => f ((A.up (some k) R) (some j))) k (fun j hj => by simp only [Rg.up_ne A (show (some j : Option Nat) ≠ some k by simpa using hj) R]) n
    have hk := hq k rfl
    rw [if_pos hk, if_pos hk] at h1
    simp only [Rg.up_same] at h1
    have h2 : (A.up (some k) R) none = A none := Rg.up_ne A (by simp) R
    rw [h2]
    omega
theorem sumK_all {A : Rg} {n : Nat} {f : Rows → Nat} (h : ∀ q, f (A q) = 0) : sumK A n f = 0 := by
  unfold sumK
  have : ((List.range n).map (fun k => f (A (some k)))).sum = 0 := by
    rw [List.sum_eq_zero_iff_forall_eq_nat]
    intro x hx
    obtain ⟨k, _, rfl⟩ := List.mem_map.1 hx
    exact h _
  rw [this, h]
theorem HI.key {s : HS} {A : Rg} {z : Int → Int} (h : HI s A z) {q : Option Nat} {c : Int} (hc : c ∈ (A q).all) : Key s.cls.length q := by
  intro k e
  subst e
  rcases Nat.lt_or_ge k s.cls.length with h1 | h1
  · exact h1
  · rw [h.out k (by rw [h.nrs]; exact h1)] at hc; cases hc
def OVal (s : HS) (o : Ob) : Prop := 0 < o.n → s.wd o (o.n - 1) = 1000 + o.a
structure C1 (s : HS) (A : Rg) (z : Int → Int) (obs : List Ob) : Prop where
  hi : HI s A z
  par : s.parity = 0
  rows : ∀ q, (A q).W = [] ∧ (A q).F = [] ∧ (A q).G = []
  ob : ∀ o ∈ obs, o.In s A z ∧ o.m = 0 ∧ o.k = 7 ∧ OVal s o
  ne : obs.Pairwise Ob.ne
theorem C1.new {W Lg : Nat} {cls : List Int} (hR : RightC W Lg cls) : C1 (HS.new W Lg cls) (fun _ => ⟨[], [], [], []⟩) (fun _ => 0) [] :=
  ⟨HI.new hR, rfl, fun _ => ⟨rfl, rfl, rfl⟩, by simp, List.Pairwise.nil⟩
structure C1a (s : HS) (A : Rg) (z : Int → Int) (obs : List Ob) (o1 : Ob) : Prop where
  c : C1 s A z obs
  o : o1.In s A z
  m : o1.m = 0
  k : o1.k = 7
  ne : ∀ o ∈ obs, o.ne o1
theorem C1.alloc {s s' : HS} {A A' : Rg} {z z' : Int → Int} {obs : List Ob} (h : C1 s A z obs) {q : Option Nat} {p a : Int} {n : Nat} (k : Alc s s' A A' z z' q p (packed 7 n a s.parity) n) (hd : Hd 7 n a 0) : C1a s' A' z' obs ⟨q, p, 7, n, a, 0⟩ := by
  have hp := h.par
  rw [hp] at k
  have hnW : ∀ o ∈ obs, o.p ∉ (A o.q).W := fun o _ hc => by rw [(h.rows o.q).1] at hc; cases hc
  obtain ⟨W, hA, hr⟩ := k.row
  have hW : W = [] := by
    rcases hr with hr | ⟨hr, _⟩
    · rw [(h.rows q).1] at hr; cases hr
    · rw [(h.rows q).1] at hr; exact hr.symm
  refine ⟨⟨k.hi, k.parity.trans hp, ?_, ?_, h.ne⟩, (Ob.In.new k hd).1, rfl, rfl, ?_⟩
  · intro q'
    rw [hA]
    by_cases e : q' = q
    · subst e
      rw [Rg.up_same]
      exact ⟨hW, (h.rows q').2.1, (h.rows q').2.2⟩
    · rw [Rg.up_ne A e]; exact h.rows q'
  · intro o ho
    obtain ⟨o1, o2, o3, o4⟩ := h.ob o ho
    obtain ⟨g1, g2⟩ := o1.alloc k (hnW o ho)
    exact ⟨g1, o2, o3, fun hn => (g2 _ (by omega)).trans (o4 hn)⟩
  · intro o ho
    exact alc_ne k (h.ob o ho).1.mem (hnW o ho)
theorem C1a.zero {s : HS} {A : Rg} {z : Int → Int} {obs : List Ob} {o1 : Ob} (h : C1a s A z obs o1) (hn : o1.n = 0) : C1 s A z (obs ++ [o1]) := by
  refine ⟨h.c.hi, h.c.par, h.c.rows, ?_, ?_⟩
  · intro o ho
    rcases List.mem_append.1 ho with ho | ho
    · exact h.c.ob o ho
    · obtain rfl := List.mem_singleton.1 ho
      exact ⟨h.o, h.m, h.k, fun h0 => by omega⟩
  · rw [List.pairwise_append]
    exact ⟨h.c.ne, List.pairwise_singleton _ _, fun o ho o' ho' => by obtain rfl := List.mem_singleton.1 ho'; exact h.ne o ho⟩
theorem C1a.put {s : HS} {A : Rg} {z : Int → Int} {obs : List Ob} {o1 : Ob} (h : C1a s A z obs o1) (hn : 0 < o1.n) (n : Int) : C1 (s.put (o1.p + 3 + (o1.n - 1 : Nat)) (1000 + o1.a) n) A z (obs ++ [o1]) := by
  refine ⟨h.c.hi.putOb h.o (by omega) _ _, h.c.par, h.c.rows, ?_, ?_⟩
  · intro o ho
    rcases List.mem_append.1 ho with ho | ho
    · obtain ⟨k1, k2, k3, k4⟩ := h.c.ob o ho
      obtain ⟨g1, g2, g3⟩ := Ob.In.put h.c.hi h.o k1 (j := o1.n - 1) (by omega) (1000 + o1.a) n
      exact ⟨g1, k2, k3, fun h0 => (g2 (h.ne o ho).symm _ (by omega)).trans (k4 h0)⟩
    · obtain rfl := List.mem_singleton.1 ho
      obtain ⟨g1, g2, g3⟩ := Ob.In.put h.c.hi h.o h.o (j := o.n - 1) (by omega) (1000 + o.a) n
      exact ⟨g1, h.m, h.k, fun h0 => by have := g3 (o.n - 1) (by omega); rw [if_pos rfl] at this; exact this⟩
  · rw [List.pairwise_append]
    exact ⟨h.c.ne, List.pairwise_singleton _ _, fun o ho o' ho' => by obtain rfl := List.mem_singleton.1 ho'; exact h.ne o ho⟩
def gN (A : Rg) (n : Nat) : Nat := sumK A n (fun R => R.G.length)
def bN (A : Rg) (n : Nat) : Nat := sumK A n (fun R => R.B.length)
def Ob.with (o : Ob) (b : Bool) : Ob := { o with m := if b then 1 else 0 }
theorem Ob.with_false {o : Ob} (h : o.m = 0) : o.with false = o := by cases o; simp [Ob.with] at *; exact h.symm
structure C2 (s : HS) (A : Rg) (z : Int → Int) (obs : List Ob) (kb : Nat → Bool) (i cnt : Nat) : Prop where
  hi : HI s A z
  par : s.parity = 1
  rows : ∀ q, (A q).W = [] ∧ (A q).B = []
  gn : gN A s.cls.length = cnt
  le : cnt ≤ i
  ob : ∀ (j : Nat) (o : Ob), obs[j]? = some o → (o.with (decide (j < i) && kb j)).In s A z ∧ (o.p ∈ (if (decide (j < i) && kb j) = true then (A o.q).G else (A o.q).F)) ∧ OVal s o
  gr : ∀ (q : Option Nat) (c : Int), c ∈ (A q).G → ∃ j o, obs[j]? = some o ∧ kb j = true ∧ j < i ∧ o.q = q ∧ o.p = c
  ne : obs.Pairwise Ob.ne
  kd : ∀ o ∈ obs, o.k = 7
theorem OVal.with {s : HS} {o : Ob} (b : Bool) : OVal s (o.with b) ↔ OVal s o := Iff.rfl
theorem C1.begin {s s' : HS} {A : Rg} {z : Int → Int} {obs : List Ob} (h : C1 s A z obs) (kb : Nat → Bool) (hI : HI s' A.begun z) (hw : s'.ws = s.ws) (hc : s'.cls = s.cls) (hp : s'.parity = 1 - s.parity) : C2 s' A.begun z obs kb 0 0 := by
  have hall : ∀ q x, x ∈ (A q).all → x ∈ (A.begun q).all := by
    intro q x hx
    have := h.rows q
    simp [Rows.all, Rg.begun, this.1, this.2.1, this.2.2] at hx ⊢
    exact hx
  refine ⟨hI, by rw [hp, h.par]; rfl, fun q => ⟨(h.rows q).1, rfl⟩, sumK_all (fun q => rfl), Nat.le_refl _, ?_, ?_, h.ne, fun o ho => (h.ob o ho).2.2.1⟩
  · intro j o hj
    obtain ⟨o1, o2, o3, o4⟩ := h.ob o (List.mem_of_getElem? hj)
    obtain ⟨g1, g2⟩ := o1.rows (A' := A.begun) hw hc (hall o.q)
    have hb : (decide (j < 0) && kb j) = false := by simp
    rw [hb, if_neg (by simp), Ob.with_false o2]
    refine ⟨g1, ?_, fun h0 => (g2 _).trans (o4 h0)⟩
    have := o1.mem
    have hr := h.rows o.q
    simp [Rows.all, hr.1, hr.2.1, hr.2.2] at this
    exact this
  · intro q c hc
    cases hc
theorem C2.skip {s : HS} {A : Rg} {z : Int → Int} {obs : List Ob} {kb : Nat → Bool} {i cnt : Nat} (h : C2 s A z obs kb i cnt) (hk : kb i = false) : C2 s A z obs kb (i + 1) cnt := by
  refine ⟨h.hi, h.par, h.rows, h.gn, by have := h.le; omega, fun j o hj => ?_, fun q c hc => ?_, h.ne, h.kd⟩
  · have := h.ob j o hj
    by_cases e : j = i
    · subst e
      have e1 : (decide (j < j) && kb j) = (decide (j < j + 1) && kb j) := by simp [hk]
      rw [e1] at this; exact this
    · have e1 : (decide (j < i) && kb j) = (decide (j < i + 1) && kb j) := by
        have : (j < i) ↔ (j < i + 1) := by omega
        simp only [this]
      rw [e1] at this; exact this
  · obtain ⟨j, o, h1, h2, h3, h4⟩ := h.gr q c hc
    exact ⟨j, o, h1, h2, by omega, h4⟩
theorem C2.shade {s s' : HS} {A : Rg} {z : Int → Int} {obs : List Ob} {kb : Nat → Bool} {i cnt : Nat} (h : C2 s A z obs kb i cnt) (hk : kb i = true) {o : Ob} (ho : obs[i]? = some o) {F1 F2 : List Int} (hF : (A o.q).F = F1 ++ o.p :: F2)
    (k : Shd s s' A z o.q o.p F1 F2 (packed o.k o.n o.a s.parity)) : C2 s' (A.up o.q ⟨(A o.q).W, F1 ++ F2, (A o.q).G ++ [o.p], (A o.q).B⟩) z obs kb (i + 1) (cnt + 1) := by
  obtain ⟨o1, o2, o3⟩ := h.ob i o ho
  have hb : (decide (i < i) && kb i) = false := by simp
  rw [hb] at o1 o2
  rw [h.par] at k
  have hkey := h.hi.key o1.mem
  refine ⟨k.hi, k.st.parity.trans h.par, ?_, ?_, by have := h.le; omega, ?_, ?_, h.ne, h.kd⟩
  · intro q
    by_cases e : q = o.q
    · subst e; rw [Rg.up_same]; exact h.rows o.q
    · rw [Rg.up_ne A e]; exact h.rows q
  · have := sumK_up A s.cls.length (fun R => R.G.length) o.q ⟨(A o.q).W, F1 ++ F2, (A o.q).G ++ [o.p], (A o.q).B⟩ hkey
    have hg := h.gn
    unfold gN at hg ⊢
    rw [k.st.cls]
    simp only [List.length_append, List.length_cons, List.length_nil] at this
    omega
  · intro j o' hj
    by_cases e : j = i
    · subst e
      rw [ho] at hj; cases hj
      have e1 : (decide (j < j + 1) && kb j) = true := by simp [hk]
      rw [e1, if_pos rfl]
      have hd : Hd o.k o.n o.a 1 := ⟨o1.hd.k0, o1.hd.k1, by decide, by decide, o1.hd.s0, o1.hd.s1, o1.hd.a0, o1.hd.a1⟩
      obtain ⟨g1, g2⟩ := Ob.In.shaded (o := o.with false) (m' := 1) k o1 hd
      refine ⟨g1, ?_, fun h0 => (g2 _ (by show o.n - 1 < o.n; omega)).trans (o3 h0)⟩
      rw [Rg.up_same]; simp
    · have e1 : (decide (j < i + 1) && kb j) = (decide (j < i) && kb j) := by
        have : (j < i + 1) ↔ (j < i) := by omega
        simp only [this]
      rw [e1]
      obtain ⟨p1, p2, p3⟩ := h.ob j o' hj
      have hne : o'.ne o := by
        have hp := List.pairwise_iff_getElem.1 h.ne
        obtain ⟨li, rfl⟩ := List.getElem?_eq_some_iff.1 ho
        obtain ⟨lj, rfl⟩ := List.getElem?_eq_some_iff.1 hj
        rcases Nat.lt_or_gt_of_ne e with h1 | h1
        · exact hp j i lj li h1
        · exact (hp i j li lj h1).symm
      obtain ⟨g1, g2⟩ := Ob.In.shade k hF p1 hne
      refine ⟨g1, ?_, fun h0 => (g2 _ (by show o'.n - 1 < o'.n; omega)).trans (p3 h0)⟩
      by_cases e2 : o'.q = o.q
      · have hpne : o'.p ≠ o.p := by
          rcases hne with h1 | h1
          · exact absurd e2 h1
          · exact h1
        rw [e2] at p2 ⊢
        rw [Rg.up_same]
        split
        · rename_i hb'
          rw [if_pos hb'] at p2
          simp only [List.mem_append]; exact .inl p2
        · rename_i hb'
          rw [if_neg hb', hF] at p2
          simp only [List.mem_append, List.mem_cons] at p2 ⊢
          rcases p2 with h1 | h1 | h1
          · exact .inl h1
          · exact absurd h1 hpne
          · exact .inr h1
      · rw [Rg.up_ne A e2]; exact p2
  · intro q c hc
    by_cases e : q = o.q
    · subst e
      rw [Rg.up_same] at hc
      simp only [List.mem_append, List.mem_singleton] at hc
      rcases hc with hc | rfl
      · obtain ⟨j, o', h1, h2, h3, h4⟩ := h.gr _ c hc
        exact ⟨j, o', h1, h2, by omega, h4⟩
      · exact ⟨i, o, ho, hk, by omega, rfl, rfl⟩
    · rw [Rg.up_ne A e] at hc
      obtain ⟨j, o', h1, h2, h3, h4⟩ := h.gr _ c hc
      exact ⟨j, o', h1, h2, by omega, h4⟩
structure C3 (s : HS) (A : Rg) (z : Int → Int) (obs : List Ob) (kb : Nat → Bool) (cnt k : Nat) : Prop where
  hi : HI s A z
  par : s.parity = 1
  sum : gN A s.cls.length + bN A s.cls.length = cnt
  gn : gN A s.cls.length + k ≤ cnt ∨ gN A s.cls.length = 0
  ob : ∀ (j : Nat) (o : Ob), obs[j]? = some o → kb j = true → (o.with true).In s A z ∧ OVal s o
  gr : ∀ (q : Option Nat) (c : Int), c ∈ (A q).G → ∃ j o, obs[j]? = some o ∧ kb j = true ∧ o.q = q ∧ o.p = c
theorem C3.none {s : HS} {A : Rg} {z : Int → Int} {obs : List Ob} {kb : Nat → Bool} {cnt k : Nat} (h : C3 s A z obs kb cnt k) (hno : NoG A) : C3 s A z obs kb cnt (k + 1) :=
  ⟨h.hi, h.par, h.sum, .inr (sumK_all (fun q => by rw [hno q]; rfl)), h.ob, h.gr⟩
theorem C3.tick {s : HS} {A : Rg} {z : Int → Int} {obs : List Ob} {kb : Nat → Bool} {cnt k : Nat} (h : C3 s A z obs kb cnt k) (n : Int) : C3 (s.tick n) A z obs kb cnt k :=
  ⟨h.hi.tick n, h.par, h.sum, h.gn, fun j o hj hk => by obtain ⟨a, b⟩ := h.ob j o hj hk; exact ⟨⟨a.mem, a.room, a.head, a.hd, a.ring⟩, b⟩, h.gr⟩
theorem C3.done {s s' : HS} {A : Rg} {z : Int → Int} {obs : List Ob} {kb : Nat → Bool} {cnt k : Nat} (h : C3 s A z obs kb cnt k) {q : Option Nat} {c : Int} {G : List Int} (hG : (A q).G = G ++ [c]) (d : Dne s s' A z q c G) : C3 s' (A.up q ⟨(A q).W, (A q).F, G, c :: (A q).B⟩) z obs kb cnt (k + 1) := by
  have hkey : Key s.cls.length q := h.hi.key (c := c) (by simp [Rows.all, hG])
  have s1 := sumK_up A s.cls.length (fun R => R.G.length) q ⟨(A q).W, (A q).F, G, c :: (A q).B⟩ hkey
  have s2 := sumK_up A s.cls.length (fun R => R.B.length) q ⟨(A q).W, (A q).F, G, c :: (A q).B⟩ hkey
  simp only [hG, List.length_append, List.length_cons, List.length_nil] at s1 s2
  have hs := h.sum
  have hg := h.gn
  unfold gN at hg
  unfold gN bN at hs
  refine ⟨d.hi, d.st.parity.trans h.par, ?_, ?_, ?_, ?_⟩
  · unfold gN bN; rw [d.st.cls]; omega
  · unfold gN; rw [d.st.cls]
    rcases hg with hg | hg
    · left; omega
    · right
      omega
  · intro j o hj hk
    obtain ⟨o1, o2⟩ := h.ob j o hj hk
    obtain ⟨g1, g2⟩ := o1.rows (A' := A.up q ⟨(A q).W, (A q).F, G, c :: (A q).B⟩) d.ws d.st.cls (fun x hx => by
      by_cases e : (o.with true).q = q
      · rw [e] at hx ⊢
        rw [Rg.up_same]
        simp [Rows.all, hG] at hx ⊢
        rcases hx with h | h | h | h | h <;> simp [h]
      · rw [Rg.up_ne A e]; exact hx)
    exact ⟨g1, fun h0 => (g2 _).trans (o2 h0)⟩
  · intro q' c' hc
    by_cases e : q' = q
    · subst e
      rw [Rg.up_same] at hc
      exact h.gr q' c' (by rw [hG]; simp only [List.mem_append]; exact .inl hc)
    · rw [Rg.up_ne A e] at hc; exact h.gr q' c' hc
theorem C3.end' {s s' : HS} {A : Rg} {z : Int → Int} {obs : List Ob} {kb : Nat → Bool} {cnt k : Nat} (h : C3 s A z obs kb cnt k) (hno : NoG A) (hw : s'.ws = s.ws) (hc : s'.cls = s.cls) : ∀ (j : Nat) (o : Ob), obs[j]? = some o → kb j = true → (o.with true).In s' A.ended z ∧ OVal s' o := by
  intro j o hj hk
  obtain ⟨o1, o2⟩ := h.ob j o hj hk
  obtain ⟨g1, g2⟩ := o1.rows (A' := A.ended) hw hc (fun x hx => by
    have hG := hno (o.with true).q
    simp [Rows.all, Rg.ended, hG] at hx ⊢
    rcases hx with h | h | h <;> simp [h])
  exact ⟨g1, fun h0 => (g2 _).trans (o2 h0)⟩
def Mkd (A : Rg) (o : Ob) : Prop := o.p ∈ (A o.q).G ∨ o.p ∈ (A o.q).B
def Ob.wm (o : Ob) (m : Int) : Ob := { o with m := m }
theorem rows_nodup {s : HS} {A : Rg} {z : Int → Int} (h : HI s A z) (q : Option Nat) : (A q).all.Nodup := by
  cases q with
  | none => exact h.lring.cells.nodup
  | some k =>
    rcases Nat.lt_or_ge k s.rs.length with hk | hk
    · exact (h.ring k _ (List.getElem?_eq_getElem hk)).cells.nodup
    · rw [h.out k hk]; exact List.nodup_nil
theorem rows_fm {s : HS} {A : Rg} {z : Int → Int} (h : HI s A z) {q : Option Nat} {c : Int} (hF : c ∈ (A q).F) : c ∉ (A q).G ∧ c ∉ (A q).B := by
  have hn := rows_nodup h q
  unfold Rows.all at hn
  rw [List.nodup_append] at hn
  have h2 := hn.2.1
  rw [List.nodup_append] at h2
  exact ⟨fun hc => h2.2.2 c hF c (List.mem_append.2 (.inl hc)) rfl, fun hc => h2.2.2 c hF c (List.mem_append.2 (.inr hc)) rfl⟩
theorem rows_gb {s : HS} {A : Rg} {z : Int → Int} (h : HI s A z) {q : Option Nat} {c : Int} (hG : c ∈ (A q).G) : c ∉ (A q).B := by
  have hn := rows_nodup h q
  unfold Rows.all at hn
  rw [List.nodup_append] at hn
  have h2 := hn.2.1
  rw [List.nodup_append] at h2
  have h3 := h2.2.1
  rw [List.nodup_append] at h3
  exact fun hc => h3.2.2 c hG c hc rfl
structure MH (s : HS) (A : Rg) (z : Int → Int) (obs : List Ob) : Prop where
  hi : HI s A z
  par : s.parity = 0 ∨ s.parity = 1
  inn : ∀ o ∈ obs, (o.p ∈ (A o.q).F ∧ (o.wm (1 - s.parity)).In s A z) ∨ (Mkd A o ∧ (o.wm s.parity).In s A z)
  rows : ∀ q c, (c ∈ (A q).F ∨ c ∈ (A q).G ∨ c ∈ (A q).B) → ∃ o ∈ obs, o.q = q ∧ o.p = c
  nd : (obs.map Ob.p).Nodup
theorem nodup_inj {α β : Type} {f : α → β} : ∀ {l : List α}, (l.map f).Nodup → ∀ x ∈ l, ∀ y ∈ l, f x = f y → x = y := by
  intro l
  induction l with
  | nil => intro _ x hx; cases hx
  | cons a l ih =>
    intro h x hx y hy e
    rw [List.map_cons, List.nodup_cons] at h
    rcases List.mem_cons.1 hx with ex | hx' <;> rcases List.mem_cons.1 hy with ey | hy'
    · exact ex.trans ey.symm
    · exact absurd (List.mem_map.2 ⟨y, hy', by rw [← e, ex]⟩) h.1
    · exact absurd (List.mem_map.2 ⟨x, hx', by rw [e, ey]⟩) h.1
    · exact ih h.2 x hx' y hy' e
theorem MH.one {s : HS} {A : Rg} {z : Int → Int} {obs : List Ob} (h : MH s A z obs) {o o' : Ob} (ho : o ∈ obs) (ho' : o' ∈ obs) (e : o.p = o'.p) : o = o' := nodup_inj h.nd o ho o' ho' e
theorem MH.hd {s : HS} {A : Rg} {z : Int → Int} {obs : List Ob} (h : MH s A z obs) {o : Ob} (ho : o ∈ obs) (m : Int) (hm : m = 0 ∨ m = 1) : Hd o.k o.n o.a m := by
  rcases h.inn o ho with ⟨_, h1⟩ | ⟨_, h1⟩
  · have := h1.hd; exact ⟨this.k0, this.k1, by omega, by omega, this.s0, this.s1, this.a0, this.a1⟩
  · have := h1.hd; exact ⟨this.k0, this.k1, by omega, by omega, this.s0, this.s1, this.a0, this.a1⟩
theorem MH.any {s : HS} {A : Rg} {z : Int → Int} {obs : List Ob} (h : MH s A z obs) {o : Ob} (ho : o ∈ obs) : ∃ m, (o.wm m).In s A z := by
  rcases h.inn o ho with ⟨_, h1⟩ | ⟨_, h1⟩
  · exact ⟨_, h1⟩
  · exact ⟨_, h1⟩
theorem MH.tick {s : HS} {A : Rg} {z : Int → Int} {obs : List Ob} (h : MH s A z obs) (n : Int) : MH (s.tick n) A z obs :=
  { hi := h.hi.tick n, par := h.par, rows := h.rows, nd := h.nd,
    inn := fun o ho => by
      rcases h.inn o ho with ⟨h1, h2⟩ | ⟨h1, h2⟩
      · exact .inl ⟨h1, h2.of h2.mem rfl rfl rfl⟩
      · exact .inr ⟨h1, h2.of h2.mem rfl rfl rfl⟩ }
theorem MH.shade {s s' : HS} {A : Rg} {z : Int → Int} {obs : List Ob} (h : MH s A z obs) {o : Ob} (ho : o ∈ obs) {F1 F2 : List Int} (hF : (A o.q).F = F1 ++ o.p :: F2)
    (hs : Shd s s' A z o.q o.p F1 F2 (packed o.k o.n o.a s.parity)) :
    MH s' (A.up o.q ⟨(A o.q).W, F1 ++ F2, (A o.q).G ++ [o.p], (A o.q).B⟩) z obs ∧ (∀ o' ∈ obs, ∀ j, j < o'.n → s'.wd o' j = s.wd o' j) ∧
    (∀ o' ∈ obs, Mkd (A.up o.q ⟨(A o.q).W, F1 ++ F2, (A o.q).G ++ [o.p], (A o.q).B⟩) o' ↔ Mkd A o' ∨ o' = o) := by
  have hpF : o.p ∈ (A o.q).F := by rw [hF]; simp
  have hin : (o.wm (1 - s.parity)).In s A z := by
    rcases h.inn o ho with ⟨_, h1⟩ | ⟨h1, _⟩
    · exact h1
    · have := rows_fm h.hi hpF
      rcases h1 with h1 | h1
      · exact absurd h1 this.1
      · exact absurd h1 this.2
  have hd := h.hd ho s.parity h.par
  obtain ⟨r1, r2⟩ := Ob.In.shaded (o := o.wm (1 - s.parity)) hs hin hd
  have hmk : ∀ o' ∈ obs, Mkd (A.up o.q ⟨(A o.q).W, F1 ++ F2, (A o.q).G ++ [o.p], (A o.q).B⟩) o' ↔ Mkd A o' ∨ o' = o := by
    intro o' ho'
    unfold Mkd
    by_cases eq : o'.q = o.q
    · rw [eq, Rg.up_same]
      simp only [List.mem_append, List.mem_singleton]
      constructor
      · rintro ((h1 | h1) | h1)
        · exact .inl (.inl h1)
        · exact .inr (h.one ho' ho h1)
        · exact .inl (.inr h1)
      · rintro ((h1 | h1) | rfl)
        · exact .inl (.inl h1)
        · exact .inr h1
        · exact .inl (.inr rfl)
    · rw [Rg.up_ne A eq]
      constructor
      · exact .inl
      · rintro (h1 | rfl)
        · exact h1
        · exact absurd rfl eq
  refine ⟨{ hi := hs.hi, par := by rw [hs.st.parity]; exact h.par, nd := h.nd, rows := ?_, inn := ?_ }, ?_, hmk⟩
  · intro o' ho'
    by_cases e : o' = o
    · subst e
      refine .inr ⟨(hmk o' ho').2 (.inr rfl), ?_⟩
      rw [hs.st.parity]
      exact r1
    · have hp : o'.p ≠ o.p := fun hp => e (h.one ho' ho hp)
      rw [hs.st.parity]
      rcases h.inn o' ho' with ⟨h1, h2⟩ | ⟨h1, h2⟩
      · refine .inl ⟨?_, (h2.shade hs hF (.inr hp)).1⟩
        by_cases eq : o'.q = o.q
        · rw [eq] at h1 ⊢
          rw [Rg.up_same]
          rw [hF] at h1
          simp only [List.mem_append, List.mem_cons] at h1 ⊢
          rcases h1 with h1 | h1 | h1
          · exact .inl h1
          · exact absurd h1 hp
          · exact .inr h1
        · rw [Rg.up_ne A eq]; exact h1
      · exact .inr ⟨(hmk o' ho').2 (.inl h1), (h2.shade hs hF (.inr hp)).1⟩
  · intro q c hc
    by_cases eq : q = o.q
    · subst eq
      rw [Rg.up_same] at hc
      simp only [List.mem_append, List.mem_singleton] at hc
      rcases hc with (h1 | h1) | (h1 | h1) | h1
      · exact h.rows _ c (.inl (by rw [hF]; simp [h1]))
      · exact h.rows _ c (.inl (by rw [hF]; simp [h1]))
      · exact h.rows _ c (.inr (.inl h1))
      · exact ⟨o, ho, rfl, h1.symm⟩
      · exact h.rows _ c (.inr (.inr h1))
    · rw [Rg.up_ne A eq] at hc
      exact h.rows q c hc
  · intro o' ho' j hj
    by_cases e : o' = o
    · subst e; exact r2 j hj
    · have hp : o'.p ≠ o.p := fun hp => e (h.one ho' ho hp)
      obtain ⟨m, hm⟩ := h.any ho'
      exact (hm.shade hs hF (.inr hp)).2 j hj
theorem MH.done {s s' : HS} {A : Rg} {z : Int → Int} {obs : List Ob} (h : MH s A z obs) {q : Option Nat} {c : Int} {G : List Int} (hG : (A q).G = G ++ [c]) (hs : Dne s s' A z q c G) :
    MH s' (A.up q ⟨(A q).W, (A q).F, G, c :: (A q).B⟩) z obs ∧ (∀ o' ∈ obs, ∀ j, s'.wd o' j = s.wd o' j) ∧
    (∀ o' ∈ obs, Mkd (A.up q ⟨(A q).W, (A q).F, G, c :: (A q).B⟩) o' ↔ Mkd A o') ∧ ∃ o ∈ obs, o.q = q ∧ o.p = c ∧ ∀ o' ∈ obs, (o'.p ∈ ((A.up q ⟨(A q).W, (A q).F, G, c :: (A q).B⟩) o'.q).B ↔ o'.p ∈ (A o'.q).B ∨ o' = o) := by
  obtain ⟨o, ho, rfl, rfl⟩ := h.rows q c (.inr (.inl (by rw [hG]; simp)))
  have hmk : ∀ o' ∈ obs, Mkd (A.up o.q ⟨(A o.q).W, (A o.q).F, G, o.p :: (A o.q).B⟩) o' ↔ Mkd A o' := by
    intro o' ho'
    unfold Mkd
    by_cases eq : o'.q = o.q
    · rw [eq, Rg.up_same, hG]
      simp only [List.mem_append, List.mem_cons, List.not_mem_nil, or_false]
      constructor
      · rintro (h1 | h1 | h1)
        · exact .inl (.inl h1)
        · exact .inl (.inr h1)
        · exact .inr h1
      · rintro ((h1 | h1) | h1)
        · exact .inl h1
        · exact .inr (.inl h1)
        · exact .inr (.inr h1)
    · rw [Rg.up_ne A eq]
  have hin : ∀ {o' : Ob}, o'.In s A z → o'.In s' (A.up o.q ⟨(A o.q).W, (A o.q).F, G, o.p :: (A o.q).B⟩) z := by
    intro o' hi
    refine (hi.rows hs.ws hs.st.cls (fun x hx => ?_)).1
    by_cases eq : o'.q = o.q
    · rw [eq] at hx ⊢
      rw [Rg.up_same]
      simp [Rows.all, hG] at hx ⊢
      rcases hx with h | h | h | h | h <;> simp [h]
    · rw [Rg.up_ne A eq]; exact hx
  refine ⟨{ hi := hs.hi, par := by rw [hs.st.parity]; exact h.par, nd := h.nd, rows := ?_, inn := ?_ }, fun o' _ j => by unfold HS.wd; rw [hs.ws], hmk, o, ho, rfl, rfl, ?_⟩
  · intro o' ho'
    rw [hs.st.parity]
    rcases h.inn o' ho' with ⟨h1, h2⟩ | ⟨h1, h2⟩
    · refine .inl ⟨?_, hin h2⟩
      by_cases eq : o'.q = o.q
      · rw [eq] at h1 ⊢; rw [Rg.up_same]; exact h1
      · rw [Rg.up_ne A eq]; exact h1
    · exact .inr ⟨(hmk o' ho').2 h1, hin h2⟩
  · intro q c hc
    by_cases eq : q = o.q
    · subst eq
      rw [Rg.up_same] at hc
      simp only [List.mem_cons] at hc
      rcases hc with h1 | h1 | h1 | h1
      · exact h.rows _ c (.inl h1)
      · exact h.rows _ c (.inr (.inl (by rw [hG]; simp [h1])))
      · exact ⟨o, ho, rfl, h1.symm⟩
      · exact h.rows _ c (.inr (.inr h1))
    · rw [Rg.up_ne A eq] at hc
      exact h.rows q c hc
  · intro o' ho'
    by_cases eq : o'.q = o.q
    · rw [eq, Rg.up_same]
      simp only [List.mem_cons]
      constructor
      · rintro (h1 | h1)
        · exact .inr (h.one ho' ho h1)
        · exact .inl h1
      · rintro (h1 | rfl)
        · exact .inr h1
        · exact .inl rfl
    · rw [Rg.up_ne A eq]
      constructor
      · exact .inl
      · rintro (h1 | rfl)
        · exact h1
        · exact absurd rfl eq
def lkF (k : Int) : Nat := if k = 9 then 1 else if k = 10 then 2 else 0
def lkT (k : Int) (n : Nat) : Nat := if k = 1 ∨ k = 2 ∨ k = 3 ∨ k = 4 then n else if k = 5 then min 1 n else if k = 9 ∨ k = 10 then min 4 n else 0
def Ob.f (o : Ob) : Nat := lkF o.k
def Ob.t (o : Ob) : Nat := lkT o.k o.n
def Lk (o : Ob) (j : Nat) : Prop := o.f ≤ j ∧ j < o.t
def nl (o : Ob) : Nat := o.t - o.f
theorem lkT_le (k : Int) (n : Nat) : lkT k n ≤ n := by unfold lkT; split <;> (try split) <;> (try split) <;> omega
theorem Lk.lt {o : Ob} {j : Nat} (h : Lk o j) : j < o.n := Nat.lt_of_lt_of_le h.2 (lkT_le _ _)
structure MG where
  R : Int → Prop
  W0 : Int → Nat → Int
  S : Int → Prop
open Classical in
noncomputable def pot (A : Rg) (g : MG) (obs : List Ob) : Nat := (obs.map fun o => if g.S o.p ∧ o.p ∉ (A o.q).B then 1 + nl o else 0).sum
def Rem (A : Rg) (obs : List Ob) (a : Int) (nx r : Nat) : Prop := (a = 0 ∧ r = 0) ∨ (∃ o ∈ obs, o.p = a ∧ o.p ∈ (A o.q).B ∧ r = o.t - max o.f nx)
theorem ite_iff {p q : Prop} {dp : Decidable p} {dq : Decidable q} (h : p ↔ q) (a b : Nat) : (if p then a else b) = if q then a else b := by
  by_cases hq : q
  · rw [if_pos hq, if_pos (h.2 hq)]
  · rw [if_neg hq, if_neg (fun hp => hq (h.1 hp))]
theorem pot_congr {A A' : Rg} (h : ∀ q, (A' q).B = (A q).B) (g : MG) (obs : List Ob) : pot A' g obs = pot A g obs := by
  unfold pot
  congr 1
  exact List.map_congr_left (fun o _ => ite_iff (by rw [h]) _ _)
theorem Rem.congr {A A' : Rg} (h : ∀ q, (A' q).B = (A q).B) {obs : List Ob} {a : Int} {nx r : Nat} (hr : Rem A obs a nx r) : Rem A' obs a nx r := by
  rcases hr with h1 | ⟨o, h1, h2, h3, h4⟩
  · exact .inl h1
  · exact .inr ⟨o, h1, h2, by rw [h]; exact h3, h4⟩
structure MI (s : HS) (A : Rg) (z : Int → Int) (obs : List Ob) (g : MG) (a : Int) (nx U : Nat) : Prop where
  mh : MH s A z obs
  wd : ∀ o ∈ obs, ∀ j, Lk o j → s.wd o j = 0 ∨ ∃ o' ∈ obs, o'.p = s.wd o j
  mS : ∀ o ∈ obs, Mkd A o → g.S o.p
  cS : ∀ o ∈ obs, g.S o.p → ∀ j, Lk o j → ∀ o' ∈ obs, o'.p = s.wd o j → g.S o'.p
  edge : ∀ o ∈ obs, g.R o.p → ∀ j, Lk o j → ∀ o' ∈ obs, o'.p = g.W0 o.p j → Mkd A o' ∨ (s.wd o j = g.W0 o.p j ∧ (o.p ∈ (A o.q).B → o.p = a ∧ nx ≤ j))
  u : ∃ r, Rem A obs a nx r ∧ U = pot A g obs + r
theorem MI.tick {s : HS} {A : Rg} {z : Int → Int} {obs : List Ob} {g : MG} {a : Int} {nx U : Nat} (h : MI s A z obs g a nx U) (n : Int) : MI (s.tick n) A z obs g a nx U :=
  ⟨h.mh.tick n, h.wd, h.mS, h.cS, h.edge, h.u⟩
theorem MI.shade {s s' : HS} {A : Rg} {z : Int → Int} {obs : List Ob} {g : MG} {a : Int} {nx U : Nat} (h : MI s A z obs g a nx U) {o : Ob} (ho : o ∈ obs) {F1 F2 : List Int} (hF : (A o.q).F = F1 ++ o.p :: F2)
    (hs : Shd s s' A z o.q o.p F1 F2 (packed o.k o.n o.a s.parity)) (hS : g.S o.p) :
    MI s' (A.up o.q ⟨(A o.q).W, F1 ++ F2, (A o.q).G ++ [o.p], (A o.q).B⟩) z obs g a nx U ∧ (∀ o' ∈ obs, Mkd (A.up o.q ⟨(A o.q).W, F1 ++ F2, (A o.q).G ++ [o.p], (A o.q).B⟩) o' ↔ Mkd A o' ∨ o' = o) ∧ (∀ o' ∈ obs, ∀ j, j < o'.n → s'.wd o' j = s.wd o' j) := by
  obtain ⟨m1, m2, m3⟩ := h.mh.shade ho hF hs
  have hB : ∀ q, ((A.up o.q ⟨(A o.q).W, F1 ++ F2, (A o.q).G ++ [o.p], (A o.q).B⟩) q).B = (A q).B := by
    intro q
    by_cases eq : q = o.q
    · subst eq; rw [Rg.up_same]
    · rw [Rg.up_ne A eq]
  refine ⟨⟨m1, fun o' ho' j hj => ?_, fun o' ho' hm => ?_, fun o' ho' h1 j hj o2 ho2 e => ?_, fun o' ho' hR j hj o2 ho2 e => ?_, ?_⟩, m3, m2⟩
  · rw [m2 o' ho' j hj.lt]; exact h.wd o' ho' j hj
  · rcases (m3 o' ho').1 hm with h1 | rfl
    · exact h.mS o' ho' h1
    · exact hS
  · rw [m2 o' ho' j hj.lt] at e; exact h.cS o' ho' h1 j hj o2 ho2 e
  · rw [m2 o' ho' j hj.lt, hB]
    rcases h.edge o' ho' hR j hj o2 ho2 e with h1 | h1
    · exact .inl ((m3 o2 ho2).2 (.inl h1))
    · exact .inr h1
  · obtain ⟨r, h1, h2⟩ := h.u
    exact ⟨r, h1.congr hB, by rw [pot_congr hB]; exact h2⟩
theorem MI.adv {s : HS} {A : Rg} {z : Int → Int} {obs : List Ob} {g : MG} {a : Int} {nx U : Nat} (h : MI s A z obs g a nx U) {o : Ob} (ho : o ∈ obs) (hp : o.p = a) (a0 : a ≠ 0) (hk : max o.f nx < o.t)
    (hm : ∀ o' ∈ obs, o'.p = s.wd o (max o.f nx) → Mkd A o') : 1 ≤ U ∧ MI s A z obs g a (max o.f nx + 1) (U - 1) := by
  obtain ⟨r, h1, h2⟩ := h.u
  have hr : r = o.t - max o.f nx ∧ o.p ∈ (A o.q).B := by
    rcases h1 with ⟨h1, _⟩ | ⟨o', ho', e, hb, h1⟩
    · exact absurd h1 a0
    · have := h.mh.one ho' ho (e.trans hp.symm)
      subst this
      exact ⟨h1, hb⟩
  refine ⟨by omega, ⟨h.mh, h.wd, h.mS, h.cS, fun o' ho' hR j hj o2 ho2 e => ?_, ⟨r - 1, .inr ⟨o, ho, hp, hr.2, ?_⟩, by omega⟩⟩⟩
  · rcases h.edge o' ho' hR j hj o2 ho2 e with h3 | ⟨h3, h4⟩
    · exact .inl h3
    · by_cases hc : o'.p = a ∧ j = max o.f nx
      · obtain ⟨c1, c2⟩ := hc
        have := h.mh.one ho' ho (c1.trans hp.symm)
        subst this
        subst c2
        exact .inl (hm o2 ho2 (e.trans h3.symm))
      · refine .inr ⟨h3, fun hB => ?_⟩
        obtain ⟨k1, k2⟩ := h4 hB
        refine ⟨k1, ?_⟩
        have := h.mh.one ho' ho (k1.trans hp.symm)
        subst this
        have := hj.1
        have : j ≠ max o'.f nx := fun e => hc ⟨k1, e⟩
        omega
  · have := hr.1; omega
theorem MI.close {s : HS} {A : Rg} {z : Int → Int} {obs : List Ob} {g : MG} {a : Int} {nx U : Nat} (h : MI s A z obs g a nx U) {o : Ob} (ho : o ∈ obs) (hp : o.p = a) (a0 : a ≠ 0) (hk : ¬ max o.f nx < o.t) : MI s A z obs g 0 0 U := by
  obtain ⟨r, h1, h2⟩ := h.u
  have hr : r = 0 := by
    rcases h1 with ⟨h1, _⟩ | ⟨o', ho', e, hb, h1⟩
    · exact absurd h1 a0
    · have := h.mh.one ho' ho (e.trans hp.symm)
      subst this
      omega
  refine ⟨h.mh, h.wd, h.mS, h.cS, fun o' ho' hR j hj o2 ho2 e => ?_, ⟨0, .inl ⟨rfl, rfl⟩, by omega⟩⟩
  rcases h.edge o' ho' hR j hj o2 ho2 e with h3 | ⟨h3, h4⟩
  · exact .inl h3
  · refine .inr ⟨h3, fun hB => ?_⟩
    obtain ⟨k1, k2⟩ := h4 hB
    have := h.mh.one ho' ho (k1.trans hp.symm)
    subst this
    have := hj.1
    have := hj.2
    omega
theorem sum_turn {f f' : Ob → Nat} {o : Ob} : ∀ {l : List Ob}, l.Nodup → o ∈ l → (∀ x ∈ l, x ≠ o → f' x = f x) → (l.map f').sum + f o = (l.map f).sum + f' o := by
  intro l
  induction l with
  | nil => intro _ h; cases h
  | cons a l ih =>
    intro hn ho he
    rw [List.nodup_cons] at hn
    simp only [List.map_cons, List.sum_cons]
    rcases List.mem_cons.1 ho with rfl | ho
    · have : l.map f' = l.map f := List.map_congr_left (fun x hx => he x (List.mem_cons_of_mem _ hx) (fun e => hn.1 (e ▸ hx)))
      rw [this]; omega
    · have h1 := ih hn.2 ho (fun x hx => he x (List.mem_cons_of_mem _ hx))
      have h2 := he a List.mem_cons_self (fun e => hn.1 (e ▸ ho))
      omega
theorem MH.ndo {s : HS} {A : Rg} {z : Int → Int} {obs : List Ob} (h : MH s A z obs) : obs.Nodup := by
  have h1 : ∀ l : List Ob, (l.map Ob.p).Nodup → l.Nodup := by
    intro l
    induction l with
    | nil => exact fun _ => List.nodup_nil
    | cons a l ih =>
      intro h
      rw [List.map_cons, List.nodup_cons] at h
      exact List.nodup_cons.2 ⟨fun hc => h.1 (List.mem_map.2 ⟨a, hc, rfl⟩), ih h.2⟩
  exact h1 _ h.nd
theorem MI.done {s s' : HS} {A : Rg} {z : Int → Int} {obs : List Ob} {g : MG} {U : Nat} (h : MI s A z obs g 0 0 U) {q : Option Nat} {c : Int} {G : List Int} (hG : (A q).G = G ++ [c]) (hs : Dne s s' A z q c G) :
    1 ≤ U ∧ MI s' (A.up q ⟨(A q).W, (A q).F, G, c :: (A q).B⟩) z obs g c 0 (U - 1) := by
  obtain ⟨m1, m2, m3, o, ho, hq, hp, hB⟩ := h.mh.done hG hs
  have hb : 1 ≤ c := by
    have := h.mh.hi.bound (q := q) (c := c) (by simp [Rows.all, hG])
    exact this.1
  have hoG : o.p ∈ (A o.q).G := by rw [hq, hp, hG]; simp
  have hoB := rows_gb h.mh.hi hoG
  have hoS := h.mS o ho (.inl hoG)
  obtain ⟨r, h1, h2⟩ := h.u
  have hr : r = 0 := by
    rcases h1 with ⟨_, h1⟩ | ⟨o', ho', e, hb', h1⟩
    · exact h1
    · have hin : o'.p ∈ (A o'.q).all := by simp [Rows.all, hb']
      have := (h.mh.hi.bound hin).1
      omega
  have hpot : pot (A.up q ⟨(A q).W, (A q).F, G, c :: (A q).B⟩) g obs + (1 + nl o) = pot A g obs := by
    have := sum_turn (f := fun o => open Classical in if g.S o.p ∧ o.p ∉ (A o.q).B then 1 + nl o else 0) (f' := fun o => open Classical in if g.S o.p ∧ o.p ∉ ((A.up q ⟨(A q).W, (A q).F, G, c :: (A q).B⟩) o.q).B then 1 + nl o else 0) h.mh.ndo ho (fun x hx hne => by
      have h9 : (x.p ∈ ((A.up q ⟨(A q).W, (A q).F, G, c :: (A q).B⟩) x.q).B) ↔ x.p ∈ (A x.q).B := by rw [hB x hx]; simp [hne]
      exact ite_iff (and_congr Iff.rfl (not_congr h9)) _ _)
    rw [if_pos ⟨hoS, hoB⟩, if_neg (fun hc => hc.2 ((hB o ho).2 (.inr rfl)))] at this
    exact this
  refine ⟨by omega, ⟨m1, fun o' ho' j hj => ?_, fun o' ho' hm => h.mS o' ho' ((m3 o' ho').1 hm), fun o' ho' h1 j hj o2 ho2 e => ?_, fun o' ho' hR j hj o2 ho2 e => ?_, ⟨nl o, .inr ⟨o, ho, hp, (hB o ho).2 (.inr rfl), by unfold nl; omega⟩, by omega⟩⟩⟩
  · rw [m2 o' ho']; exact h.wd o' ho' j hj
  · rw [m2 o' ho'] at e; exact h.cS o' ho' h1 j hj o2 ho2 e
  · rw [m2 o' ho', m3 o2 ho2]
    rcases h.edge o' ho' hR j hj o2 ho2 e with h3 | ⟨h3, h4⟩
    · exact .inl h3
    · refine .inr ⟨h3, fun hb' => ?_⟩
      rcases (hB o' ho').1 hb' with h5 | rfl
      · have := (h4 h5).1
        have hin : o'.p ∈ (A o'.q).all := by simp [Rows.all, h5]
        have := (h.mh.hi.bound hin).1
        omega
      · exact ⟨hp, Nat.zero_le _⟩
inductive Rch (obs : List Ob) (W0 : Int → Nat → Int) (from_ : List Int) : Int → Prop
  | root (p : Int) : p ∈ from_ → Rch obs W0 from_ p
  | step (o o' : Ob) (j : Nat) : Rch obs W0 from_ o.p → o ∈ obs → Lk o j → o' ∈ obs → o'.p = W0 o.p j → Rch obs W0 from_ o'.p
theorem MI.fin {s : HS} {A : Rg} {z : Int → Int} {obs : List Ob} {g : MG} {U : Nat} (h : MI s A z obs g 0 0 U) (hno : NoG A) {obs0 : List Ob} {fr : List Int} (hsub : ∀ o ∈ obs0, o ∈ obs) (hR : ∀ o ∈ obs0, Rch obs0 g.W0 fr o.p → g.R o.p) (hroot : ∀ o ∈ obs0, o.p ∈ fr → Mkd A o) :
    ∀ o ∈ obs0, Rch obs0 g.W0 fr o.p → Mkd A o := by
  have key : ∀ p, Rch obs0 g.W0 fr p → ∀ o ∈ obs0, o.p = p → Mkd A o := by
    intro p hr
    induction hr with
    | root p hp => intro o ho e; exact hroot o ho (e ▸ hp)
    | step o o' j hr ho hj ho' e ih =>
      intro o2 ho2 e2
      have := h.mh.one (hsub _ ho2) (hsub _ ho') e2
      subst this
      have hm := ih o ho rfl
      rcases h.edge o (hsub _ ho) (hR o ho hr) j hj o2 (hsub _ ho2) e with h3 | ⟨h3, h4⟩
      · exact h3
      · rcases hm with hm | hm
        · rw [hno o.q] at hm; cases hm
        · have := (h4 hm).1
          have hin : o.p ∈ (A o.q).all := by simp [Rows.all, hm]
          have := (h.mh.hi.bound hin).1
          omega
  exact fun o ho hr => key o.p hr o ho rfl
theorem pot_zero {A : Rg} {g : MG} {obs : List Ob} (h : ∀ o ∈ obs, g.S o.p → o.p ∈ (A o.q).B) : pot A g obs = 0 := by
  unfold pot
  rw [List.sum_eq_zero_iff_forall_eq_nat]
  intro x hx
  obtain ⟨o, ho, rfl⟩ := List.mem_map.1 hx
  rw [if_neg (fun hc => hc.2 (h o ho hc.1))]
theorem MI.begin {s s' : HS} {A : Rg} {z : Int → Int} {obs : List Ob} (hi : HI s' A.begun z) (hpar : s.parity = 0 ∨ s.parity = 1) (hp' : s'.parity = 1 - s.parity) (hws : s'.ws = s.ws) (hcls : s'.cls = s.cls)
    (hin : ∀ o ∈ obs, o.p ∈ (A o.q).B ∧ (o.wm s.parity).In s A z) (hno : NoFG A) (hrows : ∀ q c, c ∈ (A q).B → ∃ o ∈ obs, o.q = q ∧ o.p = c) (hnd : (obs.map Ob.p).Nodup)
    (hwd : ∀ o ∈ obs, ∀ j, Lk o j → s.wd o j = 0 ∨ ∃ o' ∈ obs, o'.p = s.wd o j) (g : MG) (hW0 : ∀ o ∈ obs, ∀ j, Lk o j → g.W0 o.p j = s.wd o j)
    (hcS : ∀ o ∈ obs, g.S o.p → ∀ j, Lk o j → ∀ o' ∈ obs, o'.p = s.wd o j → g.S o'.p) : MI s' A.begun z obs g 0 0 (pot A.begun g obs) := by
  have hall : ∀ q x, x ∈ (A q).all → x ∈ (A.begun q).all := by
    intro q x hx
    simp [Rows.all, Rg.begun, (hno q).1, (hno q).2] at hx ⊢
    exact hx
  have hwd' : ∀ o j, s'.wd o j = s.wd o j := fun o j => by unfold HS.wd; rw [hws]
  refine ⟨{ hi := hi, par := by omega, nd := hnd, rows := ?_, inn := ?_ }, fun o ho j hj => by rw [hwd']; exact hwd o ho j hj, fun o ho hm => ?_, fun o ho h1 j hj o2 ho2 e => hcS o ho h1 j hj o2 ho2 (by rw [← hwd']; exact e), fun o ho hR j hj o2 ho2 e => .inr ⟨?_, fun hb => ?_⟩, ⟨0, .inl ⟨rfl, rfl⟩, rfl⟩⟩
  · intro o ho
    obtain ⟨h1, h2⟩ := hin o ho
    refine .inl ⟨h1, ?_⟩
    have : 1 - s'.parity = s.parity := by omega
    rw [this]
    exact (h2.rows hws hcls (hall _)).1
  · intro q c hc
    simp only [Rg.begun, List.not_mem_nil, or_false] at hc
    exact hrows q c hc
  · unfold Mkd at hm
    simp [Rg.begun] at hm
  · rw [hwd']; exact (hW0 o ho j hj).symm
  · simp [Rg.begun] at hb
end Go.Proofs.YtklnpooninbogaaGreat
namespace Go.Proofs.YtklnpooninbogaaGreat
open Go Go.Proofs Go.RowKit Go.Shelf
attribute [local go_sem] Oper.semAt_some
end Go.Proofs.YtklnpooninbogaaGreat
namespace Go.Proofs.YtklnpooninbogaaGreat
open Go Go.Proofs Go.RowKit Go.Shelf
attribute [local go_sem] Oper.semAt_some
theorem kinds {k : Int} (h0 : 0 ≤ k) (h1 : k ≤ 10) : k = 0 ∨ k = 1 ∨ k = 2 ∨ k = 3 ∨ k = 4 ∨ k = 5 ∨ k = 6 ∨ k = 7 ∨ k = 8 ∨ k = 9 ∨ k = 10 := by omega
def dPackErr (k n : Int) : Int := if k < 0 ∨ 10 < k then 6 else if n < 0 ∨ 31 < n then 1 else 0
set_option maxRecDepth 100000 in
set_option maxHeartbeats 3200000 in
theorem dPack (k n a m : Int) (hm : m = 0 ∨ m = 1) (a0 : 0 ≤ a) (a1 : a < 16777216) (w : World) :
    Calls Tryz.prog 118 #[.agg #[.int .i64 k, .int .i64 n, .int .i64 a, .int .i64 m]] w fun e w' => (∃ v, e = .returned (.tuple #[.int .i64 v, .int .i64 (dPackErr k n)])) ∧ Fr [] w w' := by
  have B0 := Blk.new w [.int .i64 k, .int .i64 n, .int .i64 a, .int .i64 m] 73
  have c0 := B0.cell (i := 0) rfl
  have c1 := B0.cell (i := 1) rfl
  have c2 := B0.cell (i := 2) rfl
  have c3 := B0.cell (i := 3) rfl
  have hF : Fr [] w (w.alloc (.cells #[.int .i64 k, .int .i64 n, .int .i64 a, .int .i64 m] 73)) := (Fr.refl _ w).alloc _
  have HF := hid hF
  have g3 : decide (a < 0) = false := by simp; omega
  have g4 : decide (16777215 < a) = false := by simp; omega
  have g5 : decide (m < 0) = false := by simp; omega
  have g6 : decide (1 < m) = false := by simp; omega
  clear B0 hF
  by_cases hk : k < 0 ∨ 10 < k
  · have hE : dPackErr k n = 6 := if_pos hk
    rw [hE]
    rcases hk with hk | hk
    · have g1 : decide (k < 0) = true := by simp; omega
      go_enter Tryz.func118, Tryz.ntmps118
      go_wp2_with fail
      refine bodyPost_ret (v := .tuple #[.int .i64 0, .int .i64 6]) (by simp [results, Tryz.results118, go_sem]) rfl ⟨⟨0, rfl⟩, HF.out⟩
    · have g1 : decide (k < 0) = false := by simp; omega
      have g2 : decide (10 < k) = true := by simp; omega
      go_enter Tryz.func118, Tryz.ntmps118
      go_wp2_with fail
      refine bodyPost_ret (v := .tuple #[.int .i64 0, .int .i64 6]) (by simp [results, Tryz.results118, go_sem]) rfl ⟨⟨0, rfl⟩, HF.out⟩
  · have g1 : decide (k < 0) = false := by simp; omega
    have g2 : decide (10 < k) = false := by simp; omega
    by_cases hn : n < 0 ∨ 31 < n
    · have hE : dPackErr k n = 1 := by unfold dPackErr; rw [if_neg hk, if_pos hn]
      rw [hE]
      rcases hn with hn | hn
      · have g7 : decide (n < 0) = true := by simp; omega
        go_enter Tryz.func118, Tryz.ntmps118
        go_wp2_with fail
        refine bodyPost_ret (v := .tuple #[.int .i64 0, .int .i64 1]) (by simp [results, Tryz.results118, go_sem]) rfl ⟨⟨0, rfl⟩, HF.out⟩
      · have g7 : decide (n < 0) = false := by simp; omega
        have g8 : decide (31 < n) = true := by simp; omega
        go_enter Tryz.func118, Tryz.ntmps118
        go_wp2_with fail
        refine bodyPost_ret (v := .tuple #[.int .i64 0, .int .i64 1]) (by simp [results, Tryz.results118, go_sem]) rfl ⟨⟨0, rfl⟩, HF.out⟩
    · have hE : dPackErr k n = 0 := by unfold dPackErr; rw [if_neg hk, if_neg hn]
      rw [hE]
      have g7 : decide (n < 0) = false := by simp; omega
      have g8 : decide (31 < n) = false := by simp; omega
      go_enter Tryz.func118, Tryz.ntmps118
      go_wp2_with fail
      refine bodyPost_ret (v := .tuple #[.int .i64 _, .int .i64 0]) (by simp [results, Tryz.results118, go_sem]; rfl) rfl ⟨⟨_, rfl⟩, HF.out⟩
def lkB (k : Int) (n : Nat) (j : Nat) : Bool := decide (lkF k ≤ j ∧ j < lkT k n)
set_option maxRecDepth 100000 in
set_option maxHeartbeats 3200000 in
theorem dLink (k : Int) (n : Nat) (a m : Int) (j : Nat) (hd : Hd k n a m) (w : World) :
    Calls Tryz.prog 80 #[.agg #[.int .i64 k, .int .i64 n, .int .i64 a, .int .i64 m], .int .i64 j] w fun e w' => e = .returned (.bool (lkB k n j)) ∧ Fr [] w w' := by
  have B0 := Blk.new w [.int .i64 k, .int .i64 n, .int .i64 a, .int .i64 m] 73
  have hF : Fr [] w (w.alloc (.cells #[.int .i64 k, .int .i64 n, .int .i64 a, .int .i64 m] 73)) := (Fr.refl _ w).alloc _
  have HF := hid hF
  have HB := hid B0
  obtain ⟨k0, k1, m0, m1, s0, s1, a0, a1⟩ := hd
  have hE : dPackErr k n = 0 := by unfold dPackErr; rw [if_neg (by omega), if_neg (by omega)]
  have c0 := B0.cell (i := 0) rfl
  have c1 := B0.cell (i := 1) rfl
  have gj : decide ((j : Int) < 0) = false := by simp
  clear B0 hF
  by_cases hj : j < n
  · have gn : decide ((n : Int) ≤ (j : Int)) = false := by simp; omega
    have HJ := hid hj
    clear hj
    rcases kinds k0 k1 with rfl | rfl | rfl | rfl | rfl | rfl | rfl | rfl | rfl | rfl | rfl
    all_goals
      go_enter Tryz.func80, Tryz.ntmps80
      go_wp2_with fail
      refine (dPack _ n a m (by omega) a0 (by omega) _).mono ?_
      rintro e w1 ⟨⟨v, rfl⟩, hF1⟩
      rw [hE]
      have hB1 := HB.out.fr hF1 (by simp)
      have d0 := hB1.cell (i := 0) rfl
      have d1 := hB1.cell (i := 1) rfl
      clear hB1 c0 c1
      go_wp2_with fail
    all_goals
      go_ret
      refine ⟨?_, HF.out.trans hF1⟩
      have hjn := HJ.out
      refine congrArg Ending.returned (congrArg Value.bool ?_)
      rw [Bool.eq_iff_iff]
      simp [lkB, lkF, lkT]
      try omega
  · have gn : decide ((n : Int) ≤ (j : Int)) = true := by simp; omega
    have hb : lkB k n j = false := by unfold lkB; have := lkT_le k n; simp; omega
    rw [hb]
    go_enter Tryz.func80, Tryz.ntmps80
    go_wp2_with fail
    refine (dPack k n a m (by omega) a0 (by omega) _).mono ?_
    rintro e w1 ⟨⟨v, rfl⟩, hF1⟩
    rw [hE]
    have hB1 := HB.out.fr hF1 (by simp)
    have d0 := hB1.cell (i := 0) rfl
    have d1 := hB1.cell (i := 1) rfl
    clear hB1 c0 c1
    go_wp2_with fail
    go_ret
    exact ⟨rfl, HF.out.trans hF1⟩
theorem ne_of_p {o o' : Ob} (h : o.p ≠ o'.p) : o.ne o' := .inr h
theorem setw {s : HS} {A : Rg} {z : Int → Int} (hI : HI s A z) {o : Ob} (ho : o.In s A z) {j : Nat} (hj : j < o.n) (v n : Int) :
    HI (s.put (o.p + 3 + j) v n) A z ∧ ∀ o' : Ob, o'.In s A z → o'.In (s.put (o.p + 3 + j) v n) A z ∧ ∀ i : Nat, i < o'.n → (s.put (o.p + 3 + j) v n).wd o' i = if o'.p = o.p ∧ i = j then v else s.wd o' i := by
  refine ⟨hI.putOb ho hj v n, fun o' ho' => ?_⟩
  obtain ⟨h1, h2, h3⟩ := Ob.In.put hI ho ho' hj v n
  refine ⟨h1, fun i hi => ?_⟩
  have b := ho.bound hI
  have b' := ho'.bound hI
  by_cases e : o'.p = o.p
  · by_cases e2 : i = j
    · subst e2
      rw [if_pos ⟨e, rfl⟩]
      unfold HS.wd
      rw [e]
      exact put_at _ _ _ _ (by omega) (by omega)
    · rw [if_neg (fun h => e2 h.2)]
      unfold HS.wd
      exact put_ne _ _ _ _ _ (by omega) (by omega) (by omega) (by omega)
  · rw [if_neg (fun h => e h.1)]
    exact h2 (ne_of_p (Ne.symm e)) i hi
theorem turnw {s : HS} {A : Rg} {z : Int → Int} (hI : HI s A z) {o : Ob} (ho : o.In s A z) {k' a' : Int} (hd : Hd k' o.n a' o.m) (n : Int) :
    HI (s.put o.p (packed k' o.n a' o.m) n) A z ∧ ({ o with k := k', a := a' } : Ob).In (s.put o.p (packed k' o.n a' o.m) n) A z ∧ (∀ i, i < o.n → (s.put o.p (packed k' o.n a' o.m) n).wd o i = s.wd o i) ∧
    ∀ o' : Ob, o'.In s A z → o'.p ≠ o.p → o'.In (s.put o.p (packed k' o.n a' o.m) n) A z ∧ ∀ i, i < o'.n → (s.put o.p (packed k' o.n a' o.m) n).wd o' i = s.wd o' i := by
  obtain ⟨h1, h2, h3, h4⟩ := ho.turned hI hd n
  exact ⟨h1, h2, h3, fun o' ho' hne => h4 o' ho' (ne_of_p (Ne.symm hne))⟩
theorem Sta.put (s : HS) (p v n : Int) : Sta s (s.put p v n) := ⟨rfl, rfl, rfl, rfl, rfl, sw_len _ _ _⟩
def HS.nx (s : HS) (o : Ob) : Int := s.wd o 3
structure Bur (s s' : HS) (A : Rg) (z : Int → Int) (o : Ob) (ahead walk first last : Int) : Prop where
  hi : HI s' A z
  st : Sta s s'
  ob : ({ o with k := 10 } : Ob).In s' A z
  w0 : s'.wd o 0 = 0
  w1 : s'.wd o 1 = 0
  w2 : s'.wd o 2 = s.wd o 2
  w3 : s'.wd o 3 = 0
  oth : ∀ o' : Ob, o'.In s A z → o'.p ≠ o.p → o'.In s' A z ∧ (∀ i, i < o'.n → i ≠ 3 → s'.wd o' i = s.wd o' i) ∧ (3 < o'.n → s'.wd o' 3 = if first ≠ 0 ∧ o'.p = last then o.p else if ahead ≠ 0 ∧ o'.p = ahead then walk else s.wd o' 3)
structure BurU (n : Int) (s s' : HS) (A : Rg) (z : Int → Int) (o : Ob) (ahead walk first last : Int) : Prop extends Bur s s' A z o ahead walk first last where
  u : s.u ≤ s'.u ∧ s'.u ≤ s.u + n
structure Bu1 (s s1 : HS) (A : Rg) (z : Int → Int) (o : Ob) (ahead walk : Int) : Prop where
  hi : HI s1 A z
  st : Sta s s1
  oth : ∀ o' : Ob, o'.In s A z → o'.In s1 A z ∧ ∀ i, i < o'.n → s1.wd o' i = if ahead ≠ 0 ∧ o'.p = ahead ∧ i = 3 then walk else s.wd o' i
theorem Bu1.none {s : HS} {A : Rg} {z : Int → Int} (hI : HI s A z) (o : Ob) (walk : Int) : Bu1 s s A z o 0 walk :=
  ⟨hI, Sta.refl s, fun o' h => ⟨h, fun i _ => by rw [if_neg (fun h => h.1 rfl)]⟩⟩
theorem Bu1.some {s : HS} {A : Rg} {z : Int → Int} (hI : HI s A z) (o : Ob) (walk : Int) {oa : Ob} (ha : oa.In s A z) (hn : oa.n = 4) (h0 : oa.p ≠ 0) : Bu1 s (s.put (oa.p + 3 + (3 : Nat)) walk 2) A z o oa.p walk := by
  obtain ⟨h1, h2⟩ := setw hI ha (j := 3) (by omega) walk 2
  refine ⟨h1, Sta.put _ _ _ _, fun o' h => ⟨(h2 o' h).1, fun i hi => ?_⟩⟩
  rw [(h2 o' h).2 i hi]
  by_cases e : o'.p = oa.p ∧ i = 3
  · rw [if_pos e, if_pos ⟨h0, e⟩]
  · rw [if_neg e, if_neg (fun h => e h.2)]
theorem Bur.of {s s1 : HS} {A : Rg} {z : Int → Int} {o : Ob} {ahead walk : Int} (h : Bu1 s s1 A z o ahead walk) (ho : o.In s A z) (hn : o.n = 4) (hna : ahead ≠ 0 → o.p ≠ ahead) (hd : Hd 10 o.n o.a o.m) :
    let s2 := s1.put o.p (packed 10 o.n o.a o.m) 2
    let s5 := ((s2.put (o.p + 3 + (0 : Nat)) 0 2).put (o.p + 3 + (1 : Nat)) 0 2).put (o.p + 3 + (3 : Nat)) 0 2
    (o.In s1 A z ∧ ({ o with k := 10 } : Ob).In s2 A z ∧ ({ o with k := 10 } : Ob).In (s2.put (o.p + 3 + (0 : Nat)) 0 2) A z ∧ ({ o with k := 10 } : Ob).In ((s2.put (o.p + 3 + (0 : Nat)) 0 2).put (o.p + 3 + (1 : Nat)) 0 2) A z) ∧
    HI s2 A z ∧ HI (s2.put (o.p + 3 + (0 : Nat)) 0 2) A z ∧ HI ((s2.put (o.p + 3 + (0 : Nat)) 0 2).put (o.p + 3 + (1 : Nat)) 0 2) A z ∧
    (∀ l0 : Int, Bur s s5 A z o ahead walk 0 l0) ∧ ∀ ol : Ob, ol.In s A z → ol.n = 4 → ol.p ≠ o.p → ol.p ≠ 0 → ∀ first : Int, first ≠ 0 → Bur s (s5.put (ol.p + 3 + (3 : Nat)) o.p 2) A z o ahead walk first ol.p := by
  intro s2 s5
  obtain ⟨o1, ow⟩ := h.oth o ho
  obtain ⟨t1, t2, t3, t4⟩ := turnw h.hi o1 hd 2
  have j0 : 0 < ({ o with k := 10 } : Ob).n := by show 0 < o.n; omega
  have j1 : 1 < ({ o with k := 10 } : Ob).n := by show 1 < o.n; omega
  have j3 : 3 < ({ o with k := 10 } : Ob).n := by show 3 < o.n; omega
  obtain ⟨a1, a2⟩ := setw t1 t2 (j := 0) j0 0 2
  obtain ⟨b1, b2⟩ := setw a1 (a2 _ t2).1 (j := 1) j1 0 2
  obtain ⟨c1, c2⟩ := setw b1 (b2 _ (a2 _ t2).1).1 (j := 3) j3 0 2
  have hoIn := (c2 _ (b2 _ (a2 _ t2).1).1).1
  have hst : Sta s s5 := h.st.trans ((Sta.put _ _ _ _).trans ((Sta.put _ _ _ _).trans ((Sta.put _ _ _ _).trans (Sta.put _ _ _ _))))
  have hw : ∀ i, i < 4 → s5.wd o i = if i = 2 then s.wd o 2 else 0 := by
    intro i hi
    have e3 := (c2 _ (b2 _ (a2 _ t2).1).1).2 i (by show i < o.n; omega)
    have e2 := (b2 _ (a2 _ t2).1).2 i (by show i < o.n; omega)
    have e1 := (a2 _ t2).2 i (by show i < o.n; omega)
    have e0 := t3 i (by omega)
    have ew := ow i (by omega)
    have hne : ¬ (ahead ≠ 0 ∧ o.p = ahead ∧ i = 3) := fun h => hna h.1 h.2.1
    rw [if_neg hne] at ew
    show s5.wd ({ o with k := 10 } : Ob) i = _
    rw [e3]
    by_cases i3 : i = 3
    · subst i3; rw [if_pos ⟨rfl, rfl⟩]; simp
    · rw [if_neg (fun h => i3 h.2), e2]
      by_cases i1 : i = 1
      · subst i1; rw [if_pos ⟨rfl, rfl⟩]; simp
      · rw [if_neg (fun h => i1 h.2), e1]
        by_cases i0 : i = 0
        · subst i0; rw [if_pos ⟨rfl, rfl⟩]; simp
        · rw [if_neg (fun h => i0 h.2)]
          obtain rfl : i = 2 := by omega
          rw [if_pos rfl]
          exact e0.trans ew
  have hoth : ∀ o' : Ob, o'.In s A z → o'.p ≠ o.p → o'.In s5 A z ∧ ∀ i, i < o'.n → s5.wd o' i = if ahead ≠ 0 ∧ o'.p = ahead ∧ i = 3 then walk else s.wd o' i := by
    intro o' h' hne
    obtain ⟨x1, y1⟩ := h.oth o' h'
    obtain ⟨x2, y2⟩ := t4 o' x1 hne
    obtain ⟨x3, y3⟩ := a2 o' x2
    obtain ⟨x4, y4⟩ := b2 o' x3
    obtain ⟨x5, y5⟩ := c2 o' x4
    refine ⟨x5, fun i hi => ?_⟩
    rw [y5 i hi, if_neg (fun h => hne h.1), y4 i hi, if_neg (fun h => hne h.1), y3 i hi, if_neg (fun h => hne h.1), y2 i hi, y1 i hi]
  refine ⟨⟨o1, t2, (a2 _ t2).1, (b2 _ (a2 _ t2).1).1⟩, t1, a1, b1, fun l0 => ⟨c1, hst, hoIn, hw 0 (by decide), hw 1 (by decide), hw 2 (by decide), hw 3 (by decide), ?_⟩, ?_⟩
  · intro o' h' hne
    obtain ⟨x, y⟩ := hoth o' h' hne
    refine ⟨x, fun i hi h3 => by rw [y i hi, if_neg (fun h => h3 h.2.2)], fun h3 => ?_⟩
    rw [y 3 h3, if_neg (c := (0 : Int) ≠ 0 ∧ o'.p = l0) (fun h => h.1 rfl)]
    by_cases e : ahead ≠ 0 ∧ o'.p = ahead
    · rw [if_pos e, if_pos ⟨e.1, e.2, rfl⟩]
    · rw [if_neg e, if_neg (fun h => e ⟨h.1, h.2.1⟩)]
  · intro ol hol hln hlne hl0 first hf
    obtain ⟨xl, yl⟩ := hoth ol hol hlne
    obtain ⟨d1, d2⟩ := setw c1 xl (j := 3) (by omega) o.p 2
    have hok := (d2 _ hoIn)
    have hwo : ∀ i, i < 4 → (s5.put (ol.p + 3 + (3 : Nat)) o.p 2).wd o i = if i = 2 then s.wd o 2 else 0 := by
      intro i hi
      have := hok.2 i (by show i < o.n; omega)
      rw [if_neg (fun h => hlne h.1.symm)] at this
      exact this.trans (hw i hi)
    refine ⟨d1, hst.trans (Sta.put _ _ _ _), hok.1, hwo 0 (by decide), hwo 1 (by decide), hwo 2 (by decide), hwo 3 (by decide), ?_⟩
    intro o' h' hne
    obtain ⟨x, y⟩ := hoth o' h' hne
    obtain ⟨x', y'⟩ := d2 o' x
    refine ⟨x', fun i hi h3 => by rw [y' i hi, if_neg (fun h => h3 h.2), y i hi, if_neg (fun h => h3 h.2.2)], fun h3 => ?_⟩
    rw [y' 3 h3]
    by_cases e : o'.p = ol.p
    · rw [if_pos ⟨e, rfl⟩, if_pos ⟨hf, e⟩]
    · rw [if_neg (fun h => e h.1), if_neg (fun h => e h.2), y 3 h3]
      by_cases e : ahead ≠ 0 ∧ o'.p = ahead
      · rw [if_pos e, if_pos ⟨e.1, e.2, rfl⟩]
      · rw [if_neg e, if_neg (fun h => e ⟨h.1, h.2.1⟩)]
end Go.Proofs.YtklnpooninbogaaGreat
