import Derived.Test.YtifillpcphiblaaHBegin
import Derived.Test.YtifillpcphiblaaMHeapAlloc
import Derived.Test.YtifillpcphiblaaMXDel
namespace Go.Proofs.Ytifillpcphiblaa
open Go Go.Proofs Go.RowKit

/-- What no operation on rings turns. -/
structure Sta (s s' : HS) : Prop where
  cls : s'.cls = s.cls
  parity : s'.parity = s.parity
  edge : s'.edge = s.edge
  top : s'.top = s.top
  x : s'.x = s.x
  len : s'.ws.length = s.ws.length
theorem Sta.refl (s : HS) : Sta s s := ⟨rfl, rfl, rfl, rfl, rfl, rfl⟩
theorem Sta.trans {a b c : HS} (h : Sta a b) (k : Sta b c) : Sta a c := ⟨k.cls.trans h.cls, k.parity.trans h.parity, k.edge.trans h.edge, k.top.trans h.top, k.x.trans h.x, k.len.trans h.len⟩
theorem Sta.tick (s : HS) (n : Int) : Sta s (s.tick n) := ⟨rfl, rfl, rfl, rfl, rfl, rfl⟩

/-- The ring of a size. -/
def qOf (cls : List Int) (n : Int) : Option Nat := if ixGe cls n = -1 then none else some (ixGe cls n).toNat
theorem qOf_some {cls : List Int} {n : Int} {j : Nat} (h : qOf cls n = some j) : ixGe cls n = j := by
  unfold qOf at h
  split at h
  · cases h
  · rcases ixGe_cases cls n with h2 | ⟨k, _, h2, _⟩
    · contradiction
    · have := Option.some.inj h; omega
theorem qOf_none {cls : List Int} {n : Int} (h : qOf cls n = none) : ixGe cls n = -1 := by
  unfold qOf at h
  split at h
  · assumption
  · cases h

/-- What a shade does. -/
structure Shd (s s' : HS) (A : Rg) (z : Int → Int) (q : Option Nat) (p : Int) (F1 F2 : List Int) (word : Int) : Prop where
  hi : HI s' (A.up q ⟨(A q).W, F1 ++ F2, (A q).G ++ [p], (A q).B⟩) z
  head : gw s'.ws p = word
  body : ∀ j, 3 ≤ j → j < ln s.cls z q p → gw s'.ws (p + j) = gw s.ws (p + j)
  holds : ∀ q' c, c ∈ (A q').all → (q' ≠ q ∨ c ≠ p) → Holds s s' z q' c
  st : Sta s s'

theorem shW_len (ws : List Int) (r : RS) (c : Int) : (shW ws r c).length = ws.length := by
  unfold shW; split <;> simp [pt_len, ct_len]

theorem hShadeAny (L : HL) (s : HS) (A : Rg) (z : Int → Int) (q : Option Nat) (p : Int) (k n a m : Int) (F1 F2 : List Int) (w : World) (hH : HRep w L s) (hI : HI s A z) (hF : (A q).F = F1 ++ p :: F2)
    (hp : gw s.ws p = packed k n a m) (hd : Hd k n a m) (hd' : Hd k n a s.parity) (hm : ¬ m = s.parity) (hq : q = qOf s.cls n) :
    Calls Try.prog 28 #[.pointer (some ⟨L.hb, 0, none⟩), .int .i64 p] w fun e w' => e = .returned (.tuple #[.bool true, .int .i64 0]) ∧ (∃ s', HRep w' L s' ∧ Shd s s' A z q p F1 F2 (packed k n a s.parity)) ∧ Fr L.fp w w' := by
  have hmem : p ∈ (A q).all := by simp [Rows.all, hF]
  have hb := hI.bound hmem
  have hl : (shW (sw s.ws p (packed k n a s.parity)) s.lg p).length = s.ws.length := by rw [shW_len, sw_len]
  cases q with
  | none =>
    obtain ⟨g1, g2⟩ := hI.shadeL hF (packed k n a s.parity)
    have hR := hI.lring
    refine (hShadeLarge L s p k n a m s.lg (.inr (qOf_none hq.symm)) rfl w hH (by omega) (by omega) hp hd hd' hm (by rw [hR.nf, hF]; simp; omega) g1).mono ?_
    rintro e w' ⟨rfl, ⟨u', hH'⟩, hF'⟩
    obtain ⟨h1, h2, h3, h4⟩ := g2 u'
    exact ⟨rfl, ⟨_, hH', h1, h2, h3, h4, ⟨rfl, rfl, rfl, rfl, rfl, by rw [shW_len, sw_len]⟩⟩, hF'⟩
  | some j =>
    have hj : j < s.rs.length := by
      rcases Nat.lt_or_ge j s.rs.length with h | h
      · exact h
      · rw [hI.out j h] at hmem; cases hmem
    obtain ⟨rb, r, e1, e2, e3, e4⟩ := hH.at (by rw [← hI.nrs]; exact hj)
    obtain ⟨g1, g2⟩ := hI.shadeK e2 hF (packed k n a s.parity)
    have hR := hI.ring j r e2
    have h1 := hI.inn j p hmem
    have h2 := hI.top2
    refine (hShadeSmall L s p k n a m j rb r (qOf_some hq.symm) (by omega) e1 e2 w hH (by omega) (by omega) hp hd hd' hm (by rw [hR.nf, hF]; simp; omega) g1).mono ?_
    rintro e w' ⟨rfl, ⟨u', hH'⟩, hF'⟩
    obtain ⟨h1, h2, h3, h4⟩ := g2 u'
    exact ⟨rfl, ⟨_, hH', h1, h2, h3, h4, ⟨rfl, rfl, rfl, rfl, rfl, by rw [shW_len, sw_len]⟩⟩, hF'⟩

/-- What Done does. -/
structure Dne (s s' : HS) (A : Rg) (z : Int → Int) (q : Option Nat) (c : Int) (G : List Int) : Prop where
  hi : HI s' (A.up q ⟨(A q).W, (A q).F, G, c :: (A q).B⟩) z
  ws : s'.ws = s.ws
  st : Sta s s'

theorem hDoneAny (L : HL) (s : HS) (A : Rg) (z : Int → Int) (q : Option Nat) (p c : Int) (k n a m : Int) (G : List Int) (w : World) (hH : HRep w L s) (hI : HI s A z) (hG : (A q).G = G ++ [c])
    (p0 : 0 ≤ p) (p1 : p < s.ws.length) (pe : q = none ∨ p < s.edge) (hp : gw s.ws p = packed k n a m) (hd : Hd k n a m) (hq : q = qOf s.cls n) :
    Calls Try.prog 30 #[.pointer (some ⟨L.hb, 0, none⟩), .int .i64 p] w fun e w' => e = .returned (.int .i64 0) ∧ (∃ s', HRep w' L s' ∧ Dne s s' A z q c G) ∧ Fr L.fp w w' := by
  have hmem : c ∈ (A q).all := by simp [Rows.all, hG]
  have hsub : ∀ x ∈ (⟨(A q).W, (A q).F, G, c :: (A q).B⟩ : Rows).all, x ∈ (A q).all := by
    intro x hx
    simp [Rows.all, hG] at hx ⊢
    rcases hx with h | h | h | h | h <;> simp [h]
  cases q with
  | none =>
    have hR := hI.lring
    obtain ⟨o1, o2⟩ := hR.next hG
    refine (hDoneLarge L s p k n a m w hH p0 p1 hp hd (.inr (qOf_none hq.symm)) (by rw [hR.ng, hG]; simp) o1).mono ?_
    rintro e w' ⟨rfl, ⟨u', hH'⟩, hF'⟩
    refine ⟨rfl, ⟨_, hH', ?_, rfl, ⟨rfl, rfl, rfl, rfl, rfl, rfl⟩⟩, hF'⟩
    have := hI.ringL u' (Same.refl _ _) (hR.done hG) hsub
    simp only [RS.finished, ← o2] at this ⊢
    exact this
  | some j =>
    have hj : j < s.rs.length := by
      rcases Nat.lt_or_ge j s.rs.length with h | h
      · exact h
      · rw [hI.out j h] at hmem; cases hmem
    obtain ⟨rb, r, e1, e2, e3, e4⟩ := hH.at (by rw [← hI.nrs]; exact hj)
    have hR := hI.ring j r e2
    obtain ⟨o1, o2⟩ := hR.next hG
    refine (hDoneSmall L s p k n a m j rb r w hH p0 p1 hp hd (qOf_some hq.symm) (by rcases pe with h | h; (· cases h); (· exact h)) e1 e2 (by rw [hR.ng, hG]; simp) o1).mono ?_
    rintro e w' ⟨rfl, ⟨u', hH'⟩, hF'⟩
    refine ⟨rfl, ⟨_, hH', ?_, rfl, ⟨rfl, rfl, rfl, rfl, rfl, rfl⟩⟩, hF'⟩
    have := hI.ringK u' (Same.refl _ _) (hR.done hG) hsub
    simp only [RS.finished, ← o2] at this ⊢
    exact this

/-- A ring stands ahead of another one. -/
def Ahead : Option Nat → Option Nat → Prop
  | some j, some k => j < k
  | some _, none => True
  | none, _ => False

def NextRows (L : HL) (s : HS) (A : Rg) (w : World) (e : Ending) (w' : World) : Prop :=
  Fr [L.ab] w w' ∧ ((e = .returned (.tuple #[.int .i64 0, .bool false]) ∧ HRep w' L s ∧ NoG A) ∨
    ∃ q G c, (A q).G = G ++ [c] ∧ (∀ q', Ahead q' q → (A q').G = []) ∧ e = .returned (.tuple #[.int .i64 c, .bool true]) ∧ HRep w' L (s.tick 1))

theorem hNextRows (L : HL) (s : HS) (A : Rg) (z : Int → Int) (w : World) (hH : HRep w L s) (hI : HI s A z) :
    Calls Try.prog 29 #[.pointer (some ⟨L.hb, 0, none⟩)] w (NextRows L s A w) := by
  have hgl : ∀ (q : Option Nat) (r : RS), RI s.ws r (A q) → 1 ≤ r.g → ∃ G c, (A q).G = G ++ [c] := by
    intro q r hR hg
    have := hR.ng
    rcases List.eq_nil_or_concat (A q).G with e | ⟨G, c, e⟩
    · rw [e] at this; simp at this; omega
    · exact ⟨G, c, by rw [e, List.concat_eq_append]⟩
  have hzero : ∀ (q : Option Nat) (r : RS), RI s.ws r (A q) → r.g = 0 → (A q).G = [] := fun q r hR hg => List.length_eq_zero_iff.1 (hR.ng.symm.trans hg)
  refine (hNext L s w hH ?_ (ringAt_uniq hH)).mono ?_
  · intro x r hr hg
    obtain ⟨q, hR, _⟩ := ringAt_rows hH hI hr
    obtain ⟨G, c, e⟩ := hgl q r hR hg
    exact (hR.next e).1
  rintro e w' ⟨hF, ⟨rfl, hH', hno⟩ | ⟨pre, x, r, hpre, hno, hr, hg, rfl, hH'⟩⟩
  · refine ⟨hF, .inl ⟨rfl, hH', ?_⟩⟩
    intro q
    by_cases hq : (A q).all = []
    · simp [Rows.all] at hq; exact hq.2.2.1
    · obtain ⟨x, r, hr, hR, hx⟩ := rows_ringAt hH hI q hq
      have hm : x ∈ L.rbs ++ [L.lb] := by
        rcases hx with ⟨rfl, _⟩ | ⟨k, hk, _⟩
        · simp
        · simp [List.mem_of_getElem? hk]
      exact hzero q r hR (hno ⟨x, hm⟩ (List.mem_attach _ _) r hr)
  · obtain ⟨q, hR, hx⟩ := ringAt_rows hH hI hr
    obtain ⟨G, c, e⟩ := hgl q r hR hg
    refine ⟨hF, .inr ⟨q, G, c, e, ?_, by rw [(hR.next e).2], hH'⟩⟩
    intro q' hq'
    have hlen : pre.length < (att L).length := by
      have := hpre.length_le
      simp at this; omega
    have hat : ∀ (i : Nat) (hi : i < pre.length), (att L)[i]'(by omega) = pre[i] := by
      intro i hi
      obtain ⟨t, ht⟩ := hpre
      simp only [← ht]
      rw [List.getElem_append_left (by simp; omega), List.getElem_append_left hi]
    have hatx : (att L)[pre.length] = x := by
      obtain ⟨t, ht⟩ := hpre
      simp only [← ht]
      rw [List.getElem_append_left (by simp), List.getElem_append_right (Nat.le_refl _)]
      simp
    have hxv : (L.rbs ++ [L.lb])[pre.length]'(by simpa [att] using hlen) = x.1 := by rw [← att_get L _ hlen, hatx]
    by_cases hq0 : (A q').all = []
    · simp [Rows.all] at hq0; exact hq0.2.2.1
    obtain ⟨y, ry, hry, hRy, hy⟩ := rows_ringAt hH hI q' hq0
    rcases hy with ⟨_, rfl⟩ | ⟨k', hk', rfl⟩
    · cases hq'
    have hk'l : k' < pre.length := by
      rcases hx with ⟨hxl, rfl⟩ | ⟨k, hk, rfl⟩
      · have h1 := (List.getElem?_eq_some_iff.1 hk').1
        rcases Nat.lt_or_ge pre.length L.rbs.length with h2 | h2
        · rw [List.getElem_append_left h2] at hxv
          exact absurd (hxv.trans hxl) (hH.rapart (List.getElem_mem h2)).2.2.2.1
        · omega
      · have hkk : k' < k := hq'
        rcases Nat.lt_or_ge pre.length L.rbs.length with h2 | h2
        · rw [List.getElem_append_left h2] at hxv
          have : pre.length = k := hH.rinj ((List.getElem?_eq_getElem h2).trans (congrArg some hxv)) hk
          omega
        · have := (List.getElem?_eq_some_iff.1 hk).1
          omega
    have hyv : (pre[k']).1 = y := by
      rw [← hat k' hk'l, att_get, List.getElem_append_left (List.getElem?_eq_some_iff.1 hk').1]
      exact (List.getElem?_eq_some_iff.1 hk').2
    exact hzero _ ry hRy (hno (pre[k']) (List.getElem_mem _) ry (by rw [hyv]; exact hry))
end Go.Proofs.Ytifillpcphiblaa
