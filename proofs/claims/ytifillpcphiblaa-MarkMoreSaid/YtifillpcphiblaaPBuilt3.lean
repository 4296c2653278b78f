import Derived.Test.YtifillpcphiblaaPBuilt2
namespace Go.Proofs.Ytifillpcphiblaa
open Go Go.Proofs Go.RowKit

/-! law16.Built. -/

structure Mk where
  k : Int
  n : Int
  tv : Value
  tos : List Int
def mkc (ms : List Mk) : List Value := ms.flatMap fun x => [.int .i64 x.k, .int .i64 x.n, x.tv]
theorem mkc_get : ∀ {ms : List Mk} {i : Nat} {x : Mk}, ms[i]? = some x → (mkc ms)[i * 3]? = some (.int .i64 x.k) ∧ (mkc ms)[i * 3 + 1]? = some (.int .i64 x.n) ∧ (mkc ms)[i * 3 + 2]? = some x.tv := by
  intro ms
  induction ms with
  | nil => intro i x h; simp at h
  | cons y ms ih =>
    intro i x h
    cases i with
    | zero => simp at h; subst h; simp [mkc]
    | succ i =>
      have h' : ms[i]? = some x := by simpa using h
      obtain ⟨a, b, c⟩ := ih h'
      have e : ∀ j, (mkc (y :: ms))[(i + 1) * 3 + j]? = (mkc ms)[i * 3 + j]? := by
        intro j
        show ([Value.int .i64 y.k, .int .i64 y.n, y.tv] ++ mkc ms)[(i + 1) * 3 + j]? = _
        rw [List.getElem?_append_right (by simp; omega)]
        congr 1
        simp
        omega
      exact ⟨by have := e 0; simpa using this.trans a, (e 1).trans b, (e 2).trans c⟩
def MkArg (w : World) (v : Value) (ms : List Mk) : Prop :=
  ((v = .slice none 0 0 ∧ ms = []) ∨ (∃ a cap, v = .slice (some a) 0 cap ∧ ms = []) ∨ ∃ b o cap, v = .slice (some ⟨b, o, none⟩) ms.length cap ∧ RdAt w b o (mkc ms)) ∧ ∀ x ∈ ms, SlArg w x.tv x.tos
theorem MkArg.shape {w : World} {v : Value} {ms : List Mk} (h : MkArg w v ms) : ∃ p cap, v = .slice p ms.length cap := by
  rcases h.1 with ⟨e1, e2⟩ | ⟨a, cap, e1, e2⟩ | ⟨b, o, cap, e, _⟩
  · exact ⟨none, 0, by rw [e1, e2]; rfl⟩
  · exact ⟨some a, cap, by rw [e1, e2]; rfl⟩
  · exact ⟨_, cap, e⟩
theorem MkArg.reads {w : World} {p : Option Addr} {cap : Nat} {ms : List Mk} (h : MkArg w (.slice p ms.length cap) ms) (hl : 0 < ms.length) : ∃ b o, p = some ⟨b, o, none⟩ ∧ RdAt w b o (mkc ms) := by
  rcases h.1 with ⟨_, e2⟩ | ⟨_, _, _, e2⟩ | ⟨b, o, cap', e, hr⟩
  · rw [e2] at hl; simp at hl
  · rw [e2] at hl; simp at hl
  · cases e; exact ⟨b, o, rfl, hr⟩

def RC (ms : List Mk) (cls : List Int) (C edge : Int) : Prop := (∀ x ∈ ms, 0 ≤ x.k ∧ x.k ≤ 10 ∧ 0 ≤ x.n ∧ x.n ≤ 31 ∧ ixGe cls x.n ≠ -1) ∧ 1 + (C + 3) * ms.length ≤ edge

def runs0 (W Lg : Int) : List (Int × Int) := if Lg = 0 then [] else [(W - Lg, Lg)]
/-- What is built is told by the configuration, and the list. -/
inductive Bt (cls : List Int) (edge : Int) (l0 : List (Int × Int)) (ms : List Mk) : Nat → BS → Prop
  | zero : Bt cls edge l0 ms 0 ⟨1, l0, []⟩
  | no {i : Nat} {x : Mk} {b : BS} : Bt cls edge l0 ms i b → ms[i]? = some x → BNo cls edge b x.k x.n → Bt cls edge l0 ms (i + 1) b
  | yes {i : Nat} {x : Mk} {b b' : BS} : Bt cls edge l0 ms i b → ms[i]? = some x → BYes cls edge b b' x.k i x.n → Bt cls edge l0 ms (i + 1) b'
theorem Bt.det {cls : List Int} {edge : Int} {l0 : List (Int × Int)} {ms : List Mk} : ∀ {i : Nat} {b b' : BS}, Bt cls edge l0 ms i b → Bt cls edge l0 ms i b' → b = b' := by
  intro i
  induction i with
  | zero => intro b b' h h'; cases h; cases h'; rfl
  | succ i ih =>
    intro b b' h h'
    cases h with
    | no h1 h2 h3 =>
      cases h' with
      | no g1 g2 g3 => exact ih h1 g1
      | yes g1 g2 g3 =>
        have := ih h1 g1
        subst this
        rw [h2] at g2
        cases g2
        exact absurd h3 g3.no
    | yes h1 h2 h3 =>
      cases h' with
      | no g1 g2 g3 =>
        have := ih h1 g1
        subst this
        rw [h2] at g2
        cases g2
        exact absurd g3 h3.no
      | yes g1 g2 g3 =>
        have := ih h1 g1
        subst this
        rw [h2] at g2
        cases g2
        exact h3.det g3

structure B1 (w wr : World) (L : HL) (D : DL) (W Lg : Int) (cls : List Int) (ms : List Mk) (C : Int) (atv : Value) (k : Nat) : Prop where
  ex : ∃ s A z bits m obs G, JB wr L D W Lg cls s A z bits m obs G ∧ Rowi wr D.B atv (obs.map Ob.p) ∧ s.parity = 0 ∧ obs.length ≤ k ∧ (∀ o ∈ obs, ∃ i : Nat, o.a = i ∧ i < k) ∧ (∀ o ∈ obs, o.n < 32) ∧ (∀ o ∈ obs, ∀ j, j < o.n → s.wd o j = 0) ∧
    ((RC ms cls C (W - Lg) → s.top ≤ 1 + (C + 3) * k ∧ obs.length = k ∧ ∀ (i : Nat) (x : Mk) (o : Ob), ms[i]? = some x → obs[i]? = some o → o.k = x.k ∧ (o.n : Int) = x.n ∧ o.a = i) ∧ NoW A ∧ Bt cls (W - Lg) (runs0 W Lg) ms k ⟨s.top, s.x.l, obs⟩)
  fr : Fr [] w wr
  lo : (∀ x ∈ L.all, w.heap.size ≤ x) ∧ w.heap.size ≤ D.B
  off : ∀ g, atv.ownBlock = some g → OffR wr D.rsb (cls.length + 1) g

def want (obs : List Ob) (ms : List Mk) (o : Ob) (j : Nat) : Int :=
  match (ms[o.a.toNat]?).bind (fun x => x.tos[j]?) with
  | none => 0
  | some t => if 1 ≤ t ∧ t ≤ obs.length then ((obs[(t - 1).toNat]?).map Ob.p).getD 0 else 0

def BuiltPost (W Lg : Int) (cls : List Int) (ms : List Mk) (C : Int) (w : World) (e : Ending) (w' : World) : Prop :=
  ∃ (L : HL) (D : DL) (atv : Value) (s : HS) (A : Rg) (z : Int → Int) (bits : List Bool) (m : List (Int × Value)) (obs : List Ob) (G : Int → Nat), e = .returned (.tuple #[.pointer (some ⟨L.hb, 0, none⟩), .pointer (some ⟨D.mb, 0, none⟩), atv, .bool true]) ∧
    JB w' L D W Lg cls s A z bits m obs G ∧ Rowi w' D.B atv (obs.map Ob.p) ∧ Fr [] w w' ∧ (∀ x ∈ L.all, w.heap.size ≤ x) ∧ w.heap.size ≤ D.B ∧ s.parity = 0 ∧ obs.length ≤ ms.length ∧ (∀ o ∈ obs, o.n < 32) ∧ (∀ o ∈ obs, ∀ j, j < o.n → s.wd o j = want obs ms o j) ∧
    ((RC ms cls C (W - Lg) → obs.length = ms.length ∧ ∀ (i : Nat) (x : Mk) (o : Ob), ms[i]? = some x → obs[i]? = some o → o.k = x.k ∧ (o.n : Int) = x.n ∧ o.a = i) ∧ ∃ b, Bt cls (W - Lg) (runs0 W Lg) ms ms.length b ∧ b.obs = obs)

abbrev Cur (ms : List Mk) (obs : List Ob) (s : HS) (i k : Nat) : Prop := ∀ (i' : Nat) (o' : Ob), obs[i']? = some o' → ∀ j, j < o'.n → s.wd o' j = if i' < i ∨ (i' = i ∧ j < k) then want obs ms o' j else 0
theorem Cur.same {ms : List Mk} {obs : List Ob} {s : HS} {i k : Nat} (h : Cur ms obs s i k) {o : Ob} (ho : obs[i]? = some o) (hw : want obs ms o k = 0) : Cur ms obs s i (k + 1) := by
  intro i' o' ho' j hj
  rw [h i' o' ho' j hj]
  by_cases e : i' = i ∧ j = k
  · obtain ⟨rfl, rfl⟩ := e
    rw [ho] at ho'
    cases ho'
    rw [if_neg (by omega), if_pos (by omega), hw]
  · by_cases e2 : i' < i ∨ (i' = i ∧ j < k)
    · rw [if_pos e2, if_pos (by omega)]
    · rw [if_neg e2, if_neg (by omega)]
theorem Cur.put {ms : List Mk} {obs : List Ob} {s s' : HS} {i k : Nat} (h : Cur ms obs s i k) (hnd : (obs.map Ob.p).Nodup) {o : Ob} (ho : obs[i]? = some o) {v : Int} (hw : want obs ms o k = v)
    (h1 : ∀ o' ∈ obs, o' ≠ o → ∀ i, i < o'.n → s'.wd o' i = s.wd o' i) (h2 : ∀ i, i < o.n → s'.wd o i = if i = k then v else s.wd o i) : Cur ms obs s' i (k + 1) := by
  intro i' o' ho' j hj
  by_cases e : i' = i
  · subst e
    rw [ho] at ho'
    cases ho'
    rw [h2 j hj]
    by_cases e2 : j = k
    · subst e2
      rw [if_pos rfl, if_pos (by omega), hw]
    · rw [if_neg e2, h i' o ho j hj]
      by_cases e3 : j < k
      · rw [if_pos (by omega), if_pos (by omega)]
      · rw [if_neg (by omega), if_neg (by omega)]
  · have hne : o' ≠ o := by
      rintro rfl
      have hl := (List.getElem?_eq_some_iff.1 ho').1
      refine e ((List.getElem?_inj (l := obs.map Ob.p) (by simpa using hl) hnd).1 ?_)
      rw [List.getElem?_map, List.getElem?_map, ho', ho]
    rw [h1 o' (List.mem_of_getElem? ho') hne j hj, h i' o' ho' j hj]
    by_cases e2 : i' < i
    · rw [if_pos (by omega), if_pos (by omega)]
    · rw [if_neg (by omega), if_neg (by omega)]
theorem Cur.next {ms : List Mk} {obs : List Ob} {s : HS} {i k : Nat} (h : Cur ms obs s i k) {o : Ob} (ho : obs[i]? = some o) (hw : ∀ j, k ≤ j → j < o.n → want obs ms o j = 0) : Cur ms obs s (i + 1) 0 := by
  intro i' o' ho' j hj
  rw [h i' o' ho' j hj]
  by_cases e : i' = i
  · subst e
    rw [ho] at ho'
    cases ho'
    by_cases e2 : j < k
    · rw [if_pos (by omega), if_pos (by omega)]
    · rw [if_neg (by omega), if_pos (by omega), hw j (by omega) hj]
  · by_cases e2 : i' < i
    · rw [if_pos (by omega), if_pos (by omega)]
    · rw [if_neg (by omega), if_neg (by omega)]
theorem want_at {obs : List Ob} {ms : List Mk} {o : Ob} {j : Nat} {x : Mk} (hx : ms[o.a.toNat]? = some x) : want obs ms o j = match x.tos[j]? with | none => 0 | some t => if 1 ≤ t ∧ t ≤ obs.length then ((obs[(t - 1).toNat]?).map Ob.p).getD 0 else 0 := by
  unfold want
  rw [hx]
  rfl

theorem rowi_nomap {w : World} {B mp : Nat} {v : Value} {l : List Int} {m : List (Int × Value)} (h : Rowi w B v l) (hm : IM w mp m) : ∀ g, v.ownBlock = some g → g ≠ mp := by
  intro g hg e
  subst e
  obtain ⟨es, ck, h3, _⟩ := hm
  rcases h.2 with h0 | ⟨g', cap, cur, e1, e2, e3, e4⟩
  · rw [h0.1] at hg; simp [Value.ownBlock] at hg
  · rw [e1] at hg
    simp [Value.ownBlock] at hg
    subst hg
    rw [h3] at e3
    cases e3
theorem Fr.step' {w a b : World} {B mp rsb : Nat} (h : Fr [] w a) (k : FrD B mp rsb a b) (hB : w.heap.size ≤ B) : Fr [] w b := k.old h hB
theorem rc_top {C edge : Int} {k n : Nat} (hC : 0 ≤ C) (h : 1 + (C + 3) * n ≤ edge) (hk : k < n) {top : Int} (ht : top ≤ 1 + (C + 3) * k) : C + 3 ≤ edge - top := by
  have h1 : (C + 3) * ((k : Int) + 1) ≤ (C + 3) * (n : Int) := Int.mul_le_mul_of_nonneg_left (by omega) (by omega)
  rw [Int.mul_add] at h1
  omega
theorem rc_next {C : Int} {k : Nat} {top top' : Int} (ht : top ≤ 1 + (C + 3) * k) (h : top' ≤ top + (C + 3)) : top' ≤ 1 + (C + 3) * ((k + 1 : Nat) : Int) := by
  have : (C + 3) * ((k + 1 : Nat) : Int) = (C + 3) * (k : Int) + (C + 3) := by push_cast; rw [Int.mul_add]; simp
  omega
abbrev B1Rest (ms : List Mk) (cls : List Int) (C W Lg : Int) (s : HS) (A : Rg) (obs : List Ob) (k : Nat) : Prop := s.parity = 0 ∧ obs.length ≤ k ∧ (∀ o ∈ obs, ∃ i : Nat, o.a = i ∧ i < k) ∧ (∀ o ∈ obs, o.n < 32) ∧ (∀ o ∈ obs, ∀ j, j < o.n → s.wd o j = 0) ∧
    ((RC ms cls C (W - Lg) → s.top ≤ 1 + (C + 3) * k ∧ obs.length = k ∧ ∀ (i : Nat) (x : Mk) (o : Ob), ms[i]? = some x → obs[i]? = some o → o.k = x.k ∧ (o.n : Int) = x.n ∧ o.a = i) ∧ NoW A ∧ Bt cls (W - Lg) (runs0 W Lg) ms k ⟨s.top, s.x.l, obs⟩)
theorem B1.fail {w wc : World} {L : HL} {D : DL} {W Lg : Int} {cls : List Int} {ms : List Mk} {C : Int} {atv : Value} {k : Nat} {s : HS} {A : Rg} {z : Int → Int} {bits : List Bool} {m : List (Int × Value)} {obs : List Ob} {G : Int → Nat} {x : Mk} (hj : JB wc L D W Lg cls s A z bits m obs G) (hr : Rowi wc D.B atv (obs.map Ob.p)) (hF : Fr [] w wc) (hlo : (∀ x ∈ L.all, w.heap.size ≤ x) ∧ w.heap.size ≤ D.B)
    (h : B1Rest ms cls C W Lg s A obs k) (hx : ms[k]? = some x) (hfail : Fails cls s C x.k x.n ∧ BNo cls (W - Lg) ⟨s.top, s.x.l, obs⟩ x.k x.n) (hC : 0 ≤ C) (hk : k < ms.length) (hoff : ∀ g, atv.ownBlock = some g → OffR wc D.rsb (cls.length + 1) g) : B1 w wc L D W Lg cls ms C atv (k + 1) := by
  obtain ⟨h1, h2, h3, h4, h5, h6, h7, h8⟩ := h
  refine ⟨⟨s, A, z, bits, m, obs, G, hj, hr, h1, by omega, fun o ho => ?_, h4, h5, fun hrc => ?_, h7, h8.no hx hfail.2⟩, hF, hlo, hoff⟩
  · obtain ⟨i, e, hi⟩ := h3 o ho; exact ⟨i, e, by omega⟩
  · exfalso
    obtain ⟨t1, _, _⟩ := h6 hrc
    obtain ⟨a1, a2, a3, a4, a5⟩ := hrc.1 x (List.mem_of_getElem? hx)
    refine hfail.1 ⟨a1, a2, a3, a4, a5, ?_⟩
    rw [hj.jh.edge]
    exact rc_top hC hrc.2 hk t1
theorem B1.more {w wc : World} {L : HL} {D : DL} {W Lg : Int} {cls : List Int} {ms : List Mk} {C : Int} {atv : Value} {k : Nat} {s s' : HS} {A A' : Rg} {z' : Int → Int} {bits' : List Bool} {m' : List (Int × Value)} {obs : List Ob} {G' : Int → Nat} {x : Mk} {o : Ob} (hj : JB wc L D W Lg cls s' A' z' bits' m' (obs ++ [o]) G') (hr : Rowi wc D.B atv (obs.map Ob.p ++ [o.p])) (hF : Fr [] w wc) (hlo : (∀ x ∈ L.all, w.heap.size ≤ x) ∧ w.heap.size ≤ D.B)
    (h : B1Rest ms cls C W Lg s A obs k) (hx : ms[k]? = some x) (o2 : o.k = x.k) (o3 : (o.n : Int) = x.n) (o4 : o.a = k) (o5 : o.n < 32) (g1 : ∀ o ∈ obs, ∀ j, j < o.n → s'.wd o j = s.wd o j) (g2 : ∀ j, j < o.n → s'.wd o j = 0) (g3 : s'.parity = s.parity) (g5 : s'.top ≤ s.top + (C + 3) ∧ (NoW A → NoW A' ∧ BYes cls (W - Lg) ⟨s.top, s.x.l, obs⟩ ⟨s'.top, s'.x.l, obs ++ [o]⟩ x.k k x.n)) (hoff : ∀ g, atv.ownBlock = some g → OffR wc D.rsb (cls.length + 1) g) : B1 w wc L D W Lg cls ms C atv (k + 1) := by
  obtain ⟨h1, h2, h3, h4, h5, h6, h7, h8⟩ := h
  refine ⟨⟨s', A', z', bits', m', obs ++ [o], G', hj, by simpa using hr, g3.trans h1, by simp; omega, fun o' ho => ?_, fun o' ho => ?_, fun o' ho j hjn => ?_, fun hrc => ?_, (g5.2 h7).1, h8.yes hx (g5.2 h7).2⟩, hF, hlo, hoff⟩
  · rcases List.mem_append.1 ho with ho | ho
    · obtain ⟨i, e, hi⟩ := h3 o' ho; exact ⟨i, e, by omega⟩
    · obtain rfl := List.mem_singleton.1 ho; exact ⟨k, o4, by omega⟩
  · rcases List.mem_append.1 ho with ho | ho
    · exact h4 o' ho
    · obtain rfl := List.mem_singleton.1 ho; exact o5
  · rcases List.mem_append.1 ho with ho | ho
    · rw [g1 o' ho j hjn]; exact h5 o' ho j hjn
    · obtain rfl := List.mem_singleton.1 ho; exact g2 j hjn
  · obtain ⟨t1, t2, t3⟩ := h6 hrc
    refine ⟨rc_next t1 g5.1, by simp; omega, fun i y o' hy ho' => ?_⟩
    by_cases e : i = k
    · subst e
      rw [hx] at hy
      cases hy
      rw [List.getElem?_append_right (by omega), t2] at ho'
      simp at ho'
      subst ho'
      exact ⟨o2, o3, o4⟩
    · have : i < obs.length := by
        have := (List.getElem?_eq_some_iff.1 ho').1
        simp at this
        omega
      rw [List.getElem?_append_left this] at ho'
      exact t3 i y o' hy ho'

end Go.Proofs.Ytifillpcphiblaa
