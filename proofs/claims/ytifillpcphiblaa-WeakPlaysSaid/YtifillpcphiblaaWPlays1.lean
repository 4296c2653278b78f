import Derived.Test.YtifillpcphiblaaWPlays0
namespace Go.Proofs.Ytifillpcphiblaa
open Go Go.Proofs Go.RowKit

/-! WeakPlays: what each call leaves. -/

structure PlI (p : LP) (c : Bool) (j : Nat) : Prop where
  R : p.R = tagged p.ks (p.pre ++ p.walk)
  Q : p.Q = tagged p.ks p.queue
  K : p.K = tagged p.ks p.walk
  mkd : ∀ i, i < p.n → ((p.ks i).ko.m = p.s.parity ↔ plc p.ks i ∈ p.M)
  n : p.n ≤ j
  S : p.S.length ≤ 2 * j
  M : p.M.length ≤ j
  top : p.s.top = 1 + 15 * p.n
  edge : p.s.edge = 3000
  c0 : c = false → p.s.parity = 0 ∧ NoFG p.A ∧ ∀ i, i < p.n → (p.ks i).ko.m = 0

theorem PlI.new : PlI (LP.new ks0) false 0 := ⟨rfl, rfl, rfl, fun i hi => absurd hi (Nat.not_lt_zero i), Nat.le_refl _, by simp [LP.new], by simp [LP.new], rfl, by show ((3000 : Nat) : Int) - ((0 : Nat) : Int) = 3000; decide, fun _ => ⟨rfl, fun q => ⟨rfl, rfl⟩, fun i hi => absurd hi (Nat.not_lt_zero i)⟩⟩
theorem PlI.tick {p : LP} {c : Bool} {j : Nat} (h : PlI p c j) (k : Int) : PlI { p with s := p.s.tick k } c j := ⟨h.R, h.Q, h.K, h.mkd, h.n, h.S, h.M, h.top, h.edge, h.c0⟩
theorem PlI.le {p : LP} {c : Bool} {j j' : Nat} (h : PlI p c j) (hj : j ≤ j') : PlI p c j' := ⟨h.R, h.Q, h.K, h.mkd, Nat.le_trans h.n hj, by have := h.S; omega, Nat.le_trans h.M hj, h.top, h.edge, h.c0⟩

theorem tagged_congr {ks ks' : Nat → Wk} {l : List Nat} (h : ∀ i ∈ l, plc ks' i = plc ks i) : tagged ks' l = tagged ks l := List.map_congr_left (fun i hi => by rw [h i hi])
theorem tagged_app (ks : Nat → Wk) (a b : List Nat) : tagged ks (a ++ b) = tagged ks a ++ tagged ks b := by simp [tagged]

theorem PlI.add {w0 w w' : World} {l : LL} {p p' : LP} {c : Bool} {j : Nat} {k : Wk} (h : PlI p c j) (r : WR w0 w l p) (r' : WR w0 w' l p') (d : Added p p' k) : PlI p' c (j + 1) := by
  have hp : ∀ i, i < p.n → plc p'.ks i = plc p.ks i := fun i hi => by unfold plc; rw [d.ks, upk_ne _ _ (by omega)]
  have hm : ∀ i ∈ p.pre ++ p.walk ++ p.queue, plc p'.ks i = plc p.ks i := fun i hi => hp i (r.wt.mem hi)
  have hnew : plc p'.ks p.n = k.o.p := by unfold plc; rw [d.ks, upk_same]
  refine ⟨?_, ?_, ?_, fun i hi => ?_, ?_, ?_, ?_, ?_, d.edge.trans h.edge, fun hc => ?_⟩
  · rw [d.R, d.pre, d.walk, h.R]
    show _ = (plc p'.ks p.n, (p.n : Int)) :: tagged p'.ks (p.pre ++ p.walk)
    rw [hnew, tagged_congr (fun i hi => hm i (List.mem_append_left _ hi))]
  · rw [d.Q, d.queue, h.Q, tagged_congr (fun i hi => hm i (List.mem_append_right _ hi))]
  · rw [d.K, d.walk, h.K, tagged_congr (fun i hi => hm i (by simp [hi]))]
  · rw [d.M, List.mem_append, List.mem_singleton]
    by_cases e : i = p.n
    · subst e
      rw [hnew]
      have : (p'.ks p.n).ko.m = p'.s.parity := by
        have := d.km
        rw [d.ks, upk_same]; exact this
      simp [this]
    · have hi' : i < p.n := by have := d.n; omega
      have hne : plc p.ks i ≠ k.o.p := by
        have g := r'.wh.ob i (by rw [d.n]; omega)
        have g' := r'.wh.ob p.n (by rw [d.n]; omega)
        have := g'.no g (Ne.symm e)
        rw [← hp i hi', ← hnew]
        exact this
      have e2 : (p'.ks i).ko.m = (p.ks i).ko.m := by rw [d.ks, upk_ne _ _ e]
      rw [e2, d.par, hp i hi', h.mkd i hi']
      simp [hne]
  · have := d.n; have := h.n; omega
  · rw [d.S]; have := h.S; omega
  · rw [d.M]; have := h.M; simp; omega
  · rw [d.top, h.top, d.n]; omega
  · obtain ⟨a, b, e⟩ := h.c0 hc
    refine ⟨d.par.trans a, fun q => ⟨(d.FG q).1.trans (b q).1, (d.FG q).2.trans (b q).2⟩, fun i hi => ?_⟩
    rw [d.ks]
    by_cases e1 : i = p.n
    · subst e1; rw [upk_same, d.km, d.par, a]
    · rw [upk_ne _ _ e1]; exact e i (by have := d.n; omega)

theorem PlI.mark {w0 w : World} {l : LL} {p p' : LP} {j : Nat} (h : PlI p true j) (r : WR w0 w l p) (m : MarkedP p p') : PlI p' true (j + 1) := by
  rcases m with ⟨m, rfl⟩ | ⟨i, s', A', hi, hne, st, rfl⟩
  · exact (h.tick m).le (Nat.le_succ _)
  · have hp : ∀ x, plc (upk p.ks i { p.ks i with ko := { (p.ks i).ko with m := p.s.parity } }) x = plc p.ks x := fun x => km_o p.ks i _ x
    have ht : ∀ q, tagged (upk p.ks i { p.ks i with ko := { (p.ks i).ko with m := p.s.parity } }) q = tagged p.ks q := fun q => tagged_congr (fun x _ => hp x)
    refine ⟨by show p.R = tagged _ _; rw [ht]; exact h.R, by show p.Q = tagged _ _; rw [ht]; exact h.Q, by show p.K = tagged _ _; rw [ht]; exact h.K, fun x hx => ?_, Nat.le_succ_of_le h.n, by show p.S.length ≤ _; have := h.S; omega, by show (p.M ++ [_]).length ≤ _; have := h.M; simp; omega, st.top.trans h.top, st.edge.trans h.edge, fun e => by cases e⟩
    show (upk p.ks i _ x).ko.m = s'.parity ↔ plc (upk p.ks i _) x ∈ p.M ++ [(p.ks i).o.p]
    rw [hp x, km_marked, st.parity, List.mem_append, List.mem_singleton]
    by_cases e : x = i
    · subst e; simp [plc]
    · rw [if_neg e]
      have hx' : x < p.n := hx
      have : plc p.ks x ≠ (p.ks i).o.p := (r.wh.ob i hi).no (r.wh.ob x hx') (Ne.symm e)
      rw [h.mkd x hx']
      simp [this]

theorem PlI.cycle {p : LP} {j : Nat} {s' : HS} (h : PlI p false j) (hp : s'.parity = 1 - p.s.parity) (ht : s'.top = p.s.top) (he : s'.edge = p.s.edge) : PlI { p with M := [], s := s', A := p.A.begun } true (j + 1) := by
  obtain ⟨a, b, c⟩ := h.c0 rfl
  refine ⟨h.R, h.Q, h.K, fun i hi => ?_, Nat.le_succ_of_le h.n, by show p.S.length ≤ _; have := h.S; omega, Nat.zero_le _, ht.trans h.top, he.trans h.edge, fun e => by cases e⟩
  show (p.ks i).ko.m = s'.parity ↔ plc p.ks i ∈ []
  rw [c i hi, hp, a]
  simp

/-- The document's part of the world. -/
theorem WR.doc {w0 w w' : World} {l : LL} {p : LP} (h : WR w0 w l p) (hF : Fr [l.mb] w w') {R Q K : List (Int × Int)} (hM : MR w' l.mb l.base R Q K) : WR w0 w' l { p with R := R, Q := Q, K := K } := by
  obtain ⟨kv, wv, mv, sv, hws⟩ := h.ws
  obtain ⟨h1, h2, h3, h4⟩ := madd_rest h.ok hws hF h.h h.t h.fr
  exact ⟨h.ok, h1, h2, h.wh, h.wt, ⟨kv, wv, mv, sv, h3⟩, hM, h4⟩

theorem PlI.len {w0 w : World} {l : LL} {p : LP} {c : Bool} {j : Nat} (h : PlI p c j) (r : WR w0 w l p) : p.R.length ≤ p.n ∧ p.Q.length ≤ p.n := by
  have := r.wt.alen
  rw [h.R, h.Q, tagged_len, tagged_len, List.length_append]
  omega

theorem wDBegin (w0 w : World) (l : LL) (p : LP) (h : WR w0 w l p) (hR : p.R.length ≤ 65536) :
    Calls Try.prog 45 #[.pointer (some ⟨l.mb, 0, none⟩)] w fun e w' => e = .returned (.tuple #[]) ∧ WR w0 w' l { p with K := p.R } := by
  refine (mBegin l.mb l.base p.R p.Q p.K w h.m h.bs.1 h.ok.m5 hR).mono ?_
  rintro e w' ⟨rfl, hM, hF⟩
  exact ⟨rfl, h.doc hF hM⟩
theorem PlI.begin {p : LP} {c : Bool} {j : Nat} {t' : TS} (h : PlI p c j) : PlI { p with t := t', pre := [], walk := p.pre ++ p.walk, K := p.R } c (j + 1) :=
  ⟨h.R, h.Q, h.R, h.mkd, Nat.le_succ_of_le h.n, by show p.S.length ≤ _; have := h.S; omega, Nat.le_succ_of_le h.M, h.top, h.edge, h.c0⟩

theorem wDStep0 (w0 w : World) (l : LL) (p : LP) (v1 : Value) (h : WR w0 w l p) (hK : p.K = []) :
    Calls Try.prog 46 #[.pointer (some ⟨l.mb, 0, none⟩), v1] w fun e w' => e = .returned (.agg #[.int .i64 0, .int .i64 0, .bool false, .bool false]) ∧ WR w0 w' l p ∧ Fr [l.mb] w w' := by
  have hm := h.m
  rw [hK] at hm
  refine (mStep0 l.mb l.base p.R p.Q v1 w hm).mono ?_
  rintro e w' ⟨rfl, hM, hF⟩
  exact ⟨rfl, h.frnil hF, hF.here (by simp)⟩
theorem wDStep (w0 w : World) (l : LL) (p : LP) (v1 : Value) (a n : Int) (K : List (Int × Int)) (h : WR w0 w l p) (hK : p.K = (a, n) :: K) (hv : w.ownsRow l.base 3 1 v1 p.M.length (intv p.M)) (hM : p.M.length ≤ 65536) (hR : p.R.length ≤ 60000) (hQ : p.Q.length ≤ 60000) :
    Calls Try.prog 46 #[.pointer (some ⟨l.mb, 0, none⟩), v1] w (StepPost w l.mb l.base p.R p.Q K a n p.M) := by
  have hm := h.m
  rw [hK] at hm
  exact mStep l.mb l.base p.R p.Q K a n v1 p.M w hm h.ok.m5 h.bs.1 (own_arg hv) (fun e => by have := (own_lt hv e).1; have := h.ok.m5; omega) hM hR hQ
theorem wDStepKeep (w0 w : World) (l : LL) (p : LP) (v1 : Value) (a n : Int) (K : List (Int × Int)) (h : WR w0 w l p) (hK : p.K = (a, n) :: K) (hv : w.ownsRow l.base 3 1 v1 p.M.length (intv p.M)) (hM : p.M.length ≤ 65536) (hR : p.R.length ≤ 60000) (hQ : p.Q.length ≤ 60000) (hin : a ∈ p.M) :
    Calls Try.prog 46 #[.pointer (some ⟨l.mb, 0, none⟩), v1] w fun e w' => e = .returned (.agg #[.int .i64 0, .int .i64 n, .bool false, .bool true]) ∧ WR w0 w' l { p with K := K } ∧ Fr [l.mb] w w' := by
  refine (wDStep w0 w l p v1 a n K h hK hv hM hR hQ).mono ?_
  rintro e w' (⟨_, rfl, h1, h2⟩ | ⟨hno, _⟩)
  · exact ⟨rfl, h.doc h2 h1, h2⟩
  · exact absurd hin hno
theorem wDStepBury (w0 w : World) (l : LL) (p : LP) (v1 : Value) (a n : Int) (K : List (Int × Int)) (h : WR w0 w l p) (hK : p.K = (a, n) :: K) (hv : w.ownsRow l.base 3 1 v1 p.M.length (intv p.M)) (hM : p.M.length ≤ 65536) (hR : p.R.length ≤ 60000) (hQ : p.Q.length ≤ 60000) (hno : a ∉ p.M) :
    Calls Try.prog 46 #[.pointer (some ⟨l.mb, 0, none⟩), v1] w fun e w' => e = .returned (.agg #[.int .i64 0, .int .i64 n, .bool true, .bool true]) ∧ WR w0 w' l { p with R := keepR a p.R, Q := p.Q ++ [(a, n)], K := K } ∧ Fr [l.mb] w w' := by
  refine (wDStep w0 w l p v1 a n K h hK hv hM hR hQ).mono ?_
  rintro e w' (⟨hin, _⟩ | ⟨_, rfl, h1, h2⟩)
  · exact absurd hin hno
  · exact ⟨rfl, h.doc h2 h1, h2⟩

theorem PlI.step0 {p : LP} {c : Bool} {j : Nat} {t' : TS} (h : PlI p c j) (hw : p.walk = []) : PlI { p with t := t', walk := [] } c (j + 1) := by
  refine ⟨?_, h.Q, ?_, h.mkd, Nat.le_succ_of_le h.n, by show p.S.length ≤ _; have := h.S; omega, Nat.le_succ_of_le h.M, h.top, h.edge, h.c0⟩
  · have := h.R; rw [hw] at this; exact this
  · have := h.K; rw [hw] at this; exact this
theorem PlI.keep {p : LP} {c : Bool} {j i : Nat} {wk : List Nat} {t' : TS} {m : Int} (h : PlI p c j) (hw : p.walk = i :: wk) : PlI { p with s := p.s.tick m, t := t', pre := p.pre ++ [i], walk := wk, K := tagged p.ks wk } c (j + 1) := by
  refine ⟨?_, h.Q, rfl, h.mkd, Nat.le_succ_of_le h.n, by show p.S.length ≤ _; have := h.S; omega, Nat.le_succ_of_le h.M, h.top, h.edge, h.c0⟩
  have := h.R
  rw [hw] at this
  show p.R = tagged p.ks (p.pre ++ [i] ++ wk)
  rw [List.append_assoc]; exact this
theorem PlI.K' {p : LP} {c : Bool} {j i : Nat} {wk : List Nat} (h : PlI p c j) (hw : p.walk = i :: wk) : p.K = ((p.ks i).o.p, (i : Int)) :: tagged p.ks wk := by
  have := h.K
  rw [hw] at this
  exact this
theorem PlI.Q' {p : LP} {c : Bool} {j i : Nat} {qu : List Nat} (h : PlI p c j) (hq : p.queue = i :: qu) : p.Q = ((p.ks i).o.p, (i : Int)) :: tagged p.ks qu := by
  have := h.Q
  rw [hq] at this
  exact this
theorem PlI.bury {w0 w : World} {l : LL} {p : LP} {c : Bool} {j i : Nat} {wk : List Nat} {s' : HS} {t' : TS} (h : PlI p c j) (r : WR w0 w l p) (hw : p.walk = i :: wk) (st : Sta p.s s') :
    PlI { p with s := s', t := t', ks := upk p.ks i { p.ks i with o := { (p.ks i).o with k := 10 } }, walk := wk, queue := p.queue ++ [i], R := keepR (p.ks i).o.p p.R, Q := p.Q ++ [((p.ks i).o.p, (i : Int))], K := tagged p.ks wk } c (j + 1) := by
  have hp : ∀ x, plc (upk p.ks i { p.ks i with o := { (p.ks i).o with k := 10 } }) x = plc p.ks x := upk_op rfl
  have hm : ∀ x, (upk p.ks i { p.ks i with o := { (p.ks i).o with k := 10 } } x).ko.m = (p.ks x).ko.m := upk_km rfl
  have ht : ∀ q, tagged (upk p.ks i { p.ks i with o := { (p.ks i).o with k := 10 } }) q = tagged p.ks q := fun q => tagged_congr (fun x _ => hp x)
  have hnd := r.wt.nd
  rw [hw] at hnd
  have hin : i < p.n := r.wt.mem (by rw [hw]; simp)
  have hne : ∀ x ∈ p.pre ++ wk, plc p.ks x ≠ (p.ks i).o.p := by
    intro x hx
    have hxn : x < p.n := r.wt.mem (by rw [hw]; simp at hx ⊢; rcases hx with hx | hx <;> simp [hx])
    refine (r.wh.ob i hin).no (r.wh.ob x hxn) (fun e => ?_)
    subst e
    rw [List.nodup_append, List.nodup_append] at hnd
    obtain ⟨⟨_, a, b⟩, _⟩ := hnd
    rcases List.mem_append.1 hx with hx | hx
    · exact b i hx i (by simp) rfl
    · exact (List.nodup_cons.1 a).1 hx
  refine ⟨?_, ?_, ?_, fun x hx => ?_, Nat.le_succ_of_le h.n, by show p.S.length ≤ _; have := h.S; omega, Nat.le_succ_of_le h.M, st.top.trans h.top, st.edge.trans h.edge, fun e => ?_⟩
  · show keepR (p.ks i).o.p p.R = tagged _ (p.pre ++ wk)
    rw [ht, h.R, hw]
    have e1 : tagged p.ks (p.pre ++ i :: wk) = tagged p.ks p.pre ++ (plc p.ks i, (i : Int)) :: tagged p.ks wk := by rw [tagged_app]; rfl
    have keep : ∀ q : List Nat, (∀ x ∈ q, plc p.ks x ≠ (p.ks i).o.p) → keepR (p.ks i).o.p (tagged p.ks q) = tagged p.ks q := by
      intro q hq
      refine List.filter_eq_self.2 (fun y hy => ?_)
      obtain ⟨x, hx, rfl⟩ := List.mem_map.1 hy
      have := hq x hx
      simp [this]
    rw [e1, tagged_app]
    have e2 : ∀ a b : List (Int × Int), keepR (p.ks i).o.p (a ++ (plc p.ks i, (i : Int)) :: b) = keepR (p.ks i).o.p a ++ keepR (p.ks i).o.p b := fun a b => by simp [keepR, plc]
    rw [e2, keep _ (fun x hx => hne x (List.mem_append_left _ hx)), keep _ (fun x hx => hne x (List.mem_append_right _ hx))]
  · show p.Q ++ [_] = tagged _ (p.queue ++ [i])
    rw [ht, tagged_app, h.Q]; rfl
  · show tagged p.ks wk = tagged _ wk
    rw [ht]
  · show (upk p.ks i _ x).ko.m = s'.parity ↔ plc (upk p.ks i _) x ∈ p.M
    rw [hm, hp, st.parity]; exact h.mkd x hx
  · obtain ⟨a, b, e'⟩ := h.c0 e
    exact ⟨st.parity.trans a, b, fun x hx => (hm x).trans (e' x hx)⟩

theorem PlI.take {p : LP} {c : Bool} {j i : Nat} {qu : List Nat} {s' : HS} {t' : TS} {a b : Int} (h : PlI p c j) (_ : p.queue = i :: qu) (st : Sta p.s s') :
    PlI { p with s := s', t := t', queue := qu, S := p.S ++ [a] ++ [b], Q := tagged p.ks qu } c (j + 1) := by
  refine ⟨h.R, rfl, h.K, fun x hx => ?_, Nat.le_succ_of_le h.n, ?_, Nat.le_succ_of_le h.M, st.top.trans h.top, st.edge.trans h.edge, fun e => ?_⟩
  · show (p.ks x).ko.m = s'.parity ↔ _
    rw [st.parity]; exact h.mkd x hx
  · show (p.S ++ [a] ++ [b]).length ≤ _
    have := h.S; simp; omega
  · obtain ⟨a', b', e'⟩ := h.c0 e
    exact ⟨st.parity.trans a', b', e'⟩

theorem wDTake0 (w0 w : World) (l : LL) (p : LP) (h : WR w0 w l p) (hQ : p.Q = []) :
    Calls Try.prog 47 #[.pointer (some ⟨l.mb, 0, none⟩)] w fun e w' => e = .returned (.agg #[.int .i64 0, .int .i64 0, .bool false, .bool false]) ∧ WR w0 w' l p := by
  have hm := h.m
  rw [hQ] at hm
  refine (mTake0 l.mb l.base p.R p.K w hm).mono ?_
  rintro e w' ⟨rfl, hM, hF⟩
  exact ⟨rfl, h.frnil hF⟩
theorem wDTake (w0 w : World) (l : LL) (p : LP) (a n : Int) (Q : List (Int × Int)) (h : WR w0 w l p) (hQ : p.Q = (a, n) :: Q) :
    Calls Try.prog 47 #[.pointer (some ⟨l.mb, 0, none⟩)] w fun e w' => e = .returned (.agg #[.int .i64 a, .int .i64 n, .bool false, .bool true]) ∧ WR w0 w' l { p with Q := Q } := by
  have hm := h.m
  rw [hQ] at hm
  refine (mTake l.mb l.base p.R Q p.K a n w hm h.ok.m5).mono ?_
  rintro e w' ⟨rfl, hM, hF⟩
  exact ⟨rfl, h.doc hF hM⟩
end Go.Proofs.Ytifillpcphiblaa
