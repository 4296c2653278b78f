import Derived.Test.YtifillpcphiblaaPBuilt
namespace Go.Proofs.Ytifillpcphiblaa
open Go Go.Proofs Go.RowKit

/-! Both heaps allocate. -/

theorem JB.same {w w1 : World} {L : HL} {D : DL} {W Lg : Int} {cls : List Int} {s : HS} {A : Rg} {z : Int → Int} {bits : List Bool} {m : List (Int × Value)} {obs : List Ob} {G : Int → Nat} (h : JB w L D W Lg cls s A z bits m obs G) (hr : HRep w1 L s) (hF : Fr L.fp w w1) : JB w1 L D W Lg cls s A z bits m obs G := by
  obtain ⟨d1, d2⟩ := h.dfr hF
  exact ⟨hr, ⟨d1, h.jh.hi, h.jh.sv, h.jh.ecls, h.jh.cl, h.jh.edge, h.jh.ew, h.jh.lg, h.jh.same, h.jh.bl, h.jh.par⟩, h.low, h.svo, d2, h.inn, h.nofg, h.rows, h.nd⟩
theorem JB.doc {w w1 : World} {L : HL} {D : DL} {W Lg : Int} {cls : List Int} {s : HS} {A : Rg} {z : Int → Int} {bits : List Bool} {m : List (Int × Value)} {obs : List Ob} {G : Int → Nat} (h : JB w L D W Lg cls s A z bits m obs G) (hd : DH w1 D W Lg cls (rowsOf A cls.length) bits s.top s.parity m) (hF : FrD D.B D.mp D.rsb w w1) : JB w1 L D W Lg cls s A z bits m obs G := by
  obtain ⟨⟨S, hFS, hS⟩, _⟩ := id hF
  refine ⟨h.hr.fr hFS (fun x hx hc => by have := (hS x hx).1; have := h.low x hc; omega), ⟨hd, h.jh.hi, h.jh.sv, h.jh.ecls, h.jh.cl, h.jh.edge, h.jh.ew, h.jh.lg, h.jh.same, h.jh.bl, h.jh.par⟩, h.low, h.svo, ⟨h.dob.get, fun o ho => ⟨(h.dob.blk o ho).1, ?_⟩, h.dob.inj, h.dob.only⟩, h.inn, h.nofg, h.rows, h.nd⟩
  have hb := h.dob.blk o ho
  exact hF.blk hb.2 ⟨by decide, by decide, by decide⟩ (nomap h.jh.dh.im hb.2)

/-- It may fail only so. -/
def Fails (cls : List Int) (s : HS) (C k n : Int) : Prop := ¬ (0 ≤ k ∧ k ≤ 10 ∧ 0 ≤ n ∧ n ≤ 31 ∧ ixGe cls n ≠ -1 ∧ C + 3 ≤ s.edge - s.top)

def NoW (A : Rg) : Prop := ∀ j, (A (some j)).W = []
/-- What an allocation hangs on, while nothing is freed. -/
structure BS where
  top : Int
  l : List (Int × Int)
  obs : List Ob
def BNo (cls : List Int) (edge : Int) (b : BS) (k n : Int) : Prop := dPackErr k n ≠ 0 ∨ (ixGe cls n = -1 ∧ ∀ y ∈ b.l, y.2 < n + 3) ∨ ∃ (j : Nat) (c : Int), ixGe cls n = j ∧ cls[j]? = some c ∧ edge - b.top < c + 3
def BYes (cls : List Int) (edge : Int) (b b' : BS) (k a n : Int) : Prop := dPackErr k n = 0 ∧
  ((∃ (j : Nat) (c : Int), ixGe cls n = j ∧ cls[j]? = some c ∧ c + 3 ≤ edge - b.top ∧ b' = ⟨b.top + (c + 3), b.l, b.obs ++ [⟨some j, b.top, k, n.toNat, a, 0⟩]⟩) ∨
   (ixGe cls n = -1 ∧ ∃ l1 p m l2, b.l = l1 ++ (p, m) :: l2 ∧ (∀ y ∈ l1, y.2 < n + 3) ∧ n + 3 ≤ m ∧ b' = ⟨b.top, cutRun l1 p m (n + 3) l2, b.obs ++ [⟨none, p, k, n.toNat, a, 0⟩]⟩))
theorem firstfit {n : Int} : ∀ {l1 l1' l2 l2' : List (Int × Int)} {p m p' m' : Int}, l1 ++ (p, m) :: l2 = l1' ++ (p', m') :: l2' → (∀ y ∈ l1, y.2 < n) → n ≤ m → (∀ y ∈ l1', y.2 < n) → n ≤ m' → l1 = l1' ∧ p = p' ∧ m = m' ∧ l2 = l2' := by
  intro l1
  induction l1 with
  | nil =>
    intro l1' l2 l2' p m p' m' e h1 h2 h3 h4
    cases l1' with
    | nil => simp at e; exact ⟨rfl, e.1.1, e.1.2, e.2⟩
    | cons y l =>
      simp at e
      have := h3 y (by simp)
      rw [← e.1] at this
      simp at this
      omega
  | cons x l ih =>
    intro l1' l2 l2' p m p' m' e h1 h2 h3 h4
    cases l1' with
    | nil =>
      simp at e
      have := h1 x (by simp)
      rw [e.1] at this
      simp at this
      omega
    | cons y l' =>
      simp at e
      obtain ⟨a, b, c, d⟩ := ih e.2 (fun z hz => h1 z (List.mem_cons_of_mem _ hz)) h2 (fun z hz => h3 z (List.mem_cons_of_mem _ hz)) h4
      exact ⟨by rw [e.1, a], b, c, d⟩
theorem BYes.no {cls : List Int} {edge : Int} {b b' : BS} {k a n : Int} (h : BYes cls edge b b' k a n) : ¬ BNo cls edge b k n := by
  rintro (h1 | ⟨h1, h2⟩ | ⟨j, c, h1, h2, h3⟩)
  · exact h1 h.1
  · rcases h.2 with ⟨j', c', e1, _⟩ | ⟨_, l1, p, m, l2, e1, _, e3, _⟩
    · omega
    · have := h2 (p, m) (by rw [e1]; simp)
      simp at this
      omega
  · rcases h.2 with ⟨j', c', e1, e2, e3, _⟩ | ⟨e1, _⟩
    · have : j = j' := by omega
      subst this
      rw [h2] at e2
      cases e2
      omega
    · omega
theorem BYes.det {cls : List Int} {edge : Int} {b b' b'' : BS} {k a n : Int} (h : BYes cls edge b b' k a n) (h' : BYes cls edge b b'' k a n) : b' = b'' := by
  rcases h.2 with ⟨j, c, e1, e2, e3, rfl⟩ | ⟨e1, l1, p, m, l2, e2, e3, e4, rfl⟩ <;> rcases h'.2 with ⟨j', c', d1, d2, d3, rfl⟩ | ⟨d1, l1', p', m', l2', d2, d3, d4, rfl⟩
  · have : j = j' := by omega
    subst this
    rw [e2] at d2
    cases d2
    rfl
  · omega
  · omega
  · rw [e2] at d2
    obtain ⟨rfl, rfl, rfl, rfl⟩ := firstfit d2 e3 e4 d3 d4
    rfl

def EvPost (L : HL) (D : DL) (W Lg : Int) (cls : List Int) (s : HS) (A : Rg) (z : Int → Int) (bits : List Bool) (m : List (Int × Value)) (obs : List Ob) (G : Int → Nat) (C k a n p er : Int) (w1 : World) (e : Ending) (w2 : World) : Prop :=
  e = .returned (.tuple #[.int .i64 p, .int .i64 er]) ∧ FrD D.B D.mp D.rsb w1 w2 ∧
    ((er ≠ 0 ∧ (Fails cls s C k n ∧ BNo cls (W - Lg) ⟨s.top, s.x.l, obs⟩ k n) ∧ JB w2 L D W Lg cls s A z bits m obs G) ∨
     (er = 0 ∧ ∃ s' A' z' bits' m' G' o, o.p = p ∧ o.k = k ∧ (o.n : Int) = n ∧ o.a = a ∧ o.n < 32 ∧ JB w2 L D W Lg cls s' A' z' bits' m' (obs ++ [o]) G' ∧ (∀ o ∈ obs, ∀ j, j < o.n → s'.wd o j = s.wd o j) ∧ (∀ j, j < o.n → s'.wd o j = 0) ∧ s'.parity = s.parity ∧ s'.edge = s.edge ∧ (s'.top ≤ s.top + (C + 3) ∧ (NoW A → NoW A' ∧ BYes cls (W - Lg) ⟨s.top, s.x.l, obs⟩ ⟨s'.top, s'.x.l, obs ++ [o]⟩ k a n))))

theorem jEv {w : World} {L : HL} {D : DL} {W Lg : Int} {cls : List Int} {s : HS} {A : Rg} {z : Int → Int} {bits : List Bool} {m : List (Int × Value)} {obs : List Ob} {G : Int → Nat} (h : JB w L D W Lg cls s A z bits m obs G) (C k a n : Int) (hC : ∀ c ∈ cls, c ≤ C) (hC0 : 0 ≤ C) (a0 : 0 ≤ a) (a1 : a < 16777216) :
    Calls Try.prog 22 #[.pointer (some ⟨L.hb, 0, none⟩), .int .i64 k, .int .i64 a, .int .i64 n] w fun e w1 => ∃ p er, e = .returned (.tuple #[.int .i64 p, .int .i64 er]) ∧ Fr L.fp w w1 ∧
      ∀ w1', Fr [] w1 w1' → Calls Try.prog 103 #[.pointer (some ⟨D.mb, 0, none⟩), .int .i64 k, .int .i64 a, .int .i64 n] w1' (EvPost L D W Lg cls s A z bits m obs G C k a n p er w1') := by
  have hpar := h.jh.par
  by_cases hbad : dPackErr k n = 0
  · have hk : 0 ≤ k ∧ k ≤ 10 := by unfold dPackErr at hbad; split at hbad <;> (try split at hbad) <;> omega
    have hn : 0 ≤ n ∧ n ≤ 31 := by unfold dPackErr at hbad; split at hbad <;> (try split at hbad) <;> omega
    obtain ⟨N, rfl⟩ := Int.eq_ofNat_of_zero_le hn.1
    have hd : Hd k N a s.parity := ⟨hk.1, hk.2, by omega, by omega, by omega, by omega, a0, a1⟩
    refine (hAllocX L s A z k a N w h.hr h.jh.hi hd).mono ?_
    rintro e w1 ⟨hF, ⟨rfl, hH, hno⟩ | ⟨q, p, s', A', z', rfl, hH, hA, hh⟩⟩
    · refine ⟨0, 2, rfl, hF, fun w1' hF1 => ?_⟩
      have hj := (h.same hH hF).tick hF1
      refine (hj.jh.allocNo k a N hd hno).mono ?_
      rintro e w2 ⟨rfl, h2, hF2⟩
      have hcl := h.jh.ecls
      have hed := h.jh.edge
      refine ⟨rfl, hF2, .inl ⟨by decide, ⟨?_, ?_⟩, hj.doc h2 hF2⟩⟩
      case refine_2 =>
        rcases hno with ⟨e3, e4⟩ | ⟨j, c, e3, _, e4, e5⟩
        · exact .inr (.inl ⟨by rw [← hcl]; exact e3, e4⟩)
        · exact .inr (.inr ⟨j, c, by rw [← hcl]; exact e3, by rw [← hcl]; exact e4, by simp only; omega⟩)
      rintro ⟨-, -, -, -, e1, e2⟩
      rcases hno with ⟨e3, _⟩ | ⟨j, c, e3, _, e4, e5⟩
      · rw [hcl] at e3; exact e1 e3
      · rw [hcl] at e4
        have := hC c (List.mem_of_getElem? e4)
        omega
    · refine ⟨p, 0, rfl, hF, fun w1' hF1 => ?_⟩
      have hF' : Fr L.fp w w1' := hF.trans (hF1.here (by simp))
      have hH' := hH.fr hF1 (by simp)
      have hjh : JH w1' D W Lg cls bits m s A z := ⟨(h.dfr hF').1, h.jh.hi, h.jh.sv, h.jh.ecls, h.jh.cl, h.jh.edge, h.jh.ew, h.jh.lg, h.jh.same, h.jh.bl, h.jh.par⟩
      obtain ⟨bits', b1, b2, b3⟩ := hjh.alloc k a N hd hA hh
      refine b3.mono ?_
      intro e w2 hY
      obtain ⟨r1, r2, g, r3, r4, r5⟩ := h.alloc hd hH' hF' hA b1 b2 hY 0
      refine ⟨r1, r2, .inr ⟨rfl, s', A', z', bits', _, _, ⟨q, p, k, N, a, 0⟩, rfl, rfl, rfl, rfl, by show N < 32; omega, r3, r4, r5, hA.parity, hA.edge, ?_, fun hnw => ?_⟩⟩
      case refine_2 =>
        have hcl := h.jh.ecls
        have hed := h.jh.edge
        obtain ⟨W', hA', hrow⟩ := hA.row
        have hring := hA.ring
        rw [hcl] at hring
        refine ⟨fun j => ?_, hbad, ?_⟩
        · rw [hA']
          by_cases e : some j = q
          · subst e
            rw [Rg.up_same]
            rcases hrow with h1 | ⟨_, _, h1⟩
            · rw [hnw j] at h1; cases h1
            · exact h1 (by simp)
          · rw [Rg.up_ne A e]; exact hnw j
        · rcases hh with ⟨j, W1, e1, e2, _⟩ | ⟨j, c, e1, e2, e3, e4, e5, e6, e7, _⟩ | ⟨e1, l1, m1, l2, e2, e3, e4, e5, e6, _⟩
          · rw [hnw j] at e2; cases e2
          · rw [hcl] at e3
            subst e1
            refine .inl ⟨j, c, ?_, e3, by simp only; omega, ?_⟩
            · split at hring
              · cases hring
              · rename_i hne
                have h2 := Option.some.inj hring
                rcases ixGe_cases cls N with h3 | ⟨j', _, h3, _⟩
                · exact absurd h3 hne
                · omega
            · rw [e4, e6, e7]; simp
          · subst e1
            refine .inr ⟨?_, l1, p, m1, l2, e2, e3, e4, ?_⟩
            · split at hring
              · assumption
              · cases hring
            · rw [e5, e6]; simp
      rcases hh with ⟨_, _, _, _, e3, _⟩ | ⟨j, c, _, _, e4, _, _, e7, _⟩ | ⟨_, _, _, _, _, _, _, _, e3, _⟩
      · omega
      · have hcl := h.jh.ecls
        rw [hcl] at e4
        have := hC c (List.mem_of_getElem? e4)
        omega
      · omega
  · have hor : (k < 0 ∨ 10 < k) ∨ (n < 0 ∨ 32 ≤ n) ∨ (a < 0 ∨ 16777216 ≤ a) := by
      unfold dPackErr at hbad
      split at hbad
      · exact .inl ‹_›
      · split at hbad
        · exact .inr (.inl (by omega))
        · exact absurd rfl hbad
    have he : dPackErr k n = if k < 0 ∨ 10 < k then 6 else 1 := by
      unfold dPackErr at hbad ⊢
      split
      · rfl
      · rename_i h1
        rw [if_neg h1] at hbad
        split
        · rfl
        · rename_i h2
          rw [if_neg h2] at hbad
          exact absurd rfl hbad
    refine (hAllocBad L s k a n w h.hr (by omega) hor).mono ?_
    rintro e w1 ⟨rfl, hH, hF⟩
    refine ⟨0, dPackErr k n, by rw [he], hF.here (by simp), fun w1' hF1 => ?_⟩
    have hj := h.tick (hF.trans hF1)
    refine (dAllocBad D W Lg cls _ bits s.top s.parity m k a n w1' hj.jh.dh hpar a0 a1 hbad).mono ?_
    rintro e w2 ⟨rfl, h2, hF2⟩
    refine ⟨rfl, hF2, .inl ⟨hbad, ⟨?_, .inl hbad⟩, hj.doc h2 hF2⟩⟩
    rintro ⟨e1, e2, e3, e4, -⟩
    omega
end Go.Proofs.Ytifillpcphiblaa
