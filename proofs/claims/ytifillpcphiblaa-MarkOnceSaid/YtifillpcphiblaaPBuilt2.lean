import Derived.Test.YtifillpcphiblaaPBuilt
namespace Go.Proofs.Ytifillpcphiblaa
open Go Go.Proofs Go.RowKit

/-! Both heaps allocate. -/

theorem JB.same {w w1 : World} {L : HL} {D : DL} {W Lg : Int} {cls : List Int} {s : HS} {A : Rg} {z : Int → Int} {bits : List Bool} {m : List (Int × Value)} {obs : List Ob} {G : Int → Nat} (h : JB w L D W Lg cls s A z bits m obs G) (hr : HRep w1 L s) (hF : Fr L.fp w w1) : JB w1 L D W Lg cls s A z bits m obs G := by
  obtain ⟨d1, d2⟩ := h.dfr hF
  exact ⟨hr, ⟨d1, h.jh.hi, h.jh.sv, h.jh.ecls, h.jh.cl, h.jh.edge, h.jh.ew, h.jh.lg, h.jh.same, h.jh.bl, h.jh.par⟩, h.low, h.svo, d2, h.inn, h.nofg, h.rows, h.nd⟩
theorem JB.doc {w w1 : World} {L : HL} {D : DL} {W Lg : Int} {cls : List Int} {s : HS} {A : Rg} {z : Int → Int} {bits : List Bool} {m : List (Int × Value)} {obs : List Ob} {G : Int → Nat} (h : JB w L D W Lg cls s A z bits m obs G) (hd : DH w1 D W Lg cls (rowsOf A cls.length) bits s.top s.parity m) (hF : FrD D.B D.mp D.rsb w w1) : JB w1 L D W Lg cls s A z bits m obs G := by
  obtain ⟨⟨S, hFS, hS⟩, _⟩ := id hF
  refine ⟨h.hr.fr hFS (fun x hx hc => by have := (hS x hx).1; have := h.low x hc; omega), ⟨hd, h.jh.hi, h.jh.sv, h.jh.ecls, h.jh.cl, h.jh.edge, h.jh.ew, h.jh.lg, h.jh.same, h.jh.bl, h.jh.par⟩, h.low, h.svo, ⟨h.dob.get, fun o ho => ⟨(h.dob.blk o ho).1, ?_⟩, h.dob.inj, h.dob.only⟩, h.inn, h.nofg, h.rows, h.nd⟩
  have hb := h.dob.blk o ho
  exact hF.blk hb.2 ⟨by decide, by decide, by decide⟩ (nomap h.jh.dh.im hb.2)

/-- It may fail only so. -/
def Fails (cls : List Int) (s : HS) (C k n : Int) : Prop := ¬ (0 ≤ k ∧ k ≤ 10 ∧ 0 ≤ n ∧ n ≤ 31 ∧ ixGe cls n ≠ -1 ∧ C + 3 ≤ s.edge - s.top)

def EvPost (L : HL) (D : DL) (W Lg : Int) (cls : List Int) (s : HS) (A : Rg) (z : Int → Int) (bits : List Bool) (m : List (Int × Value)) (obs : List Ob) (G : Int → Nat) (C k a n p er : Int) (w1 : World) (e : Ending) (w2 : World) : Prop :=
  e = .returned (.tuple #[.int .i64 p, .int .i64 er]) ∧ FrD D.B D.mp D.rsb w1 w2 ∧
    ((er ≠ 0 ∧ Fails cls s C k n ∧ JB w2 L D W Lg cls s A z bits m obs G) ∨
     (er = 0 ∧ ∃ s' A' z' bits' m' G' o, o.p = p ∧ o.k = k ∧ (o.n : Int) = n ∧ o.a = a ∧ o.n < 32 ∧ JB w2 L D W Lg cls s' A' z' bits' m' (obs ++ [o]) G' ∧ (∀ o ∈ obs, ∀ j, j < o.n → s'.wd o j = s.wd o j) ∧ (∀ j, j < o.n → s'.wd o j = 0) ∧ s'.parity = s.parity ∧ s'.edge = s.edge ∧ (s'.top ≤ s.top + (C + 3))))

theorem jEv {w : World} {L : HL} {D : DL} {W Lg : Int} {cls : List Int} {s : HS} {A : Rg} {z : Int → Int} {bits : List Bool} {m : List (Int × Value)} {obs : List Ob} {G : Int → Nat} (h : JB w L D W Lg cls s A z bits m obs G) (C k a n : Int) (hC : ∀ c ∈ cls, c ≤ C) (hC0 : 0 ≤ C) (a0 : 0 ≤ a) (a1 : a < 16777216) :
    Calls Try.prog 22 #[.pointer (some ⟨L.hb, 0, none⟩), .int .i64 k, .int .i64 a, .int .i64 n] w fun e w1 => ∃ p er, e = .returned (.tuple #[.int .i64 p, .int .i64 er]) ∧ Fr L.fp w w1 ∧
      ∀ w1', Fr [] w1 w1' → Calls Try.prog 103 #[.pointer (some ⟨D.mb, 0, none⟩), .int .i64 k, .int .i64 a, .int .i64 n] w1' (EvPost L D W Lg cls s A z bits m obs G C k a n p er w1') := by
  have hpar := h.jh.par
  by_cases hbad : dPackErr k n = 0
  · have hk : 0 ≤ k ∧ k ≤ 10 := by unfold dPackErr at hbad; split at hbad <;> (try split at hbad) <;> omega
    have hn : 0 ≤ n ∧ n ≤ 31 := by unfold dPackErr at hbad; split at hbad <;> (try split at hbad) <;> omega
    obtain ⟨N, rfl⟩ := Int.eq_ofNat_of_zero_le hn.1
    have hd : Hd k N a s.parity := ⟨hk.1, hk.2, by omega, by omega, by omega, by omega, a0, a1⟩
    refine (hAllocX L s A z k a N w h.hr h.jh.hi hd).mono ?_
    rintro e w1 ⟨hF, ⟨rfl, hH, hno⟩ | ⟨q, p, s', A', z', rfl, hH, hA, hh⟩⟩
    · refine ⟨0, 2, rfl, hF, fun w1' hF1 => ?_⟩
      have hj := (h.same hH hF).tick hF1
      refine (hj.jh.allocNo k a N hd hno).mono ?_
      rintro e w2 ⟨rfl, h2, hF2⟩
      refine ⟨rfl, hF2, .inl ⟨by decide, ?_, hj.doc h2 hF2⟩⟩
      rintro ⟨-, -, -, -, e1, e2⟩
      have hcl := h.jh.ecls
      rcases hno with ⟨e3, _⟩ | ⟨j, c, e3, _, e4, e5⟩
      · rw [hcl] at e3; exact e1 e3
      · rw [hcl] at e4
        have := hC c (List.mem_of_getElem? e4)
        omega
    · refine ⟨p, 0, rfl, hF, fun w1' hF1 => ?_⟩
      have hF' : Fr L.fp w w1' := hF.trans (hF1.here (by simp))
      have hH' := hH.fr hF1 (by simp)
      have hjh : JH w1' D W Lg cls bits m s A z := ⟨(h.dfr hF').1, h.jh.hi, h.jh.sv, h.jh.ecls, h.jh.cl, h.jh.edge, h.jh.ew, h.jh.lg, h.jh.same, h.jh.bl, h.jh.par⟩
      obtain ⟨bits', b1, b2, b3⟩ := hjh.alloc k a N hd hA hh
      refine b3.mono ?_
      intro e w2 hY
      obtain ⟨r1, r2, g, r3, r4, r5⟩ := h.alloc hd hH' hF' hA b1 b2 hY 0
      refine ⟨r1, r2, .inr ⟨rfl, s', A', z', bits', _, _, ⟨q, p, k, N, a, 0⟩, rfl, rfl, rfl, rfl, by show N < 32; omega, r3, r4, r5, hA.parity, hA.edge, ?_⟩⟩
      rcases hh with ⟨_, _, _, _, e3, _⟩ | ⟨j, c, _, _, e4, _, _, e7, _⟩ | ⟨_, _, _, _, _, _, _, _, e3, _⟩
      · omega
      · have hcl := h.jh.ecls
        rw [hcl] at e4
        have := hC c (List.mem_of_getElem? e4)
        omega
      · omega
  · have hor : (k < 0 ∨ 10 < k) ∨ (n < 0 ∨ 32 ≤ n) ∨ (a < 0 ∨ 16777216 ≤ a) := by
      unfold dPackErr at hbad
      split at hbad
      · exact .inl ‹_›
      · split at hbad
        · exact .inr (.inl (by omega))
        · exact absurd rfl hbad
    have he : dPackErr k n = if k < 0 ∨ 10 < k then 6 else 1 := by
      unfold dPackErr at hbad ⊢
      split
      · rfl
      · rename_i h1
        rw [if_neg h1] at hbad
        split
        · rfl
        · rename_i h2
          rw [if_neg h2] at hbad
          exact absurd rfl hbad
    refine (hAllocBad L s k a n w h.hr (by omega) hor).mono ?_
    rintro e w1 ⟨rfl, hH, hF⟩
    refine ⟨0, dPackErr k n, by rw [he], hF.here (by simp), fun w1' hF1 => ?_⟩
    have hj := h.tick (hF.trans hF1)
    refine (dAllocBad D W Lg cls _ bits s.top s.parity m k a n w1' hj.jh.dh hpar a0 a1 hbad).mono ?_
    rintro e w2 ⟨rfl, h2, hF2⟩
    refine ⟨rfl, hF2, .inl ⟨hbad, ?_, hj.doc h2 hF2⟩⟩
    rintro ⟨e1, e2, e3, e4, -⟩
    omega
end Go.Proofs.Ytifillpcphiblaa
