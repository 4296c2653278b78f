import Derived.Test.YtifillpcphiblaaDAlloc
import Derived.Test.YtifillpcphiblaaHRings
import Derived.Test.YtifillpcphiblaaPMark
namespace Go.Proofs.Ytifillpcphiblaa
open Go Go.Proofs Go.RowKit

/-! The document's heap goes along with the program's. -/

def rowsOf (A : Rg) (n : Nat) : List Rows := rowsTo A n ++ [A none]
theorem rowsOf_len (A : Rg) (n : Nat) : (rowsOf A n).length = n + 1 := by simp [rowsOf, rowsTo]
theorem rowsOf_some (A : Rg) {n j : Nat} (h : j < n) : (rowsOf A n)[j]? = some (A (some j)) := by
  unfold rowsOf
  rw [List.getElem?_append_left (by rw [rowsTo_len]; exact h)]
  simp [rowsTo, h]
theorem rowsOf_none (A : Rg) (n : Nat) : (rowsOf A n)[n]? = some (A none) := by
  unfold rowsOf
  rw [List.getElem?_append_right (by rw [rowsTo_len]; omega), rowsTo_len]
  simp
theorem rowsOf_up_some (A : Rg) {n j : Nat} (h : j < n) (R : Rows) : rowsOf (A.up (some j) R) n = (rowsOf A n).set j R := by
  apply List.ext_getElem?
  intro i
  by_cases hi : i < n
  · rw [rowsOf_some _ hi]
    by_cases e : i = j
    · subst e
      rw [List.getElem?_set_self (by rw [rowsOf_len]; omega), Rg.up_same]
    · rw [List.getElem?_set_ne (Ne.symm e), rowsOf_some _ hi, Rg.up_ne A (by simpa using e)]
  · by_cases e : i = n
    · subst e
      rw [rowsOf_none, List.getElem?_set_ne (by omega), rowsOf_none, Rg.up_ne A (by simp)]
    · rw [List.getElem?_eq_none (by rw [rowsOf_len]; omega), List.getElem?_eq_none (by rw [List.length_set, rowsOf_len]; omega)]
theorem rowsOf_up_none (A : Rg) (n : Nat) (R : Rows) : rowsOf (A.up none R) n = (rowsOf A n).set n R := by
  apply List.ext_getElem?
  intro i
  by_cases hi : i < n
  · rw [rowsOf_some _ hi, List.getElem?_set_ne (by omega), rowsOf_some _ hi, Rg.up_ne A (by simp)]
  · by_cases e : i = n
    · subst e
      rw [rowsOf_none, List.getElem?_set_self (by rw [rowsOf_len]; omega), Rg.up_same]
    · rw [List.getElem?_eq_none (by rw [rowsOf_len]; omega), List.getElem?_eq_none (by rw [List.length_set, rowsOf_len]; omega)]

theorem HI.allLen {s : HS} {A : Rg} {z : Int → Int} (h : HI s A z) (q : Option Nat) : (A q).all.length + 2 ≤ 65536 := by
  by_cases e : (A q).all = []
  · rw [e]; decide
  · have hl := h.len
    cases q with
    | none => have := h.lring.cells.len e; omega
    | some k =>
      rcases Nat.lt_or_ge k s.rs.length with hk | hk
      · have := (h.ring k _ (List.getElem?_eq_getElem hk)).cells.len e; omega
      · exact absurd (h.out k hk) e
theorem HI.wbLen {s : HS} {A : Rg} {z : Int → Int} (h : HI s A z) (q : Option Nat) : (A q).W.length + 2 ≤ 65536 ∧ (A q).B.length + 2 ≤ 65536 := by
  have := h.allLen q
  simp [Rows.all] at this
  omega

/-- What the two heaps have in common. -/
structure JH (w : World) (D : DL) (W Lg : Int) (cls : List Int) (bits : List Bool) (m : List (Int × Value)) (s : HS) (A : Rg) (z : Int → Int) : Prop where
  dh : DH w D W Lg cls (rowsOf A cls.length) bits s.top s.parity m
  hi : HI s A z
  sv : ∀ b o c n, D.sv = .slice (some ⟨b, o, none⟩) n c → b < D.B
  ecls : s.cls = cls
  cl : cls.length ≤ 100
  edge : s.edge = W - Lg
  ew : W = s.ws.length
  lg : 0 ≤ Lg
  same : Same3 s.edge bits s.x.l
  bl : (bits.length : Int) = Lg
  par : s.parity = 0 ∨ s.parity = 1

theorem JH.allocNo {w : World} {D : DL} {W Lg : Int} {cls : List Int} {bits : List Bool} {m : List (Int × Value)} {s : HS} {A : Rg} {z : Int → Int} (h : JH w D W Lg cls bits m s A z) (k a : Int) (n : Nat) (hd : Hd k n a s.parity) (hno : NoCell s A n) :
    Calls Try.prog 103 #[.pointer (some ⟨D.mb, 0, none⟩), .int .i64 k, .int .i64 a, .int .i64 n] w (AlNo w D W Lg cls (rowsOf A cls.length) bits s.top s.parity m 2) := by
  have h1 := h.hi.top1
  have h2 := h.hi.top2
  have h3 := h.hi.edge
  have h4 := h.hi.len
  have h5 := h.edge
  have h6 := h.ew
  have h7 := h.lg
  have h8 := hd.s1
  have h9 := h.bl
  refine dAllocFull D W Lg cls _ _ bits bits s.top s.top s.parity m k a n 2 w h.dh h.par hd.a0 hd.a1 (by unfold dPackErr; rw [if_neg (by have := hd.k0; have := hd.k1; omega), if_neg (by omega)]) (by decide) (fun w1 hw1 => ?_)
  rcases hno with ⟨e1, e2⟩ | ⟨j, c, e1, e2, e3, e4⟩
  · rw [h.ecls] at e1
    have hsame := h.same
    rw [h5] at hsame
    exact dPlaceFullL D W Lg cls _ bits s.top s.parity m n (A none) s.x.l w1 hw1 h.sv h.cl e1 (rowsOf_none _ _) (by omega) (by omega) h7 (by omega) (by omega) hsame (by omega) e2
  · rw [h.ecls] at e1 e3
    have hj : j < cls.length := (List.getElem?_eq_some_iff.1 e3).1
    have hc := h.hi.cls c (by rw [h.ecls]; exact List.mem_of_getElem? e3)
    refine (dPlaceFull D W Lg cls _ bits s.top s.parity m n j (A (some j)) c w1 hw1 h.cl e1 (rowsOf_some _ hj) e2 e3 (by omega) (by omega) (by omega) (by omega) h7 (by omega) (by omega) (by omega)).mono ?_
    rintro e w2 ⟨rfl, hF⟩
    exact ⟨rfl, hw1.step hF, FrD.of hF⟩

theorem JH.alloc {w : World} {D : DL} {W Lg : Int} {cls : List Int} {bits : List Bool} {m : List (Int × Value)} {s s' : HS} {A A' : Rg} {z z' : Int → Int} (h : JH w D W Lg cls bits m s A z) {q : Option Nat} {p : Int} (k a : Int) (n : Nat) (hd : Hd k n a s.parity)
    (hA : Alc s s' A A' z z' q p (packed k n a s.parity) n) (hh : How s s' A z z' q p n) :
    ∃ bits', (bits'.length : Int) = Lg ∧ Same3 s'.edge bits' s'.x.l ∧ Calls Try.prog 103 #[.pointer (some ⟨D.mb, 0, none⟩), .int .i64 k, .int .i64 a, .int .i64 n] w (AlYes w D W Lg cls (rowsOf A' cls.length) bits' s'.top s'.parity m k a n p) := by
  have h1 := h.hi.top1
  have h2 := h.hi.top2
  have h3 := h.hi.edge
  have h4 := h.hi.len
  have h5 := h.edge
  have h6 := h.ew
  have h7 := h.lg
  have h8 := hd.s1
  have h9 := h.bl
  have her : dPackErr k n = 0 := by unfold dPackErr; rw [if_neg (by have := hd.k0; have := hd.k1; omega), if_neg (by omega)]
  obtain ⟨W', hA', hrow⟩ := hA.row
  have hwb := h.hi.wbLen q
  have hring := hA.ring
  rw [hA.parity, hA.edge]
  rcases hh with ⟨j, Wt, rfl, e1, e2, e3, e4⟩ | ⟨j, c, rfl, e1, e2, e3, e4, e5, e6, e7⟩ | ⟨rfl, l1, mm, l2, e1, e2, e3, e4, e5, e6⟩
  · have hj1 : ixGe s.cls n = j := by
      have : qOf s.cls n = some j := hring.symm
      exact qOf_some this
    rw [h.ecls] at hj1
    have hj : j < cls.length := by have := ixGe_range cls n; omega
    have hW' : W' = Wt := by
      rcases hrow with hr | ⟨hr, hr2, _⟩
      · rw [e1] at hr; exact (List.cons.inj hr).2.symm
      · exact absurd (by simp [Rows.all, e1]) hr2
    subst hW'
    refine ⟨bits, h9, by rw [e3]; exact h.same, ?_⟩
    rw [e2, hA', rowsOf_up_some A hj]
    exact dAllocYes D W Lg cls _ _ bits bits s.top s.top s.parity m k a n p w h.dh h.sv h.par hd.a0 hd.a1 her (fun w1 hw1 => dPlaceWhite D W Lg cls _ bits s.top s.parity m n j (A (some j)) p W' w1 hw1 h.sv h.cl hj1 (rowsOf_some _ hj) e1 (by omega) (by omega))
  · have hj1 : ixGe s.cls n = j := qOf_some (show qOf s.cls n = some j from hring.symm)
    rw [h.ecls] at hj1 e2
    have hj : j < cls.length := (List.getElem?_eq_some_iff.1 e2).1
    have hc := h.hi.cls c (by rw [h.ecls]; exact List.mem_of_getElem? e2)
    have hW' : W' = (A (some j)).W := by
      rcases hrow with hr | ⟨hr, _⟩
      · rw [e1] at hr; cases hr
      · exact hr.symm
    subst hW'
    subst e3
    refine ⟨bits, h9, by rw [e6]; exact h.same, ?_⟩
    rw [e5, hA', rowsOf_up_some A hj]
    exact dAllocYes D W Lg cls _ _ bits bits s.top _ s.parity m k a n s.top w h.dh h.sv h.par hd.a0 hd.a1 her (fun w1 hw1 => dPlaceGrow D W Lg cls _ bits s.top s.parity m n j (A (some j)) c w1 hw1 h.sv h.cl hj1 (rowsOf_some _ hj) e1 (by omega) e2 (by omega) (by omega) h1 (by omega) h7 (by omega) (by omega) (by omega))
  · have hj1 : ixGe s.cls n = -1 := qOf_none (show qOf s.cls n = none from hring.symm)
    rw [h.ecls] at hj1
    obtain ⟨r1, r2, r3⟩ := h.hi.runs (p, mm) (by rw [e1]; simp)
    simp only at r1 r2 r3
    have hpk : p = W - Lg + ((p - (W - Lg)).toNat : Nat) := by omega
    have hsame := h.same
    rw [h5] at hsame
    have hn3 : ((n : Int) + 3).toNat = n + 3 := by omega
    have hcut := (e1 ▸ hsame).cut (n := n + 3) (k := (p - (W - Lg)).toNat) (by omega) (by omega) hpk
    have hW' : W' = (A none).W := by
      rcases hrow with hr | ⟨hr, _⟩
      · have hm : p ∈ (A none).all := by simp [Rows.all, hr]
        rcases h.hi.rlarge (p, mm) (by rw [e1]; simp) p hm with h10 | h10
        · have := h.hi.pos none p hm; simp only [ln] at this; simp only at h10; omega
        · simp only at h10; omega
      · exact hr.symm
    subst hW'
    refine ⟨clr bits (p - (W - Lg)).toNat (n + 3), by rw [clr_len]; exact h9, ?_, ?_⟩
    · rw [e4, h5]
      exact hcut
    rw [e5, hA', rowsOf_up_none A]
    exact dAllocYes D W Lg cls _ _ bits _ s.top s.top s.parity m k a n p w h.dh h.sv h.par hd.a0 hd.a1 her (fun w1 hw1 => by
      have := dPlaceLarge D W Lg cls _ bits s.top s.parity m n (A none) s.x.l l1 l2 p mm (p - (W - Lg)).toNat w1 hw1 h.sv h.cl hj1 (rowsOf_none _ _) (by omega) (by omega) (by omega) (by omega) (by omega) (by omega) h7 (by omega) (by omega) hsame (by omega) e1 e2 e3 hpk
      rw [hn3] at this
      exact this)
end Go.Proofs.Ytifillpcphiblaa
