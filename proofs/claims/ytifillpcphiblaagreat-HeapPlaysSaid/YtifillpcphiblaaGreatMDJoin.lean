import Derived.Test.YtifillpcphiblaaGreatDAlloc
import Derived.Test.YtifillpcphiblaaGreatMHList3
import Derived.Test.YtifillpcphiblaaGreatMHRows
import Derived.Deep.QuietTactic
import Derived.BigQuiet
namespace Go.Proofs.YtifillpcphiblaaGreat
open Go Go.Proofs Go.RowKit

/-! The document's heap goes along with the program's. -/

def rowsOf (A : Rg) (n : Nat) : List Rows := rowsTo A n ++ [A none]
theorem rowsOf_len (A : Rg) (n : Nat) : (rowsOf A n).length = n + 1 := by simp [rowsOf, rowsTo]
theorem rowsOf_some (A : Rg) {n j : Nat} (h : j < n) : (rowsOf A n)[j]? = some (A (some j)) := by
  unfold rowsOf
  rw [List.getElem?_append_left (by rw [rowsTo_len]; exact h)]
  simp [rowsTo, h]
theorem rowsOf_none (A : Rg) (n : Nat) : (rowsOf A n)[n]? = some (A none) := by
  unfold rowsOf
  rw [List.getElem?_append_right (by rw [rowsTo_len]; omega), rowsTo_len]
  simp
theorem rowsOf_up_some (A : Rg) {n j : Nat} (h : j < n) (R : Rows) : rowsOf (A.up (some j) R) n = (rowsOf A n).set j R := by
  apply List.ext_getElem?
  intro i
  by_cases hi : i < n
  · rw [rowsOf_some _ hi]
    by_cases e : i = j
    · subst e
      rw [List.getElem?_set_self (by rw [rowsOf_len]; omega), Rg.up_same]
    · rw [List.getElem?_set_ne (Ne.symm e), rowsOf_some _ hi, Rg.up_ne A (by simpa using e)]
  · by_cases e : i = n
    · subst e
      rw [rowsOf_none, List.getElem?_set_ne (by omega), rowsOf_none, Rg.up_ne A (by simp)]
    · rw [List.getElem?_eq_none (by rw [rowsOf_len]; omega), List.getElem?_eq_none (by rw [List.length_set, rowsOf_len]; omega)]
theorem rowsOf_up_none (A : Rg) (n : Nat) (R : Rows) : rowsOf (A.up none R) n = (rowsOf A n).set n R := by
  apply List.ext_getElem?
  intro i
  by_cases hi : i < n
  · rw [rowsOf_some _ hi, List.getElem?_set_ne (by omega), rowsOf_some _ hi, Rg.up_ne A (by simp)]
  · by_cases e : i = n
    · subst e
      rw [rowsOf_none, List.getElem?_set_self (by rw [rowsOf_len]; omega), Rg.up_same]
    · rw [List.getElem?_eq_none (by rw [rowsOf_len]; omega), List.getElem?_eq_none (by rw [List.length_set, rowsOf_len]; omega)]

theorem HI.allLen {s : HS} {A : Rg} {z : Int → Int} (h : HI s A z) (q : Option Nat) : (A q).all.length + 2 ≤ 65536 := by
  by_cases e : (A q).all = []
  · rw [e]; decide
  · have hl := h.len
    cases q with
    | none => have := h.lring.cells.len e; omega
    | some k =>
      rcases Nat.lt_or_ge k s.rs.length with hk | hk
      · have := (h.ring k _ (List.getElem?_eq_getElem hk)).cells.len e; omega
      · exact absurd (h.out k hk) e
theorem HI.wbLen {s : HS} {A : Rg} {z : Int → Int} (h : HI s A z) (q : Option Nat) : (A q).W.length + 2 ≤ 65536 ∧ (A q).B.length + 2 ≤ 65536 := by
  have := h.allLen q
  simp [Rows.all] at this
  omega

/-- What the two heaps have in common. -/
structure JH (w : World) (D : DL) (W Lg : Int) (cls : List Int) (bits : List Bool) (m : List (Int × Value)) (s : HS) (A : Rg) (z : Int → Int) : Prop where
  dh : DH w D W Lg cls (rowsOf A cls.length) bits s.top s.parity m
  hi : HI s A z
  sv : ∀ b o c n, D.sv = .slice (some ⟨b, o, none⟩) n c → b < D.B
  ecls : s.cls = cls
  cl : cls.length ≤ 100
  edge : s.edge = W - Lg
  ew : W = s.ws.length
  lg : 0 ≤ Lg
  same : Same3 s.edge bits s.x.l
  bl : (bits.length : Int) = Lg
  par : s.parity = 0 ∨ s.parity = 1

theorem JH.allocNo {w : World} {D : DL} {W Lg : Int} {cls : List Int} {bits : List Bool} {m : List (Int × Value)} {s : HS} {A : Rg} {z : Int → Int} (h : JH w D W Lg cls bits m s A z) (k a : Int) (n : Nat) (hd : Hd k n a s.parity) (hno : NoCell s A n) :
    Calls Tryz.prog 30 #[.pointer (some ⟨D.mb, 0, none⟩), .int .i64 k, .int .i64 a, .int .i64 n] w (AlNo w D W Lg cls (rowsOf A cls.length) bits s.top s.parity m 2) := by
  have h1 := h.hi.top1
  have h2 := h.hi.top2
  have h3 := h.hi.edge
  have h4 := h.hi.len
  have h5 := h.edge
  have h6 := h.ew
  have h7 := h.lg
  have h8 := hd.s1
  have h9 := h.bl
  refine dAllocFull D W Lg cls _ _ bits bits s.top s.top s.parity m k a n 2 w h.dh h.par hd.a0 hd.a1 (by unfold dPackErr; rw [if_neg (by have := hd.k0; have := hd.k1; omega), if_neg (by omega)]) (by decide) (fun w1 hw1 => ?_)
  rcases hno with ⟨e1, e2⟩ | ⟨j, c, e1, e2, e3, e4⟩
  · rw [h.ecls] at e1
    have hsame := h.same
    rw [h5] at hsame
    exact dPlaceFullL D W Lg cls _ bits s.top s.parity m n (A none) s.x.l w1 hw1 h.sv h.cl e1 (rowsOf_none _ _) (by omega) (by omega) h7 (by omega) (by omega) hsame (by omega) e2
  · rw [h.ecls] at e1 e3
    have hj : j < cls.length := (List.getElem?_eq_some_iff.1 e3).1
    have hc := h.hi.cls c (by rw [h.ecls]; exact List.mem_of_getElem? e3)
    refine (dPlaceFull D W Lg cls _ bits s.top s.parity m n j (A (some j)) c w1 hw1 h.cl e1 (rowsOf_some _ hj) e2 e3 (by omega) (by omega) (by omega) (by omega) h7 (by omega) (by omega) (by omega)).mono ?_
    rintro e w2 ⟨rfl, hF⟩
    exact ⟨rfl, hw1.step hF, FrD.of hF⟩

theorem JH.alloc {w : World} {D : DL} {W Lg : Int} {cls : List Int} {bits : List Bool} {m : List (Int × Value)} {s s' : HS} {A A' : Rg} {z z' : Int → Int} (h : JH w D W Lg cls bits m s A z) {q : Option Nat} {p : Int} (k a : Int) (n : Nat) (hd : Hd k n a s.parity)
    (hA : Alc s s' A A' z z' q p (packed k n a s.parity) n) (hh : How s s' A z z' q p n) :
    ∃ bits', (bits'.length : Int) = Lg ∧ Same3 s'.edge bits' s'.x.l ∧ Calls Tryz.prog 30 #[.pointer (some ⟨D.mb, 0, none⟩), .int .i64 k, .int .i64 a, .int .i64 n] w (AlYes w D W Lg cls (rowsOf A' cls.length) bits' s'.top s'.parity m k a n p) := by
  have h1 := h.hi.top1
  have h2 := h.hi.top2
  have h3 := h.hi.edge
  have h4 := h.hi.len
  have h5 := h.edge
  have h6 := h.ew
  have h7 := h.lg
  have h8 := hd.s1
  have h9 := h.bl
  have her : dPackErr k n = 0 := by unfold dPackErr; rw [if_neg (by have := hd.k0; have := hd.k1; omega), if_neg (by omega)]
  obtain ⟨W', hA', hrow⟩ := hA.row
  have hwb := h.hi.wbLen q
  have hring := hA.ring
  rw [hA.parity, hA.edge]
  rcases hh with ⟨j, Wt, rfl, e1, e2, e3, e4⟩ | ⟨j, c, rfl, e1, e2, e3, e4, e5, e6, e7⟩ | ⟨rfl, l1, mm, l2, e1, e2, e3, e4, e5, e6⟩
  · have hj1 : ixGe s.cls n = j := by
      have : qOf s.cls n = some j := hring.symm
      exact qOf_some this
    rw [h.ecls] at hj1
    have hj : j < cls.length := by have := ixGe_range cls n; omega
    have hW' : W' = Wt := by
      rcases hrow with hr | ⟨hr, hr2, _⟩
      · rw [e1] at hr; exact (List.cons.inj hr).2.symm
      · exact absurd (by simp [Rows.all, e1]) hr2
    subst hW'
    refine ⟨bits, h9, by rw [e3]; exact h.same, ?_⟩
    rw [e2, hA', rowsOf_up_some A hj]
    exact dAllocYes D W Lg cls _ _ bits bits s.top s.top s.parity m k a n p w h.dh h.sv h.par hd.a0 hd.a1 her (fun w1 hw1 => dPlaceWhite D W Lg cls _ bits s.top s.parity m n j (A (some j)) p W' w1 hw1 h.sv h.cl hj1 (rowsOf_some _ hj) e1 (by omega) (by omega))
  · have hj1 : ixGe s.cls n = j := qOf_some (show qOf s.cls n = some j from hring.symm)
    rw [h.ecls] at hj1 e2
    have hj : j < cls.length := (List.getElem?_eq_some_iff.1 e2).1
    have hc := h.hi.cls c (by rw [h.ecls]; exact List.mem_of_getElem? e2)
    have hW' : W' = (A (some j)).W := by
      rcases hrow with hr | ⟨hr, _⟩
      · rw [e1] at hr; cases hr
      · exact hr.symm
    subst hW'
    subst e3
    refine ⟨bits, h9, by rw [e6]; exact h.same, ?_⟩
    rw [e5, hA', rowsOf_up_some A hj]
    exact dAllocYes D W Lg cls _ _ bits bits s.top _ s.parity m k a n s.top w h.dh h.sv h.par hd.a0 hd.a1 her (fun w1 hw1 => dPlaceGrow D W Lg cls _ bits s.top s.parity m n j (A (some j)) c w1 hw1 h.sv h.cl hj1 (rowsOf_some _ hj) e1 (by omega) e2 (by omega) (by omega) h1 (by omega) h7 (by omega) (by omega) (by omega))
  · have hj1 : ixGe s.cls n = -1 := qOf_none (show qOf s.cls n = none from hring.symm)
    rw [h.ecls] at hj1
    obtain ⟨r1, r2, r3⟩ := h.hi.runs (p, mm) (by rw [e1]; simp)
    simp only at r1 r2 r3
    have hpk : p = W - Lg + ((p - (W - Lg)).toNat : Nat) := by omega
    have hsame := h.same
    rw [h5] at hsame
    have hn3 : ((n : Int) + 3).toNat = n + 3 := by omega
    have hcut := (e1 ▸ hsame).cut (n := n + 3) (k := (p - (W - Lg)).toNat) (by omega) (by omega) hpk
    have hW' : W' = (A none).W := by
      rcases hrow with hr | ⟨hr, _⟩
      · have hm : p ∈ (A none).all := by simp [Rows.all, hr]
        rcases h.hi.rlarge (p, mm) (by rw [e1]; simp) p hm with h10 | h10
        · have := h.hi.pos none p hm; simp only [ln] at this; simp only at h10; omega
        · simp only at h10; omega
      · exact hr.symm
    subst hW'
    refine ⟨clr bits (p - (W - Lg)).toNat (n + 3), by rw [clr_len]; exact h9, ?_, ?_⟩
    · rw [e4, h5]
      exact hcut
    rw [e5, hA', rowsOf_up_none A]
    exact dAllocYes D W Lg cls _ _ bits _ s.top s.top s.parity m k a n p w h.dh h.sv h.par hd.a0 hd.a1 her (fun w1 hw1 => by
      have := dPlaceLarge D W Lg cls _ bits s.top s.parity m n (A none) s.x.l l1 l2 p mm (p - (W - Lg)).toNat w1 hw1 h.sv h.cl hj1 (rowsOf_none _ _) (by omega) (by omega) (by omega) (by omega) (by omega) (by omega) h7 (by omega) (by omega) hsame (by omega) e1 e2 e3 hpk
      rw [hn3] at this
      exact this)
end Go.Proofs.YtifillpcphiblaaGreat

namespace Go.Proofs.YtifillpcphiblaaGreat
open Go Go.Proofs Go.RowKit

/-! The document's heap: Set. -/

theorem obZero (w : World) : (zeroValue 95).run Tryz.prog w = .ok (.agg #[.int .i64 0, .int .i64 0, .int .i64 0, .int .i64 0, .slice none 0 0]) w := by kernel_rfl

set_option maxRecDepth 100000 in
set_option maxHeartbeats 3200000 in
theorem dSet (D : DL) (W Lg : Int) (cls : List Int) (Rs : List Rows) (bits : List Bool) (top par : Int) (m : List (Int × Value)) (p k a mk v : Int) (n g j : Nat) (cs : List Value) (w : World) (h : DH w D W Lg cls Rs bits top par m) (hg : mget m p = some (obV k n a mk g n)) (hB : Blk w g cs 2) (hcs : cs.length = n) (hj : j < n) (_hn : n ≤ 100) :
    Calls Tryz.prog 32 #[.pointer (some ⟨D.mb, 0, none⟩), .int .i64 p, .int .i64 j, .int .i64 v] w fun e w' => e = .returned (.int .i64 0) ∧ Fr [g] w w' ∧ Blk w' g (cs.set j (.int .i64 v)) 2 := by
  have q7 := h.reads.2.2.2.1
  have hlk := run_lookup_im (P := Tryz.prog) h.im Tryz.underlying58 Tryz.underlying3 (obZero w) p false
  rw [hg] at hlk
  simp only [Option.getD_some, obV, if_neg (show ¬ false = true by decide)] at hlk
  have B1 := Blk.new w [.int .i64 k, .int .i64 n, .int .i64 a, .int .i64 mk, .slice (some ⟨g, 0, none⟩) n n] 95
  have b4 := B1.cell (i := 4) rfl
  have hB' := hB.alloc (.cells #[.int .i64 k, .int .i64 n, .int .i64 a, .int .i64 mk, .slice (some ⟨g, 0, none⟩) n n] 95)
  obtain ⟨u, hu⟩ : ∃ u, cs[j]? = some u := ⟨_, List.getElem?_eq_getElem (by omega)⟩
  have c0 := hB'.cell hu
  have f0 := hB'.frozen j
  have HB := hid hB
  have hgl := hB.lt
  have g1 : decide ((j : Int) < 0) = false := by simp
  have g2 : decide ((n : Int) ≤ (j : Int)) = false := by simp; omega
  have i1 : (0 : Int) ≤ (j : Int) := by omega
  have i2 : (j : Int) < (n : Int) := by omega
  clear h hg hB hB' B1 hu hcs
  go_enter Tryz.func32, Tryz.ntmps32
  go_wp2_with fail
  go_ret
  exact ⟨rfl, ((Fr.refl [g] w).set (by simp) _).alloc _, (HB.out.set j _).alloc _⟩

/-- A block of words has changed. -/
theorem DH.word {w w' : World} {D : DL} {W Lg : Int} {cls : List Int} {Rs : List Rows} {bits : List Bool} {top par : Int} {m : List (Int × Value)} {g : Nat} {cs : List Value} (h : DH w D W Lg cls Rs bits top par m) (hf : Fr [g] w w') (hB : Blk w g cs 2) (hg : D.B ≤ g) (hb : ∀ b o c n, D.sv = .slice (some ⟨b, o, none⟩) n c → b < D.B) : DH w' D W Lg cls Rs bits top par m := by
  obtain ⟨vs, rest, h1, _⟩ := h.rs.ex
  obtain ⟨fv, h2, h3⟩ := h.rm.s
  have hms : D.mb ∉ [g] := by simpa using blk_ne' h.s hB (by decide)
  have hcl : SlArg w' D.sv cls := by
    rcases h.cl with h4 | h4 | ⟨b, o, cap, e, hr, hm⟩
    · exact .inl h4
    · exact .inr (.inl h4)
    · exact .inr <| .inr ⟨b, o, cap, e, hr.fr hf (fun hc => by have := List.mem_singleton.1 hc; have := hb _ _ _ _ e; omega), hm⟩
  have hrs : DRs w' D.B D.rsb W Rs := h.rs.fr hf (by simpa using blk_ne' h1 hB (by decide)) (fun x hx => by obtain rfl := List.mem_singleton.1 hx; exact .inr ⟨_, _, hB, by decide⟩)
  have hrm : FRep w' D.fb D.B (W - Lg) bits := h.rm.fr' hf (fun x hx => by obtain rfl := List.mem_singleton.1 hx; exact ⟨_, _, hB, by decide, by decide⟩)
  have him : IM w' D.mp m := h.im.fr hf (by simpa using Ne.symm (nomap h.im hB))
  exact ⟨h.s.fr hf hms, hcl, hrs, h.len, hrm, him, h.lo⟩

/-- The objects by the document. -/
def wcs (o : Ob) (wd : Nat → Int) : List Value := (List.range o.n).map fun j => .int .i64 (wd j)
theorem wcs_len (o : Ob) (wd : Nat → Int) : (wcs o wd).length = o.n := by simp [wcs]
theorem wcs_set (o : Ob) (wd : Nat → Int) (j : Nat) (v : Int) : (wcs o wd).set j (.int .i64 v) = wcs o (fun i => if i = j then v else wd i) := by
  apply List.ext_getElem?
  intro i
  unfold wcs
  by_cases e : i = j
  · subst e
    by_cases h : i < o.n
    · rw [List.getElem?_set_self (by simpa using h)]; simp [h]
    · rw [List.getElem?_eq_none (by simp; omega), List.getElem?_eq_none (by simp; omega)]
  · rw [List.getElem?_set_ne (Ne.symm e)]
    by_cases h : i < o.n
    · simp [h, e]
    · rw [List.getElem?_eq_none (by simp; omega), List.getElem?_eq_none (by simp; omega)]
theorem wcs_congr (o : Ob) {wd wd' : Nat → Int} (h : ∀ j, j < o.n → wd' j = wd j) : wcs o wd' = wcs o wd := by
  unfold wcs
  exact List.map_congr_left (fun j hj => by rw [h j (List.mem_range.1 hj)])

structure DObs (w : World) (B : Nat) (m : List (Int × Value)) (mk : Int) (obs : List Ob) (G : Int → Nat) (wd : Ob → Nat → Int) : Prop where
  get : ∀ o ∈ obs, mget m o.p = some (obV o.k o.n o.a mk (G o.p) o.n)
  blk : ∀ o ∈ obs, B ≤ G o.p ∧ Blk w (G o.p) (wcs o (wd o)) 2
  inj : ∀ o ∈ obs, ∀ o' ∈ obs, G o.p = G o'.p → o.p = o'.p
  only : ∀ p, (mget m p).isSome = true → ∃ o ∈ obs, o.p = p

theorem DObs.fr {S : List Nat} {w w' : World} {B : Nat} {m : List (Int × Value)} {mk : Int} {obs : List Ob} {G : Int → Nat} {wd wd' : Ob → Nat → Int} (h : DObs w B m mk obs G wd) (hf : Fr S w w') (hS : ∀ o ∈ obs, G o.p ∉ S) (hw : ∀ o ∈ obs, ∀ j, j < o.n → wd' o j = wd o j) : DObs w' B m mk obs G wd' :=
  ⟨h.get, fun o ho => ⟨(h.blk o ho).1, by rw [wcs_congr o (hw o ho)]; exact (h.blk o ho).2.fr hf (hS o ho)⟩, h.inj, h.only⟩

theorem mget_mput_same (m : List (Int × Value)) (k : Int) (v : Value) : mget (mput m k v) k = some v := by
  induction m with
  | nil => simp [mput, mget]
  | cons x r ih =>
    by_cases e : k = x.1
    · simp [mput, mget, e]
    · simp [mput, mget, e, ih]
theorem mget_mput_ne (m : List (Int × Value)) {k k' : Int} (h : k' ≠ k) (v : Value) : mget (mput m k v) k' = mget m k' := by
  induction m with
  | nil => simp [mput, mget, h]
  | cons x r ih =>
    by_cases e : k = x.1
    · simp [mput, mget, e, show ¬ k' = x.1 from fun e2 => h (e2.trans e.symm)]
    · by_cases e2 : k' = x.1
      · simp [mput, mget, e, e2]
      · simp [mput, mget, e, e2, ih]

/-- An object more. -/
theorem DObs.new {w w' : World} {B : Nat} {m : List (Int × Value)} {mk : Int} {obs : List Ob} {G : Int → Nat} {wd wd' : Ob → Nat → Int} (h : DObs w B m mk obs G wd) (hb : ∀ o ∈ obs, Blk w' (G o.p) (wcs o (wd o)) 2) (o : Ob) (g : Nat) (hg : B ≤ g) (hnew : ∀ o' ∈ obs, o'.p ≠ o.p ∧ G o'.p ≠ g) (hB : Blk w' g (List.replicate o.n (.int .i64 0)) 2)
    (hw : ∀ o' ∈ obs, ∀ j, j < o'.n → wd' o' j = wd o' j) (h0 : ∀ j, j < o.n → wd' o j = 0) : DObs w' B (mput m o.p (obV o.k o.n o.a mk g o.n)) mk (obs ++ [o]) (fun p => if p = o.p then g else G p) wd' := by
  refine ⟨fun o' ho' => ?_, fun o' ho' => ?_, fun o1 ho1 o2 ho2 e => ?_, fun p hp => ?_⟩
  · rcases List.mem_append.1 ho' with h1 | h1
    · have hne := (hnew o' h1).1
      rw [mget_mput_ne m hne]
      simp only [if_neg hne]
      exact h.get o' h1
    · obtain rfl := List.mem_singleton.1 h1
      rw [mget_mput_same]
      simp
  · rcases List.mem_append.1 ho' with h1 | h1
    · simp only [if_neg (hnew o' h1).1]
      rw [wcs_congr o' (hw o' h1)]
      exact ⟨(h.blk o' h1).1, hb o' h1⟩
    · obtain rfl := List.mem_singleton.1 h1
      simp only [if_true]
      have : wcs o' (wd' o') = List.replicate o'.n (.int .i64 0) := by
        rw [wcs_congr o' (wd := fun _ => 0) h0]
        unfold wcs
        apply List.ext_getElem?
        intro i
        by_cases hi : i < o'.n
        · simp [hi]
        · rw [List.getElem?_eq_none (by simp; omega), List.getElem?_eq_none (by simp; omega)]
      rw [this]
      exact ⟨hg, hB⟩
  · rcases List.mem_append.1 ho1 with h1 | h1 <;> rcases List.mem_append.1 ho2 with h2 | h2
    · simp only [if_neg (hnew o1 h1).1, if_neg (hnew o2 h2).1] at e
      exact h.inj o1 h1 o2 h2 e
    · obtain rfl := List.mem_singleton.1 h2
      simp only [if_neg (hnew o1 h1).1, if_true] at e
      exact absurd e (hnew o1 h1).2
    · obtain rfl := List.mem_singleton.1 h1
      simp only [if_neg (hnew o2 h2).1, if_true] at e
      exact absurd e.symm (hnew o2 h2).2
    · rw [List.mem_singleton.1 h1, List.mem_singleton.1 h2]
  · by_cases e : p = o.p
    · exact ⟨o, by simp, e.symm⟩
    · rw [mget_mput_ne m e] at hp
      obtain ⟨o', h1, h2⟩ := h.only p hp
      exact ⟨o', List.mem_append.2 (.inl h1), h2⟩

/-- A word has been set. -/
theorem DObs.put {w w' : World} {B : Nat} {m : List (Int × Value)} {mk : Int} {obs : List Ob} {G : Int → Nat} {wd wd' : Ob → Nat → Int} (h : DObs w B m mk obs G wd) (hone : ∀ o ∈ obs, ∀ o' ∈ obs, o.p = o'.p → o = o') {o : Ob} (ho : o ∈ obs) {j : Nat} {v : Int} (hf : Fr [G o.p] w w') (hB : Blk w' (G o.p) ((wcs o (wd o)).set j (.int .i64 v)) 2)
    (hw : ∀ o' ∈ obs, o' ≠ o → ∀ i, i < o'.n → wd' o' i = wd o' i) (hw2 : ∀ i, i < o.n → wd' o i = if i = j then v else wd o i) : DObs w' B m mk obs G wd' := by
  refine ⟨h.get, fun o' ho' => ⟨(h.blk o' ho').1, ?_⟩, h.inj, h.only⟩
  by_cases e : o' = o
  · subst e
    rw [wcs_set] at hB
    rw [wcs_congr o' hw2]
    exact hB
  · rw [wcs_congr o' (hw o' ho' e)]
    refine (h.blk o' ho').2.fr hf (fun hc => e (hone o' ho' o ho (h.inj o' ho' o ho (List.mem_singleton.1 hc))))
end Go.Proofs.YtifillpcphiblaaGreat
