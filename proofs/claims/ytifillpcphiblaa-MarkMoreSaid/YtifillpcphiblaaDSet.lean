import Derived.Test.YtifillpcphiblaaDJoin
import Derived.Deep.QuietTactic
import Derived.BigQuiet
namespace Go.Proofs.Ytifillpcphiblaa
open Go Go.Proofs Go.RowKit

/-! The document's heap: Set. -/

theorem obZero (w : World) : (zeroValue 114).run Try.prog w = .ok (.agg #[.int .i64 0, .int .i64 0, .int .i64 0, .int .i64 0, .slice none 0 0]) w := by kernel_rfl

set_option maxRecDepth 100000 in
set_option maxHeartbeats 3200000 in
theorem dSet (D : DL) (W Lg : Int) (cls : List Int) (Rs : List Rows) (bits : List Bool) (top par : Int) (m : List (Int × Value)) (p k a mk v : Int) (n g j : Nat) (cs : List Value) (w : World) (h : DH w D W Lg cls Rs bits top par m) (hg : mget m p = some (obV k n a mk g n)) (hB : Blk w g cs 2) (hcs : cs.length = n) (hj : j < n) (_hn : n ≤ 100) :
    Calls Try.prog 104 #[.pointer (some ⟨D.mb, 0, none⟩), .int .i64 p, .int .i64 j, .int .i64 v] w fun e w' => e = .returned (.int .i64 0) ∧ Fr [g] w w' ∧ Blk w' g (cs.set j (.int .i64 v)) 2 := by
  have q7 := h.reads.2.2.2.1
  have hlk := run_lookup_im (P := Try.prog) h.im Try.underlying103 Try.underlying3 (obZero w) p false
  rw [hg] at hlk
  simp only [Option.getD_some, obV, if_neg (show ¬ false = true by decide)] at hlk
  have B1 := Blk.new w [.int .i64 k, .int .i64 n, .int .i64 a, .int .i64 mk, .slice (some ⟨g, 0, none⟩) n n] 114
  have b4 := B1.cell (i := 4) rfl
  have hB' := hB.alloc (.cells #[.int .i64 k, .int .i64 n, .int .i64 a, .int .i64 mk, .slice (some ⟨g, 0, none⟩) n n] 114)
  obtain ⟨u, hu⟩ : ∃ u, cs[j]? = some u := ⟨_, List.getElem?_eq_getElem (by omega)⟩
  have c0 := hB'.cell hu
  have f0 := hB'.frozen j
  have HB := hid hB
  have hgl := hB.lt
  have g1 : decide ((j : Int) < 0) = false := by simp
  have g2 : decide ((n : Int) ≤ (j : Int)) = false := by simp; omega
  have i1 : (0 : Int) ≤ (j : Int) := by omega
  have i2 : (j : Int) < (n : Int) := by omega
  clear h hg hB hB' B1 hu hcs
  go_enter Try.func104, Try.ntmps104
  go_wp2_with fail
  go_ret
  exact ⟨rfl, ((Fr.refl [g] w).set (by simp) _).alloc _, (HB.out.set j _).alloc _⟩

/-- A block of words has changed. -/
theorem DH.word {w w' : World} {D : DL} {W Lg : Int} {cls : List Int} {Rs : List Rows} {bits : List Bool} {top par : Int} {m : List (Int × Value)} {g : Nat} {cs : List Value} (h : DH w D W Lg cls Rs bits top par m) (hf : Fr [g] w w') (hB : Blk w g cs 2) (hg : D.B ≤ g) (hb : ∀ b o c n, D.sv = .slice (some ⟨b, o, none⟩) n c → b < D.B) : DH w' D W Lg cls Rs bits top par m := by
  obtain ⟨vs, rest, h1, _⟩ := h.rs.ex
  obtain ⟨fv, h2, h3⟩ := h.rm.s
  have hms : D.mb ∉ [g] := by simpa using blk_ne' h.s hB (by decide)
  have hcl : SlArg w' D.sv cls := by
    rcases h.cl with h4 | h4 | ⟨b, o, cap, e, hr, hm⟩
    · exact .inl h4
    · exact .inr (.inl h4)
    · exact .inr <| .inr ⟨b, o, cap, e, hr.fr hf (fun hc => by have := List.mem_singleton.1 hc; have := hb _ _ _ _ e; omega), hm⟩
  have hrs : DRs w' D.B D.rsb W Rs := h.rs.fr hf (by simpa using blk_ne' h1 hB (by decide)) (fun x hx => by obtain rfl := List.mem_singleton.1 hx; exact .inr ⟨_, _, hB, by decide⟩)
  have hrm : FRep w' D.fb D.B (W - Lg) bits := h.rm.fr' hf (fun x hx => by obtain rfl := List.mem_singleton.1 hx; exact ⟨_, _, hB, by decide, by decide⟩)
  have him : IM w' D.mp m := h.im.fr hf (by simpa using Ne.symm (nomap h.im hB))
  exact ⟨h.s.fr hf hms, hcl, hrs, h.len, hrm, him, h.lo⟩

/-- The objects by the document. -/
def wcs (o : Ob) (wd : Nat → Int) : List Value := (List.range o.n).map fun j => .int .i64 (wd j)
theorem wcs_len (o : Ob) (wd : Nat → Int) : (wcs o wd).length = o.n := by simp [wcs]
theorem wcs_set (o : Ob) (wd : Nat → Int) (j : Nat) (v : Int) : (wcs o wd).set j (.int .i64 v) = wcs o (fun i => if i = j then v else wd i) := by
  apply List.ext_getElem?
  intro i
  unfold wcs
  by_cases e : i = j
  · subst e
    by_cases h : i < o.n
    · rw [List.getElem?_set_self (by simpa using h)]; simp [h]
    · rw [List.getElem?_eq_none (by simp; omega), List.getElem?_eq_none (by simp; omega)]
  · rw [List.getElem?_set_ne (Ne.symm e)]
    by_cases h : i < o.n
    · simp [h, e]
    · rw [List.getElem?_eq_none (by simp; omega), List.getElem?_eq_none (by simp; omega)]
theorem wcs_congr (o : Ob) {wd wd' : Nat → Int} (h : ∀ j, j < o.n → wd' j = wd j) : wcs o wd' = wcs o wd := by
  unfold wcs
  exact List.map_congr_left (fun j hj => by rw [h j (List.mem_range.1 hj)])

structure DObs (w : World) (B : Nat) (m : List (Int × Value)) (mk : Int) (obs : List Ob) (G : Int → Nat) (wd : Ob → Nat → Int) : Prop where
  get : ∀ o ∈ obs, mget m o.p = some (obV o.k o.n o.a mk (G o.p) o.n)
  blk : ∀ o ∈ obs, B ≤ G o.p ∧ Blk w (G o.p) (wcs o (wd o)) 2
  inj : ∀ o ∈ obs, ∀ o' ∈ obs, G o.p = G o'.p → o.p = o'.p
  only : ∀ p, (mget m p).isSome = true → ∃ o ∈ obs, o.p = p

theorem DObs.fr {S : List Nat} {w w' : World} {B : Nat} {m : List (Int × Value)} {mk : Int} {obs : List Ob} {G : Int → Nat} {wd wd' : Ob → Nat → Int} (h : DObs w B m mk obs G wd) (hf : Fr S w w') (hS : ∀ o ∈ obs, G o.p ∉ S) (hw : ∀ o ∈ obs, ∀ j, j < o.n → wd' o j = wd o j) : DObs w' B m mk obs G wd' :=
  ⟨h.get, fun o ho => ⟨(h.blk o ho).1, by rw [wcs_congr o (hw o ho)]; exact (h.blk o ho).2.fr hf (hS o ho)⟩, h.inj, h.only⟩

theorem mget_mput_same (m : List (Int × Value)) (k : Int) (v : Value) : mget (mput m k v) k = some v := by
  induction m with
  | nil => simp [mput, mget]
  | cons x r ih =>
    by_cases e : k = x.1
    · simp [mput, mget, e]
    · simp [mput, mget, e, ih]
theorem mget_mput_ne (m : List (Int × Value)) {k k' : Int} (h : k' ≠ k) (v : Value) : mget (mput m k v) k' = mget m k' := by
  induction m with
  | nil => simp [mput, mget, h]
  | cons x r ih =>
    by_cases e : k = x.1
    · simp [mput, mget, e, show ¬ k' = x.1 from fun e2 => h (e2.trans e.symm)]
    · by_cases e2 : k' = x.1
      · simp [mput, mget, e, e2]
      · simp [mput, mget, e, e2, ih]

/-- An object more. -/
theorem DObs.new {w w' : World} {B : Nat} {m : List (Int × Value)} {mk : Int} {obs : List Ob} {G : Int → Nat} {wd wd' : Ob → Nat → Int} (h : DObs w B m mk obs G wd) (hb : ∀ o ∈ obs, Blk w' (G o.p) (wcs o (wd o)) 2) (o : Ob) (g : Nat) (hg : B ≤ g) (hnew : ∀ o' ∈ obs, o'.p ≠ o.p ∧ G o'.p ≠ g) (hB : Blk w' g (List.replicate o.n (.int .i64 0)) 2)
    (hw : ∀ o' ∈ obs, ∀ j, j < o'.n → wd' o' j = wd o' j) (h0 : ∀ j, j < o.n → wd' o j = 0) : DObs w' B (mput m o.p (obV o.k o.n o.a mk g o.n)) mk (obs ++ [o]) (fun p => if p = o.p then g else G p) wd' := by
  refine ⟨fun o' ho' => ?_, fun o' ho' => ?_, fun o1 ho1 o2 ho2 e => ?_, fun p hp => ?_⟩
  · rcases List.mem_append.1 ho' with h1 | h1
    · have hne := (hnew o' h1).1
      rw [mget_mput_ne m hne]
      simp only [if_neg hne]
      exact h.get o' h1
    · obtain rfl := List.mem_singleton.1 h1
      rw [mget_mput_same]
      simp
  · rcases List.mem_append.1 ho' with h1 | h1
    · simp only [if_neg (hnew o' h1).1]
      rw [wcs_congr o' (hw o' h1)]
      exact ⟨(h.blk o' h1).1, hb o' h1⟩
    · obtain rfl := List.mem_singleton.1 h1
      simp only [if_true]
      have : wcs o' (wd' o') = List.replicate o'.n (.int .i64 0) := by
        rw [wcs_congr o' (wd := fun _ => 0) h0]
        unfold wcs
        apply List.ext_getElem?
        intro i
        by_cases hi : i < o'.n
        · simp [hi]
        · rw [List.getElem?_eq_none (by simp; omega), List.getElem?_eq_none (by simp; omega)]
      rw [this]
      exact ⟨hg, hB⟩
  · rcases List.mem_append.1 ho1 with h1 | h1 <;> rcases List.mem_append.1 ho2 with h2 | h2
    · simp only [if_neg (hnew o1 h1).1, if_neg (hnew o2 h2).1] at e
      exact h.inj o1 h1 o2 h2 e
    · obtain rfl := List.mem_singleton.1 h2
      simp only [if_neg (hnew o1 h1).1, if_true] at e
      exact absurd e (hnew o1 h1).2
    · obtain rfl := List.mem_singleton.1 h1
      simp only [if_neg (hnew o2 h2).1, if_true] at e
      exact absurd e.symm (hnew o2 h2).2
    · rw [List.mem_singleton.1 h1, List.mem_singleton.1 h2]
  · by_cases e : p = o.p
    · exact ⟨o, by simp, e.symm⟩
    · rw [mget_mput_ne m e] at hp
      obtain ⟨o', h1, h2⟩ := h.only p hp
      exact ⟨o', List.mem_append.2 (.inl h1), h2⟩

/-- A word has been set. -/
theorem DObs.put {w w' : World} {B : Nat} {m : List (Int × Value)} {mk : Int} {obs : List Ob} {G : Int → Nat} {wd wd' : Ob → Nat → Int} (h : DObs w B m mk obs G wd) (hone : ∀ o ∈ obs, ∀ o' ∈ obs, o.p = o'.p → o = o') {o : Ob} (ho : o ∈ obs) {j : Nat} {v : Int} (hf : Fr [G o.p] w w') (hB : Blk w' (G o.p) ((wcs o (wd o)).set j (.int .i64 v)) 2)
    (hw : ∀ o' ∈ obs, o' ≠ o → ∀ i, i < o'.n → wd' o' i = wd o' i) (hw2 : ∀ i, i < o.n → wd' o i = if i = j then v else wd o i) : DObs w' B m mk obs G wd' := by
  refine ⟨h.get, fun o' ho' => ⟨(h.blk o' ho').1, ?_⟩, h.inj, h.only⟩
  by_cases e : o' = o
  · subst e
    rw [wcs_set] at hB
    rw [wcs_congr o' hw2]
    exact hB
  · rw [wcs_congr o' (hw o' ho' e)]
    refine (h.blk o' ho').2.fr hf (fun hc => e (hone o' ho' o ho (h.inj o' ho' o ho (List.mem_singleton.1 hc))))
end Go.Proofs.Ytifillpcphiblaa
