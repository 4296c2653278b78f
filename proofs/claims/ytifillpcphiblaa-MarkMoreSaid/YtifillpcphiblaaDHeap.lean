import Derived.Test.YtifillpcphiblaaDDo
import Derived.Test.YtifillpcphiblaaDTake
import Derived.Test.YtifillpcphiblaaIM
import Derived.Test.YtifillpcphiblaaAllocX
import Derived.Test.YtifillpcphiblaaMHNew
namespace Go.Proofs.Ytifillpcphiblaa
open Go Go.Proofs Go.RowKit

/-! The document's heap (layer 6): what it is, and that it goes along with the program's. -/

/-- Where the document's heap lies. -/
structure DL where
  B : Nat
  mb : Nat
  rsb : Nat
  mp : Nat
  fb : Nat
  a : Int
  b : Int
  c : Int
  d : Int
  sv : Value
  cap : Nat

structure DH (w : World) (D : DL) (W Lg : Int) (cls : List Int) (Rs : List Rows) (bits : List Bool) (top par : Int) (m : List (Int × Value)) : Prop where
  s : Blk w D.mb [.int .i64 W, .int .i64 Lg, .int .i64 D.a, .int .i64 D.b, .int .i64 D.c, .int .i64 D.d, D.sv, .map (some D.mp), .slice (some ⟨D.rsb, 0, none⟩) (cls.length + 1) D.cap, .pointer (some ⟨D.fb, 0, none⟩), .int .i64 top, .int .i64 par] 107
  cl : SlArg w D.sv cls
  rs : DRs w D.B D.rsb W Rs
  len : Rs.length = cls.length + 1
  rm : FRep w D.fb D.B (W - Lg) bits
  im : IM w D.mp m
  lo : D.B ≤ D.mb ∧ D.B ≤ D.rsb ∧ D.B ≤ D.mp

/-- Blocks that the document writes. -/
def DBlk (w : World) (mp b : Nat) : Prop := b = mp ∨ ∃ cs T, Blk w b cs T ∧ (T = 107 ∨ T = 124 ∨ T = 4)
def FrD (B mp rsb : Nat) (w w' : World) : Prop := (∃ S, Fr S w w' ∧ ∀ b ∈ S, B ≤ b ∧ (b < w.heap.size → DBlk w mp b)) ∧ ROff rsb w w'

theorem blk_back {S : List Nat} {w w' : World} {b : Nat} {cs : List Value} {T : TypeId} (hf : Fr S w w') (h : Blk w' b cs T) (hb : b < w.heap.size) (hS : b ∉ S) : Blk w b cs T := by
  unfold Blk at h ⊢
  rw [← hf.block b hb hS]; exact h
theorem FrD.of {B mp rsb : Nat} {w w' : World} (h : Fr [] w w') : FrD B mp rsb w w' := ⟨⟨[], h, by simp⟩, ROff.fr h (by simp)⟩
theorem FrD.size {B mp rsb : Nat} {w w' : World} (h : FrD B mp rsb w w') : w.heap.size ≤ w'.heap.size := h.1.elim fun _ h => h.1.size
theorem FrD.trans {B mp rsb : Nat} {a b c : World} (h : FrD B mp rsb a b) (k : FrD B mp rsb b c) : FrD B mp rsb a c := by
  have hro := h.2.trans k.2 h.size
  obtain ⟨⟨S, hF, hS⟩, _⟩ := h
  obtain ⟨⟨S', hF', hS'⟩, _⟩ := k
  refine ⟨?_, hro⟩
  refine ⟨S ++ S', (hF.here (by intro x hx; exact List.mem_append.2 (.inl hx))).trans (hF'.here (by intro x hx; exact List.mem_append.2 (.inr hx))), fun x hx => ?_⟩
  by_cases hxS : x ∈ S
  · exact hS x hxS
  · rcases List.mem_append.1 hx with hx | hx
    · exact absurd hx hxS
    · refine ⟨(hS' x hx).1, fun hl => ?_⟩
      rcases (hS' x hx).2 (Nat.lt_of_lt_of_le hl hF.size) with h1 | ⟨cs, T, h1, h2⟩
      · exact .inl h1
      · exact .inr ⟨cs, T, blk_back hF h1 hl hxS, h2⟩
theorem FrD.old {w0 : World} {B mp rsb : Nat} {w w' : World} (h : FrD B mp rsb w w') (h0 : Fr [] w0 w) (hB : w0.heap.size ≤ B) : Fr [] w0 w' := by
  obtain ⟨⟨S, hF, hS⟩, _⟩ := h
  exact h0.step hF (fun b hb => .inr (Nat.le_trans hB (hS b hb).1))
theorem FrD.blk {B mp rsb : Nat} {w w' : World} {b : Nat} {cs : List Value} {T : TypeId} (h : FrD B mp rsb w w') (hb : Blk w b cs T) (hT : T ≠ 107 ∧ T ≠ 124 ∧ T ≠ 4) (hm : b ≠ mp) : Blk w' b cs T := by
  obtain ⟨⟨S, hF, hS⟩, _⟩ := h
  refine hb.fr hF (fun hc => ?_)
  rcases (hS b hc).2 hb.lt with h1 | ⟨cs', T', h1, h2⟩
  · exact hm h1
  · have := blk_ne' hb h1 (by rintro rfl; rcases h2 with h | h | h <;> simp [h] at hT)
    exact this rfl
theorem FrD.im {B mp rsb : Nat} {w w' : World} {b : Nat} {m : List (Int × Value)} (h : FrD B mp rsb w w') (hb : IM w b m) (hm : b ≠ mp) : IM w' b m := by
  obtain ⟨⟨S, hF, hS⟩, _⟩ := h
  refine hb.fr hF (fun hc => ?_)
  rcases (hS b hc).2 hb.lt with h1 | ⟨cs', T', h1, h2⟩
  · exact hm h1
  · obtain ⟨es, ck, h3, _⟩ := hb
    unfold Blk at h1
    rw [h1] at h3
    cases h3
theorem FrD.rowi {B mp rsb B' : Nat} {w w' : World} {v : Value} {l : List Int} (h : FrD B mp rsb w w') (hr : Rowi w B' v l) (hm : ∀ g, v.ownBlock = some g → g ≠ mp) : Rowi w' B' v l := by
  obtain ⟨⟨S, hF, hS⟩, _⟩ := h
  refine hr.fr hF (fun g hg hc => ?_)
  rcases (hS g hc).2 (hr.lt g hg).2 with h1 | ⟨cs', T', h1, h2⟩
  · exact hm g hg h1
  · exact hr.ne h1 (by rintro rfl; rcases h2 with h | h | h <;> exact absurd h (by decide)) g hg rfl
theorem FrD.low {B mp rsb : Nat} {w w' : World} (h : FrD B mp rsb w w') : ∃ S, Fr S w w' ∧ ∀ b ∈ S, B ≤ b := by
  obtain ⟨⟨S, hF, hS⟩, _⟩ := h
  exact ⟨S, hF, fun b hb => (hS b hb).1⟩

/-- Something below the document's heap, or of other types, changes. -/
theorem DH.fr {S : List Nat} {w w' : World} {D : DL} {W Lg : Int} {cls : List Int} {Rs : List Rows} {bits : List Bool} {top par : Int} {m : List (Int × Value)} (h : DH w D W Lg cls Rs bits top par m) (hf : Fr S w w') (hS : ∀ b ∈ S, b < D.B) (hsv : SlArg w' D.sv cls) : DH w' D W Lg cls Rs bits top par m :=
  { s := h.s.fr hf (fun hc => by have := hS _ hc; have := h.lo.1; omega), cl := hsv, rs := h.rs.fr hf (fun hc => by have := hS _ hc; have := h.lo.2.1; omega) (fun x hx => .inl (hS x hx)), len := h.len,
    rm := h.rm.fr hf (fun x hx => hS x hx), im := h.im.fr hf (fun hc => by have := hS _ hc; have := h.lo.2.2; omega), lo := h.lo }
theorem DH.step {w w' : World} {D : DL} {W Lg : Int} {cls : List Int} {Rs : List Rows} {bits : List Bool} {top par : Int} {m : List (Int × Value)} (h : DH w D W Lg cls Rs bits top par m) (hf : Fr [] w w') : DH w' D W Lg cls Rs bits top par m :=
  h.fr hf (by simp) (h.cl.fr hf (by simp))
/-- The cells that a walk reads. -/
theorem DH.reads {w : World} {D : DL} {W Lg : Int} {cls : List Int} {Rs : List Rows} {bits : List Bool} {top par : Int} {m : List (Int × Value)} (h : DH w D W Lg cls Rs bits top par m) :
    w.cell? ⟨D.mb, 0, none⟩ = some (.int .i64 W) ∧ w.cell? ⟨D.mb, 1, none⟩ = some (.int .i64 Lg) ∧ w.cell? ⟨D.mb, 6, none⟩ = some D.sv ∧ w.cell? ⟨D.mb, 7, none⟩ = some (.map (some D.mp)) ∧ w.cell? ⟨D.mb, 8, none⟩ = some (.slice (some ⟨D.rsb, 0, none⟩) (cls.length + 1) D.cap) ∧
    w.cell? ⟨D.mb, 9, none⟩ = some (.pointer (some ⟨D.fb, 0, none⟩)) ∧ w.cell? ⟨D.mb, 10, none⟩ = some (.int .i64 top) ∧ w.cell? ⟨D.mb, 11, none⟩ = some (.int .i64 par) :=
  ⟨h.s.cell (i := 0) rfl, h.s.cell (i := 1) rfl, h.s.cell (i := 6) rfl, h.s.cell (i := 7) rfl, h.s.cell (i := 8) rfl, h.s.cell (i := 9) rfl, h.s.cell (i := 10) rfl, h.s.cell (i := 11) rfl⟩
theorem DH.mcls {w : World} {D : DL} {W Lg : Int} {cls : List Int} {Rs : List Rows} {bits : List Bool} {top par : Int} {m : List (Int × Value)} (h : DH w D W Lg cls Rs bits top par m) : MCls w D.mb cls := ⟨_, h.s.cell (i := 6) rfl, h.cl⟩

/-- The parts' blocks are apart. -/
theorem DH.apart {w : World} {D : DL} {W Lg : Int} {cls : List Int} {Rs : List Rows} {bits : List Bool} {top par : Int} {m : List (Int × Value)} (h : DH w D W Lg cls Rs bits top par m) : D.mb ≠ D.rsb ∧ D.mb ≠ D.mp ∧ D.rsb ≠ D.mp ∧ D.fb ≠ D.mb ∧ D.fb ≠ D.rsb ∧ D.fb ≠ D.mp := by
  obtain ⟨vs, rest, h1, _⟩ := h.rs.ex
  obtain ⟨fv, h2, _⟩ := h.rm.s
  obtain ⟨es, ck, h3, _⟩ := h.im
  have nm : ∀ {b : Nat} {cs : List Value} {T : TypeId}, Blk w b cs T → b ≠ D.mp := by
    rintro b cs T hb rfl
    unfold Blk at hb
    rw [hb] at h3
    cases h3
  exact ⟨blk_ne' h.s h1 (by decide), nm h.s, nm h1, blk_ne' h2 h.s (by decide), blk_ne' h2 h1 (by decide), nm h2⟩
end Go.Proofs.Ytifillpcphiblaa
