import Derived.Test.YtifillpcphiblaaGreatMDDo
import Derived.Test.YtifillpcphiblaaGreatMDRoom
import Derived.Test.YtifillpcphiblaaGreatIM
import Derived.Test.YtifillpcphiblaaGreatMMXDel
import Derived.Test.YtifillpcphiblaaGreatMMHNew
import Derived.Deep.QuietTactic
import Derived.BigQuiet
namespace Go.Proofs.YtifillpcphiblaaGreat
open Go Go.Proofs Go.RowKit

/-! The document's heap (layer 6): what it is, and that it goes along with the program's. -/

/-- Where the document's heap lies. -/
structure DL where
  B : Nat
  mb : Nat
  rsb : Nat
  mp : Nat
  fb : Nat
  a : Int
  b : Int
  c : Int
  d : Int
  sv : Value
  cap : Nat

structure DH (w : World) (D : DL) (W Lg : Int) (cls : List Int) (Rs : List Rows) (bits : List Bool) (top par : Int) (m : List (Int × Value)) : Prop where
  s : Blk w D.mb [.int .i64 W, .int .i64 Lg, .int .i64 D.a, .int .i64 D.b, .int .i64 D.c, .int .i64 D.d, D.sv, .map (some D.mp), .slice (some ⟨D.rsb, 0, none⟩) (cls.length + 1) D.cap, .pointer (some ⟨D.fb, 0, none⟩), .int .i64 top, .int .i64 par] 62
  cl : SlArg w D.sv cls
  rs : DRs w D.B D.rsb W Rs
  len : Rs.length = cls.length + 1
  rm : FRep w D.fb D.B (W - Lg) bits
  im : IM w D.mp m
  lo : D.B ≤ D.mb ∧ D.B ≤ D.rsb ∧ D.B ≤ D.mp

/-- Blocks that the document writes. -/
def DBlk (w : World) (mp b : Nat) : Prop := b = mp ∨ ∃ cs T, Blk w b cs T ∧ (T = 62 ∨ T = 66 ∨ T = 4)
def FrD (B mp rsb : Nat) (w w' : World) : Prop := (∃ S, Fr S w w' ∧ ∀ b ∈ S, B ≤ b ∧ (b < w.heap.size → DBlk w mp b)) ∧ ROff rsb w w'

theorem blk_back {S : List Nat} {w w' : World} {b : Nat} {cs : List Value} {T : TypeId} (hf : Fr S w w') (h : Blk w' b cs T) (hb : b < w.heap.size) (hS : b ∉ S) : Blk w b cs T := by
  unfold Blk at h ⊢
  rw [← hf.block b hb hS]; exact h
theorem FrD.of {B mp rsb : Nat} {w w' : World} (h : Fr [] w w') : FrD B mp rsb w w' := ⟨⟨[], h, by simp⟩, ROff.fr h (by simp)⟩
theorem FrD.size {B mp rsb : Nat} {w w' : World} (h : FrD B mp rsb w w') : w.heap.size ≤ w'.heap.size := h.1.elim fun _ h => h.1.size
theorem FrD.trans {B mp rsb : Nat} {a b c : World} (h : FrD B mp rsb a b) (k : FrD B mp rsb b c) : FrD B mp rsb a c := by
  have hro := h.2.trans k.2 h.size
  obtain ⟨⟨S, hF, hS⟩, _⟩ := h
  obtain ⟨⟨S', hF', hS'⟩, _⟩ := k
  refine ⟨?_, hro⟩
  refine ⟨S ++ S', (hF.here (by intro x hx; exact List.mem_append.2 (.inl hx))).trans (hF'.here (by intro x hx; exact List.mem_append.2 (.inr hx))), fun x hx => ?_⟩
  by_cases hxS : x ∈ S
  · exact hS x hxS
  · rcases List.mem_append.1 hx with hx | hx
    · exact absurd hx hxS
    · refine ⟨(hS' x hx).1, fun hl => ?_⟩
      rcases (hS' x hx).2 (Nat.lt_of_lt_of_le hl hF.size) with h1 | ⟨cs, T, h1, h2⟩
      · exact .inl h1
      · exact .inr ⟨cs, T, blk_back hF h1 hl hxS, h2⟩
theorem FrD.old {w0 : World} {B mp rsb : Nat} {w w' : World} (h : FrD B mp rsb w w') (h0 : Fr [] w0 w) (hB : w0.heap.size ≤ B) : Fr [] w0 w' := by
  obtain ⟨⟨S, hF, hS⟩, _⟩ := h
  exact h0.step hF (fun b hb => .inr (Nat.le_trans hB (hS b hb).1))
theorem FrD.blk {B mp rsb : Nat} {w w' : World} {b : Nat} {cs : List Value} {T : TypeId} (h : FrD B mp rsb w w') (hb : Blk w b cs T) (hT : T ≠ 62 ∧ T ≠ 66 ∧ T ≠ 4) (hm : b ≠ mp) : Blk w' b cs T := by
  obtain ⟨⟨S, hF, hS⟩, _⟩ := h
  refine hb.fr hF (fun hc => ?_)
  rcases (hS b hc).2 hb.lt with h1 | ⟨cs', T', h1, h2⟩
  · exact hm h1
  · have := blk_ne' hb h1 (by rintro rfl; rcases h2 with h | h | h <;> simp [h] at hT)
    exact this rfl
theorem FrD.im {B mp rsb : Nat} {w w' : World} {b : Nat} {m : List (Int × Value)} (h : FrD B mp rsb w w') (hb : IM w b m) (hm : b ≠ mp) : IM w' b m := by
  obtain ⟨⟨S, hF, hS⟩, _⟩ := h
  refine hb.fr hF (fun hc => ?_)
  rcases (hS b hc).2 hb.lt with h1 | ⟨cs', T', h1, h2⟩
  · exact hm h1
  · obtain ⟨es, ck, h3, _⟩ := hb
    unfold Blk at h1
    rw [h1] at h3
    cases h3
theorem FrD.rowi {B mp rsb B' : Nat} {w w' : World} {v : Value} {l : List Int} (h : FrD B mp rsb w w') (hr : Rowi w B' v l) (hm : ∀ g, v.ownBlock = some g → g ≠ mp) : Rowi w' B' v l := by
  obtain ⟨⟨S, hF, hS⟩, _⟩ := h
  refine hr.fr hF (fun g hg hc => ?_)
  rcases (hS g hc).2 (hr.lt g hg).2 with h1 | ⟨cs', T', h1, h2⟩
  · exact hm g hg h1
  · exact hr.ne h1 (by rintro rfl; rcases h2 with h | h | h <;> exact absurd h (by decide)) g hg rfl
theorem FrD.low {B mp rsb : Nat} {w w' : World} (h : FrD B mp rsb w w') : ∃ S, Fr S w w' ∧ ∀ b ∈ S, B ≤ b := by
  obtain ⟨⟨S, hF, hS⟩, _⟩ := h
  exact ⟨S, hF, fun b hb => (hS b hb).1⟩

/-- Something below the document's heap, or of other types, changes. -/
theorem DH.fr {S : List Nat} {w w' : World} {D : DL} {W Lg : Int} {cls : List Int} {Rs : List Rows} {bits : List Bool} {top par : Int} {m : List (Int × Value)} (h : DH w D W Lg cls Rs bits top par m) (hf : Fr S w w') (hS : ∀ b ∈ S, b < D.B) (hsv : SlArg w' D.sv cls) : DH w' D W Lg cls Rs bits top par m :=
  { s := h.s.fr hf (fun hc => by have := hS _ hc; have := h.lo.1; omega), cl := hsv, rs := h.rs.fr hf (fun hc => by have := hS _ hc; have := h.lo.2.1; omega) (fun x hx => .inl (hS x hx)), len := h.len,
    rm := h.rm.fr hf (fun x hx => hS x hx), im := h.im.fr hf (fun hc => by have := hS _ hc; have := h.lo.2.2; omega), lo := h.lo }
theorem DH.step {w w' : World} {D : DL} {W Lg : Int} {cls : List Int} {Rs : List Rows} {bits : List Bool} {top par : Int} {m : List (Int × Value)} (h : DH w D W Lg cls Rs bits top par m) (hf : Fr [] w w') : DH w' D W Lg cls Rs bits top par m :=
  h.fr hf (by simp) (h.cl.fr hf (by simp))
/-- The cells that a walk reads. -/
theorem DH.reads {w : World} {D : DL} {W Lg : Int} {cls : List Int} {Rs : List Rows} {bits : List Bool} {top par : Int} {m : List (Int × Value)} (h : DH w D W Lg cls Rs bits top par m) :
    w.cell? ⟨D.mb, 0, none⟩ = some (.int .i64 W) ∧ w.cell? ⟨D.mb, 1, none⟩ = some (.int .i64 Lg) ∧ w.cell? ⟨D.mb, 6, none⟩ = some D.sv ∧ w.cell? ⟨D.mb, 7, none⟩ = some (.map (some D.mp)) ∧ w.cell? ⟨D.mb, 8, none⟩ = some (.slice (some ⟨D.rsb, 0, none⟩) (cls.length + 1) D.cap) ∧
    w.cell? ⟨D.mb, 9, none⟩ = some (.pointer (some ⟨D.fb, 0, none⟩)) ∧ w.cell? ⟨D.mb, 10, none⟩ = some (.int .i64 top) ∧ w.cell? ⟨D.mb, 11, none⟩ = some (.int .i64 par) :=
  ⟨h.s.cell (i := 0) rfl, h.s.cell (i := 1) rfl, h.s.cell (i := 6) rfl, h.s.cell (i := 7) rfl, h.s.cell (i := 8) rfl, h.s.cell (i := 9) rfl, h.s.cell (i := 10) rfl, h.s.cell (i := 11) rfl⟩
theorem DH.mcls {w : World} {D : DL} {W Lg : Int} {cls : List Int} {Rs : List Rows} {bits : List Bool} {top par : Int} {m : List (Int × Value)} (h : DH w D W Lg cls Rs bits top par m) : MCls w D.mb cls := ⟨_, h.s.cell (i := 6) rfl, h.cl⟩

/-- The parts' blocks are apart. -/
theorem DH.apart {w : World} {D : DL} {W Lg : Int} {cls : List Int} {Rs : List Rows} {bits : List Bool} {top par : Int} {m : List (Int × Value)} (h : DH w D W Lg cls Rs bits top par m) : D.mb ≠ D.rsb ∧ D.mb ≠ D.mp ∧ D.rsb ≠ D.mp ∧ D.fb ≠ D.mb ∧ D.fb ≠ D.rsb ∧ D.fb ≠ D.mp := by
  obtain ⟨vs, rest, h1, _⟩ := h.rs.ex
  obtain ⟨fv, h2, _⟩ := h.rm.s
  obtain ⟨es, ck, h3, _⟩ := h.im
  have nm : ∀ {b : Nat} {cs : List Value} {T : TypeId}, Blk w b cs T → b ≠ D.mp := by
    rintro b cs T hb rfl
    unfold Blk at hb
    rw [hb] at h3
    cases h3
  exact ⟨blk_ne' h.s h1 (by decide), nm h.s, nm h1, blk_ne' h2 h.s (by decide), blk_ne' h2 h1 (by decide), nm h2⟩
end Go.Proofs.YtifillpcphiblaaGreat

namespace Go.Proofs.YtifillpcphiblaaGreat
open Go Go.Proofs Go.RowKit

/-! heap.place by the document. -/

theorem FrD.rsb {w w' : World} {D : DL} {W Lg : Int} {cls : List Int} {Rs : List Rows} {bits : List Bool} {top par : Int} {m : List (Int × Value)} (h : DH w D W Lg cls Rs bits top par m) (hf : FrR D.rsb w w') : FrD D.B D.mp D.rsb w w' := by
  refine ⟨⟨_, hf.1, fun b hb => ?_⟩, hf.2⟩
  obtain rfl := List.mem_singleton.1 hb
  obtain ⟨vs, rest, h1, _⟩ := h.rs.ex
  exact ⟨h.lo.2.1, fun _ => .inr ⟨_, _, h1, .inr (.inl rfl)⟩⟩
theorem FrD.mb {w w' : World} {D : DL} {W Lg : Int} {cls : List Int} {Rs : List Rows} {bits : List Bool} {top par : Int} {m : List (Int × Value)} (h : DH w D W Lg cls Rs bits top par m) (hf : Fr [D.mb] w w') : FrD D.B D.mp D.rsb w w' := by
  refine ⟨⟨_, hf, fun b hb => ?_⟩, ROff.fr hf (by simpa using Ne.symm h.apart.1)⟩
  obtain rfl := List.mem_singleton.1 hb
  exact ⟨h.lo.1, fun _ => .inr ⟨_, _, h.s, .inl rfl⟩⟩
theorem FrD.bool {B mp rsb : Nat} {w w' : World} {cs0 : List Value} (hr : Blk w rsb cs0 66) (h : FrT 4 B w w') : FrD B mp rsb w w' := by
  obtain ⟨S, hF, hS⟩ := h
  refine ⟨⟨S, hF, fun b hb => ⟨(hS b hb).1, fun hl => ?_⟩⟩, ROff.fr hF (fun hc => ?_)⟩
  · obtain ⟨cs, h⟩ := (hS b hb).2 hl
    exact .inr ⟨cs, _, h, .inr (.inr rfl)⟩
  · obtain ⟨cs, h⟩ := (hS _ hc).2 hr.lt
    exact blk_ne' hr h (by decide) rfl
theorem DH.rblk {w : World} {D : DL} {W Lg : Int} {cls : List Int} {Rs : List Rows} {bits : List Bool} {top par : Int} {m : List (Int × Value)} (h : DH w D W Lg cls Rs bits top par m) : ∃ cs, Blk w D.rsb cs 66 := by
  obtain ⟨vs, rest, h1, _⟩ := h.rs.ex
  exact ⟨_, h1⟩
theorem FrD.boolD {w w' : World} {D : DL} {W Lg : Int} {cls : List Int} {Rs : List Rows} {bits : List Bool} {top par : Int} {m : List (Int × Value)} (h : DH w D W Lg cls Rs bits top par m) (hf : FrT 4 D.B w w') : FrD D.B D.mp D.rsb w w' := by
  obtain ⟨cs, h1⟩ := h.rblk
  exact FrD.bool h1 hf

/-- The class slice below the document's heap stays. -/
theorem sl_frd {B mp rsb : Nat} {w w' : World} {sv : Value} {cls : List Int} (h : SlArg w sv cls) (hf : FrD B mp rsb w w') (hb : ∀ b o c n, sv = .slice (some ⟨b, o, none⟩) n c → b < B) : SlArg w' sv cls := by
  obtain ⟨⟨S, hF, hS⟩, _⟩ := hf
  rcases h with h | h | ⟨b, o, cap, e, hr, hm⟩
  · exact .inl h
  · exact .inr (.inl h)
  · exact .inr <| .inr ⟨b, o, cap, e, hr.fr hF (fun hc => by have := (hS b hc).1; have := hb _ _ _ _ e; omega), hm⟩

/-- The rings have been worked at. -/
theorem DH.ring {w w' : World} {D : DL} {W Lg : Int} {cls : List Int} {Rs : List Rows} {bits : List Bool} {top par : Int} {m : List (Int × Value)} (h : DH w D W Lg cls Rs bits top par m) (hfr : FrR D.rsb w w') (hb : ∀ b o c n, D.sv = .slice (some ⟨b, o, none⟩) n c → b < D.B) {Rs' : List Rows} (hr : DRs w' D.B D.rsb W Rs') (hl : Rs'.length = Rs.length) : DH w' D W Lg cls Rs' bits top par m := by
  have hf := hfr.1
  obtain ⟨a1, a2, a3, a4, a5, a6⟩ := h.apart
  obtain ⟨vs, rest, h1, _⟩ := h.rs.ex
  exact { s := h.s.fr hf (by simpa using a1), cl := sl_frd h.cl (FrD.rsb h hfr) hb, rs := hr, len := hl.trans h.len, rm := h.rm.fr' hf (fun x hx => by obtain rfl := List.mem_singleton.1 hx; exact ⟨_, _, h1, by decide, by decide⟩), im := h.im.fr hf (by simpa using Ne.symm a3), lo := h.lo }
theorem DH.top' {w : World} {D : DL} {W Lg : Int} {cls : List Int} {Rs : List Rows} {bits : List Bool} {top par : Int} {m : List (Int × Value)} (h : DH w D W Lg cls Rs bits top par m) (hb : ∀ b o c n, D.sv = .slice (some ⟨b, o, none⟩) n c → b < D.B) (t : Int) : DH (w.setCell ⟨D.mb, 10, none⟩ (.int .i64 t)) D W Lg cls Rs bits t par m := by
  obtain ⟨a1, a2, a3, a4, a5, a6⟩ := h.apart
  have hf : Fr [D.mb] w (w.setCell ⟨D.mb, 10, none⟩ (.int .i64 t)) := (Fr.refl _ w).set (by simp) _
  exact { s := h.s.set 10 (.int .i64 t), cl := sl_frd h.cl (FrD.mb h hf) hb, rs := h.rs.fr hf (by simpa using Ne.symm a1) (fun x hx => by obtain rfl := List.mem_singleton.1 hx; exact .inr ⟨_, _, h.s, by decide⟩), len := h.len, rm := h.rm.fr' hf (fun x hx => by obtain rfl := List.mem_singleton.1 hx; exact ⟨_, _, h.s, by decide, by decide⟩), im := h.im.fr hf (by simpa using Ne.symm a2), lo := h.lo }
/-- The room has been worked at. -/
theorem DH.room {w w' : World} {D : DL} {W Lg : Int} {cls : List Int} {Rs : List Rows} {bits bits' : List Bool} {top par : Int} {m : List (Int × Value)} (h : DH w D W Lg cls Rs bits top par m) (hf : FrT 4 D.B w w') (hb : ∀ b o c n, D.sv = .slice (some ⟨b, o, none⟩) n c → b < D.B) (hr : FRep w' D.fb D.B (W - Lg) bits') : DH w' D W Lg cls Rs bits' top par m := by
  obtain ⟨vs, rest, h1, _⟩ := h.rs.ex
  obtain ⟨es, ck, h3, h4⟩ := h.im
  obtain ⟨S, hF, hS⟩ := id hf
  have nS : ∀ {b : Nat} {cs : List Value} {T : TypeId}, Blk w b cs T → T ≠ 4 → b ∉ S := fun {b cs T} hb hT hc => by
    obtain ⟨cs', h⟩ := (hS b hc).2 hb.lt
    exact blk_ne' hb h hT rfl
  refine { s := h.s.fr hF (nS h.s (by decide)), cl := sl_frd h.cl (FrD.bool (mp := D.mp) h1 hf) hb, rs := ?_, len := h.len, rm := hr, im := h.im.fr hF (fun hc => ?_), lo := h.lo }
  · obtain ⟨vs2, rest2, g1, g2, g3⟩ := h.rs.ex
    refine ⟨⟨vs2, rest2, g1.fr hF (nS g1 (by decide)), g2, fun i v R hv hR => ?_⟩, Nat.le_trans h.rs.le hF.size⟩
    have hd := g3 i v R hv hR
    have key : ∀ {v : Value} {l : List Int}, Rowi w D.B v l → Rowi w' D.B v l := fun {v l} hr => hr.fr hF (fun g hg hc => by
      obtain ⟨cs', h⟩ := (hS g hc).2 (hr.lt g hg).2
      exact hr.ne h (by decide) g hg rfl)
    exact ⟨key hd.wh, key hd.fr0, key hd.gr, key hd.bl⟩
  · obtain ⟨cs', h⟩ := (hS _ hc).2 h.im.lt
    unfold Blk at h
    rw [h] at h3
    cases h3

def PlPost (w : World) (D : DL) (W Lg : Int) (cls : List Int) (Rs : List Rows) (bits : List Bool) (top par : Int) (m : List (Int × Value)) (p er : Int) (e : Ending) (w' : World) : Prop :=
  e = .returned (.tuple #[.int .i64 p, .int .i64 er]) ∧ DH w' D W Lg cls Rs bits top par m ∧ FrD D.B D.mp D.rsb w w'

theorem slForm {w : World} {sv : Value} {l : List Int} (h : SlArg w sv l) : ∃ p cap, sv = .slice p l.length cap := by
  rcases h with ⟨e1, e2⟩ | ⟨p, cap, e1, e2⟩ | ⟨b, o, cap, e, _⟩
  · exact ⟨none, 0, by rw [e1, e2]; rfl⟩
  · exact ⟨some p, cap, by rw [e1, e2]; rfl⟩
  · exact ⟨_, cap, e⟩
theorem slRead {w : World} {p : Option Addr} {cap : Nat} {l : List Int} (h : SlArg w (.slice p l.length cap) l) (hl : 0 < l.length) : ∃ b o, p = some ⟨b, o, none⟩ ∧ RdAt w b o (l.map (.int .i64)) := by
  rcases h with ⟨_, e2⟩ | ⟨_, _, _, e2⟩ | ⟨b, o, cap', e, hr, _⟩
  · rw [e2] at hl; simp at hl
  · rw [e2] at hl; simp at hl
  · cases e; exact ⟨b, o, rfl, hr⟩

set_option maxRecDepth 100000 in
set_option maxHeartbeats 6400000 in
/-- A class's ring has a White cell. -/
theorem dPlaceWhite (D : DL) (W Lg : Int) (cls : List Int) (Rs : List Rows) (bits : List Bool) (top par : Int) (m : List (Int × Value)) (n : Int) (j : Nat) (R : Rows) (p : Int) (Wt : List Int) (w : World) (h : DH w D W Lg cls Rs bits top par m) (hb : ∀ b o c n, D.sv = .slice (some ⟨b, o, none⟩) n c → b < D.B) (hcl : cls.length ≤ 100)
    (hj : ixGe cls n = j) (hR : Rs[j]? = some R) (hRW : R.W = p :: Wt) (hl : R.W.length ≤ 65536) (hl2 : R.B.length ≤ 65536) :
    Calls Tryz.prog 66 #[.pointer (some ⟨D.mb, 0, none⟩), .int .i64 n] w (PlPost w D W Lg cls (Rs.set j { R with W := Wt, B := R.B ++ [p] }) bits top par m p 0) := by
  obtain ⟨q0, q1, q6, q7, q8, q9, q10, q11⟩ := h.reads
  obtain ⟨sp, scap, esv⟩ := slForm h.cl
  rw [esv] at q6
  obtain ⟨⟨v0, v1, v2, v3⟩, hd, hc, hz, hlt, -⟩ := h.rs.at hR
  have r0 : w.cell? ⟨D.rsb, j * 5, none⟩ = some v0 := by have := hc 0 v0 rfl; rw [Nat.mul_comm]; simpa using this
  obtain ⟨A0, c0, e0⟩ := hd.wh.form
  simp only at e0
  have hlen : R.W.length = Wt.length + 1 := by rw [hRW]; rfl
  rw [e0, hlen] at r0
  have hrs := h.rs
  have hmc := h.mcls
  have hjl : j < cls.length := by have := ixGe_range cls n; omega
  obtain ⟨N, hN⟩ : ∃ N, N = cls.length := ⟨_, rfl⟩
  have hix : clsIx cls n = (j : Int) := by unfold clsIx; rw [hj, if_neg (by omega)]
  have HIX := hid hix
  have HH := hid h
  have HB := hid hb
  have HR := hid hR
  have HRW := hid hRW
  have HRS := hid hrs
  have HJ := hid hj
  have HN := hid hN
  rw [← hN] at q6 q8 hjl
  have hne : ¬ (j : Int) = (N : Int) := by omega
  have hnz : ¬ (Wt.length : Int) + 1 = 0 := by omega
  have hne2 : ((j : Int) == (N : Int)) = false := by simp; omega
  have hnz2 : ((Wt.length : Int) + 1 == 0) = false := by simp; omega
  have hj5 : j * 5 = 5 * j := Nat.mul_comm j 5
  have HJ5 := hid hj5
  clear hj5
  have hi1 : (0 : Int) ≤ (j : Int) := by omega
  have hi2 : (j : Int) < (N : Int) + 1 := by omega
  clear h hb hR hRW hrs hc hz hd e0 esv hlen hix hj hN q0 q1 q7 q9 q10 q11
  go_enter Tryz.func66, Tryz.ntmps66
  go_wp2_with fail
  refine (mClass D.mb cls n w hmc hcl).mono ?_
  rintro e w1 ⟨rfl, rfl⟩
  rw [HIX.out]
  go_wp2_with fail
  refine (dDoAlloc D.B D.rsb W Rs j (j * 5) HJ5.out R p Wt 0 w HRS.out HR.out HRW.out hl hl2).mono ?_
  rintro e w2 ⟨rfl, hd2, hf2⟩
  have HD2 := hid hd2
  have HF2 := hid hf2
  clear hd2 hf2
  unfold told5
  go_wp2_with fail
  rename_i k1 a1 k2 a2
  refine a2 _ _ ?_
  simp only [List.getElem_toArray, List.getElem_cons_zero]
  go_wp2_with fail
  refine bodyPost_ret (v := .tuple #[.int .i64 p, .int .i64 0]) (by simp [results, Tryz.results66, go_sem]) rfl ⟨rfl, HH.out.ring HF2.out HB.out HD2.out (by simp), FrD.rsb HH.out HF2.out⟩

set_option maxRecDepth 100000 in
set_option maxHeartbeats 6400000 in
/-- A class's ring has no White cell, and none fits any more. -/
theorem dPlaceFull (D : DL) (W Lg : Int) (cls : List Int) (Rs : List Rows) (bits : List Bool) (top par : Int) (m : List (Int × Value)) (n : Int) (j : Nat) (R : Rows) (c : Int) (w : World) (h : DH w D W Lg cls Rs bits top par m) (hcl : cls.length ≤ 100)
    (hj : ixGe cls n = j) (hR : Rs[j]? = some R) (hRW : R.W = []) (hcj : cls[j]? = some c) (hc0 : 0 ≤ c) (hc1 : c ≤ 65536) (ht0 : 0 ≤ top) (ht : top ≤ 65536) (hL0 : 0 ≤ Lg) (hL : Lg ≤ W) (hW : W ≤ 65536) (hbig : W - Lg < top + (c + 3)) :
    Calls Tryz.prog 66 #[.pointer (some ⟨D.mb, 0, none⟩), .int .i64 n] w fun e w' => e = .returned (.tuple #[.int .i64 0, .int .i64 2]) ∧ Fr [] w w' := by
  obtain ⟨q0, q1, q6, q7, q8, q9, q10, q11⟩ := h.reads
  obtain ⟨sp, scap, esv⟩ := slForm h.cl
  rw [esv] at q6
  obtain ⟨⟨v0, v1, v2, v3⟩, hd, hc, hz, hlt, -⟩ := h.rs.at hR
  have r0 : w.cell? ⟨D.rsb, j * 5, none⟩ = some v0 := by have := hc 0 v0 rfl; rw [Nat.mul_comm]; simpa using this
  obtain ⟨A0, c0, e0⟩ := hd.wh.form
  simp only at e0
  rw [e0, hRW, List.length_nil] at r0
  have hrs := h.rs
  have hmc := h.mcls
  have hjl : j < cls.length := by have := ixGe_range cls n; omega
  obtain ⟨b, o, ep, hrd⟩ := slRead (esv ▸ h.cl) (by omega)
  have rc : w.cell? ⟨b, o + j, none⟩ = some (.int .i64 c) := by
    refine hrd.2 j _ ?_
    rw [List.getElem?_map, hcj]; rfl
  rw [ep] at q6
  obtain ⟨N, hN⟩ : ∃ N, N = cls.length := ⟨_, rfl⟩
  have hix : clsIx cls n = (j : Int) := by unfold clsIx; rw [hj, if_neg (by omega)]
  have HIX := hid hix
  have HH := hid h
  have HR := hid hR
  have HRW := hid hRW
  have HRS := hid hrs
  have HJ := hid hj
  have HN := hid hN
  rw [← hN] at q6 q8 hjl
  have hne : ¬ (j : Int) = (N : Int) := by omega
  have hne2 : ((j : Int) == (N : Int)) = false := by simp; omega
  have hj5 : j * 5 = 5 * j := Nat.mul_comm j 5
  have HJ5 := hid hj5
  have hi1 : (0 : Int) ≤ (j : Int) := by omega
  have hi2 : (j : Int) < (N : Int) + 1 := by omega
  have hi3 : (j : Int) < (N : Int) := by omega
  have w1 : wrap64 (c + 3) = c + 3 := by unfold wrap64; omega
  have w2 : wrap64 (top + (c + 3)) = top + (c + 3) := by unfold wrap64; omega
  have w3 : wrap64 (W - Lg) = W - Lg := by unfold wrap64; omega
  have hgt : decide (W - Lg < top + (c + 3)) = true := by simp; omega
  clear h hR hRW hrs hc hz hd e0 esv hix hj hN q7 q9 q11 ep hrd hcj hj5
  go_enter Tryz.func66, Tryz.ntmps66
  go_wp2_with fail
  refine (mClass D.mb cls n w hmc hcl).mono ?_
  rintro e w1 ⟨rfl, rfl⟩
  rw [HIX.out]
  go_wp2_with fail
  go_quiet (fail)
  go_wp2_with fail
  refine bodyPost_ret (v := .tuple #[.int .i64 0, .int .i64 2]) (by simp [results, Tryz.results66, go_sem]) rfl ⟨rfl, (Fr.refl _ w).drewN _⟩

set_option maxRecDepth 100000 in
set_option maxHeartbeats 6400000 in
/-- A class's ring has no White cell: it grows. -/
theorem dPlaceGrow (D : DL) (W Lg : Int) (cls : List Int) (Rs : List Rows) (bits : List Bool) (top par : Int) (m : List (Int × Value)) (n : Int) (j : Nat) (R : Rows) (c : Int) (w : World) (h : DH w D W Lg cls Rs bits top par m) (hb : ∀ b o c n, D.sv = .slice (some ⟨b, o, none⟩) n c → b < D.B) (hcl : cls.length ≤ 100)
    (hj : ixGe cls n = j) (hR : Rs[j]? = some R) (hRW : R.W = []) (hl2 : R.B.length ≤ 65536) (hcj : cls[j]? = some c) (hc0 : 0 ≤ c) (hc1 : c ≤ 65536) (ht0 : 1 ≤ top) (ht : top ≤ 65536) (hL0 : 0 ≤ Lg) (hL : Lg ≤ W) (hW : W ≤ 65536) (hfit : top + (c + 3) ≤ W - Lg) :
    Calls Tryz.prog 66 #[.pointer (some ⟨D.mb, 0, none⟩), .int .i64 n] w (PlPost w D W Lg cls (Rs.set j { R with B := R.B ++ [top] }) bits (top + (c + 3)) par m top 0) := by
  obtain ⟨q0, q1, q6, q7, q8, q9, q10, q11⟩ := h.reads
  obtain ⟨sp, scap, esv⟩ := slForm h.cl
  rw [esv] at q6
  obtain ⟨⟨v0, v1, v2, v3⟩, hd, hc, hz, hlt, -⟩ := h.rs.at hR
  have r0 : w.cell? ⟨D.rsb, j * 5, none⟩ = some v0 := by have := hc 0 v0 rfl; rw [Nat.mul_comm]; simpa using this
  obtain ⟨A0, c0, e0⟩ := hd.wh.form
  simp only at e0
  rw [e0, hRW, List.length_nil] at r0
  have hrs := h.rs
  have hmc := h.mcls
  have hjl : j < cls.length := by have := ixGe_range cls n; omega
  obtain ⟨b, o, ep, hrd⟩ := slRead (esv ▸ h.cl) (by omega)
  have rc : w.cell? ⟨b, o + j, none⟩ = some (.int .i64 c) := by
    refine hrd.2 j _ ?_
    rw [List.getElem?_map, hcj]; rfl
  rw [ep] at q6
  obtain ⟨N, hN⟩ : ∃ N, N = cls.length := ⟨_, rfl⟩
  have hix : clsIx cls n = (j : Int) := by unfold clsIx; rw [hj, if_neg (by omega)]
  have HIX := hid hix
  have HH := hid h
  have HB := hid hb
  have HR := hid hR
  have HRW := hid hRW
  have HRS := hid hrs
  have HJ := hid hj
  have HN := hid hN
  rw [← hN] at q6 q8 hjl
  have hne : ¬ (j : Int) = (N : Int) := by omega
  have hne2 : ((j : Int) == (N : Int)) = false := by simp; omega
  have hj5 : j * 5 = 5 * j := Nat.mul_comm j 5
  have HJ5 := hid hj5
  have hi1 : (0 : Int) ≤ (j : Int) := by omega
  have hi2 : (j : Int) < (N : Int) + 1 := by omega
  have hi3 : (j : Int) < (N : Int) := by omega
  have w1 : wrap64 (c + 3) = c + 3 := by unfold wrap64; omega
  have w2 : wrap64 (top + (c + 3)) = top + (c + 3) := by unfold wrap64; omega
  have w3 : wrap64 (W - Lg) = W - Lg := by unfold wrap64; omega
  have hgt : decide (W - Lg < top + (c + 3)) = false := by simp; omega
  clear h hb hR hRW hrs hc hz hd e0 esv hix hj hN q7 q9 q11 ep hrd hcj hj5
  go_enter Tryz.func66, Tryz.ntmps66
  go_wp2_with fail
  refine (mClass D.mb cls n w hmc hcl).mono ?_
  rintro e w1 ⟨rfl, rfl⟩
  rw [HIX.out]
  go_wp2_with fail
  go_quiet (fail)
  go_wp2_with fail
  refine (dDoGrow D.B D.rsb W Rs j (j * 5) HJ5.out R top _ (HRS.out.fr (S := []) ((Fr.refl _ w).drewN _) (by simp) (by simp)) HR.out ht0 (by omega) hW (by rw [HRW.out]; simp)).mono ?_
  rintro e w2 ⟨rfl, hd2, hf2⟩
  have hf2' : FrR D.rsb w w2 := (FrR.of ((Fr.refl [] w).drewN _)).trans hf2
  have h2 := HH.out.ring hf2' HB.out hd2 (by simp)
  obtain ⟨p0, p1, p6, p7, p8, p9, p10, p11⟩ := h2.reads
  have h3 := h2.top' HB.out (top + (c + 3))
  have hR3 : (Rs.set j { R with W := top :: R.W })[j]? = some { R with W := top :: R.W } := by rw [List.getElem?_set_self (List.getElem?_eq_some_iff.1 HR.out).1]
  have hz := h2.s.frozen 10
  rw [← HN.out] at p8
  have HF2 := hid hf2'
  have H2 := hid h2
  have H3 := hid h3
  have HR3 := hid hR3
  clear hf2' hf2 hd2 h2 h3 hR3 p0 p1 p6 p7 p9 p11 q0 q1 q6 q8 q10 r0 rc
  unfold told5
  go_wp2_with fail
  refine (dDoAlloc D.B D.rsb W _ j (j * 5) HJ5.out { R with W := top :: R.W } top R.W 0 _ H3.out.rs HR3.out rfl (by simp [HRW.out]) hl2).mono ?_
  rintro e w3 ⟨rfl, hd4, hf4⟩
  rw [list_set_set] at hd4
  have HD4 := hid hd4
  have HF4 := hid hf4
  clear hd4 hf4
  unfold told5
  go_wp2_with fail
  rename_i k1 a1 k2 a2
  refine a2 _ _ ?_
  simp only [List.getElem_toArray, List.getElem_cons_zero]
  go_wp2_with fail
  refine bodyPost_ret (v := .tuple #[.int .i64 top, .int .i64 0]) (by simp [results, Tryz.results66, go_sem]) rfl ⟨rfl, ?_, ?_⟩
  · exact H3.out.ring HF4.out HB.out HD4.out (by simp)
  · exact ((FrD.rsb HH.out HF2.out).trans (FrD.mb H2.out ((Fr.refl _ w2).set (by simp) _))).trans (FrD.rsb H3.out HF4.out)

set_option maxRecDepth 100000 in
set_option maxHeartbeats 6400000 in
/-- A large one: there is room. -/
theorem dPlaceLarge (D : DL) (W Lg : Int) (cls : List Int) (Rs : List Rows) (bits : List Bool) (top par : Int) (m : List (Int × Value)) (n : Int) (R : Rows) (l l1 l2 : List (Int × Int)) (p mm : Int) (k : Nat) (w : World) (h : DH w D W Lg cls Rs bits top par m) (hb : ∀ b o c n, D.sv = .slice (some ⟨b, o, none⟩) n c → b < D.B) (hcl : cls.length ≤ 100)
    (hj : ixGe cls n = -1) (hR : Rs[cls.length]? = some R) (hl : R.W.length ≤ 65535) (hl2 : R.B.length ≤ 65536) (hn0 : 0 ≤ n) (hn1 : n ≤ 65536) (hp1 : 1 ≤ p) (hpW : p + 3 ≤ W) (_hL0 : 0 ≤ Lg) (hL : Lg ≤ W) (hW : W ≤ 65536) (hS : Same3 (W - Lg) bits l) (hfb : W - Lg + bits.length ≤ 65536) (hlx : l = l1 ++ (p, mm) :: l2) (hno : ∀ y ∈ l1, y.2 < n + 3) (hm : n + 3 ≤ mm) (hpk : p = W - Lg + (k : Nat)) :
    Calls Tryz.prog 66 #[.pointer (some ⟨D.mb, 0, none⟩), .int .i64 n] w (PlPost w D W Lg cls (Rs.set cls.length { R with B := R.B ++ [p] }) (clr bits k (n + 3).toNat) top par m p 0) := by
  obtain ⟨q0, q1, q6, q7, q8, q9, q10, q11⟩ := h.reads
  obtain ⟨sp, scap, esv⟩ := slForm h.cl
  rw [esv] at q6
  have hrs := h.rs
  have hmc := h.mcls
  have hrm := h.rm
  obtain ⟨N, hN⟩ : ∃ N, N = cls.length := ⟨_, rfl⟩
  have hix : clsIx cls n = (N : Int) := by unfold clsIx; rw [hj, if_pos rfl, hN]
  have HIX := hid hix
  have HH := hid h
  have HB := hid hb
  have HR := hid hR
  have HRS := hid hrs
  have HRM := hid hrm
  have HN := hid hN
  have HSS := hid hS
  have HLX := hid hlx
  have HPK := hid hpk
  have HNO := hid hno
  rw [← hN] at q6 q8
  have hj5 : N * 5 = 5 * N := Nat.mul_comm N 5
  have HJ5 := hid hj5
  have hi1 : (0 : Int) ≤ (N : Int) := by omega
  have hi2 : (N : Int) < (N : Int) + 1 := by omega
  have w1 : wrap64 (n + 3) = n + 3 := by unfold wrap64; omega
  have hBw := h.rs.le
  clear h hb hR hrs hix hj hN q0 q1 q7 q10 q11 esv hj5 hS hlx hpk hrm hno
  go_enter Tryz.func66, Tryz.ntmps66
  go_wp2_with fail
  refine (mClass D.mb cls n w hmc hcl).mono ?_
  rintro e w1 ⟨rfl, rfl⟩
  rw [HIX.out]
  go_wp2_with fail
  refine (dTake D.fb D.B (W - Lg) bits l 0 (n + 3) w HRM.out HSS.out (by omega) hfb (by omega) hBw (told3 p 0) (clr bits k (n + 3).toNat) (.inr ⟨l1, p, mm, l2, k, rfl, HLX.out, HNO.out, hm, HPK.out, rfl⟩)).mono ?_
  rintro e w2 ⟨rfl, hr2, hf2⟩
  have h2 := HH.out.room hf2 HB.out hr2
  have T0 := Blk.new w2 [.int .i64 p, .int .i64 0] 142
  have t0 := T0.cell (i := 0) rfl
  have t1 := T0.cell (i := 1) rfl
  have h3 := h2.step (w' := w2.alloc (.cells #[.int .i64 p, .int .i64 0] 142)) ((Fr.refl _ w2).alloc _)
  have hf3 : FrD D.B D.mp D.rsb w (w2.alloc (.cells #[.int .i64 p, .int .i64 0] 142)) := (FrD.boolD HH.out hf2).trans (FrD.of ((Fr.refl _ w2).alloc _))
  have hR' : Rs[N]? = some R := by rw [HN.out]; exact HR.out
  have H3 := hid h3
  have HF3 := hid hf3
  have HR' := hid hR'
  clear h2 h3 hf3 hR' T0 hf2 hr2 q6 q8 q9
  unfold told3
  go_wp2_with fail
  refine (dDoGrow D.B D.rsb W Rs N (N * 5) HJ5.out R p _ H3.out.rs HR'.out hp1 hpW hW (by omega)).mono ?_
  rintro e w4 ⟨rfl, hd4, hf4⟩
  have h4 := H3.out.ring hf4 HB.out hd4 (by simp)
  have hR4 : (Rs.set N { R with W := p :: R.W })[N]? = some { R with W := p :: R.W } := by rw [List.getElem?_set_self (List.getElem?_eq_some_iff.1 HR'.out).1]
  have hf4' := HF3.out.trans (FrD.rsb H3.out hf4)
  have H4 := hid h4
  have HR4 := hid hR4
  have HF4 := hid hf4'
  clear hd4 hf4 h4 hR4 hf4' t0 t1
  unfold told5
  go_wp2_with fail
  refine (dDoAlloc D.B D.rsb W _ N (N * 5) HJ5.out { R with W := p :: R.W } p R.W 0 _ H4.out.rs HR4.out rfl (by simp; omega) hl2).mono ?_
  rintro e w5 ⟨rfl, hd5, hf5⟩
  rw [list_set_set] at hd5
  have HD5 := hid hd5
  have HF5 := hid hf5
  clear hd5 hf5
  unfold told5
  go_wp2_with fail
  rename_i k1 a1 k2 a2
  refine a2 _ _ ?_
  simp only [List.getElem_toArray, List.getElem_cons_zero]
  go_wp2_with fail
  refine bodyPost_ret (v := .tuple #[.int .i64 p, .int .i64 0]) (by simp [results, Tryz.results66, go_sem]) rfl ⟨rfl, ?_, HF4.out.trans (FrD.rsb H4.out HF5.out)⟩
  rw [← HN.out]
  exact H4.out.ring HF5.out HB.out HD5.out (by simp)

set_option maxRecDepth 100000 in
set_option maxHeartbeats 6400000 in
/-- A large one: there is no room. -/
theorem dPlaceFullL (D : DL) (W Lg : Int) (cls : List Int) (Rs : List Rows) (bits : List Bool) (top par : Int) (m : List (Int × Value)) (n : Int) (R : Rows) (l : List (Int × Int)) (w : World) (h : DH w D W Lg cls Rs bits top par m) (hb : ∀ b o c n, D.sv = .slice (some ⟨b, o, none⟩) n c → b < D.B) (hcl : cls.length ≤ 100)
    (hj : ixGe cls n = -1) (_hR : Rs[cls.length]? = some R) (hn0 : 0 ≤ n) (hn1 : n ≤ 65536) (_hL0 : 0 ≤ Lg) (hL : Lg ≤ W) (_hW : W ≤ 65536) (hS : Same3 (W - Lg) bits l) (hfb : W - Lg + bits.length ≤ 65536) (hno : ∀ y ∈ l, y.2 < n + 3) :
    Calls Tryz.prog 66 #[.pointer (some ⟨D.mb, 0, none⟩), .int .i64 n] w (PlPost w D W Lg cls Rs bits top par m 0 2) := by
  obtain ⟨q0, q1, q6, q7, q8, q9, q10, q11⟩ := h.reads
  obtain ⟨sp, scap, esv⟩ := slForm h.cl
  rw [esv] at q6
  have hmc := h.mcls
  have hrm := h.rm
  obtain ⟨N, hN⟩ : ∃ N, N = cls.length := ⟨_, rfl⟩
  have hix : clsIx cls n = (N : Int) := by unfold clsIx; rw [hj, if_pos rfl, hN]
  have HIX := hid hix
  have HH := hid h
  have HB := hid hb
  have HRM := hid hrm
  have HN := hid hN
  have HSS := hid hS
  have HNO := hid hno
  rw [← hN] at q6 q8
  have hi1 : (0 : Int) ≤ (N : Int) := by omega
  have hi2 : (N : Int) < (N : Int) + 1 := by omega
  have w1 : wrap64 (n + 3) = n + 3 := by unfold wrap64; omega
  have hBw := h.rs.le
  clear h hb _hR hix hj hN q0 q1 q7 q10 q11 esv hS hrm hno
  go_enter Tryz.func66, Tryz.ntmps66
  go_wp2_with fail
  refine (mClass D.mb cls n w hmc hcl).mono ?_
  rintro e w1 ⟨rfl, rfl⟩
  rw [HIX.out]
  go_wp2_with fail
  refine (dTake D.fb D.B (W - Lg) bits l 0 (n + 3) w HRM.out HSS.out (by omega) hfb (by omega) hBw (told3 0 2) bits (.inl ⟨rfl, rfl, HNO.out⟩)).mono ?_
  rintro e w2 ⟨rfl, hr2, hf2⟩
  have h2 := HH.out.room hf2 HB.out hr2
  have T0 := Blk.new w2 [.int .i64 0, .int .i64 2] 142
  have t0 := T0.cell (i := 0) rfl
  have t1 := T0.cell (i := 1) rfl
  have h3 := h2.step (w' := w2.alloc (.cells #[.int .i64 0, .int .i64 2] 142)) ((Fr.refl _ w2).alloc _)
  have hf3 : FrD D.B D.mp D.rsb w (w2.alloc (.cells #[.int .i64 0, .int .i64 2] 142)) := (FrD.boolD HH.out hf2).trans (FrD.of ((Fr.refl _ w2).alloc _))
  have H3 := hid h3
  have HF3 := hid hf3
  clear h2 h3 hf3 T0 hf2 hr2 q6 q8 q9
  unfold told3
  go_wp2_with fail
  go_quiet (fail)
  go_wp2_with fail
  refine bodyPost_ret (v := .tuple #[.int .i64 0, .int .i64 2]) (by simp [results, Tryz.results66, go_sem]) rfl ⟨rfl, H3.out.step ((Fr.refl _ _).drewN _), HF3.out.trans (FrD.of ((Fr.refl _ _).drewN _))⟩
end Go.Proofs.YtifillpcphiblaaGreat
