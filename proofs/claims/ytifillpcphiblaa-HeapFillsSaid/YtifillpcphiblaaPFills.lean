import Derived.Test.YtifillpcphiblaaHSweep
import Derived.Test.YtifillpcphiblaaAllocX
import Derived.Test.YtifillpcphiblaaHBegin
import Derived.Test.YtifillpcphiblaaIM
namespace Go.Proofs.Ytifillpcphiblaa
open Go Go.Proofs Go.RowKit

/-! HeapFills: what the heap is at each place of the law. -/

/-- The ground: the heap, apart from the blocks X, all of it newer than w0. -/
structure FC (w0 w : World) (X : List Nat) (hb W Lg : Nat) (cls : List Int) (L : HL) (s : HS) (A : Rg) (z : Int → Int) : Prop where
  hb : L.hb = hb
  rep : HRep w L s
  hi : HI s A z
  lo : ∀ b ∈ L.all, w0.heap.size ≤ b ∧ b ∉ X
  cls : s.cls = cls
  edge : s.edge = (W : Int) - Lg
  len : s.ws.length = W
  par : s.parity = 0 ∨ s.parity = 1
  xok : XOk s
  xl : Lg ≠ 0 → ∃ b0, L.xlbs = [b0]
def FW (w0 w : World) (X : List Nat) (hb W Lg : Nat) (cls : List Int) (P : HS → Rg → (Int → Int) → Prop) : Prop := ∃ L s A z, FC w0 w X hb W Lg cls L s A z ∧ P s A z
/-- Only blocks that are newer than w0, and not in X, may have changed. -/
def FrX (w0 : World) (X : List Nat) (w w' : World) : Prop := ∃ S, Fr S w w' ∧ ∀ b ∈ S, w0.heap.size ≤ b ∧ b ∉ X

theorem FrX.of {w0 : World} {X : List Nat} {w w' : World} {S : List Nat} (h : Fr S w w') (hS : ∀ b ∈ S, w0.heap.size ≤ b ∧ b ∉ X) : FrX w0 X w w' := ⟨S, h, hS⟩
theorem FrX.old {w0 : World} {X : List Nat} {w w' : World} (h : FrX w0 X w w') (h0 : Fr [] w0 w) : Fr [] w0 w' := by
  obtain ⟨S, hF, hS⟩ := h
  exact h0.step hF (fun b hb => .inr (hS b hb).1)
theorem FrX.blk {w0 : World} {X : List Nat} {w w' : World} {b : Nat} {cs : List Value} {T : TypeId} (h : FrX w0 X w w') (hb : b ∈ X) (hB : Blk w b cs T) : Blk w' b cs T := by
  obtain ⟨S, hF, hS⟩ := h
  exact hB.fr hF (fun hc => (hS b hc).2 hb)
theorem FrX.im {w0 : World} {X : List Nat} {w w' : World} {b : Nat} {m : List (Int × Value)} (h : FrX w0 X w w') (hb : b ∈ X) (hB : IM w b m) : IM w' b m := by
  obtain ⟨S, hF, hS⟩ := h
  exact hB.fr hF (fun hc => (hS b hc).2 hb)
theorem FrX.size {w0 : World} {X : List Nat} {w w' : World} (h : FrX w0 X w w') : w.heap.size ≤ w'.heap.size := h.elim fun _ h => h.1.size
theorem FC.fp {w0 w : World} {X : List Nat} {hb W Lg : Nat} {cls : List Int} {L : HL} {s : HS} {A : Rg} {z : Int → Int} (h : FC w0 w X hb W Lg cls L s A z) : ∀ b ∈ L.fp, w0.heap.size ≤ b ∧ b ∉ X :=
  fun b hb => h.lo b (by simp only [HL.all, List.mem_cons]; exact .inr (.inr hb))
theorem FrX.trans {w0 : World} {X : List Nat} {a b c : World} (h : FrX w0 X a b) (k : FrX w0 X b c) : FrX w0 X a c := by
  obtain ⟨S, hF, hS⟩ := h
  obtain ⟨S', hF', hS'⟩ := k
  refine ⟨S ++ S', (hF.here (by intro x hx; exact List.mem_append.2 (.inl hx))).trans (hF'.here (by intro x hx; exact List.mem_append.2 (.inr hx))), fun b hb => ?_⟩
  rcases List.mem_append.1 hb with hb | hb
  · exact hS b hb
  · exact hS' b hb
theorem FrX.less {w0 : World} {X X' : List Nat} {a b : World} (h : FrX w0 X a b) (hX : ∀ x ∈ X', x ∈ X) : FrX w0 X' a b := by
  obtain ⟨S, hF, hS⟩ := h
  exact ⟨S, hF, fun b hb => ⟨(hS b hb).1, fun hc => (hS b hb).2 (hX b hc)⟩⟩
/-- Something else changes, and is new, or not the heap's. -/
theorem FW.fr {w0 w w' : World} {X : List Nat} {hb W Lg : Nat} {cls : List Int} {P : HS → Rg → (Int → Int) → Prop} (h : FW w0 w X hb W Lg cls P) {S : List Nat} (hF : Fr S w w') (hS : ∀ b ∈ S, b ∈ X) : FW w0 w' X hb W Lg cls P := by
  obtain ⟨L, s, A, z, h, hP⟩ := h
  exact ⟨L, s, A, z, { h with rep := h.rep.fr hF (fun b hb hc => (h.lo b hc).2 (hS b hb)) }, hP⟩
/-- One block more that is not the heap's. -/
theorem FW.more {w0 w : World} {X : List Nat} {hb W Lg : Nat} {cls : List Int} {P : HS → Rg → (Int → Int) → Prop} (h : FW w0 w X hb W Lg cls P) (o : Obj) : FW w0 (w.alloc o) (w.heap.size :: X) hb W Lg cls P := by
  obtain ⟨L, s, A, z, h, hP⟩ := h
  refine ⟨L, s, A, z, { h with rep := h.rep.alloc o, lo := fun b hb => ⟨(h.lo b hb).1, fun hc => ?_⟩ }, hP⟩
  rcases List.mem_cons.1 hc with e | hc
  · have := all_lt h.rep hb; omega
  · exact (h.lo b hb).2 hc
/-- ... or one less. -/
theorem FW.less {w0 w : World} {X X' : List Nat} {hb W Lg : Nat} {cls : List Int} {P : HS → Rg → (Int → Int) → Prop} (h : FW w0 w X hb W Lg cls P) (hX : ∀ b ∈ X', b ∈ X) : FW w0 w X' hb W Lg cls P := by
  obtain ⟨L, s, A, z, h, hP⟩ := h
  exact ⟨L, s, A, z, { h with lo := fun b hb => ⟨(h.lo b hb).1, fun hc => (h.lo b hb).2 (hX b hc)⟩ }, hP⟩
theorem FW.mono {w0 w : World} {X : List Nat} {hb W Lg : Nat} {cls : List Int} {P Q : HS → Rg → (Int → Int) → Prop} (h : FW w0 w X hb W Lg cls P) (hPQ : ∀ s A z, HI s A z → s.edge = (W : Int) - Lg → P s A z → Q s A z) : FW w0 w X hb W Lg cls Q := by
  obtain ⟨L, s, A, z, h, hP⟩ := h
  exact ⟨L, s, A, z, h, hPQ s A z h.hi h.edge hP⟩

/-- Of a class (its number, its words), or large. -/
abbrev Md := Option (Nat × Int)
def MdOk (W Lg : Nat) (cls : List Int) (size want : Nat) : Md → Prop
  | some (j, c) => ixGe cls size = (j : Nat) ∧ cls[j]? = some c ∧ (size : Int) ≤ c ∧ 1 ≤ c ∧ (want : Int) * (c + 3) ≤ (W : Int) - Lg - 1 ∧ (W : Int) - Lg - 1 < (want : Int) * (c + 3) + (c + 3)
  | none => ixGe cls size = -1 ∧ (want : Int) * (size + 3) ≤ Lg ∧ (Lg : Int) < (want : Int) * (size + 3) + (size + 3)

def fillB (e n : Int) (k : Nat) : List Int := (List.range k).map fun i : Nat => e + (i : Int) * n
theorem fillB_len (e n : Int) (k : Nat) : (fillB e n k).length = k := by simp [fillB]
theorem fillB_succ (e n : Int) (k : Nat) : fillB e n (k + 1) = fillB e n k ++ [e + (k : Int) * n] := by simp [fillB, List.range_succ]
theorem fillB_drop (e n : Int) (k i : Nat) (h : i < k) : (fillB e n k).drop i = (e + (i : Int) * n) :: (fillB e n k).drop (i + 1) := by
  rw [List.drop_eq_getElem_cons (by rw [fillB_len]; exact h)]
  simp [fillB]

def emptyRow : Rows := ⟨[], [], [], []⟩
def Only (A : Rg) (q : Option Nat) : Prop := ∀ q', q' ≠ q → A q' = emptyRow
/-- The large objects' words and heads. -/
def Heads (s : HS) (z : Int → Int) (size : Nat) (l : List Int) : Prop := ∀ p ∈ l, z p = size + 3 ∧ ∃ m : Int, (m = 0 ∨ m = 1) ∧ gw s.ws p = packed 7 size 0 m

/-- So many allocations went well in this turn: B is where. -/
def PAl (W Lg size want : Nat) (B : List Int) : Md → HS → Rg → (Int → Int) → Prop
  | some (j, c), s, A, _ => Only A (some j) ∧ ∃ Wl, A (some j) = ⟨Wl, [], [], B⟩ ∧ s.top = 1 + ((Wl.length + B.length : Nat) : Int) * (c + 3) ∧ Wl.length + B.length ≤ want ∧ (Wl ≠ [] → Wl.length + B.length = want)
  | none, s, A, z => Only A none ∧ A none = ⟨[], [], [], B⟩ ∧ s.x.l = tailOf ((W : Int) - Lg) (size + 3) Lg B.length ∧ B = fillB ((W : Int) - Lg) (size + 3) B.length ∧ Heads s z size B
/-- Behind Begin. -/
def PBg (W Lg size want : Nat) : Md → HS → Rg → (Int → Int) → Prop
  | some (j, c), s, A, _ => Only A (some j) ∧ ∃ B, A (some j) = ⟨[], B, [], []⟩ ∧ s.top = 1 + (want : Int) * (c + 3) ∧ B.length = want
  | none, s, A, z => Only A none ∧ A none = ⟨[], fillB ((W : Int) - Lg) (size + 3) want, [], []⟩ ∧ s.x.l = tailOf ((W : Int) - Lg) (size + 3) Lg want ∧ Heads s z size (fillB ((W : Int) - Lg) (size + 3) want)
/-- Behind End, and i sweeps. -/
def PSw (W Lg size want : Nat) (i : Nat) : Md → HS → Rg → (Int → Int) → Prop
  | some (j, c), s, A, _ => Only A (some j) ∧ ∃ B, A (some j) = ⟨B, [], [], []⟩ ∧ s.top = 1 + (want : Int) * (c + 3) ∧ B.length = want
  | none, s, A, z => Only A none ∧ A none = ⟨(fillB ((W : Int) - Lg) (size + 3) want).drop i, [], [], []⟩ ∧ s.x.l = backOf ((W : Int) - Lg) (size + 3) Lg want i ∧ Heads s z size ((fillB ((W : Int) - Lg) (size + 3) want).drop i)

theorem PSw.next {W Lg size want : Nat} {cls : List Int} {m : Md} (hm : MdOk W Lg cls size want m) {s : HS} {A : Rg} {z : Int → Int} (h : PSw W Lg size want want m s A z) : PAl W Lg size want [] m s A z := by
  cases m with
  | none =>
    obtain ⟨h1, h2, h3, h4⟩ := h
    rw [List.drop_of_length_le (by rw [fillB_len]; exact Nat.le_refl _)] at h2
    refine ⟨h1, h2, ?_, rfl, fun p hp => by cases hp⟩
    rw [h3]
    obtain ⟨-, k1, k2⟩ := hm
    by_cases h0 : want = 0
    · subst h0; rfl
    · rw [backOf_all h0]
      unfold tailOf
      have : (Lg : Int) ≠ 0 := by
        intro e
        rw [e] at k1
        have : 0 < (want : Int) * (size + 3) := Int.mul_pos (by omega) (by omega)
        omega
      rw [if_neg (by simpa using this)]
      simp
  | some jc =>
    obtain ⟨j, c⟩ := jc
    obtain ⟨h1, B, h2, h3, h4⟩ := h
    exact ⟨h1, B, h2, by rw [h3, h4]; simp, by simp [h4], fun _ => by simpa using h4⟩

theorem only_noFG {A : Rg} {q : Option Nat} (h : Only A q) (h2 : (A q).F = [] ∧ (A q).G = []) : NoFG A := by
  intro q'
  by_cases e : q' = q
  · rw [e]; exact h2
  · rw [h q' e]; exact ⟨rfl, rfl⟩
theorem only_begun {A : Rg} {q : Option Nat} (h : Only A q) : Only A.begun q := by
  intro q' hq; simp [Rg.begun, h q' hq, emptyRow]
theorem only_ended {A : Rg} {q : Option Nat} (h : Only A q) : Only A.ended q := by
  intro q' hq; simp [Rg.ended, h q' hq, emptyRow]
theorem only_up {A : Rg} {q : Option Nat} (h : Only A q) (R : Rows) : Only (A.up q R) q := by
  intro q' hq; rw [Rg.up_ne A hq]; exact h q' hq

def mdQ : Md → Option Nat
  | some (j, _) => some j
  | none => none

/-- An allocation, while there is room. -/
theorem fAlloc {w0 w : World} {X : List Nat} {hb W Lg : Nat} {cls : List Int} {size want : Nat} {m : Md} {B : List Int} (hm : MdOk W Lg cls size want m) (hs : size < 32) (hk : B.length < want) (h : FW w0 w X hb W Lg cls (PAl W Lg size want B m)) :
    Calls Try.prog 22 #[.pointer (some ⟨hb, 0, none⟩), .int .i64 7, .int .i64 0, .int .i64 size] w fun e w' => ∃ p, e = .returned (.tuple #[.int .i64 p, .int .i64 0]) ∧ p ∉ B ∧ FW w0 w' X hb W Lg cls (PAl W Lg size want (B ++ [p]) m) ∧ FrX w0 X w w' := by
  obtain ⟨L, s, A, z, h, hP⟩ := h
  obtain ⟨rfl, rep, hi, lo, hcls, hedge, hlen, hpar, hxok, hxl⟩ := id h
  have hd : Hd 7 size 0 s.parity := by
    rcases hpar with e | e <;> rw [e] <;> exact ⟨by omega, by omega, by omega, by omega, by omega, by omega, by omega, by omega⟩
  refine (hAllocX L s A z 7 0 size w rep hi hd).mono ?_
  rintro e w' ⟨hF, ⟨rfl, hH', hN⟩ | ⟨q, p, s', A', z', rfl, hH', hA, hW⟩⟩
  · exfalso
    cases m with
    | none =>
      obtain ⟨m1, m2, m3⟩ := hm
      obtain ⟨p1, p2, p3, p4, p5⟩ := hP
      rcases hN with ⟨n1, n2⟩ | ⟨j, c, n1, -⟩
      · have hlt : (B.length : Int) * (size + 3) + (size + 3) ≤ (want : Int) * (size + 3) := by
          have : ((B.length : Int) + 1) * (size + 3) ≤ (want : Int) * (size + 3) := Int.mul_le_mul_of_nonneg_right (by omega) (by omega)
          rw [Int.add_mul] at this; omega
        have := n2 ((W : Int) - Lg + B.length * (size + 3), Lg - B.length * (size + 3)) (by rw [p3]; unfold tailOf; rw [if_neg (by omega)]; simp)
        simp only at this
        omega
      · rw [hcls, m1] at n1; omega
    | some jc =>
      obtain ⟨j, c⟩ := jc
      obtain ⟨m1, m2, m3, m4, m5, m6⟩ := hm
      obtain ⟨p1, Wl, p2, p3, p4, p5⟩ := hP
      rcases hN with ⟨n1, n2⟩ | ⟨j', c', n1, n2, n3, n4⟩
      · rw [hcls, m1] at n1; omega
      · rw [hcls, m1] at n1
        obtain rfl : j = j' := by omega
        rw [hcls, m2] at n3
        cases n3
        rw [p2] at n2
        simp only at n2
        subst n2
        simp only [List.length_nil, Nat.zero_add] at p3
        have : ((B.length : Int) + 1) * (c + 3) ≤ (want : Int) * (c + 3) := Int.mul_le_mul_of_nonneg_right (by omega) (by omega)
        rw [Int.add_mul] at this
        omega
  · have hq : q = mdQ m := by
      rw [hA.ring, hcls]
      cases m with
      | none => rw [hm.1]; rfl
      | some jc => obtain ⟨j, c⟩ := jc; rw [hm.1]; simp [mdQ]
    have hxok' : XOk s' := by
      have e1 : s'.x.first = s.x.first ∧ s'.x.places = s.x.places := by
        rcases hW with ⟨_, _, _, _, _, e, _⟩ | ⟨_, _, _, _, _, _, _, _, e, _⟩ | ⟨_, _, _, _, _, _, _, e, _⟩ <;> rw [e] <;> exact ⟨rfl, rfl⟩
      unfold XOk
      rw [e1.1, e1.2, hA.edge, hA.len]
      exact hxok
    refine ⟨p, rfl, ?_, ⟨L, s', A', z', ⟨rfl, hH', hA.hi, lo, hA.cls.trans hcls, hA.edge.trans hedge, hA.len.trans hlen, by rw [hA.parity]; exact hpar, hxok', hxl⟩, ?_⟩, FrX.of hF h.fp⟩
    · obtain ⟨W', rW, rR⟩ := hA.row
      have hnd : (A q).all.Nodup := by
        cases q with
        | none => exact hi.lring.cells.nodup
        | some k =>
          rcases Nat.lt_or_ge k s.rs.length with hk | hk
          · exact (hi.ring k _ (List.getElem?_eq_getElem hk)).cells.nodup
          · rw [hi.out k hk]; exact List.nodup_nil
      have hB : (A q).B = B := by
        rw [hq]
        cases m with
        | none => obtain ⟨p1, p2, _⟩ := hP; simp [mdQ, p2]
        | some jc => obtain ⟨j, c⟩ := jc; obtain ⟨p1, Wl, p2, _⟩ := hP; simp [mdQ, p2]
      rcases rR with e | ⟨_, e, _⟩
      · rw [← hB]
        intro hc
        simp only [Rows.all, e, List.cons_append, List.nodup_cons] at hnd
        exact hnd.1 (by simp [hc])
      · rw [← hB]
        intro hc
        exact e (by simp [Rows.all, hc])
    · subst hq
      obtain ⟨W', rW, rR⟩ := hA.row
      cases m with
      | none =>
        obtain ⟨m1, m2, m3⟩ := hm
        obtain ⟨p1, p2, p3, p4, p5⟩ := hP
        simp only [mdQ] at rW rR hW hA
        rcases hW with ⟨_, _, e, _⟩ | ⟨_, _, e, _⟩ | ⟨_, l1, mm, l2, x1, x2, x3, x4, x5, x6⟩
        · cases e
        · cases e
        have hW' : W' = [] := by
          rcases rR with e | ⟨e, _⟩
          · rw [p2] at e; simp at e
          · rw [p2] at e; simpa using e.symm
        have hlt : (B.length : Int) * (size + 3) + (size + 3) ≤ (want : Int) * (size + 3) := by
          have : ((B.length : Int) + 1) * (size + 3) ≤ (want : Int) * (size + 3) := Int.mul_le_mul_of_nonneg_right (by omega) (by omega)
          rw [Int.add_mul] at this; omega
        have hk1 : (((B ++ [p]).length : Nat) : Int) * (size + 3) = B.length * (size + 3) + (size + 3) := by
          rw [List.length_append, Int.natCast_add, Int.add_mul]; simp
        have hxx : l1 = [] ∧ p = (W : Int) - Lg + B.length * (size + 3) ∧ mm = Lg - B.length * (size + 3) ∧ l2 = [] := by
          rw [p3] at x1
          unfold tailOf at x1
          rw [if_neg (by omega)] at x1
          cases l1 with
          | nil => simp at x1; exact ⟨rfl, x1.1.1.symm, x1.1.2.symm, x1.2⟩
          | cons y l1 => simp at x1
        obtain ⟨rfl, hp, hmm, rfl⟩ := hxx
        refine ⟨by rw [rW]; exact only_up p1 _, ?_, ?_, ?_, ?_⟩
        · rw [rW, Rg.up_same, hW', p2]
        · rw [x4]
          show cutRun [] p mm (size + 3) [] = _
          unfold cutRun tailOf
          rw [hk1]
          by_cases e : mm = (size : Int) + 3
          · rw [if_pos e, if_pos (by omega)]; rfl
          · rw [if_neg e, if_neg (by omega)]
            simp only [List.nil_append, List.cons.injEq, Prod.mk.injEq, and_true]
            exact ⟨by omega, by omega⟩
        · rw [List.length_append, List.length_singleton, fillB_succ, ← p4, ← hp]
        · intro y hy
          rw [x6]
          unfold upz
          rcases List.mem_append.1 hy with hyB | hyB
          · have hne : y ≠ p := by
              intro e
              rcases rR with e2 | ⟨_, e2, _⟩
              · rw [p2] at e2; simp at e2
              · exact e2 (by rw [p2, ← e]; simp [Rows.all, hyB])
            rw [if_neg hne]
            obtain ⟨h1, h2⟩ := p5 y hyB
            refine ⟨h1, ?_⟩
            have hh := (hA.holds none y (by rw [p2]; simp [Rows.all, hyB]) (.inr hne)).head
            rw [hh]; exact h2
          · obtain rfl := List.mem_singleton.1 hyB
            rw [if_pos rfl]
            exact ⟨rfl, s.parity, hpar, hA.head⟩
      | some jc =>
        obtain ⟨j, c⟩ := jc
        obtain ⟨m1, m2, m3, m4, m5, m6⟩ := hm
        obtain ⟨p1, Wl, p2, p3, p4, p5⟩ := hP
        simp only [mdQ] at rW rR hW hA
        refine ⟨by rw [rW]; exact only_up p1 _, W', by rw [rW, Rg.up_same, p2], ?_, ?_, ?_⟩
        · rcases hW with ⟨_, W2, e0, e1, e2, _⟩ | ⟨_, c', e0, e1, e2, e3, e4, e5, _⟩ | ⟨e, _⟩
          · cases e0
            have hW2 : W' = W2 := by
              rcases rR with e | ⟨_, e, _⟩
              · rw [e1] at e; simpa using e.symm
              · exact absurd (by simp [Rows.all, e1]) e
            subst hW2
            rw [p2] at e1
            simp only at e1
            rw [e2, p3, e1]
            simp only [List.length_cons, List.length_append, List.length_nil]
            rw [show W'.length + 1 + B.length = W'.length + (B.length + (0 + 1)) by omega]
          · cases e0
            have hW2 : W' = [] := by
              rcases rR with e | ⟨e, _⟩
              · rw [e1] at e; simp at e
              · rw [e1] at e; exact e.symm
            rw [p2] at e1
            simp only at e1
            subst e1
            subst hW2
            rw [hcls, m2] at e2
            cases e2
            rw [e5, p3]
            simp only [List.length_nil, List.length_append, List.length_cons, Nat.zero_add, Int.natCast_add, Int.add_mul]
            simp; omega
          · cases e
        · rcases hW with ⟨_, W2, e0, e1, e2, _⟩ | ⟨_, c', e0, e1, e2, e3, e4, e5, _⟩ | ⟨e, _⟩
          · cases e0
            have hW2 : W' = W2 := by
              rcases rR with e | ⟨_, e, _⟩
              · rw [e1] at e; simpa using e.symm
              · exact absurd (by simp [Rows.all, e1]) e
            subst hW2
            rw [p2] at e1
            simp only at e1
            rw [e1] at p4
            simp at p4 ⊢
            omega
          · cases e0
            have hW2 : W' = [] := by
              rcases rR with e | ⟨e, _⟩
              · rw [e1] at e; simp at e
              · rw [e1] at e; exact e.symm
            subst hW2
            simp; omega
          · cases e
        · intro hne
          rcases hW with ⟨_, W2, e0, e1, e2, _⟩ | ⟨_, c', e0, e1, e2, e3, e4, e5, _⟩ | ⟨e, _⟩
          · cases e0
            have hW2 : W' = W2 := by
              rcases rR with e | ⟨_, e, _⟩
              · rw [e1] at e; simpa using e.symm
              · exact absurd (by simp [Rows.all, e1]) e
            subst hW2
            rw [p2] at e1
            simp only at e1
            have := p5 (by rw [e1]; simp)
            rw [e1] at this
            simp at this ⊢
            omega
          · cases e0
            rcases rR with e | ⟨e, _⟩
            · rw [e1] at e; simp at e
            · rw [e1] at e; exact absurd e.symm hne
          · cases e

/-- An allocation, when there is no room. -/
theorem fFull {w0 w : World} {X : List Nat} {hb W Lg : Nat} {cls : List Int} {size want : Nat} {m : Md} {B : List Int} (hm : MdOk W Lg cls size want m) (hs : size < 32) (hk : B.length = want) (h : FW w0 w X hb W Lg cls (PAl W Lg size want B m)) :
    Calls Try.prog 22 #[.pointer (some ⟨hb, 0, none⟩), .int .i64 7, .int .i64 0, .int .i64 size] w fun e w' => e = .returned (.tuple #[.int .i64 0, .int .i64 2]) ∧ FW w0 w' X hb W Lg cls (PAl W Lg size want B m) ∧ FrX w0 X w w' := by
  obtain ⟨L, s, A, z, h, hP⟩ := h
  obtain ⟨rfl, rep, hi, lo, hcls, hedge, hlen, hpar, hxok, hxl⟩ := id h
  have hd : Hd 7 size 0 s.parity := by
    rcases hpar with e | e <;> rw [e] <;> exact ⟨by omega, by omega, by omega, by omega, by omega, by omega, by omega, by omega⟩
  refine (hAllocX L s A z 7 0 size w rep hi hd).mono ?_
  rintro e w' ⟨hF, ⟨rfl, hH', hN⟩ | ⟨q, p, s', A', z', rfl, hH', hA, hW⟩⟩
  · exact ⟨rfl, ⟨L, s, A, z, { h with rep := hH' }, hP⟩, FrX.of hF h.fp⟩
  · exfalso
    have hq := hA.ring
    rw [hcls] at hq
    cases m with
    | none =>
      obtain ⟨m1, m2, m3⟩ := hm
      obtain ⟨p1, p2, p3, p4, p5⟩ := hP
      rw [m1, if_pos rfl] at hq
      subst hq
      rcases hW with ⟨_, _, e, _⟩ | ⟨_, _, e, _⟩ | ⟨_, l1, mm, l2, x1, x2, x3, x4, x5, x6⟩
      · cases e
      · cases e
      · rw [p3] at x1
        unfold tailOf at x1
        split at x1
        · simp at x1
        · cases l1 with
          | nil => simp at x1; rw [hk] at x1; omega
          | cons y l1 => simp at x1
    | some jc =>
      obtain ⟨j, c⟩ := jc
      obtain ⟨m1, m2, m3, m4, m5, m6⟩ := hm
      obtain ⟨p1, Wl, p2, p3, p4, p5⟩ := hP
      rw [m1, if_neg (by omega)] at hq
      have hq' : q = some j := by rw [hq]; simp
      subst hq'
      have hWl : Wl = [] := List.length_eq_zero_iff.1 (by omega)
      subst hWl
      rcases hW with ⟨_, W2, e0, e1, e2, _⟩ | ⟨_, c', e0, e1, e2, e3, e4, e5, _⟩ | ⟨e, _⟩
      · cases e0
        rw [p2] at e1; cases e1
      · cases e0
        rw [hcls, m2] at e2
        cases e2
        simp only [List.length_nil, Nat.zero_add] at p3
        rw [hk] at p3
        omega
      · cases e

theorem fBegin {w0 w : World} {X : List Nat} {hb W Lg : Nat} {cls : List Int} {size want : Nat} {m : Md} {B : List Int} (hk : B.length = want) (h : FW w0 w X hb W Lg cls (PAl W Lg size want B m)) :
    Calls Try.prog 27 #[.pointer (some ⟨hb, 0, none⟩)] w fun e w' => e = .returned (.int .i64 0) ∧ FW w0 w' X hb W Lg cls (PBg W Lg size want m) ∧ FrX w0 X w w' := by
  obtain ⟨L, s, A, z, h, hP⟩ := h
  obtain ⟨rfl, rep, hi, lo, hcls, hedge, hlen, hpar, hxok, hxl⟩ := id h
  have hno : NoFG A := by
    cases m with
    | none => obtain ⟨p1, p2, _⟩ := hP; exact only_noFG p1 (by rw [p2]; exact ⟨rfl, rfl⟩)
    | some jc => obtain ⟨j, c⟩ := jc; obtain ⟨p1, Wl, p2, _⟩ := hP; exact only_noFG p1 (by rw [p2]; exact ⟨rfl, rfl⟩)
  refine (hBeginRows L s A z w rep hi (by omega) (by omega)).mono ?_
  rintro e w' ⟨hF, ⟨hn, -⟩ | ⟨-, rfl, s', hH', hI', e1, e2, e3, e4, e5, e6, e7⟩⟩
  · exact absurd hno hn
  · refine ⟨rfl, ⟨L, s', A.begun, z, ⟨rfl, hH', hI', lo, e2.trans hcls, e3.trans hedge, by rw [e1]; exact hlen, by rw [e7]; omega, by unfold XOk; rw [e5, e3, e1]; exact hxok, hxl⟩, ?_⟩, FrX.of hF h.fp⟩
    cases m with
    | none =>
      obtain ⟨p1, p2, p3, p4, p5⟩ := hP
      rw [hk] at p3 p4
      subst p4
      refine ⟨only_begun p1, by simp [Rg.begun, p2], by rw [e5]; exact p3, fun y hy => ?_⟩
      rw [e1]; exact p5 y hy
    | some jc =>
      obtain ⟨j, c⟩ := jc
      obtain ⟨p1, Wl, p2, p3, p4, p5⟩ := hP
      have hWl : Wl = [] := List.length_eq_zero_iff.1 (by omega)
      subst hWl
      refine ⟨only_begun p1, B, by simp [Rg.begun, p2], by rw [e4, p3, hk]; simp, hk⟩

theorem fEnd {w0 w : World} {X : List Nat} {hb W Lg : Nat} {cls : List Int} {size want : Nat} {m : Md} (h : FW w0 w X hb W Lg cls (PBg W Lg size want m)) :
    Calls Try.prog 31 #[.pointer (some ⟨hb, 0, none⟩)] w fun e w' => e = .returned (.int .i64 0) ∧ FW w0 w' X hb W Lg cls (PSw W Lg size want 0 m) ∧ FrX w0 X w w' := by
  obtain ⟨L, s, A, z, h, hP⟩ := h
  obtain ⟨rfl, rep, hi, lo, hcls, hedge, hlen, hpar, hxok, hxl⟩ := id h
  have hno : NoG A := by
    intro q
    cases m with
    | none =>
      obtain ⟨p1, p2, _⟩ := hP
      by_cases e : q = none
      · rw [e, p2]
      · rw [p1 q e]; rfl
    | some jc =>
      obtain ⟨j, c⟩ := jc
      obtain ⟨p1, B, p2, _⟩ := hP
      by_cases e : q = some j
      · rw [e, p2]
      · rw [p1 q e]; rfl
  refine (hEndRows L s A z w rep hi).mono ?_
  rintro e w' ⟨hF, ⟨hn, -⟩ | ⟨-, rfl, s', hH', hI', e1, e2, e3, e4, e5, e6, e7⟩⟩
  · exact absurd hno hn
  · refine ⟨rfl, ⟨L, s', A.ended, z, ⟨rfl, hH', hI', lo, e2.trans hcls, e3.trans hedge, by rw [e1]; exact hlen, by rw [e7]; exact hpar, by unfold XOk; rw [e5, e3, e1]; exact hxok, hxl⟩, ?_⟩, FrX.of hF h.fp⟩
    cases m with
    | none =>
      obtain ⟨p1, p2, p3, p4⟩ := hP
      refine ⟨only_ended p1, by simp [Rg.ended, p2], by rw [e5, p3]; rfl, fun y hy => ?_⟩
      rw [e1]; exact p4 y (by simpa using hy)
    | some jc =>
      obtain ⟨j, c⟩ := jc
      obtain ⟨p1, B, p2, p3, p4⟩ := hP
      exact ⟨only_ended p1, B, by simp [Rg.ended, p2], by rw [e4, p3], p4⟩

/-- Does a sweep number i find one? -/
def found (m : Md) (i want : Nat) : Bool := m.isNone && decide (i < want)

theorem fSweep {w0 w : World} {X : List Nat} {hb W Lg : Nat} {cls : List Int} {size want i : Nat} {m : Md} (hm : MdOk W Lg cls size want m) (hs : size < 32) (hX : ∀ b ∈ X, b < w.heap.size) (hi : i ≤ want) (h : FW w0 w X hb W Lg cls (PSw W Lg size want i m)) (h0 : w0.heap.size ≤ w.heap.size) :
    Calls Try.prog 51 #[.pointer (some ⟨hb, 0, none⟩)] w fun e w' => e = .returned (.bool (found m i want)) ∧ FW w0 w' X hb W Lg cls (PSw W Lg size want (if i < want then i + 1 else i) m) ∧ FrX w0 X w w' := by
  obtain ⟨L, s, A, z, h, hP⟩ := h
  obtain ⟨rfl, rep, hi', lo, hcls, hedge, hlen, hpar, hxok, hxl⟩ := id h
  by_cases hno : (A none).W = []
  · refine (hSweepNo L s A z w rep hi' hno).mono ?_
    rintro e w' ⟨rfl, rfl⟩
    have hf : found m i want = false := by
      cases m with
      | none =>
        obtain ⟨p1, p2, _⟩ := hP
        rw [p2] at hno
        have e := congrArg List.length hno
        simp [fillB_len] at e
        simp [found]; omega
      | some jc => rfl
    rw [hf]
    refine ⟨rfl, ⟨L, s, A, z, h, ?_⟩, FrX.of (Fr.refl [] _) (by simp)⟩
    cases m with
    | none =>
      obtain ⟨p1, p2, _⟩ := id hP
      rw [p2] at hno
      have e := congrArg List.length hno
      simp [fillB_len] at e
      rw [if_neg (by omega)]
      exact hP
    | some jc => exact hP
  · cases m with
    | some jc =>
      obtain ⟨j, c⟩ := jc
      obtain ⟨p1, B, p2, _⟩ := hP
      exact absurd (by rw [p1 none (by simp)]; rfl) hno
    | none =>
      obtain ⟨m1, m2, m3⟩ := hm
      obtain ⟨p1, p2, p3, p4⟩ := hP
      have hlt : i < want := by
        rcases Nat.lt_or_ge i want with h | h
        · exact h
        · exfalso; apply hno; rw [p2, List.drop_of_length_le (by rw [fillB_len]; exact h)]
      have hdrop := fillB_drop ((W : Int) - Lg) (size + 3) want i hlt
      have hW : (A none).W = ((W : Int) - Lg + (i : Int) * (size + 3)) :: (fillB ((W : Int) - Lg) (size + 3) want).drop (i + 1) := by rw [p2]; exact hdrop
      obtain ⟨h1, mm, hmm, h2⟩ := p4 ((W : Int) - Lg + (i : Int) * (size + 3)) (by rw [hdrop]; simp)
      have hLg : Lg ≠ 0 := by
        intro e
        subst e
        have : 0 < (want : Int) * (size + 3) := Int.mul_pos (by omega) (by omega)
        simp at m2
        omega
      obtain ⟨b0, hb0⟩ := hxl hLg
      have hd : Hd 7 size 0 mm := by
        rcases hmm with e | e <;> rw [e] <;> exact ⟨by omega, by omega, by omega, by omega, by omega, by omega, by omega, by omega⟩
      refine (hSweepYes L s A z _ _ 7 size 0 mm b0 w rep hi' hxok hb0 hW h2 hd (by rw [h1]; exact Int.le_refl _)).mono ?_
      rintro e w' ⟨rfl, ⟨b, u', hb, hH'⟩, hF⟩
      obtain ⟨i1, i2, i3⟩ := hi'.swept hW (show (1 : Int) ≤ size + 3 by omega) (by rw [h1]; exact Int.le_refl _) u'
      have hf : found none i want = true := by simp [found, hlt]
      rw [hf, if_pos hlt]
      have hmem : b0 ∈ L.all := by simp [HL.all, HL.fp, hb0]
      refine ⟨rfl, ⟨L.newX b, _, _, z, ⟨rfl, hH', i1, fun x hx => ?_, hcls, hedge, (ct_len _ _).trans hlen, hpar, ?_, fun _ => ⟨b, rfl⟩⟩, only_up p1 _, ?_, ?_, fun y hy => ?_⟩, FrX.of hF h.fp⟩
      · have hx' : x ∈ L.all ∨ x = b := by
          simp only [HL.all, HL.fp, HL.newX, hb0, List.mem_cons, List.mem_append, List.mem_nil_iff, or_false] at hx ⊢
          rcases hx with h | h | h | h | h | h | h | h | h <;> simp [h]
        rcases hx' with hx' | rfl
        · exact lo x hx'
        · rcases hb with rfl | hb
          · exact lo _ hmem
          · exact ⟨by omega, fun hc => by have := hX _ hc; omega⟩
      · unfold XOk
        show s.x.first = s.edge ∧ s.x.first + s.x.places = (ct s.ws _).length
        rw [ct_len]; exact hxok
      · rw [Rg.up_same, p2]
      · show giveAt s.x.l _ _ _ = _
        rw [p3, backOf_spot (by omega) (by omega), backOf_give (by omega) (by omega)]
      · have hy' : y ∈ (fillB ((W : Int) - Lg) (size + 3) want).drop i := by rw [hdrop]; exact List.mem_cons_of_mem _ hy
        obtain ⟨g1, g2⟩ := p4 y hy'
        refine ⟨g1, ?_⟩
        have hy2 : y ∈ (A none).all := by rw [p2]; simp [Rows.all, hy']
        have := (hi'.holds (s' := { s with ws := ct s.ws ((W : Int) - Lg + (i : Int) * (size + 3)) }) (z := z) i3 hy2 (hi'.linksApart (q := none) hy2)).head
        show ∃ m : Int, (m = 0 ∨ m = 1) ∧ gw (ct s.ws _) y = _
        rw [show gw (ct s.ws ((W : Int) - Lg + (i : Int) * (size + 3))) y = gw s.ws y from this]
        exact g2
end Go.Proofs.Ytifillpcphiblaa
