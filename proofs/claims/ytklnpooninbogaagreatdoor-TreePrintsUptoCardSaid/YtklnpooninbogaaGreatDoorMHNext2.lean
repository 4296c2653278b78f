import Derived.Test.YtklnpooninbogaaGreatDoorHNext
import Derived.RangeFuncWrites
namespace Go.Proofs.YtklnpooninbogaaGreatDoor
open Go Go.Proofs Go.RowKit Go.Shelf

attribute [local go_sem] Oper.semAt_some

theorem fr_putObj (W : World) (D : Nat) (o : Obj) : Fr [D] W (W.putObj D o) := Fr.of_grownBy (S := [D]) (grownBy_putObj' W D o) (fun k e => .inl (by cases e; simp))
theorem Fr.putD {S : List Nat} {w W : World} (h : Fr S w W) {D : Nat} (hD : w.heap.size ≤ D) (o : Obj) : Fr S w (W.putObj D o) := h.step (fr_putObj W D o) (fun x hx => .inr (by simp at hx; omega))
theorem HRep.putD {W : World} {L : HL} {s : HS} (h : HRep W L s) {D : Nat} (hD : ∀ b ∈ L.all, b < D) (o : Obj) : HRep (W.putObj D o) L s := h.fr (fr_putObj W D o) (fun x hx hc => by simp at hx; subst hx; exact Nat.lt_irrefl _ (hD _ hc))
theorem cell_putD {W : World} {D b i : Nat} (h : b ≠ D) (o : Obj) : (W.putObj D o).cell? ⟨b, i, none⟩ = W.cell? ⟨b, i, none⟩ := World.cell?_of_block (w := W) (World.putObj_heap_other h)

theorem cell_set_ne (W : World) {b b' i i' : Nat} (h : b ≠ b') (v : Value) : (W.setCell ⟨b', i', none⟩ v).cell? ⟨b, i, none⟩ = W.cell? ⟨b, i, none⟩ := World.cell?_of_block (w := W) (Below.heap_setCell _ _ _ _ h)

def NextPost (L : HL) (s : HS) (w : World) (e : Ending) (w' : World) : Prop :=
  Fr [L.ab] w w' ∧ ((e = .returned (.tuple #[.int .i64 0, .bool false]) ∧ HRep w' L s ∧ ∀ x ∈ att L, ∀ r, RingAt L s x.1 r → r.g = 0) ∨
    ∃ pre x r, pre ++ [x] <+: att L ∧ (∀ y ∈ pre, ∀ r, RingAt L s y.1 r → r.g = 0) ∧ RingAt L s x.1 r ∧ 1 ≤ r.g ∧ e = .returned (.tuple #[.int .i64 (gw s.ws (r.black + 2)), .bool true]) ∧ HRep w' L (s.tick 1))

end Go.Proofs.YtklnpooninbogaaGreatDoor

namespace Go.Proofs.YtklnpooninbogaaGreatDoor
open Go Go.Proofs Go.RowKit Go.Shelf

attribute [local go_sem] Oper.semAt_some

/-- How many of a colour. -/
def RS.cnt (r : RS) : Nat → Nat
  | 0 => r.w
  | 1 => r.f
  | 2 => r.g
  | _ => r.b

/-- Some ring has cells of one of the colours. -/
def HasCol (L : HL) (s : HS) (cs : List Nat) : Prop := ∃ x r c, RingAt L s x r ∧ c ∈ cs ∧ 1 ≤ r.cnt c
def NoCol (L : HL) (s : HS) (cs : List Nat) (pre : List (RB L)) : Prop := ∀ y ∈ pre, ∀ r, RingAt L s y.1 r → ∀ c ∈ cs, r.cnt c = 0

/-- The ring that lies at x, turned. -/
def HS.turnAt (L : HL) (f : RS → RS) (s : HS) (x : Nat) : HS := if x = L.lb then { s with lg := f s.lg } else { s with rs := s.rs.mapIdx (fun k r => if L.rbs[k]? = some x then f r else r) }
def HS.turned (L : HL) (f : RS → RS) (s : HS) (pre : List (RB L)) : HS := pre.foldl (fun s x => s.turnAt L f x.1) s
theorem turned_nil (L : HL) (f : RS → RS) (s : HS) : s.turned L f [] = s := rfl
theorem turned_snoc (L : HL) (f : RS → RS) (s : HS) (pre : List (RB L)) (x : RB L) : s.turned L f (pre ++ [x]) = (s.turned L f pre).turnAt L f x.1 := by simp [HS.turned]

theorem HRep.turnAt {W W' : World} {L : HL} {s : HS} (h : HRep W L s) (f : RS → RS) {x : Nat} {r : RS} (hr : RingAt L s x r) (hF : Fr [x] W W') (hR : RRep W' x L.ab (f r)) : HRep W' L (s.turnAt L f x) := by
  unfold HS.turnAt
  rcases hr with ⟨k, hk, hs⟩ | ⟨rfl, rfl⟩
  · obtain ⟨a0, a1, a2, a3, a4, a5, a6, a7⟩ := h.rapart (List.mem_of_getElem? hk)
    rw [if_neg a3]
    refine (h.ring hk hF (by simp) (h.a.fr hF (by simp [Ne.symm a1]) (by simp [Ne.symm a2])) hR).cast ?_
    congr 1
    refine List.ext_getElem? (fun j => ?_)
    rw [List.getElem?_set, List.getElem?_mapIdx]
    by_cases e : k = j
    · subst e
      rw [if_pos rfl, if_pos (List.getElem?_eq_some_iff.1 hs).1, hs]
      simp [hk]
    · rw [if_neg e]
      cases hj : s.rs[j]? with
      | none => rfl
      | some r' =>
        simp only [Option.map_some]
        rw [if_neg (fun hc => e (h.rinj hk hc))]
  · obtain ⟨⟨-, -, p3, -, -, -⟩, ⟨-, q2, -, -, -⟩, ⟨r1, -, -, -⟩, -, -, -⟩ := h.apart
    rw [if_pos rfl]
    exact h.large hF (by simp) (h.a.fr hF (by simp [q2]) (by simp [r1])) hR

theorem turned_take {W : World} {L : HL} {s : HS} (h : HRep W L s) (f : RS → RS) : ∀ k, k ≤ L.rbs.length → s.turned L f ((att L).take k) = { s with rs := s.rs.mapIdx (fun j r => if j < k then f r else r) } := by
  intro k
  induction k with
  | zero =>
    intro _
    have : s.rs.mapIdx (fun j r => if j < 0 then f r else r) = s.rs := by
      refine List.ext_getElem? (fun j => ?_)
      rw [List.getElem?_mapIdx]
      cases s.rs[j]? <;> simp
    rw [this]; rfl
  | succ k ih =>
    intro hk
    have hkl : k < (att L).length := by rw [att_len]; omega
    have hsucc : (att L).take (k + 1) = (att L).take k ++ [(att L)[k]] := by rw [List.take_add_one]; simp [hkl]
    have hx : ((att L)[k]).1 = L.rbs[k]'hk := by rw [att_get, List.getElem_append_left hk]
    have hm : L.rbs[k]'hk ∈ L.rbs := List.getElem_mem _
    rw [hsucc, turned_snoc, ih (by omega), hx]
    unfold HS.turnAt
    rw [if_neg (h.rapart hm).2.2.2.1]
    congr 1
    refine List.ext_getElem? (fun j => ?_)
    rw [List.getElem?_mapIdx, List.getElem?_mapIdx, List.getElem?_mapIdx]
    cases hj : s.rs[j]? with
    | none => rfl
    | some r =>
      simp only [Option.map_some]
      by_cases e : j = k
      · subst e
        rw [if_pos (List.getElem?_eq_getElem hk), if_neg (by omega), if_pos (by omega)]
      · rw [if_neg (fun hc => e (h.rinj hc (List.getElem?_eq_getElem hk)))]
        by_cases e2 : j < k
        · rw [if_pos e2, if_pos (by omega)]
        · rw [if_neg e2, if_neg (by omega)]

theorem turned_all {W : World} {L : HL} {s : HS} (h : HRep W L s) (f : RS → RS) : s.turned L f (att L) = { s with rs := s.rs.map f, lg := f s.lg } := by
  have hn : L.rbs.length = s.rs.length := h.n1.trans h.n2.symm
  have e : att L = (att L).take L.rbs.length ++ [(att L)[L.rbs.length]'(by rw [att_len]; omega)] := by
    refine (List.take_append_drop L.rbs.length (att L)).symm.trans ?_
    rw [List.drop_eq_getElem_cons (by rw [att_len]; omega), List.drop_eq_nil_of_le (by rw [att_len]; exact Nat.le_refl _)]
  have hx : ((att L)[L.rbs.length]'(by rw [att_len]; omega)).1 = L.lb := by rw [att_get, List.getElem_append_right (Nat.le_refl _)]; simp
  rw [congrArg (s.turned L f) e, turned_snoc, turned_take h f _ (Nat.le_refl _), hx]
  unfold HS.turnAt
  rw [if_pos rfl]
  have : s.rs.mapIdx (fun j r => if j < L.rbs.length then f r else r) = s.rs.map f := by
    refine List.ext_getElem? (fun j => ?_)
    rw [List.getElem?_mapIdx, List.getElem?_map]
    cases hj : s.rs[j]? with
    | none => rfl
    | some r =>
      have := (List.getElem?_eq_some_iff.1 hj).1
      simp only [Option.map_some]
      rw [if_pos (by omega)]
  rw [this]

def EachPost (L : HL) (s : HS) (f : RS → RS) (cs : List Nat) (w : World) (e : Ending) (w' : World) : Prop :=
  (e = .returned (.int .i64 18) ∧ HRep w' L s ∧ Fr [] w w' ∧ HasCol L s cs) ∨
    (e = .returned (.int .i64 0) ∧ HRep w' L { s with rs := s.rs.map f, lg := f s.lg } ∧ Fr L.fp w w' ∧ ∀ x r, RingAt L s x r → ∀ c ∈ cs, r.cnt c = 0)

end Go.Proofs.YtklnpooninbogaaGreatDoor

namespace Go.Proofs.YtklnpooninbogaaGreatDoor
open Go Go.Proofs Go.RowKit Go.Shelf

/-! A range over an iterator that, between two rounds, takes steps of its own on cells (a count of uses): the steps are named by Ab, and what the loop says abides them. -/

def KeepL (K : List Nat) (A B : World) : Prop := ∀ b ∈ K, B.heap[b]? = A.heap[b]?
theorem KeepL.trans {K : List Nat} {A B C : World} (h : KeepL K A B) (k : KeepL K B C) : KeepL K A C := fun b hb => (k b hb).trans (h b hb)
theorem KeepL.refl (K : List Nat) (A : World) : KeepL K A A := fun _ _ => rfl
theorem Fr.keepL {S K : List Nat} {A B : World} (h : Fr S A B) (hK : ∀ b ∈ K, b < A.heap.size) (hS : ∀ b ∈ K, b ∉ S) : KeepL K A B := fun b hb => h.block b (hK b hb) (hS b hb)

variable {α : Type} {n gf : Nat} {lb : Array Value} {encs : α → Array Value} {K : List Nat} {Ab : World → World → Prop} {S Sp : List α → Prop} {N : Nat}

/-- What a round comes to. -/
def RoundM (K : List Nat) (J Jx : List α → World → Prop) (pre : List α) (W1 : World) (e : Ending) (W' : World) : Prop :=
  (e = .returned (.bool true) ∧ J pre W' ∧ KeepL K W1 W') ∨ (e = .returned (.bool false) ∧ Jx pre W')

def IterM (n gf : Nat) (lb : Array Value) (encs : α → Array Value) (K : List Nat) (Ab : World → World → Prop) (S Sp : List α → Prop) (N : Nat) (w : World) : Prop :=
  ∀ (l : Nat) (J Jx : List α → World → Prop) (W : World), Fr [] w W → (∀ pre A B, J pre A → Ab A B → J pre B) →
    (∀ pre x W1, J pre W1 → pre.length < N → YieldAt Fence.wide (n - 1) Tryz.prog l (encs x) W1 (RoundM K J Jx (pre ++ [x]) W1)) →
    J [] W → CallsIn Fence.wide n Tryz.prog gf (#[.func (.yield l) #[] #[]] ++ lb) W fun e W' => (∃ v, e = .returned v) ∧ ((∃ ys, S ys ∧ J ys W') ∨ (∃ pre, Sp pre ∧ Jx pre W'))

/-- The loop's record and the block for deferred calls lie as they should. -/
structure Laid (D : Nat) (r : Loop) (W : World) : Prop where
  d : W.heap[D]? = some (.deferred (some []))
  l : W.heap[D + 1]? = some (.loop r)
theorem Laid.others {D : Nat} {r : Loop} {A B : World} (h : Laid D r A) (k : KeepsOthers A B) : Laid D r B := ⟨k.same _ _ h.d rfl, k.same _ _ h.l rfl⟩
theorem Laid.turn {D : Nat} {r : Loop} {A : World} (h : Laid D r A) (r' : Loop) : Laid D r' (A.putObj (D + 1) (.loop r')) :=
  ⟨(World.putObj_heap_other (Nat.ne_of_lt (Nat.lt_succ_self D))).trans h.d, World.putObj_heap_same (Array.getElem?_eq_some_iff.1 h.l).1⟩

theorem wpIn_rangeM {g : Operand} {ps : Array Tmp} {assign body : Code} {Q : Exit → Act → World → Prop} {a : Act} {w : World}
    (hg : a.eval g = .func (.func gf) #[] lb) (eg : ∀ args w, (callFunc gf args).run Tryz.prog w = .ok (.enter gf args) w)
    (hit : IterM (n - 1) gf lb encs K Ab S Sp N w) (hK : ∀ b ∈ K, b < w.heap.size) (hAb : ∀ A B, Ab A B → KeepsOthers A B) (hps : ∀ x, (encs x).size = ps.size)
    (I : List α → World → Prop) (Ix : Code → List α → World → Prop) (hI : OwnFrom w.heap.size I) (hIx : ∀ c, OwnFrom w.heap.size (Ix c)) (hIA : ∀ pre A B, I pre A → Ab A B → I pre B) (h0 : I [] w) (a₁ : α → Act)
    (hassign : ∀ (l : Nat) (x : α) (W : World) (K : Act → World → Prop), K (a₁ x) W →
      assign.wpIn (Fence.wide.inRound l) (n - 1 - 1) Tryz.prog (Exit.then K (fun _ _ _ => False)) { tmps := (ps.zip (encs x)).foldl (fun t (p, v) => t.setIfInBounds p v) a.tmps, defers := [] } W)
    (hbody : ∀ (l : Nat) (pre : List α) (x : α) (W : World), w.heap.size ≤ W.heap.size → I pre W → pre.length < N → body.wpIn (Fence.wide.inRound l) (n - 1 - 1) Tryz.prog (ownPostK (KeepL K) I Ix (pre ++ [x]) W) (a₁ x) W)
    (hdone : ∀ (D : Nat) (ys : List α) (W : World), w.heap.size ≤ D → S ys → I ys W → W.heap[D]? = some (.deferred (some [])) → Q .normal { a with defers := { target := .collected D, args := #[] } :: a.defers } W)
    (hstop : ∀ (D : Nat) (c : Code) (pre : List α) (W : World), w.heap.size ≤ D → Sp pre → Ix c pre W → W.heap[D]? = some (.deferred (some [])) → c.wpIn Fence.wide n Tryz.prog Q { a with defers := { target := .collected D, args := #[] } :: a.defers } W) :
    (Code.rangeFunc g ps assign body).wpIn Fence.wide n Tryz.prog Q a w := by
  refine wpIn_rangeFunc fun fn _ => ?_
  obtain ⟨lp, hlp⟩ : ∃ lp : LoopState → Option Code → Loop, ∀ st pe, lp st pe = { state := st, pending := pe, fn := fn, tmps := a.tmps, params := ps, assign := assign, body := body, defers := w.heap.size } := ⟨fun st pe => _, fun _ _ => rfl⟩
  obtain ⟨U, hU⟩ : ∃ U, U = (w.alloc (.deferred (some []))).alloc (.loop (lp .ready none)) := ⟨_, rfl⟩
  have hFU : Fr [] w U := by rw [hU]; exact ((Fr.refl [] w).alloc _).alloc _
  have hsU : U.heap.size = w.heap.size + 2 := by rw [hU]; simp
  have hLU : Laid w.heap.size (lp .ready none) U := by
    rw [hU]
    constructor
    · rw [Below.heap_alloc _ _ _ (by simp)]; exact World.alloc_heap_new w _
    · have h := World.alloc_heap_new (w.alloc (.deferred (some []))) (.loop (lp .ready none))
      simpa using h
  have hIU : I [] U := by rw [hU]; exact hI.alloc _ (hI.alloc _ h0)
  have notK : w.heap.size + 1 ∉ K := fun h => by have := hK _ h; omega
  have keepTurn : ∀ (W : World) (o : Obj), KeepL K W (W.putObj (w.heap.size + 1) o) := fun W o b hb => World.putObj_heap_other (fun e => notK (e ▸ hb))
  have turnI : ∀ {pre : List α} {W : World} {r : Loop} (r' : Loop), I pre W → Laid w.heap.size r W → I pre (W.putObj (w.heap.size + 1) (.loop r')) := fun r' h k => hI.putObj _ h (Nat.le_succ _) k.l rfl
  have turnIx : ∀ {c : Code} {pre : List α} {W : World} {r : Loop} (r' : Loop), Ix c pre W → Laid w.heap.size r W → Ix c pre (W.putObj (w.heap.size + 1) (.loop r')) := fun r' h k => (hIx _).putObj _ h (Nat.le_succ _) k.l rfl
  refine ⟨w.heap.size + 1, [{ target := .collected w.heap.size, args := #[] }], U, { target := .fn (.func gf) lb, args := #[.func (.yield (w.heap.size + 1)) #[] #[]] }, U, gf, #[.func (.yield (w.heap.size + 1)) #[] #[]] ++ lb, U, ?_, ?_, ?_, ?_, ?_, ?_⟩
  · rw [hU, hlp]; exact run_enterLoop_outer _ _ _ _ _
  · simp only [resolve, hg]; simp [go_sem]
  · intro _ _; trivial
  · simp [invoke, go_sem, eg]
  · intro h; simp [Fence.wide] at h
  refine (hit (w.heap.size + 1) (fun pre W => I pre W ∧ Laid w.heap.size (lp .ready none) W ∧ w.heap.size ≤ W.heap.size) (fun pre W => ∃ c, Ix c pre W ∧ Laid w.heap.size (lp .done (some c)) W) U hFU ?_ ?_ ⟨hIU, hLU, hFU.size⟩).mono ?_
  · rintro pre A B ⟨h1, h2, h3⟩ hab
    exact ⟨hIA pre A B h1 hab, h2.others (hAb A B hab), Nat.le_trans h3 (hAb A B hab).size⟩
  · rintro pre x W ⟨h1, h2, h3⟩ hlen
    have hy := run_yield (P := Tryz.prog) (args := encs x) h2.l (by rw [hlp]; exact hps x)
    simp only [hlp] at hy
    refine ⟨fn, _, assign, body, hy, roundIn_of_wpIn trivial (hassign _ x W _ ⟨_, run_beginRound h2.l (by rw [hlp]), ?_⟩)⟩
    have hbusy : Laid w.heap.size (lp .busy none) (W.putObj (w.heap.size + 1) (.loop { lp .ready none with state := .busy })) := by
      have := h2.turn (lp .busy none)
      simp only [hlp] at this ⊢
      exact this
    have fin : ∀ (jump : Option Code) (W3 : World), KeepsOthers (W.putObj (w.heap.size + 1) (.loop { lp .ready none with state := .busy })) W3 →
        Laid w.heap.size (lp .busy none) W3 ∧ (Instr.endRound (w.heap.size + 1) jump).run Tryz.prog W3 = .ok (.bool jump.isNone) (W3.putObj (w.heap.size + 1) (.loop (lp (if jump.isNone then .ready else .done) jump))) := by
      intro jump W3 hk
      have hl := hbusy.others hk
      refine ⟨hl, ?_⟩
      have := run_endRound (P := Tryz.prog) jump hl.l
      simp only [hlp] at this ⊢
      exact this
    have hsz : w.heap.size ≤ (W.putObj (w.heap.size + 1) (.loop { lp .ready none with state := .busy })).heap.size := by simpa using h3
    refine wpIn_mono (hbody _ pre x _ hsz (turnI _ h1 h2) hlen) ?_
    intro e b W3 hp
    cases e with
    | normal =>
      obtain ⟨hk, hkeep, hi⟩ := hp
      obtain ⟨hl, hr⟩ := fin none W3 hk
      refine ⟨_, _, hr, .inl ⟨rfl, ⟨turnI _ hi hl, hl.turn _, ?_⟩, ((keepTurn W _).trans hkeep).trans (keepTurn W3 _)⟩⟩
      have := hk.size
      simp at this ⊢
      omega
    | ret =>
      obtain ⟨hk, hi⟩ := hp
      obtain ⟨hl, hr⟩ := fin (some .ret) W3 hk
      exact ⟨_, _, hr, .inr ⟨rfl, .ret, turnIx _ hi hl, hl.turn _⟩⟩
    | exit id =>
      obtain ⟨hk, hi⟩ := hp
      obtain ⟨hl, hr⟩ := fin (some (.exit id)) W3 hk
      exact ⟨_, _, hr, .inr ⟨rfl, .exit id, turnIx _ hi hl, hl.turn _⟩⟩
    | goto t =>
      obtain ⟨hk, hi⟩ := hp
      obtain ⟨hl, hr⟩ := fin (some (.goto t)) W3 hk
      exact ⟨_, _, hr, .inr ⟨rfl, .goto t, turnIx _ hi hl, hl.turn _⟩⟩
    | panic ch => exact hp.elim
    | outgrown => exact hp.elim
  · rintro e W2 ⟨⟨v, rfl⟩, ⟨ys, hS, hi, hl, _⟩ | ⟨pre, hS, c, hi, hl⟩⟩
    · have := run_endLoop (P := Tryz.prog) hl.l (by rw [hlp]; simp)
      simp only [hlp] at this
      exact ⟨none, _, this, hdone w.heap.size ys _ (Nat.le_refl _) hS (turnI _ hi hl) (hl.turn _).d⟩
    · have := run_endLoop (P := Tryz.prog) hl.l (by rw [hlp]; simp)
      simp only [hlp] at this
      exact ⟨some c, _, this, hstop w.heap.size c pre _ (Nat.le_refl _) hS (turnIx _ hi hl) (hl.turn _).d⟩
end Go.Proofs.YtklnpooninbogaaGreatDoor
