import Derived.Test.YtklnpooninbogaaGreatDoorTRdP
import Derived.Test.YtklnpooninbogaaGreatDoorMHeapAlloc
import Derived.Maps.AppendAt
import Derived.Deep.RegionLaw
import Derived.Deep.QuietTactic
import Derived.Deep.DeepCutAuto
import Derived.BigQuiet
namespace Go.Proofs.YtklnpooninbogaaGreatDoor
open Go Go.Proofs Go.RowKit

/-! tree.Read. -/

theorem leastN {p : Nat → Prop} (h : ∃ n, p n) : ∃ n, p n ∧ ∀ m, p m → n ≤ m := by
  obtain ⟨n, hn⟩ := h
  induction n using Nat.strongRecOn with
  | _ n ih =>
    by_cases hm : ∃ m, m < n ∧ p m
    · obtain ⟨m, h1, h2⟩ := hm
      exact ih m h1 h2
    · exact ⟨n, hn, fun m h2 => Nat.le_of_not_lt (fun h1 => hm ⟨m, h1, h2⟩)⟩
/-- How many objects of kind Ind lie between. -/
noncomputable def hops (ws : List Int) (p q : Int) : Nat := Classical.epsilon (fun n => Chain ws n p q ∧ ∀ m, Chain ws m p q → n ≤ m)
theorem hops_is {ws : List Int} {p q : Int} (h : ∃ n, Chain ws n p q) : Chain ws (hops ws p q) p q ∧ ∀ m, Chain ws m p q → hops ws p q ≤ m := Classical.epsilon_spec (p := fun n => Chain ws n p q ∧ ∀ m, Chain ws m p q → n ≤ m) (leastN h)
theorem hops_lt {ws : List Int} {p q z a m : Int} (h : ∃ n, Chain ws n p q) (hne : p ≠ q) (hO : ObjW ws p 5 z a m) : (∃ n, Chain ws n (gw ws (p + 3 + 0)) q) ∧ hops ws (gw ws (p + 3 + 0)) q < hops ws p q := by
  obtain ⟨h1, h2⟩ := hops_is h
  obtain ⟨n, hn⟩ : ∃ n, n = hops ws p q := ⟨_, rfl⟩
  rw [← hn] at h1 ⊢
  cases n with
  | zero => exact absurd h1 hne
  | succ n =>
    obtain ⟨_, _, _, _, _, h3⟩ := h1
    exact ⟨⟨n, h3⟩, Nat.lt_succ_of_le ((hops_is ⟨n, h3⟩).2 n h3)⟩

/-- The closure read. -/
def clo (lb xb rb : Nat) : Value := .func (.func 27) #[] #[.pointer (some ⟨lb, 0, none⟩), .pointer (some ⟨xb, 0, none⟩), .pointer (some ⟨rb, 0, none⟩)]
/-- A reading under way: the heap, and the three variables that the closure has. -/
structure RS3 (w0 wr : World) (L : HL) (ws : List Int) (lb xb rb l : Nat) : Prop where
  h : ∃ s, HRep wr L s ∧ s.ws = ws
  l : Blk wr lb [.int .i64 l] 3
  x : Blk wr xb [.pointer (some ⟨L.hb, 0, none⟩)] 23
  r : Blk wr rb [clo lb xb rb] 72
  ln : lb ∉ L.all
  xn : xb ∉ L.all
  rn : rb ∉ L.all
  fr : Fr [lb, L.ab] w0 wr
theorem RS3.ab {w0 wr : World} {L : HL} {ws : List Int} {lb xb rb l : Nat} (h : RS3 w0 wr L ws lb xb rb l) : lb ≠ L.ab ∧ xb ≠ L.ab ∧ rb ≠ L.ab := by
  have e : L.ab ∈ L.all := by simp [HL.all, HL.fp]
  exact ⟨fun h1 => h.ln (h1 ▸ e), fun h1 => h.xn (h1 ▸ e), fun h1 => h.rn (h1 ▸ e)⟩
theorem RS3.step {w0 wr w' : World} {L : HL} {ws : List Int} {lb xb rb l : Nat} (h : RS3 w0 wr L ws lb xb rb l) {s' : HS} (hH : HRep w' L s') (hs : s'.ws = ws) (hF : Fr [L.ab] wr w') : RS3 w0 w' L ws lb xb rb l := by
  obtain ⟨a1, a2, a3⟩ := h.ab
  exact ⟨⟨s', hH, hs⟩, h.l.fr hF (by simp [a1]), h.x.fr hF (by simp [a2]), h.r.fr hF (by simp [a3]), h.ln, h.xn, h.rn, h.fr.trans (hF.here (by simp))⟩
theorem RS3.new {w0 wr w' : World} {L : HL} {ws : List Int} {lb xb rb l : Nat} (h : RS3 w0 wr L ws lb xb rb l) {S : List Nat} (hF : Fr S wr w') (hS : ∀ x ∈ S, w0.heap.size ≤ x ∧ x ∉ L.all ∧ x ≠ lb ∧ x ≠ xb ∧ x ≠ rb) : RS3 w0 w' L ws lb xb rb l := by
  obtain ⟨s, hH, e⟩ := h.h
  exact ⟨⟨s, hH.fr hF (fun x hx => (hS x hx).2.1), e⟩, h.l.fr hF (fun hc => (hS _ hc).2.2.1 rfl), h.x.fr hF (fun hc => (hS _ hc).2.2.2.1 rfl), h.r.fr hF (fun hc => (hS _ hc).2.2.2.2 rfl), h.ln, h.xn, h.rn, h.fr.step hF (fun x hx => .inr (hS x hx).1)⟩
theorem RS3.alloc {w0 wr : World} {L : HL} {ws : List Int} {lb xb rb l : Nat} (h : RS3 w0 wr L ws lb xb rb l) (o : Obj) : RS3 w0 (wr.alloc o) L ws lb xb rb l := h.new ((Fr.refl [] wr).alloc o) (by simp)
theorem RS3.drew {w0 wr : World} {L : HL} {ws : List Int} {lb xb rb l : Nat} (h : RS3 w0 wr L ws lb xb rb l) : RS3 w0 wr.drew L ws lb xb rb l := h.new ((Fr.refl [] wr).drew) (by simp)
theorem RS3.lt {w0 wr : World} {L : HL} {ws : List Int} {lb xb rb l : Nat} (h : RS3 w0 wr L ws lb xb rb l) : lb < wr.heap.size ∧ xb < wr.heap.size ∧ rb < wr.heap.size := ⟨h.l.lt, h.x.lt, h.r.lt⟩

/-- What a reading leaves. -/
def ReadPost (w : World) (L : HL) (ws : List Int) (lb xb rb d : Nat) (t : Tr) (l' : Nat) (e : Ending) (w' : World) : Prop :=
  ∃ v, e = .returned v ∧ TrV w' (fun g => w.heap.size ≤ g) d t v ∧ RS3 w w' L ws lb xb rb l'

theorem objFirst {ws : List Int} {h : Nat} {p q k z a m : Int} (hc : Chain ws h p q) (hO : ObjW ws q k z a m) : ∃ k z a m, ObjW ws p k z a m := by
  cases h with
  | zero => rw [show p = q from hc]; exact ⟨_, _, _, _, hO⟩
  | succ h => obtain ⟨z, a, m, h1, _⟩ := hc; exact ⟨_, _, _, _, h1⟩
def zeroT : List Value := [.int .i64 0, .int .i64 0, .bool false, .int .u64 0, .slice none 0 0]

set_option maxRecDepth 100000 in
set_option maxHeartbeats 6400000 in
theorem tReadNo (L : HL) (ws : List Int) (lb xb rb : Nat) (d : Nat) (p dep : Int) (l : Nat) (w : World) (hno : dep ≤ 0 ∨ p = 0 ∨ l = 0) (h : RS3 w w L ws lb xb rb l) :
    Calls Tryz.prog 27 #[.int .i64 p, .int .i64 dep, .pointer (some ⟨lb, 0, none⟩), .pointer (some ⟨xb, 0, none⟩), .pointer (some ⟨rb, 0, none⟩)] w (ReadPost w L ws lb xb rb d .no l) := by
  have T0 := Blk.new w [.int .i64 0, .int .i64 0, .bool false, .int .u64 0, .slice none 0 0] 38
  have h0 := h.alloc (.cells #[.int .i64 0, .int .i64 0, .bool false, .int .u64 0, .slice none 0 0] 38)
  have cl := h0.l.cell (i := 0) rfl
  have q0 := T0.cell (i := 0) rfl
  have q1 := T0.cell (i := 1) rfl
  have q2 := T0.cell (i := 2) rfl
  have q3 := T0.cell (i := 3) rfl
  have q4 := T0.cell (i := 4) rfl
  have fin : ReadPost w L ws lb xb rb d .no l (.returned (trAgg 0 0 false 0 (.slice none 0 0))) (w.alloc (.cells #[.int .i64 0, .int .i64 0, .bool false, .int .u64 0, .slice none 0 0] 38)) := ⟨_, rfl, TrV.no _ _ _, h0⟩
  rcases hno with hno | hno | hno
  · go_enter Tryz.func27, Tryz.ntmps27
    go_wp2_with fail
    all_goals exact bodyPost_ret (v := trAgg 0 0 false 0 (.slice none 0 0)) (by simp [results, Tryz.results27, go_sem, q0, q1, q2, q3, q4, trAgg]) rfl fin
  · subst hno
    go_enter Tryz.func27, Tryz.ntmps27
    go_wp2_with fail
    all_goals exact bodyPost_ret (v := trAgg 0 0 false 0 (.slice none 0 0)) (by simp [results, Tryz.results27, go_sem, q0, q1, q2, q3, q4, trAgg]) rfl fin
  · subst hno
    go_enter Tryz.func27, Tryz.ntmps27
    go_wp2_with fail
    all_goals exact bodyPost_ret (v := trAgg 0 0 false 0 (.slice none 0 0)) (by simp [results, Tryz.results27, go_sem, q0, q1, q2, q3, q4, trAgg]) rfl fin

theorem blk_ne {w : World} {a b : Nat} {cs ds : List Value} {T U : TypeId} (h : Blk w a cs T) (h' : Blk w b ds U) (hT : T ≠ U) : a ≠ b := by
  intro e
  subst e
  unfold Blk at h h'
  rw [h] at h'
  simp at h'
  exact hT h'.2
theorem RS3.setl {w0 wr : World} {L : HL} {ws : List Int} {lb xb rb l : Nat} (h : RS3 w0 wr L ws lb xb rb l) (l' : Nat) : RS3 w0 (wr.setCell ⟨lb, 0, none⟩ (.int .i64 l')) L ws lb xb rb l' := by
  obtain ⟨s, hH, e⟩ := h.h
  have hF : Fr [lb] wr (wr.setCell ⟨lb, 0, none⟩ (.int .i64 l')) := (Fr.refl _ wr).set (by simp) _
  have n1 := blk_ne h.l h.x (by decide)
  have n2 := blk_ne h.l h.r (by decide)
  exact ⟨⟨s, hH.fr hF (fun x hx => by rw [List.mem_singleton.1 hx]; exact h.ln), e⟩, h.l.set 0 _, h.x.fr hF (by simpa using Ne.symm n1), h.r.fr hF (by simpa using Ne.symm n2), h.ln, h.xn, h.rn, h.fr.trans (hF.here (by simp))⟩
theorem rCell {w0 wr : World} {L : HL} {ws : List Int} {lb xb rb l : Nat} {p k z a m : Int} (h : RS3 w0 wr L ws lb xb rb l) (hO : ObjW ws p k z a m) :
    Calls Tryz.prog 28 #[.pointer (some ⟨L.hb, 0, none⟩), .int .i64 p] wr fun e w' => e = .returned (.tuple #[.agg #[.int .i64 k, .int .i64 z, .int .i64 a, .int .i64 m], .int .i64 0]) ∧ RS3 w0 w' L ws lb xb rb l ∧ Fr [L.ab] wr w' := by
  obtain ⟨s, hH, rfl⟩ := h.h
  have := hO.p1
  have := hO.hd.s0
  refine (hCell L s p k z a m wr hH hO.p0 (by omega) hO.hp hO.hd).mono ?_
  rintro e w' ⟨rfl, hH', hF⟩
  exact ⟨rfl, h.step hH' rfl hF, hF⟩
theorem rGet {w0 wr : World} {L : HL} {ws : List Int} {lb xb rb l : Nat} {p k z a m j : Int} (h : RS3 w0 wr L ws lb xb rb l) (hO : ObjW ws p k z a m) (j0 : 0 ≤ j) (j1 : j < z) :
    Calls Tryz.prog 29 #[.pointer (some ⟨L.hb, 0, none⟩), .int .i64 p, .int .i64 j] wr fun e w' => e = .returned (.tuple #[.int .i64 (gw ws (p + 3 + j)), .int .i64 0]) ∧ RS3 w0 w' L ws lb xb rb l ∧ Fr [L.ab] wr w' := by
  obtain ⟨s, hH, rfl⟩ := h.h
  refine (hGet L s p k z a m j wr hH hO.p0 hO.p1 hO.hp hO.hd j0 j1).mono ?_
  rintro e w' ⟨rfl, hH', hF⟩
  exact ⟨rfl, h.step hH' rfl hF, hF⟩
theorem objEq {ws : List Int} {p k z a m k' z' a' m' : Int} (h : ObjW ws p k z a m) (h' : ObjW ws p k' z' a' m') : k = k' ∧ z = z' ∧ a = a' ∧ m = m' := by
  have e := h.hp.symm.trans h'.hp
  obtain ⟨h1, h2, h3, h4, h5, h6, h7, h8⟩ := h.hd
  obtain ⟨g1, g2, g3, g4, g5, g6, g7, g8⟩ := h'.hd
  unfold packed at e
  omega
theorem RS3.self {w0 wr : World} {L : HL} {ws : List Int} {lb xb rb l : Nat} (h : RS3 w0 wr L ws lb xb rb l) : RS3 wr wr L ws lb xb rb l :=
  ⟨h.h, h.l, h.x, h.r, h.ln, h.xn, h.rn, Fr.refl _ wr⟩
theorem RS3.comp {w0 w1 w2 : World} {L : HL} {ws : List Int} {lb xb rb l l' : Nat} (h : RS3 w0 w1 L ws lb xb rb l) (k : RS3 w1 w2 L ws lb xb rb l') : RS3 w0 w2 L ws lb xb rb l' :=
  ⟨k.h, k.l, k.x, k.r, k.ln, k.xn, k.rn, h.fr.trans k.fr⟩
/-- The object's cells and the tree's, beside a reading. -/
structure RdW (w wr : World) (L : HL) (ws : List Int) (lb xb rb l cb : Nat) (k z a m : Int) : Prop where
  r : RS3 w wr L ws lb xb rb l
  c : Blk wr cb [.int .i64 k, .int .i64 z, .int .i64 a, .int .i64 m] 68
  t : Blk wr w.heap.size zeroT 38
  n : w.heap.size < cb
  al : ∀ x ∈ L.all, x < w.heap.size
  bl : lb < w.heap.size ∧ xb < w.heap.size ∧ rb < w.heap.size
theorem RdW.ab {w wr : World} {L : HL} {ws : List Int} {lb xb rb l cb : Nat} {k z a m : Int} (h : RdW w wr L ws lb xb rb l cb k z a m) : L.ab < w.heap.size := h.al _ (by simp [HL.all, HL.fp])
theorem RdW.fr {w wr w' : World} {L : HL} {ws : List Int} {lb xb rb l cb : Nat} {k z a m : Int} (h : RdW w wr L ws lb xb rb l cb k z a m) {l' : Nat} (hR : RS3 w w' L ws lb xb rb l') {S : List Nat} (hF : Fr S wr w') (hS : ∀ x ∈ S, x < w.heap.size ∨ cb < x) : RdW w w' L ws lb xb rb l' cb k z a m :=
  ⟨hR, h.c.fr hF (fun hc => by have := hS _ hc; have := h.n; omega), h.t.fr hF (fun hc => by have := hS _ hc; have := h.n; omega), h.n, h.al, h.bl⟩
/-- A step that writes but blocks of the call's own. -/
theorem RdW.own {w wr w' : World} {L : HL} {ws : List Int} {lb xb rb l cb : Nat} {k z a m : Int} (h : RdW w wr L ws lb xb rb l cb k z a m) {S : List Nat} (hF : Fr S wr w') (hS : ∀ x ∈ S, w.heap.size ≤ x) : RS3 w w' L ws lb xb rb l :=
  h.r.new hF (fun x hx => by
    have h1 := hS x hx
    have := h.bl
    exact ⟨h1, fun hc => by have := h.al x hc; omega, by omega, by omega, by omega⟩)
theorem RdW.upd {w wr w' : World} {L : HL} {ws : List Int} {lb xb rb l cb : Nat} {k z a m k' z' a' m' : Int} (h : RdW w wr L ws lb xb rb l cb k z a m) (hF : Fr [cb] wr w') (hc : Blk w' cb [.int .i64 k', .int .i64 z', .int .i64 a', .int .i64 m'] 68) : RdW w w' L ws lb xb rb l cb k' z' a' m' :=
  ⟨h.own hF (fun x hx => by rw [List.mem_singleton.1 hx]; have := h.n; omega), hc, h.t.fr hF (by have := h.n; simp; omega), h.n, h.al, h.bl⟩
theorem RS3.ablt {w0 wr : World} {L : HL} {ws : List Int} {lb xb rb l : Nat} (h : RS3 w0 wr L ws lb xb rb l) : L.ab < wr.heap.size := by
  obtain ⟨s, hH, e⟩ := h.h
  exact hH.a.s.lt
theorem RS3.alllt {w0 wr : World} {L : HL} {ws : List Int} {lb xb rb l : Nat} (h : RS3 w0 wr L ws lb xb rb l) : ∀ x ∈ L.all, x < wr.heap.size := by
  obtain ⟨s, hH, e⟩ := h.h
  exact fun x hx => all_lt hH hx
/-- What a reading leaves in its result's block. -/
theorem readFin {w w5 : World} {L : HL} {ws : List Int} {lb xb rb l l' cb : Nat} {k z a m : Int} {d : Nat} {t : Tr} {sv : Value} (h : RdW w w5 L ws lb xb rb l' cb k z a m) (hk : KidsV w5 (fun g => w.heap.size ≤ g ∧ g ≠ w.heap.size) d t.ks sv) (hl : l = l') :
    Blk (((((w5.setCell ⟨w.heap.size, 0, none⟩ (.int .i64 t.k)).setCell ⟨w.heap.size, 1, none⟩ (.int .i64 t.t)).setCell ⟨w.heap.size, 2, none⟩ (.bool t.f)).setCell ⟨w.heap.size, 3, none⟩ (.int .u64 t.b)).setCell ⟨w.heap.size, 4, none⟩ sv) w.heap.size (trCells t.k t.t t.f t.b sv) 38 ∧
    ReadPost w L ws lb xb rb d t l (.returned (trAgg t.k t.t t.f t.b sv)) (((((w5.setCell ⟨w.heap.size, 0, none⟩ (.int .i64 t.k)).setCell ⟨w.heap.size, 1, none⟩ (.int .i64 t.t)).setCell ⟨w.heap.size, 2, none⟩ (.bool t.f)).setCell ⟨w.heap.size, 3, none⟩ (.int .u64 t.b)).setCell ⟨w.heap.size, 4, none⟩ sv) := by
  subst hl
  have hF : Fr [w.heap.size] w5 (((((w5.setCell ⟨w.heap.size, 0, none⟩ (.int .i64 t.k)).setCell ⟨w.heap.size, 1, none⟩ (.int .i64 t.t)).setCell ⟨w.heap.size, 2, none⟩ (.bool t.f)).setCell ⟨w.heap.size, 3, none⟩ (.int .u64 t.b)).setCell ⟨w.heap.size, 4, none⟩ sv) :=
    (((((Fr.refl _ w5).set (by simp) _).set (by simp) _).set (by simp) _).set (by simp) _).set (by simp) _
  refine ⟨((((h.t.set 0 _).set 1 _).set 2 _).set 3 _).set 4 _, _, rfl, ⟨sv, rfl, ?_⟩, h.own hF (by simp)⟩
  exact (hk.fr hF (fun g hg _ hc => hg.2 (List.mem_singleton.1 hc))).mono (fun g hg => hg.1)
theorem KidsV.lt {w : World} {P : Nat → Prop} : ∀ {m : Nat} {ks : List Tr} {sv : Value}, KidsV w P m ks sv → KidsV w (fun g => P g ∧ g < w.heap.size) m ks sv
  | 0, _, _, h => h
  | _ + 1, _, _, ⟨A, c, e, hl, h⟩ => ⟨A, c, e, hl, fun i x hx => by
      obtain ⟨g, o, kv, h1, h2, h3, h4, h5⟩ := h i x hx
      exact ⟨g, o, kv, h1, ⟨h2, h3⟩, h3, h4, h5.lt⟩⟩
theorem KRow.own {w : World} {B : Nat} {P : Nat → Prop} {m : Nat} {v : Value} {ks : List Tr} (h : KRow w B P m v ks) : ∀ g, v.ownBlock = some g → B ≤ g ∧ g < w.heap.size := by
  obtain ⟨l, _, h2, _⟩ := h
  exact own5_lt h2
theorem KRow.fr' {S : List Nat} {w w' : World} {B : Nat} {P : Nat → Prop} {m : Nat} {v : Value} {ks : List Tr} (h : KRow w B P m v ks) (hF : Fr S w w') (hS : ∀ x ∈ S, x < B) (hP : ∀ g, P g → B ≤ g) : KRow w' B P m v ks :=
  h.fr hF (fun g hg hc => by have := hS g hc; have := (h.own g hg).1; omega) (fun g hg _ hc => by have := hS g hc; have := hP g hg; omega)

/-- Which blocks may hold kids' kids, while a row is made from block B on. -/
def PK (B n : Nat) (sv : Value) (g : Nat) : Prop := B ≤ g ∧ g < n ∧ sv.ownBlock ≠ some g
theorem kidsStep {S : List Nat} {w4 w5 : World} {B d : Nat} {sv sv5 : Value} {ks : List Tr} {x : Tr} (hK : KRow w4 B (PK B w4.heap.size sv) d sv ks) (hk : KidsV w5 (fun g => w4.heap.size ≤ g) d x.ks sv5) (hF : Fr S w4 w5) (hS : ∀ y ∈ S, y < B) (hB : B ≤ w4.heap.size) (o : Obj) :
    KRow (w5.alloc o) B (PK B w5.heap.size sv) d sv ks ∧ KidsV (w5.alloc o) (PK B w5.heap.size sv) d x.ks sv5 ∧ ∀ g, PK B w5.heap.size sv g → g < (w5.alloc o).heap.size := by
  have hsz := hF.size
  have hF1 : Fr S w4 (w5.alloc o) := hF.alloc o
  refine ⟨((hK.fr' hF1 hS (fun g hg => hg.1)).mono (fun g hg => ⟨hg.1, by have := hg.2.1; omega, hg.2.2⟩) (fun g hg hc => hc.2.2 hg)), ?_, fun g hg => by have := hg.2.1; simp; omega⟩
  refine (hk.lt.fr ((Fr.refl [] w5).alloc o) (by simp)).mono ?_
  rintro g ⟨h1, h2⟩
  exact ⟨by omega, h2, fun hc => by have := (hK.own g hc).2; omega⟩
theorem kidsDone {w5 w6 : World} {B d : Nat} {sv v' : Value} {ks : List Tr} {o : Obj} {S : List Nat} (h : KRow w6 B (PK B w5.heap.size sv) d v' ks) (hF : Fr S (w5.alloc o) w6) (hb : v'.ownBlock = sv.ownBlock ∨ v'.ownBlock = some (w5.alloc o).heap.size) : KRow w6 B (PK B w6.heap.size v') d v' ks := by
  have hsz := hF.size
  rw [World.size_alloc] at hsz
  refine h.mono (fun g hg => ⟨hg.1, by have := hg.2.1; omega, ?_⟩) (fun g hg hc => hc.2.2 hg)
  rcases hb with hb | hb
  · rw [hb]; exact hg.2.2
  · rw [hb, World.size_alloc]
    intro hc
    have := Option.some.inj hc
    have := hg.2.1
    omega
/-- A kid more. -/
theorem readStep {w w4 w5 w6 : World} {L : HL} {ws : List Int} {lb xb rb l2 l3 cb tb : Nat} {k z a m : Int} {d : Nat} {t : Int} {sv v' : Value} {ks : List Tr} {x : Tr} {o : Obj} (hW : RdW w w4 L ws lb xb rb l2 cb k z a m) (hT : Blk w4 tb (trCells 1 t false 0 sv) 38) (hcb : cb < tb) (hK : KRow w4 (tb + 1) (PK (tb + 1) w4.heap.size sv) d sv ks)
    (hR : RS3 w4.drew w5 L ws lb xb rb l3) (hk : KRow w6 (tb + 1) (PK (tb + 1) w5.heap.size sv) d v' (ks ++ [x])) (hF : Fr sv.ownBlock.toList (w5.alloc o) w6) (hb : v'.ownBlock = sv.ownBlock ∨ v'.ownBlock = some (w5.alloc o).heap.size) :
    RdW w (w6.setCell ⟨tb, 4, none⟩ v') L ws lb xb rb l3 cb k z a m ∧ Blk (w6.setCell ⟨tb, 4, none⟩ v') tb (trCells 1 t false 0 v') 38 ∧ KRow (w6.setCell ⟨tb, 4, none⟩ v') (tb + 1) (PK (tb + 1) (w6.setCell ⟨tb, 4, none⟩ v').heap.size v') d v' (ks ++ [x]) := by
  have hO : ∀ g ∈ sv.ownBlock.toList, tb + 1 ≤ g := fun g hg => (hK.own g (by simpa using hg)).1
  have hF5 : Fr [lb, L.ab] w4 w5 := ((Fr.refl _ w4).drew).trans hR.fr
  have hab := hW.ab
  have hbl := hW.bl
  have hn := hW.n
  have htl := hT.lt
  have h5 := hF5.size
  have hW5 : RdW w w5 L ws lb xb rb l3 cb k z a m := hW.fr (hW.r.drew.comp hR) hF5 (by simp; omega)
  have hT5 := hT.fr hF5 (by simp; omega)
  have hF6 : Fr sv.ownBlock.toList w5 w6 := ((Fr.refl _ w5).alloc o).trans hF
  have hW6 := hW5.fr (hW5.own hF6 (fun g hg => by have := hO g hg; omega)) hF6 (fun g hg => by have := hO g hg; omega)
  have hT6 := hT5.fr hF6 (fun hc => by have := hO _ hc; omega)
  have hF7 : Fr [tb] w6 (w6.setCell ⟨tb, 4, none⟩ v') := (Fr.refl _ w6).set (by simp) _
  refine ⟨hW6.fr (hW6.own hF7 (by simp; omega)) hF7 (by simp; omega), hT6.set 4 v', ?_⟩
  have e : (w6.setCell ⟨tb, 4, none⟩ v').heap.size = w6.heap.size := by simp [World.setCell]
  rw [e]
  exact (kidsDone hk hF hb).fr' hF7 (by simp) (fun g hg => hg.1)
end Go.Proofs.YtklnpooninbogaaGreatDoor
