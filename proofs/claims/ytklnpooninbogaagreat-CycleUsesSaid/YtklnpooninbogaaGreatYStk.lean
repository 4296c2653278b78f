
import Derived.Test.YtklnpooninbogaaGreatMDRow
import Derived.Test.YtklnpooninbogaaGreatMCell
import Derived.Laws.MakeOwn
import Derived.Laws.CopyOwn
import Derived.ArgAppend
import Derived.Deep.DeepCutAuto
namespace Go.Proofs.YtklnpooninbogaaGreat
open Go Go.Proofs Go.RowKit
theorem infoI64y : (Tryz.prog.info? 2).map (fun i => (i.zero, i.size, i.bytes)) = some (some (.int .i64 0), 1, 8) := by kernel_rfl
theorem run_mkY (n : Nat) (hn : n ≤ 100000) (w : World) : (Instr.makeSlice 67 (.int .i64 n) (.int .i64 n)).run Tryz.prog w = .ok (.slice (some ⟨w.heap.size, 0, none⟩) n n) (w.alloc (.cells (List.replicate n (.int .i64 0)).toArray 2)) := by
  obtain ⟨i, hi, hz0, hz1, hz2⟩ := info_parts infoI64y
  have := run_make (P := Tryz.prog) w 67 2 i (.int .i64 0) Tryz.underlying67 hi hz0 .i64 .i64 n n (by omega) (Int.le_refl _) (by rw [hz2]; omega) (by omega)
  rw [hz1] at this
  simp only [Int.toNat_natCast, Nat.mul_one] at this
  have e : madeCells (Value.int IntKind.i64 0).cells n = (List.replicate n (Value.int IntKind.i64 0)).toArray := by
    apply Array.ext
    · simp [madeCells]
    · intro j h1 h2
      simp [madeCells, Value.cells]
      have : j % 1 = 0 := by omega
      simp [this]
  rw [e] at this
  exact this
def RdS (w : World) (P : Nat → Prop) (v : Value) (l : List Int) : Prop := ∃ A c, v = .slice A l.length c ∧ (l.length ≤ c ∧ l.length ≤ 100000) ∧ ∀ i x, l[i]? = some x → ∃ g o, A = some ⟨g, o, none⟩ ∧ P g ∧ g < w.heap.size ∧ w.cell? ⟨g, o + i, none⟩ = some (.int .i64 x)
theorem RdS.mono {w : World} {P Q : Nat → Prop} {v : Value} {l : List Int} (h : RdS w P v l) (hPQ : ∀ g, P g → Q g) : RdS w Q v l := by
  obtain ⟨A, c, e, hl, h⟩ := h
  exact ⟨A, c, e, hl, fun i x hx => by obtain ⟨g, o, e, p, h1, h2⟩ := h i x hx; exact ⟨g, o, e, hPQ g p, h1, h2⟩⟩
theorem RdS.fr {S : List Nat} {w w' : World} {P : Nat → Prop} {v : Value} {l : List Int} (h : RdS w P v l) (hf : Fr S w w') (hP : ∀ g, P g → g < w.heap.size → g ∉ S) : RdS w' P v l := by
  obtain ⟨A, c, e, hl, h⟩ := h
  exact ⟨A, c, e, hl, fun i x hx => by obtain ⟨g, o, e, p, h1, h2⟩ := h i x hx; exact ⟨g, o, e, p, Nat.lt_of_lt_of_le h1 hf.size, (cell_fr hf (hP g p h1) h1 _).trans h2⟩⟩
theorem RdS.nil (w : World) (P : Nat → Prop) (A : Option Addr) (c : Nat) : RdS w P (.slice A 0 c) [] := ⟨A, c, rfl, ⟨Nat.zero_le _, Nat.zero_le _⟩, fun i x hx => by simp at hx⟩
theorem RdS.of_blk {w : World} {P : Nat → Prop} {g : Nat} {l : List Int} {T : TypeId} (h : Blk w g (l.map (.int .i64)) T) (hP : P g) (hl : l.length ≤ 100000) : RdS w P (.slice (some ⟨g, 0, none⟩) l.length l.length) l :=
  ⟨_, _, rfl, ⟨Nat.le_refl _, hl⟩, fun i x hx => ⟨g, 0, rfl, hP, h.lt, by rw [Nat.zero_add]; exact h.cell (by rw [List.getElem?_map, hx]; rfl)⟩⟩
theorem RdS.tail {w : World} {P : Nat → Prop} {A : Option Addr} {c : Nat} {a : Int} {l : List Int} (h : RdS w P (.slice A (l.length + 1) c) (a :: l)) : ∃ g o, A = some ⟨g, o, none⟩ ∧ P g ∧ g < w.heap.size ∧ w.cell? ⟨g, o, none⟩ = some (.int .i64 a) ∧ RdS w P (.slice (some ⟨g, o + 1, none⟩) l.length (c - 1)) l ∧ l.length + 1 ≤ c := by
  obtain ⟨A', c', e, hl, h⟩ := h
  cases e
  obtain ⟨g, o, e, p, h1, h2⟩ := h 0 a rfl
  have hl' := hl
  rw [List.length_cons] at hl'
  refine ⟨g, o, e, p, h1, h2, ⟨_, _, rfl, by omega, fun i x hx => ?_⟩, by omega⟩
  obtain ⟨g', o', e', p', h1', h2'⟩ := h (i + 1) x (by simpa using hx)
  rw [e] at e'
  cases e'
  exact ⟨g, o + 1, rfl, p, h1, by rw [show o + 1 + i = o + (i + 1) by omega]; exact h2'⟩
structure Fm where
  k : Int
  n : Int
  l : List Int
def FmAt (w : World) (P : Nat → Prop) (g o : Nat) (f : Fm) : Prop :=
  w.cell? ⟨g, o, none⟩ = some (.int .i64 f.k) ∧ w.cell? ⟨g, o + 1, none⟩ = some (.int .i64 f.n) ∧ ∃ sv, w.cell? ⟨g, o + 2, none⟩ = some sv ∧ RdS w P sv f.l
def FmV (w : World) (P : Nat → Prop) (v : Value) (f : Fm) : Prop := ∃ sv, v = .agg #[.int .i64 f.k, .int .i64 f.n, sv] ∧ RdS w P sv f.l
def FmsV (w : World) (P : Nat → Prop) (v : Value) (fs : List Fm) : Prop := ∃ A c, v = .slice A fs.length c ∧ fs.length ≤ c ∧ fs.length ≤ 100000 ∧ ∀ i f, fs[i]? = some f → ∃ g o, A = some ⟨g, o, none⟩ ∧ P g ∧ g < w.heap.size ∧ FmAt w P g (o + i * 3) f
theorem FmsV.fr {S : List Nat} {w w' : World} {P : Nat → Prop} {v : Value} {fs : List Fm} (h : FmsV w P v fs) (hf : Fr S w w') (hP : ∀ g, P g → g < w.heap.size → g ∉ S) : FmsV w' P v fs := by
  obtain ⟨A, c, e, hc, hl, h⟩ := h
  refine ⟨A, c, e, hc, hl, fun i x hx => ?_⟩
  obtain ⟨g, o, e, p, h1, h2, h3, sv, h4, h5⟩ := h i x hx
  have hg := hP g p h1
  exact ⟨g, o, e, p, Nat.lt_of_lt_of_le h1 hf.size, (cell_fr hf hg h1 _).trans h2, (cell_fr hf hg h1 _).trans h3, sv, (cell_fr hf hg h1 _).trans h4, h5.fr hf hP⟩
structure Sk where
  fs : List Fm
  room : Int
  used : Int
  todo : Nat
def SkRep (w : World) (P : Nat → Prop) (sb : Nat) (s : Sk) : Prop := ∃ lv, Blk w sb [lv, .int .i64 s.room, .int .i64 s.used, .int .i64 s.todo] 128 ∧ FmsV w P lv s.fs
theorem SkRep.fr {S : List Nat} {w w' : World} {P : Nat → Prop} {sb : Nat} {s : Sk} (h : SkRep w P sb s) (hf : Fr S w w') (hs : sb ∉ S) (hP : ∀ g, P g → g < w.heap.size → g ∉ S) : SkRep w' P sb s := by
  obtain ⟨lv, h1, h2⟩ := h
  exact ⟨lv, h1.fr hf hs, h2.fr hf hP⟩
theorem sNew (w : World) : Calls Tryz.prog 30 #[.int .i64 400] w fun e w' => e = .returned (.tuple #[.pointer (some ⟨w.heap.size, 0, none⟩), .int .i64 0]) ∧ Blk w' w.heap.size [.slice none 0 0, .int .i64 400, .int .i64 0, .int .i64 0] 128 ∧ Fr [] w w' := by
  have hB := Blk.new w [.slice none 0 0, .int .i64 400, .int .i64 0, .int .i64 0] 128
  have hF : Fr [] w (w.alloc (.cells [.slice none 0 0, .int .i64 400, .int .i64 0, .int .i64 0].toArray 128)) := (Fr.refl _ w).alloc _
  have HB := hid hB
  have HF := hid hF
  clear hB hF
  go_enter Tryz.func30, Tryz.ntmps30
  go_wp2_with fail
  go_ret2
  exact ⟨rfl, HB.out, HF.out⟩
theorem sSize (k n : Int) (A : Option Addr) (N c : Nat) (hN : N ≤ 100000) (w : World) : Calls Tryz.prog 81 #[.agg #[.int .i64 k, .int .i64 n, .slice A N c]] w fun e w' => e = .returned (.int .i64 ((N + 2 : Nat) : Int)) ∧ Fr [] w w' := by
  have B := Blk.new w [.int .i64 k, .int .i64 n, .slice A N c] 95
  have c2 := B.cell (i := 2) rfl
  have hF : Fr [] w (w.alloc (.cells [.int .i64 k, .int .i64 n, .slice A N c].toArray 95)) := (Fr.refl _ w).alloc _
  have HF := hid hF
  have e : wrap64 ((N : Int) + 2) = ((N + 2 : Nat) : Int) := by unfold wrap64; omega
  clear B hF
  go_enter Tryz.func81, Tryz.ntmps81
  go_wp2_with fail
  go_ret
  exact ⟨by first | rfl | (rw [e]), HF.out⟩
theorem infoI64z : (Tryz.prog.info? 2).map (·.size) = some 1 := by kernel_rfl
theorem copyY {W : World} {P : Nat → Prop} {g : Nat} {l : List Int} {A : Option Addr} {c : Nat} (hg : Blk W g (List.replicate l.length (.int .i64 0)) 2) (h : RdS W P (.slice A l.length c) l) :
    ∃ W', (∀ ty, (Builtin.copy_ #[67, 67] ty #[.slice (some ⟨g, 0, none⟩) l.length l.length, .slice A l.length c]).run Tryz.prog W = .ok (.int .i64 l.length) W') ∧ Blk W' g (l.map (.int .i64)) 2 ∧ Fr [g] W W' := by
  obtain ⟨A', c', e, hl, hx⟩ := h
  cases e
  cases l with
  | nil => exact ⟨W, fun ty => run_copy_none (P := Tryz.prog) W _ _ ty 2 _ _ _ _ _ _ Tryz.underlying67 infoI64z rfl, hg, Fr.refl _ _⟩
  | cons a r =>
    obtain ⟨ga, oa, rfl, -, -, -⟩ := hx 0 a rfl
    have hg' := hg
    unfold Blk at hg'
    have hcs : ((a :: r).map (Value.int .i64)).length = Nat.min (a :: r).length (a :: r).length := by simp
    have hrun := fun ty => run_copy_row (P := Tryz.prog) W 67 67 ty 2 g 0 (a :: r).length (a :: r).length ⟨ga, oa, none⟩ (a :: r).length c _ _ ((a :: r).map (.int .i64)) Tryz.underlying67 infoI64z hg' hcs (fun j v hv => by
      rw [List.getElem?_map, Option.map_eq_some_iff] at hv
      obtain ⟨x, hx1, rfl⟩ := hv
      obtain ⟨g', o', e, -, -, h2⟩ := hx j x hx1
      cases e
      rw [Addr.add_lit]
      exact h2) (by simp) (by simp [Value.oneCell'])
    refine ⟨W.setRow g ((a :: r).map (Value.int .i64)).toArray, fun ty => ?_, setRow_heap W g _ _ _ (0, 0) hg', ?_⟩
    rotate_left
    · refine ⟨rfl, rfl, rfl, by simp [World.setRow], fun b hb hbs => ?_⟩
      exact setRow_other W g b _ (by simpa using hbs)
    · have := hrun ty
      rw [List.length_map] at this
      rw [List.take_zero, List.nil_append, Nat.zero_add, List.drop_of_length_le (by simp), List.append_nil] at this
      exact this
set_option maxRecDepth 100000 in
set_option maxHeartbeats 1600000 in
theorem sCopied (k n : Int) (sv : Value) (l : List Int) (P : Nat → Prop) (w : World) (h : RdS w P sv l) :
    Calls Tryz.prog 82 #[.agg #[.int .i64 k, .int .i64 n, sv]] w fun e w' => ∃ g, e = .returned (.agg #[.int .i64 k, .int .i64 n, .slice (some ⟨g, 0, none⟩) l.length l.length]) ∧ w.heap.size ≤ g ∧ Blk w' g (l.map (.int .i64)) 2 ∧ Fr [] w w' := by
  have hR := h
  obtain ⟨A, c, rfl, hl, hx⟩ := h
  have B := Blk.new w [.int .i64 k, .int .i64 n, .slice A l.length c] 95
  have c2 := B.cell (i := 2) rfl
  have hF2 : Fr [] w ((w.alloc (.cells #[.int .i64 k, .int .i64 n, .slice A l.length c] 95)).alloc (.cells #[.int .i64 0, .int .i64 0, .slice none 0 0] 95)) := ((Fr.refl _ w).alloc _).alloc _
  have hB2 := B.alloc (.cells #[.int .i64 0, .int .i64 0, .slice none 0 0] 95)
  have hC2 := Blk.new (w.alloc (.cells #[.int .i64 k, .int .i64 n, .slice A l.length c] 95)) [.int .i64 0, .int .i64 0, .slice none 0 0] 95
  have hG := Blk.new ((w.alloc (.cells #[.int .i64 k, .int .i64 n, .slice A l.length c] 95)).alloc (.cells #[.int .i64 0, .int .i64 0, .slice none 0 0] 95)) (List.replicate l.length (.int .i64 0)) 2
  have hF3 := hF2.alloc (.cells (List.replicate l.length (Value.int .i64 0)).toArray 2)
  obtain ⟨W4, hrun, hW4, hF4⟩ := copyY hG (hR.fr hF3 (by simp))
  have hB3 := (hB2.alloc (.cells (List.replicate l.length (Value.int .i64 0)).toArray 2)).fr hF4 (by simp [World.size_alloc]; omega)
  have hC3 := (hC2.alloc (.cells (List.replicate l.length (Value.int .i64 0)).toArray 2)).fr hF4 (by simp [World.size_alloc])
  have hF5 : Fr [] w W4 := hF3.step hF4 (by simp [World.size_alloc]; omega)
  simp only [World.size_alloc] at hrun hW4 hB3 hC3
  have hlt : w.heap.size + 1 + 1 < W4.heap.size := hW4.lt
  have d0 := hB3.cell (i := 0) rfl
  have d1 := hB3.cell (i := 1) rfl
  have d2 := hB3.cell (i := 2) rfl
  have y2 := hB3.frozen 2
  have hC4 : Blk (W4.setCell ⟨w.heap.size, 2, none⟩ (.slice (some ⟨w.heap.size + 1 + 1, 0, none⟩) l.length l.length)) (w.heap.size + 1) [.int .i64 0, .int .i64 0, .slice none 0 0] 95 := hC3.fr ((Fr.refl [w.heap.size] W4).set (by simp) _) (by simp)
  have hC5 := ((hC4.set 0 (.int .i64 k)).set 1 (.int .i64 n)).set 2 (.slice (some ⟨w.heap.size + 1 + 1, 0, none⟩) l.length l.length)
  have HC5 := hid hC5
  have z0 := hC3.frozen 0
  have z1 := hC3.frozen 1
  have z2 := hC3.frozen 2
  have e0 := hC3.cell (i := 0) rfl
  have e1 := hC3.cell (i := 1) rfl
  have e2 := hC3.cell (i := 2) rfl
  have HR := hid hrun
  have HX := hid hx
  have HL := hid hl
  have HW4 := hid hW4
  have HF5 := hid hF5
  clear hC4 hC5 hx hR hF2 hB2 hC2 hG hF3 hB3 hC3 hF4 hF5 hrun hW4 B
  obtain ⟨N, hN⟩ : ∃ N, N = l.length := ⟨_, rfl⟩
  have hmk := run_mkY N (by rw [hN]; exact HL.out.2)
  rw [← hN] at HR c2 d2 ⊢
  have HN := hid hN
  clear hN
  go_enter Tryz.func82, Tryz.ntmps82
  go_wp2_with fail
  simp only [List.toArray_replicate] at HR
  rw [HR.out]
  go_wp2_with fail
  have hC5 := HC5.out
  have hb : (W4.setCell ⟨w.heap.size, 2, none⟩ (.slice (some ⟨w.heap.size + 1 + 1, 0, none⟩) N N)).heap.size = W4.heap.size := by simp
  rw [← HN.out] at hC5
  have q0 := hC5.cell (i := 0) rfl
  have q1 := hC5.cell (i := 1) rfl
  have q2 := hC5.cell (i := 2) rfl
  refine bodyPost_ret (v := .agg #[.int .i64 k, .int .i64 n, .slice (some ⟨w.heap.size + 1 + 1, 0, none⟩) N N]) (by simp [results, Tryz.results82, go_sem, q0, q1, q2]) rfl ⟨w.heap.size + 1 + 1, rfl, by omega, ?_, ?_⟩
  · exact HW4.out.fr (S := [w.heap.size, w.heap.size + 1]) (((((Fr.refl _ W4).set (by simp) _).set (by simp) _).set (by simp) _).set (by simp) _) (by simp; omega)
  · exact Fr.step HF5.out (S' := [w.heap.size, w.heap.size + 1]) (((((Fr.refl _ W4).set (by simp) _).set (by simp) _).set (by simp) _).set (by simp) _) (by simp)
theorem sAt (sb : Nat) (s : Sk) (P : Nat → Prop) (i : Nat) (f : Fm) (w : World) (h : SkRep w P sb s) (hf : s.fs[i]? = some f) :
    Calls Tryz.prog 142 #[.pointer (some ⟨sb, 0, none⟩), .int .i64 ((i + 1 : Nat) : Int)] w fun e w' => ∃ g, e = .returned (.tuple #[.agg #[.int .i64 f.k, .int .i64 f.n, .slice (some ⟨g, 0, none⟩) f.l.length f.l.length], .bool true]) ∧ w.heap.size ≤ g ∧ Blk w' g (f.l.map (.int .i64)) 2 ∧ Fr [] w w' := by
  obtain ⟨lv, hB, A, c, rfl, hc, hl, hx⟩ := h
  obtain ⟨g, o, rfl, hp, hg, f0, f1, sv, f2, hsv⟩ := hx i f hf
  have hi : i < s.fs.length := (List.getElem?_eq_some_iff.1 hf).1
  have B0 := Blk.new w [.int .i64 0, .int .i64 0, .slice none 0 0] 95
  have hF0 : Fr [] w (w.alloc (.cells #[.int .i64 0, .int .i64 0, .slice none 0 0] 95)) := (Fr.refl _ w).alloc _
  have f0' := (cell_fr hF0 (by simp) hg _).trans f0
  have f1' := (cell_fr hF0 (by simp) hg _).trans f1
  have f2' := (cell_fr hF0 (by simp) hg _).trans f2
  have c0 := (hB.alloc (.cells #[.int .i64 0, .int .i64 0, .slice none 0 0] 95)).cell (i := 0) rfl
  have e1 : wrap64 ((i : Int) + 1 - 1) = (i : Int) := by unfold wrap64; omega
  have e2 : ¬ (i : Int) + 1 = 0 := by omega
  have hsv0 := hsv.fr hF0 (by simp)
  have HB0 := hid B0
  have HF0 := hid hF0
  have HS := hid hsv0
  have HF := hid hf
  have HX := hid hx
  clear f0 f1 f2 hF0 hsv hsv0 hf hx hB B0
  go_enter Tryz.func142, Tryz.ntmps142
  go_wp2_with fail
  refine (sCopied f.k f.n sv f.l P _ HS.out).mono ?_
  rintro e w1 ⟨g1, rfl, hg1, hB1, hF1⟩
  have hB0 := HB0.out.fr hF1 (by simp)
  have e0 := hB0.cell (i := 0) rfl
  have e3 := hB0.cell (i := 1) rfl
  have e4 := hB0.cell (i := 2) rfl
  have z0 := hB0.frozen 0
  have z1 := hB0.frozen 1
  have z2 := hB0.frozen 2
  have hF2 := HF0.out.trans hF1
  have hC := ((hB0.set 0 (.int .i64 f.k)).set 1 (.int .i64 f.n)).set 2 (.slice (some ⟨g1, 0, none⟩) f.l.length f.l.length)
  have hne : g1 ≠ w.heap.size := by intro h; rw [World.size_alloc] at hg1; omega
  have HC := hid hC
  have HF2 := hid hF2
  have HB1 := hid hB1
  have HG := hid hg1
  have HNE := hid hne
  clear hB0 hF1 hF2 hC hB1 hg1 c0 hne f0' f1' f2'
  go_wp2_with fail
  have hC := HC.out
  have q0 := hC.cell (i := 0) rfl
  have q1 := hC.cell (i := 1) rfl
  have q2 := hC.cell (i := 2) rfl
  refine bodyPost_ret (v := .tuple #[.agg #[.int .i64 f.k, .int .i64 f.n, .slice (some ⟨g1, 0, none⟩) f.l.length f.l.length], .bool true]) (by simp [results, Tryz.results142, go_sem, q0, q1, q2]) rfl ⟨g1, rfl, by have := HG.out; rw [World.size_alloc] at this; omega, ?_, ?_⟩
  · exact HB1.out.fr (S := [w.heap.size]) ((((Fr.refl _ w1).set (by simp) _).set (by simp) _).set (by simp) _) (by simpa using HNE.out)
  · exact Fr.step HF2.out (S' := [w.heap.size]) ((((Fr.refl _ w1).set (by simp) _).set (by simp) _).set (by simp) _) (by simp)
theorem sAt0 (sb : Nat) (w : World) :
    Calls Tryz.prog 142 #[.pointer (some ⟨sb, 0, none⟩), .int .i64 0] w fun e w' => e = .returned (.tuple #[.agg #[.int .i64 0, .int .i64 0, .slice none 0 0], .bool false]) ∧ Fr [] w w' := by
  have hF0 : Fr [] w (w.alloc (.cells #[.int .i64 0, .int .i64 0, .slice none 0 0] 95)) := (Fr.refl _ w).alloc _
  have HF0 := hid hF0
  clear hF0
  go_enter Tryz.func142, Tryz.ntmps142
  go_wp2_with fail
  exact bodyPost_ret (v := .tuple #[.agg #[.int .i64 0, .int .i64 0, .slice none 0 0], .bool false]) (by simp [results, Tryz.results142, go_sem]) rfl ⟨rfl, HF0.out⟩
def topF (fs : List Fm) (n : Nat) : Option Fm := if n = 0 then none else fs[n - 1]?
def AtPost (w : World) (f : Option Fm) (e : Ending) (w' : World) : Prop :=
  Fr [] w w' ∧ match f with
    | none => e = .returned (.tuple #[.agg #[.int .i64 0, .int .i64 0, .slice none 0 0], .bool false])
    | some f => ∃ g, e = .returned (.tuple #[.agg #[.int .i64 f.k, .int .i64 f.n, .slice (some ⟨g, 0, none⟩) f.l.length f.l.length], .bool true]) ∧ w.heap.size ≤ g ∧ Blk w' g (f.l.map (.int .i64)) 2
theorem sAtN (sb : Nat) (s : Sk) (P : Nat → Prop) (n : Nat) (w : World) (h : SkRep w P sb s) (hn : n ≤ s.fs.length) :
    Calls Tryz.prog 142 #[.pointer (some ⟨sb, 0, none⟩), .int .i64 n] w (AtPost w (topF s.fs n)) := by
  cases n with
  | zero =>
    refine (sAt0 sb w).mono ?_
    rintro e w' ⟨rfl, hF⟩
    exact ⟨hF, rfl⟩
  | succ n =>
    have hf : s.fs[n]? = some s.fs[n] := List.getElem?_eq_getElem (by omega)
    have e : topF s.fs (n + 1) = some s.fs[n] := by simp [topF]
    rw [e]
    refine (sAt sb s P n _ w h hf).mono ?_
    rintro e w' ⟨g, rfl, h1, h2, h3⟩
    exact ⟨h3, g, rfl, h1, h2⟩
theorem sBegin (sb : Nat) (s : Sk) (P : Nat → Prop) (w : World) (h : SkRep w P sb s) (hP : ¬ P sb) :
    Calls Tryz.prog 47 #[.pointer (some ⟨sb, 0, none⟩)] w fun e w' => e = .returned (.tuple #[]) ∧ SkRep w' P sb { s with todo := s.fs.length } ∧ Fr [sb] w w' := by
  obtain ⟨lv, hB, hx⟩ := h
  obtain ⟨A, c, rfl, hc, hl, hxx⟩ := id hx
  have c0 := hB.cell (i := 0) rfl
  have c3 := hB.cell (i := 3) rfl
  have z3 := hB.frozen 3
  have hF : Fr [sb] w (w.setCell ⟨sb, 3, none⟩ (.int .i64 s.fs.length)) := (Fr.refl _ w).set (by simp) _
  have HB := hid (hB.set 3 (.int .i64 s.fs.length))
  have HX := hid (hx.fr hF (fun g hg _ hc => hP (by rw [← List.mem_singleton.1 hc]; exact hg)))
  have HF := hid hF
  clear hB hx hF hxx
  go_enter Tryz.func47, Tryz.ntmps47
  go_wp2_with fail
  go_end0
  exact ⟨rfl, ⟨_, HB.out, HX.out⟩, HF.out⟩
end Go.Proofs.YtklnpooninbogaaGreat
