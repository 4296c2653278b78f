import Derived.Test.YtifillpcphiblaaGreatCfg
import Derived.Deep.Slices
namespace Go.Proofs.YtifillpcphiblaaGreat
open Go Go.Proofs Go.RowKit Go.ChangeShapes Go.WideShapes Go.ChangeAt Go.Joins Go.Deep

/-! A slice of ref06's acts that came in. -/

structure Ac6 where
  kd : Int
  o : Int
  a : Int
  b : Int
  n : Int
  wd : Int
instance : Inhabited Ac6 := ⟨⟨0, 0, 0, 0, 0, 0⟩⟩
def AcAt (w : World) (b o : Nat) (x : Ac6) : Prop := w.cell? ⟨b, o, none⟩ = some (.int .i64 x.kd) ∧ w.cell? ⟨b, o + 1, none⟩ = some (.int .i64 x.o) ∧ w.cell? ⟨b, o + 2, none⟩ = some (.int .i64 x.a) ∧ w.cell? ⟨b, o + 3, none⟩ = some (.int .i64 x.b) ∧ w.cell? ⟨b, o + 4, none⟩ = some (.int .i64 x.n) ∧ w.cell? ⟨b, o + 5, none⟩ = some (.int .i64 x.wd)
def AcArg (w : World) (sv : Value) (l : List Ac6) : Prop :=
  (sv = .slice none 0 0 ∧ l = []) ∨ (∃ a cap, sv = .slice (some a) 0 cap ∧ l = []) ∨ ∃ b o cap, sv = .slice (some ⟨b, o, none⟩) l.length cap ∧ b < w.heap.size ∧ ∀ i x, l[i]? = some x → AcAt w b (o + i * 6) x
theorem AcArg.fr {w w' : World} {sv : Value} {l : List Ac6} (h : AcArg w sv l) (hf : Fr [] w w') : AcArg w' sv l := by
  rcases h with h | h | ⟨b, o, cap, e, hl, hc⟩
  · exact .inl h
  · exact .inr (.inl h)
  · refine .inr (.inr ⟨b, o, cap, e, Nat.lt_of_lt_of_le hl hf.size, fun i x hx => ?_⟩)
    obtain ⟨h0, h1, h2, h3, h4, h5⟩ := hc i x hx
    exact ⟨(cell_fr hf (by simp) hl _).trans h0, (cell_fr hf (by simp) hl _).trans h1, (cell_fr hf (by simp) hl _).trans h2, (cell_fr hf (by simp) hl _).trans h3, (cell_fr hf (by simp) hl _).trans h4, (cell_fr hf (by simp) hl _).trans h5⟩
theorem AcArg.form {w : World} {sv : Value} {l : List Ac6} (h : AcArg w sv l) : ∃ p cap, sv = .slice p l.length cap := by
  rcases h with ⟨e1, e2⟩ | ⟨p, cap, e1, e2⟩ | ⟨b, o, cap, e, _⟩
  · exact ⟨none, 0, by rw [e1, e2]; rfl⟩
  · exact ⟨some p, cap, by rw [e1, e2]; rfl⟩
  · exact ⟨_, cap, e⟩
theorem AcArg.at {w : World} {p : Option Addr} {n cap : Nat} {l : List Ac6} (h : AcArg w (.slice p n cap) l) {i : Nat} {x : Ac6} (hx : l[i]? = some x) : ∃ b o, p = some ⟨b, o, none⟩ ∧ AcAt w b (o + i * 6) x := by
  rcases h with ⟨_, e⟩ | ⟨_, _, _, e⟩ | ⟨b, o, cap', e, _, hc⟩
  · rw [e] at hx; simp at hx
  · rw [e] at hx; simp at hx
  · cases e; exact ⟨b, o, rfl, hc i x hx⟩

theorem cells_act6 : Tryz.prog.cellsOf 36 = 6 := by kernel_rfl
theorem cells_int64 : Tryz.prog.cellsOf 2 = 1 := by kernel_rfl

set_option maxRecDepth 100000 in
theorem open_acts {H : Type} {enc : TypeId × Value → H} {W : World} {fuel : Nat} {cs : List Value} {x : DataW H × List MemPlace}
    (h : DataW.trod enc Tryz.prog W 0 (fun _ => true) true fuel 25 cs = some x) : ∃ sv l, cs = [sv] ∧ AcArg W sv l := by
  rcases open_slice Tryz.underlying25 h with ⟨rfl, _⟩ | ⟨a, len, cap, m, n, D, Pl, rfl, hb, hl, hm, hmm, -, hx⟩
  · exact ⟨_, [], rfl, .inl ⟨rfl, rfl⟩⟩
  · simp only [if_true] at hmm
    by_cases h0 : len = 0
    · subst h0; exact ⟨_, [], rfl, .inr (.inl ⟨a, cap, rfl, rfl⟩)⟩
    · have each : ∀ i, i < len → ∃ q : Ac6, W.cell? (a.add (i * 6)) = some (.int .i64 q.kd) ∧ W.cell? ((a.add (i * 6)).add 1) = some (.int .i64 q.o) ∧ W.cell? ((a.add (i * 6)).add 2) = some (.int .i64 q.a) ∧ W.cell? ((a.add (i * 6)).add 3) = some (.int .i64 q.b) ∧ W.cell? ((a.add (i * 6)).add 4) = some (.int .i64 q.n) ∧ W.cell? ((a.add (i * 6)).add 5) = some (.int .i64 q.wd) := by
        intro i hi
        obtain ⟨cs', h1, h2⟩ := hx i (by omega)
        rw [cells_act6] at h1
        obtain ⟨_, hlen, hcell⟩ := World.cells?_some h1
        obtain ⟨xs, k, hk, hxy, _, hxl, hf⟩ := DataW.trod_struct Tryz.underlying36 h2
        match xs, hxl, cs', hlen with
        | [y0, y1, y2, y3, y4, y5], _, [v0, v1, v2, v3, v4, v5], _ =>
          have g0 := hf 0 _ rfl
          have g1 := hf 1 _ rfl
          have g2 := hf 2 _ rfl
          have g3 := hf 3 _ rfl
          have g4 := hf 4 _ rfl
          have g5 := hf 5 _ rfl
          obtain ⟨x0, e0, -, -⟩ := DataW.trod_int (cs := [v0]) (x := y0) Tryz.underlying3 (by simpa [cells_int] using g0)
          obtain ⟨x1, e1, -, -⟩ := DataW.trod_int (cs := [v1]) (x := y1) Tryz.underlying3 (by simpa [cells_int] using g1)
          obtain ⟨x2, e2, -, -⟩ := DataW.trod_int (cs := [v2]) (x := y2) Tryz.underlying3 (by simpa [cells_int] using g2)
          obtain ⟨x3, e3, -, -⟩ := DataW.trod_int (cs := [v3]) (x := y3) Tryz.underlying3 (by simpa [cells_int] using g3)
          obtain ⟨x4, e4, -, -⟩ := DataW.trod_int (cs := [v4]) (x := y4) Tryz.underlying3 (by simpa [cells_int] using g4)
          obtain ⟨x5, e5, -, -⟩ := DataW.trod_int (cs := [v5]) (x := y5) Tryz.underlying2 (by simpa [cells_int64, cells_int] using g5)
          simp only [List.cons.injEq, and_true] at e0 e1 e2 e3 e4 e5
          subst e0 e1 e2 e3 e4 e5
          have c0 := hcell 0 (by omega)
          have c1 := hcell 1 (by omega)
          have c2 := hcell 2 (by omega)
          have c3 := hcell 3 (by omega)
          have c4 := hcell 4 (by omega)
          have c5 := hcell 5 (by omega)
          rw [add_add, Nat.add_zero] at c0
          exact ⟨⟨x0, x1, x2, x3, x4, x5⟩, by simpa using c0, by simpa using c1, by simpa using c2, by simpa using c3, by simpa using c4, by simpa using c5⟩
      obtain ⟨q, hq⟩ := choose_lt each
      obtain ⟨b, off, spot⟩ := a
      have hsp : spot = none := by
        have := (hq 0 (by omega)).1
        simpa [Addr.add] using World.cell?_spot this
      subst hsp
      have hadd : ∀ b o i, (⟨b, o, none⟩ : Addr).add i = ⟨b, o + i, none⟩ := fun b o i => by rw [← Go.WideShapes.add_plain]
      simp only [hadd] at hq
      refine ⟨_, (List.range len).map q, rfl, .inr (.inr ⟨b, off, cap, by simp, World.block_lt_of_cell? W _ (hq 0 (by omega)).1, fun i x hx => ?_⟩)⟩
      rw [List.getElem?_map, Option.map_eq_some_iff] at hx
      obtain ⟨j, hj, rfl⟩ := hx
      have hl := (List.getElem?_eq_some_iff.1 hj).1
      rw [List.length_range] at hl
      rw [List.getElem?_range hl] at hj
      cases hj
      exact hq i hl

set_option maxRecDepth 100000 in
theorem open_acts_arg {H : Type} {enc : TypeId × Value → H} {W : World} {r : Reach} {b0 : Nat} {v : Value} {d : DataW H} {p : List MemPlace}
    (hv : Value.okWide Tryz.prog W r b0 25 v) (h : DataW.Trod enc Tryz.prog W 0 (fun _ => true) true 25 v d p) : ∃ l, AcArg W v l := by
  obtain ⟨a, len, cap, rfl⟩ := okWide_slice Tryz.underlying25 hv
  obtain ⟨fuel, hf⟩ := h
  obtain ⟨sv, l, e, hs⟩ := open_acts hf
  have e' : [Value.slice a len cap] = [sv] := e
  cases e'
  exact ⟨l, hs⟩
end Go.Proofs.YtifillpcphiblaaGreat
