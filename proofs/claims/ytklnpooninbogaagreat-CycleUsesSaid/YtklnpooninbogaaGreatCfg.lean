
import Derived.Test.YtklnpooninbogaaGreatMMHNew
import Derived.Lib.SmallJoins
namespace Go.Proofs.YtklnpooninbogaaGreat
open Go Go.Proofs Go.RowKit Go.ChangeShapes Go.WideShapes Go.ChangeAt Go.Joins Go.Deep
theorem cells_cfg : Tryz.prog.cellsOf 24 = 7 := by kernel_rfl
theorem cells_int : Tryz.prog.cellsOf 3 = 1 := by kernel_rfl
theorem cells_ints : Tryz.prog.cellsOf 22 = 1 := by kernel_rfl
theorem array7 {α : Type} {cs : Array α} (h : cs.size = 7) : ∃ c0 c1 c2 c3 c4 c5 c6, cs = #[c0, c1, c2, c3, c4, c5, c6] := by
  obtain ⟨l⟩ := cs
  match l, h with
  | [c0, c1, c2, c3, c4, c5, c6], _ => exact ⟨c0, c1, c2, c3, c4, c5, c6, rfl⟩
theorem open_sl {H : Type} {enc : TypeId × Value → H} {W : World} {fuel : Nat} {cs : List Value} {x : DataW H × List MemPlace}
    (h : DataW.trod enc Tryz.prog W 0 (fun _ => true) true fuel 22 cs = some x) : ∃ sv xs, cs = [sv] ∧ SlArg W sv xs := by
  rcases open_ints Tryz.underlying22 Tryz.underlying3 cells_int h with ⟨rfl, _⟩ | ⟨a, len, cap, zs, rfl, _, hl, hm, hz, _, hcell, _⟩
  · exact ⟨_, [], rfl, .inl ⟨rfl, rfl⟩⟩
  · simp only [if_true] at hz
    by_cases h0 : len = 0
    · subst h0; exact ⟨_, [], rfl, .inr (.inl ⟨a, cap, rfl, rfl⟩)⟩
    · obtain ⟨b, off, rfl, hc⟩ := ints_at hcell (by omega)
      refine ⟨_, zs.take len, rfl, .inr (.inr ⟨b, off, cap, ?_, ⟨?_, ?_⟩, ?_⟩)⟩
      · rw [List.length_take, Nat.min_eq_left (by omega)]
      · exact World.block_lt_of_cell? W _ (hc 0 (by omega))
      · intro i v hv
        rw [List.getElem?_map, Option.map_eq_some_iff] at hv
        obtain ⟨y, hy, rfl⟩ := hv
        rw [List.getElem?_take] at hy
        split at hy
        · rw [hc i (by omega)]; simp [hy]
        · cases hy
      · rw [List.length_take]; omega
-- A configuration that came in.
set_option maxRecDepth 100000 in
theorem open_cfg {H : Type} {enc : TypeId × Value → H} {W : World} {r : Reach} {b0 : Nat} {v : Value} {d : DataW H} {p : List MemPlace}
    (hv : Value.okWide Tryz.prog W r b0 24 v) (h : DataW.Trod enc Tryz.prog W 0 (fun _ => true) true 24 v d p) :
    ∃ (x0 x1 x2 x3 x4 x5 : Int) (sv : Value) (cls : List Int), v = .agg #[.int .i64 x0, .int .i64 x1, .int .i64 x2, .int .i64 x3, .int .i64 x4, .int .i64 x5, sv] ∧ SlArg W sv cls := by
  obtain ⟨cs, rfl, hsz⟩ := okWide_struct Tryz.underlying24 hv
  obtain ⟨c0, c1, c2, c3, c4, c5, c6, rfl⟩ := array7 (hsz.trans cells_cfg)
  obtain ⟨fuel, hf⟩ := h
  obtain ⟨xs, n, _, _, hl, hlen, hfs⟩ := DataW.trod_struct Tryz.underlying24 hf
  have f0 := hfs 0 _ rfl
  have f1 := hfs 1 _ rfl
  have f2 := hfs 2 _ rfl
  have f3 := hfs 3 _ rfl
  have f4 := hfs 4 _ rfl
  have f5 := hfs 5 _ rfl
  have f6 := hfs 6 _ rfl
  simp only [Value.cells] at f0 f1 f2 f3 f4 f5 f6
  match xs, hlen with
  | [y0, y1, y2, y3, y4, y5, y6], _ =>
    obtain ⟨x0, e0, -, -⟩ := DataW.trod_int (cs := [c0]) (x := y0) (fuel := n) Tryz.underlying3 (by simpa [cells_int] using f0)
    obtain ⟨x1, e1, -, -⟩ := DataW.trod_int (cs := [c1]) (x := y1) (fuel := n) Tryz.underlying3 (by simpa [cells_int] using f1)
    obtain ⟨x2, e2, -, -⟩ := DataW.trod_int (cs := [c2]) (x := y2) (fuel := n) Tryz.underlying3 (by simpa [cells_int] using f2)
    obtain ⟨x3, e3, -, -⟩ := DataW.trod_int (cs := [c3]) (x := y3) (fuel := n) Tryz.underlying3 (by simpa [cells_int] using f3)
    obtain ⟨x4, e4, -, -⟩ := DataW.trod_int (cs := [c4]) (x := y4) (fuel := n) Tryz.underlying3 (by simpa [cells_int] using f4)
    obtain ⟨x5, e5, -, -⟩ := DataW.trod_int (cs := [c5]) (x := y5) (fuel := n) Tryz.underlying3 (by simpa [cells_int] using f5)
    obtain ⟨sv, cls, e6, hs⟩ := open_sl (cs := [c6]) (x := y6) (fuel := n) (by simpa [cells_ints] using f6)
    simp only [List.cons.injEq, and_true] at e0 e1 e2 e3 e4 e5 e6
    subst e0 e1 e2 e3 e4 e5 e6
    exact ⟨_, _, _, _, _, _, _, cls, rfl, hs⟩
end Go.Proofs.YtklnpooninbogaaGreat
