
import Derived.Test.YtklnpooninbogaaGreatCfg
import Derived.Test.YtklnpooninbogaaGreatRows
import Derived.ProofKit
import Derived.Deep.Grids
namespace Go.Proofs.YtklnpooninbogaaGreat
open Go Go.Proofs Go.RowKit Go.ChangeShapes Go.WideShapes Go.ChangeAt Go.Joins Go.Deep
theorem own : ownKnob Tryz.prog.godebug = none := by kernel_rfl
theorem laidB : laidOutB Tryz.prog = true := by kernel_rfl
theorem read_cfg : Tryz.prog.readableRec 24 = true := by kernel_rfl
theorem row_cfg : 24 < Tryz.prog.types.size := of_decide_eq_true (by kernel_rfl)
theorem read_ints : Tryz.prog.readableRec 22 = true := by kernel_rfl
theorem row_ints : 22 < Tryz.prog.types.size := of_decide_eq_true (by kernel_rfl)
theorem open_sl' {H : Type} {enc : TypeId × Value → H} {W : World} {fuel : Nat} {cs : List Value} {x : DataW H × List MemPlace}
    (h : DataW.trod enc Tryz.prog W 0 (fun _ => true) true fuel 22 cs = some x) : ∃ sv xs, cs = [sv] ∧ SlArg W sv xs ∧ ∀ y ∈ xs, -9223372036854775808 ≤ y ∧ y ≤ 9223372036854775807 := by
  rcases open_ints Tryz.underlying22 Tryz.underlying3 cells_int h with ⟨rfl, _⟩ | ⟨a, len, cap, zs, rfl, _, hl, hm, hz, _, hcell, hwf⟩
  · exact ⟨_, [], rfl, .inl ⟨rfl, rfl⟩, fun y hy => (by cases hy)⟩
  · simp only [if_true] at hz
    by_cases h0 : len = 0
    · subst h0; exact ⟨_, [], rfl, .inr (.inl ⟨a, cap, rfl, rfl⟩), fun y hy => (by cases hy)⟩
    · obtain ⟨b, off, rfl, hc⟩ := ints_at hcell (by omega)
      refine ⟨_, zs.take len, rfl, .inr (.inr ⟨b, off, cap, ?_, ⟨?_, ?_⟩, ?_⟩), fun y hy => bounds_i64 (hwf y (List.mem_of_mem_take hy))⟩
      · rw [List.length_take, Nat.min_eq_left (by omega)]
      · exact World.block_lt_of_cell? W _ (hc 0 (by omega))
      · intro i v hv
        rw [List.getElem?_map, Option.map_eq_some_iff] at hv
        obtain ⟨y, hy, rfl⟩ := hv
        rw [List.getElem?_take] at hy
        split at hy
        · rw [hc i (by omega)]; simp [hy]
        · cases hy
      · rw [List.length_take]; omega
set_option maxRecDepth 100000 in
theorem open_ints_arg' {H : Type} {enc : TypeId × Value → H} {W : World} {r : Reach} {b0 : Nat} {v : Value} {d : DataW H} {p : List MemPlace}
    (hv : Value.okWide Tryz.prog W r b0 22 v) (h : DataW.Trod enc Tryz.prog W 0 (fun _ => true) true 22 v d p) : ∃ xs, SlArg W v xs ∧ ∀ y ∈ xs, -9223372036854775808 ≤ y ∧ y ≤ 9223372036854775807 := by
  obtain ⟨a, len, cap, rfl⟩ := okWide_slice Tryz.underlying22 hv
  obtain ⟨fuel, hf⟩ := h
  obtain ⟨sv, xs, e, hs⟩ := open_sl' hf
  have e' : [Value.slice a len cap] = [sv] := e
  cases e'
  exact ⟨xs, hs⟩
end Go.Proofs.YtklnpooninbogaaGreat
