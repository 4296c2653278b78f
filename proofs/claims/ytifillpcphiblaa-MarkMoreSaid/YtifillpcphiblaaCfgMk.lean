import Derived.Test.YtifillpcphiblaaPBuilt3
import Derived.Test.YtifillpcphiblaaCfg
import Derived.Deep.Slices
namespace Go.Proofs.Ytifillpcphiblaa
open Go Go.Proofs Go.RowKit Go.ChangeShapes Go.WideShapes Go.ChangeAt Go.Joins Go.Deep

theorem cells_make : Try.prog.cellsOf 170 = 3 := by kernel_rfl
instance : Inhabited Mk := ⟨⟨0, 0, .slice none 0 0, []⟩⟩

set_option maxRecDepth 100000 in
/-- A slice of objects to be made that came in. -/
theorem open_makes {H : Type} {enc : TypeId × Value → H} {W : World} {fuel : Nat} {cs : List Value} {x : DataW H × List MemPlace}
    (h : DataW.trod enc Try.prog W 0 (fun _ => true) true fuel 93 cs = some x) : ∃ sv ms, cs = [sv] ∧ MkArg W sv ms := by
  rcases open_slice Try.underlying93 h with ⟨rfl, _⟩ | ⟨a, len, cap, m, n, D, Pl, rfl, hb, hl, hm, hmm, -, hx⟩
  · exact ⟨_, [], rfl, .inl ⟨rfl, rfl⟩, fun x hx => by cases hx⟩
  · simp only [if_true] at hmm
    by_cases h0 : len = 0
    · subst h0; exact ⟨_, [], rfl, .inr (.inl ⟨a, cap, rfl, rfl⟩), fun x hx => by cases hx⟩
    · have each : ∀ i, i < len → ∃ q : Mk, (W.cell? (a.add (i * 3)) = some (.int .i64 q.k) ∧ W.cell? ((a.add (i * 3)).add 1) = some (.int .i64 q.n) ∧ W.cell? ((a.add (i * 3)).add 2) = some q.tv) ∧ SlArg W q.tv q.tos := by
        intro i hi
        obtain ⟨cs', h1, h2⟩ := hx i (by omega)
        rw [cells_make] at h1
        obtain ⟨_, hlen, hcell⟩ := World.cells?_some h1
        obtain ⟨xs, k, hk, hxy, _, hxl, hf⟩ := DataW.trod_struct Try.underlying170 h2
        match xs, hxl, cs', hlen with
        | [y0, y1, y2], _, [v0, v1, v2], _ =>
          have g0 := hf 0 _ rfl
          have g1 := hf 1 _ rfl
          have g2 := hf 2 _ rfl
          obtain ⟨x0, e0, -, -⟩ := DataW.trod_int (cs := [v0]) (x := y0) Try.underlying3 (by simpa [cells_int] using g0)
          obtain ⟨x1, e1, -, -⟩ := DataW.trod_int (cs := [v1]) (x := y1) Try.underlying3 (by simpa [cells_int] using g1)
          obtain ⟨sv, cls, e2, hs⟩ := open_sl (cs := [v2]) (x := y2) (fuel := k) (by simpa [cells_ints] using g2)
          simp only [List.cons.injEq, and_true] at e0 e1 e2
          subst e0 e1 e2
          have c0 := hcell 0 (by omega)
          have c1 := hcell 1 (by omega)
          have c2 := hcell 2 (by omega)
          rw [add_add, Nat.add_zero] at c0
          exact ⟨⟨x0, x1, v2, cls⟩, ⟨by simpa using c0, by simpa using c1, by simpa using c2⟩, hs⟩
      obtain ⟨q, hq⟩ := choose_lt each
      obtain ⟨b, off, spot⟩ := a
      have hsp : spot = none := by
        have := (hq 0 (by omega)).1.1
        simpa [Addr.add] using World.cell?_spot this
      subst hsp
      have hadd : ∀ b o i, (⟨b, o, none⟩ : Addr).add i = ⟨b, o + i, none⟩ := fun b o i => by rw [← Go.WideShapes.add_plain]
      simp only [hadd] at hq
      refine ⟨_, (List.range len).map q, rfl, .inr (.inr ⟨b, off, cap, by simp, ⟨?_, ?_⟩⟩), fun x hx => ?_⟩
      · exact World.block_lt_of_cell? W _ (hq 0 (by omega)).1.1
      · intro i v hv
        have hlm : ((List.range len).map q).length = len := by simp
        have hi3 : i / 3 < len := by
          have h1 := (List.getElem?_eq_some_iff.1 hv).1
          have h2 : (mkc ((List.range len).map q)).length = 3 * len := by
            have : ∀ l : List Mk, (mkc l).length = 3 * l.length := by
              intro l
              induction l with
              | nil => rfl
              | cons a l ih => simp [mkc] at ih ⊢; omega
            rw [this, hlm]
          omega
        obtain ⟨j, hj⟩ : ∃ j, j = i / 3 := ⟨_, rfl⟩
        rw [← hj] at hi3
        have hg : ((List.range len).map q)[j]? = some (q j) := by simp [hi3]
        obtain ⟨m0, m1, m2⟩ := mkc_get hg
        obtain ⟨⟨r0, r1, r2⟩, -⟩ := hq j hi3
        have h3 : i = j * 3 ∨ i = j * 3 + 1 ∨ i = j * 3 + 2 := by omega
        clear hj
        rcases h3 with rfl | rfl | rfl
        · rw [m0] at hv
          cases hv
          exact r0
        · rw [m1] at hv
          cases hv
          rw [← Nat.add_assoc]; exact r1
        · rw [m2] at hv
          cases hv
          rw [← Nat.add_assoc]; exact r2
      · obtain ⟨i, hi, rfl⟩ := List.mem_map.1 hx
        exact (hq i (List.mem_range.1 hi)).2

set_option maxRecDepth 100000 in
theorem open_makes_arg {H : Type} {enc : TypeId × Value → H} {W : World} {r : Reach} {b0 : Nat} {v : Value} {d : DataW H} {p : List MemPlace}
    (hv : Value.okWide Try.prog W r b0 93 v) (h : DataW.Trod enc Try.prog W 0 (fun _ => true) true 93 v d p) : ∃ ms, MkArg W v ms := by
  obtain ⟨a, len, cap, rfl⟩ := okWide_slice Try.underlying93 hv
  obtain ⟨fuel, hf⟩ := h
  obtain ⟨sv, ms, e, hs⟩ := open_makes hf
  have e' : [Value.slice a len cap] = [sv] := e
  cases e'
  exact ⟨ms, hs⟩
end Go.Proofs.Ytifillpcphiblaa
