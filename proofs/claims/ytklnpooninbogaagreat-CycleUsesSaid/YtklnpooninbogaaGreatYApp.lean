
import Derived.Test.YtklnpooninbogaaGreatYStk
import Derived.Test.YtklnpooninbogaaGreatMMHeapAlloc
import Derived.Maps.AppendAt
namespace Go.Proofs.YtklnpooninbogaaGreat
open Go Go.Proofs Go.RowKit
theorem infoFm : (Tryz.prog.info? 95).map (fun i => (i.zero, i.size, i.bytes)) = some (some (.agg #[.int .i64 0, .int .i64 0, .slice none 0 0]), 3, 40) := by kernel_rfl
theorem fms_cells {w : World} {P : Nat → Prop} {A : Option Addr} {c : Nat} {fs : List Fm} (h : FmsV w P (.slice A fs.length c) fs) (b : Addr) (hA : A = some b) : ∃ olds : List Value, olds.length = fs.length * 3 ∧ ∀ j u, olds[j]? = some u → w.cell? (b.add j) = some u := by
  obtain ⟨A', c', e, -, hl, hx⟩ := h
  cases e
  refine ⟨(List.range (fs.length * 3)).map fun j => (w.cell? (b.add j)).getD (.int .i64 0), by simp, fun j u hu => ?_⟩
  rw [List.getElem?_map, Option.map_eq_some_iff] at hu
  obtain ⟨j', hj, rfl⟩ := hu
  obtain ⟨hj1, hj2⟩ := List.getElem?_eq_some_iff.1 hj
  simp at hj1 hj2
  subst hj2
  have hi : j / 3 < fs.length := by omega
  obtain ⟨g, o, e, -, -, f0, f1, sv, f2, -⟩ := hx (j / 3) _ (List.getElem?_eq_getElem hi)
  rw [hA] at e
  cases e
  rw [Addr.add_lit]
  have hr : j % 3 = 0 ∨ j % 3 = 1 ∨ j % 3 = 2 := by omega
  rcases hr with h | h | h
  · rw [show o + j / 3 * 3 = o + j by omega] at f0; rw [f0]; rfl
  · rw [show o + j / 3 * 3 + 1 = o + j by omega] at f1; rw [f1]; rfl
  · rw [show o + j / 3 * 3 + 2 = o + j by omega] at f2; rw [f2]; rfl
theorem own_cellsF {w : World} {base : Nat} {e : TypeId} {v : Value} {n : Nat} {xs : List Value} (h : w.ownsRow base e 3 v (n + 1) xs) : ∃ g cap, v = .slice (some ⟨g, 0, none⟩) (n + 1) cap ∧ base ≤ g ∧ g < w.heap.size ∧ n + 1 ≤ cap ∧ ∀ (i : Nat) u, xs[i]? = some u → w.cell? ⟨g, i, none⟩ = some u := by
  obtain ⟨hl, h | ⟨g, cap, cur, hv, hg, hh, hc, -, hcs, ht⟩⟩ := h
  · omega
  · refine ⟨g, cap, hv, hg, (Array.getElem?_eq_some_iff.1 hh).1, hc, fun i u hu => ?_⟩
    rw [← ht] at hu
    have : cur[i]? = some u := by
      rw [List.getElem?_take] at hu
      split at hu
      · simpa using hu
      · cases hu
    simp [World.cell?, hh, this]
theorem run_appFm {w : World} {P : Nat → Prop} {A : Option Addr} {fs : List Fm} (ty : TypeId) (h : FmsV w P (.slice A fs.length fs.length) fs) (hnil : A = none → fs = []) (ad : Addr) (c1 : Nat) (f : Fm) (sv : Value) (hsr : ∀ j u, [Value.int .i64 f.k, .int .i64 f.n, sv][j]? = some u → w.cell? (ad.add j) = some u) (hsv : RdS w P sv f.l)
    (hnew : ∀ g, w.heap.size ≤ g → P g) (hle : fs.length ≤ 1000) :
    ∃ v' w', (Builtin.append_ #[126, 126] ty #[.slice A fs.length fs.length, .slice (some ad) 1 c1]).run Tryz.prog w = .ok v' w' ∧ FmsV w' P v' (fs ++ [f]) ∧ Fr [] w w' := by
  obtain ⟨i, hi, hz0, hz1, hz2⟩ := info_parts infoFm
  have main : ∀ (olds : List Value) v' w', olds.length = fs.length * 3 → (∀ b, A = some b → ∀ j u, olds[j]? = some u → w.cell? (b.add j) = some u) → w'.ownsRow w.heap.size 95 3 v' (fs.length + 1) (olds ++ [Value.int .i64 f.k, .int .i64 f.n, sv]) → Fr [] w w' → FmsV w' P v' (fs ++ [f]) := by
    intro olds v' w' hlo holds hown hF
    obtain ⟨g, cap, rfl, hg, hgl, hcap, hcell⟩ := own_cellsF hown
    refine ⟨some ⟨g, 0, none⟩, cap, by simp, by simpa using hcap, by simp; omega, fun k x hx => ?_⟩
    refine ⟨g, 0, rfl, hnew g hg, hgl, ?_⟩
    rw [Nat.zero_add]
    by_cases hk : k < fs.length
    · rw [List.getElem?_append_left hk] at hx
      obtain ⟨A', c', e, -, -, hxx⟩ := id h
      cases e
      obtain ⟨g0, o0, e0, hp0, hl0, f0, f1, sv0, f2, hs0⟩ := hxx k x hx
      have ho := holds _ e0
      have key : ∀ r u, r < 3 → w.cell? ⟨g0, o0 + k * 3 + r, none⟩ = some u → w'.cell? ⟨g, k * 3 + r, none⟩ = some u := by
        intro r u hr hu
        have hj : k * 3 + r < olds.length := by omega
        have h1 := ho (k * 3 + r) _ (List.getElem?_eq_getElem hj)
        rw [Addr.add_lit, ← Nat.add_assoc, hu] at h1
        refine hcell _ _ ?_
        rw [List.getElem?_append_left hj, List.getElem?_eq_getElem hj, ← h1]
      exact ⟨key 0 _ (by omega) f0, key 1 _ (by omega) f1, sv0, key 2 _ (by omega) f2, hs0.fr hF (by simp)⟩
    · have hk2 : k = fs.length := by
        have := (List.getElem?_eq_some_iff.1 hx).1
        simp at this; omega
      subst hk2
      simp at hx
      subst hx
      have key : ∀ r u, [Value.int .i64 f.k, .int .i64 f.n, sv][r]? = some u → w'.cell? ⟨g, fs.length * 3 + r, none⟩ = some u := by
        intro r u hu
        refine hcell _ _ ?_
        rw [List.getElem?_append_right (by omega), hlo, Nat.add_sub_cancel_left]
        exact hu
      exact ⟨key 0 _ rfl, key 1 _ rfl, sv, key 2 _ rfl, hsv.fr hF (by simp)⟩
  have h1 : ∀ u ∈ [Value.int .i64 f.k, .int .i64 f.n, sv], u.oneCell' = true := by
    obtain ⟨A2, c2, rfl, -, -⟩ := hsv
    simp [Value.oneCell']
  cases A with
  | none =>
    have hf := hnil rfl
    subst hf
    obtain ⟨v', w', hr, hown, hg, -, -⟩ := run_append_own_at (P := Tryz.prog) w w.heap.size 126 ty 95 i _ 3 40 Tryz.underlying126 hi hz0 hz1 hz2 rfl (by decide) (.slice none 0 0) 0 [] ⟨rfl, .inl ⟨rfl, rfl⟩⟩ ad 1 c1 _ rfl hsr h1 (by decide) (by decide) (Nat.le_refl _)
    have hF : Fr [] w w' := Fr.of_grownBy hg (by intro k hk; simp [Value.ownBlock] at hk)
    exact ⟨v', w', hr, main [] v' w' rfl (fun b e => by cases e) hown hF, hF⟩
  | some b =>
    obtain ⟨olds, ho1, ho2⟩ := fms_cells h b rfl
    obtain ⟨v', w', hr, hown, hg⟩ := run_append_arg_grows (P := Tryz.prog) w 126 ty 95 i _ 3 40 Tryz.underlying126 hi hz0 hz1 hz2 rfl (by decide) b fs.length fs.length olds ho1 ho2 ad 1 c1 _ rfl hsr (by omega) (by simp [maxLen]; omega) (by omega)
    have hF : Fr [] w w' := Fr.of_grownBy hg (by intro k hk; cases hk)
    exact ⟨v', w', hr, main olds v' w' ho1 (fun b' e => by cases e; exact ho2) hown hF, hF⟩
theorem step_appFm {ops : Array Oper} {o : Oper} {a : Act} {w : World} {K : Act → World → Prop} {Q : Exit → Act → World → Prop} {E : Prop}
    (hg : o.guard = none) (s x : Operand) (hop : o.op = Op.call { callee := Callee.builtin Builtin.append, args := #[s, x], argTypes := #[126, 126] })
    (P : Nat → Prop) (A : Option Addr) (N : Nat) (fs : List Fm) (hs : a.eval s = .slice A N N) (hN : N = fs.length) (h : FmsV w P (.slice A fs.length fs.length) fs) (hnil : A = none → fs = []) (ad : Addr) (c1 : Nat) (f : Fm) (sv : Value) (hx : a.eval x = .slice (some ad) 1 c1)
    (hsr : ∀ j u, [Value.int .i64 f.k, .int .i64 f.n, sv][j]? = some u → w.cell? (ad.add j) = some u) (hsv : RdS w P sv f.l) (hnew : ∀ g, w.heap.size ≤ g → P g) (hle : fs.length ≤ 1000)
    (hK : ∀ v' w', FmsV w' P v' (fs ++ [f]) → Fr [] w w' → K (a.put o.dst v') w') :
    if Region.wanted o (yielded ops a.tmps) = true then Oper.wp Tryz.prog o a w K Q else E := by
  have hw : Region.wanted o (yielded ops a.tmps) = true := by simp [Region.wanted, hg]
  rw [if_pos hw]
  subst hN
  obtain ⟨v', w', hr, h1, h2⟩ := run_appFm o.type h hnil ad c1 f sv hsr hsv hnew hle
  unfold Oper.wp
  simp [execOp, hop, resolve, invoke, builtin, hs, hx, hr, Result.andThen]
  exact hK v' w' h1 h2
end Go.Proofs.YtklnpooninbogaaGreat
