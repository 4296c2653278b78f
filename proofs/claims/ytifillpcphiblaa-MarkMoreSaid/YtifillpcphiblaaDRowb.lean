import Derived.Test.YtifillpcphiblaaDRow
import Derived.Maps.AppendAt
import Derived.Deep.RegionLaw
namespace Go.Proofs.Ytifillpcphiblaa
open Go Go.Proofs Go.RowKit

/-! Rows of bools (DRow's text, turned by program). -/

def bvs (l : List Bool) : List Value := l.map .bool
theorem bvs_len (l : List Bool) : (bvs l).length = l.length := by simp [bvs]
theorem bvs_get {l : List Bool} {j : Nat} {v : Value} (h : (bvs l)[j]? = some v) : ∃ x, l[j]? = some x ∧ v = .bool x := by
  simp only [bvs, List.getElem?_map, Option.map_eq_some_iff] at h
  obtain ⟨x, h1, h2⟩ := h
  exact ⟨x, h1, h2.symm⟩
theorem bvs_one (l : List Bool) : ∀ v ∈ bvs l, v.oneCell' = true := by
  intro v hv
  simp only [bvs, List.mem_map] at hv
  obtain ⟨x, _, rfl⟩ := hv
  rfl

/-- A row of ints that the document made. -/
def Rowb (w : World) (B : Nat) (v : Value) (l : List Bool) : Prop := w.ownsRow B 4 1 v l.length (bvs l)
theorem infoBool : (Try.prog.info? 4).map (fun i => (i.zero, i.size, i.bytes)) = some (some (.bool false), 1, 1) := by kernel_rfl

theorem Rowb.nil (w : World) (B : Nat) : Rowb w B (.slice none 0 0) [] := ⟨rfl, .inl ⟨rfl, rfl⟩⟩
theorem Rowb.fr {S : List Nat} {w w' : World} {B : Nat} {v : Value} {l : List Bool} (h : Rowb w B v l) (hf : Fr S w w') (hS : ∀ g, v.ownBlock = some g → g ∉ S) : Rowb w' B v l := by
  refine ⟨h.1, ?_⟩
  rcases h.2 with h0 | ⟨g, cap, cur, e1, e2, e3, e4⟩
  · exact .inl h0
  · subst e1
    refine .inr ⟨g, cap, cur, rfl, e2, ?_, e4⟩
    rw [hf.block g (Array.getElem?_eq_some_iff.1 e3).1 (hS g rfl)]
    exact e3
theorem Rowb.fr' {S : List Nat} {w w' : World} {B : Nat} {v : Value} {l : List Bool} (h : Rowb w B v l) (hf : Fr S w w') (hS : ∀ x ∈ S, x < B) : Rowb w' B v l := by
  refine h.fr hf (fun g hg hc => ?_)
  rcases h.2 with h0 | ⟨g', cap, cur, e1, e2, e3, e4⟩
  · rw [h0.1] at hg; simp [Value.ownBlock] at hg
  · rw [e1] at hg
    simp [Value.ownBlock] at hg
    have := hS _ hc
    omega
theorem Rowb.drew {w : World} {B : Nat} {v : Value} {l : List Bool} (h : Rowb w B v l) : Rowb w.drew B v l := h
theorem Rowb.alloc {w : World} {B : Nat} {v : Value} {l : List Bool} (h : Rowb w B v l) (o : Obj) : Rowb (w.alloc o) B v l := h.fr (S := []) ((Fr.refl _ w).alloc o) (by simp)
theorem Rowb.drewN {w : World} {B : Nat} {v : Value} {l : List Bool} (h : Rowb w B v l) (n : Nat) : Rowb (w.drewN n) B v l := h.fr (S := []) ((Fr.refl _ w).drewN n) (by simp)
theorem Rowb.base {w : World} {B B' : Nat} {v : Value} {l : List Bool} (h : Rowb w B v l) (hB : B' ≤ B) : Rowb w B' v l := by
  refine ⟨h.1, ?_⟩
  rcases h.2 with h0 | ⟨g, cap, cur, e1, e2, e3⟩
  · exact .inl h0
  · exact .inr ⟨g, cap, cur, e1, Nat.le_trans hB e2, e3⟩
theorem Rowb.form {w : World} {B : Nat} {v : Value} {l : List Bool} (h : Rowb w B v l) : ∃ A c, v = .slice A l.length c := by
  rcases h.2 with ⟨h1, h2⟩ | ⟨g, cap, cur, e1, _⟩
  · exact ⟨none, 0, by rw [h1, h2]⟩
  · exact ⟨_, cap, e1⟩
theorem Rowb.at {w : World} {B : Nat} {A : Option Addr} {n c : Nat} {l : List Bool} (h : Rowb w B (.slice A n c) l) (hl : 0 < l.length) : ∃ g, A = some ⟨g, 0, none⟩ ∧ B ≤ g ∧ g < w.heap.size ∧ n = l.length ∧ l.length ≤ c ∧ c ≤ maxLen ∧ ∀ j x, l[j]? = some x → w.cell? ⟨g, j, none⟩ = some (.bool x) := by
  rcases h.2 with ⟨h1, h2⟩ | ⟨g, cap, cur, e1, e2, e3, e4, e5, e6, e7⟩
  · omega
  · cases e1
    refine ⟨g, rfl, e2, (Array.getElem?_eq_some_iff.1 e3).1, rfl, e4, e5, fun j x hx => ?_⟩
    have hj := (List.getElem?_eq_some_iff.1 hx).1
    have hx' : (bvs l)[j]? = some (.bool x) := by simp [bvs, hx]
    rw [← e7, List.getElem?_take] at hx'
    split at hx'
    · simpa [World.cell?, e3] using hx'
    · cases hx'
/-- No row lies in a block of another type. -/
theorem Rowb.ne {w : World} {B b : Nat} {v : Value} {l : List Bool} {cs : List Value} {T : TypeId} (h : Rowb w B v l) (hb : Blk w b cs T) (hT : T ≠ 4) : ∀ g, v.ownBlock = some g → g ≠ b := by
  intro g hg e
  subst e
  rcases h.2 with h0 | ⟨g', cap, cur, e1, e2, e3, e4⟩
  · rw [h0.1] at hg; simp [Value.ownBlock] at hg
  · rw [e1] at hg
    simp [Value.ownBlock] at hg
    subst hg
    unfold Blk at hb
    rw [hb] at e3
    simp at e3
    exact hT e3.2
theorem Rowb.lt {w : World} {B : Nat} {v : Value} {l : List Bool} (h : Rowb w B v l) : ∀ g, v.ownBlock = some g → B ≤ g ∧ g < w.heap.size := by
  intro g hg
  rcases h.2 with h0 | ⟨g', cap, cur, e1, e2, e3, e4⟩
  · rw [h0.1] at hg; simp [Value.ownBlock] at hg
  · rw [e1] at hg
    simp [Value.ownBlock] at hg
    subst hg
    exact ⟨e2, (Array.getElem?_eq_some_iff.1 e3).1⟩
/-- A row with nothing in it, in a block. -/
theorem Rowb.empty (w : World) {B : Nat} (hB : B ≤ w.heap.size) : Rowb (w.alloc (.cells #[] 4)) B (.slice (some ⟨w.heap.size, 0, none⟩) 0 0) [] :=
  ⟨rfl, .inr ⟨w.heap.size, 0, #[], rfl, hB, Blk.new w [] _, Nat.le_refl _, by decide, rfl, rfl⟩⟩
/-- A row of one. -/
theorem Rowb.one (w : World) (x : Bool) {B : Nat} (hB : B ≤ w.heap.size) : Rowb (w.alloc (.cells #[.bool x] 4)) B (.slice (some ⟨w.heap.size, 0, none⟩) 1 1) [x] :=
  ⟨rfl, .inr ⟨w.heap.size, 1, #[.bool x], rfl, hB, Blk.new w [.bool x] _, Nat.le_refl _, by decide, rfl, rfl⟩⟩

/-- A source of ints: a slice of which m cells can be read. -/
def Srcb (w : World) (A : Option Addr) (m : Nat) (l : List Bool) : Prop := l.length = m ∧ (0 < m → ∃ ad, A = some ad ∧ ∀ j x, l[j]? = some x → w.cell? (ad.add j) = some (.bool x))
theorem Srcb.fr {S : List Nat} {w w' : World} {A : Option Addr} {m : Nat} {l : List Bool} (h : Srcb w A m l) (hf : Fr S w w') (hS : ∀ ad, A = some ad → ad.block < w.heap.size ∧ ad.block ∉ S) : Srcb w' A m l := by
  refine ⟨h.1, fun hm => ?_⟩
  obtain ⟨ad, e, hc⟩ := h.2 hm
  obtain ⟨h1, h2⟩ := hS ad e
  refine ⟨ad, e, fun j x hx => ?_⟩
  have hb : (ad.add j).block = ad.block := by unfold Addr.add; split <;> rfl
  rw [← hc j x hx]
  exact World.cell?_of_block (w := w) (hf.block _ (by rw [hb]; exact h1) (by rw [hb]; exact h2))
theorem Rowb.src {w : World} {B : Nat} {A : Option Addr} {n c : Nat} {l : List Bool} (h : Rowb w B (.slice A n c) l) : Srcb w A l.length l := by
  refine ⟨rfl, fun hm => ?_⟩
  obtain ⟨g, e, _, _, _, _, _, hc⟩ := h.at hm
  exact ⟨_, e, fun j x hx => by rw [Addr.add_lit, Nat.zero_add]; exact hc j x hx⟩
theorem Srcb.take {w : World} {A : Option Addr} {m k : Nat} {l : List Bool} (h : Srcb w A m l) (hk : k ≤ m) : Srcb w A k (l.take k) := by
  refine ⟨by rw [List.length_take, h.1]; omega, fun h0 => ?_⟩
  obtain ⟨ad, e, hc⟩ := h.2 (by omega)
  exact ⟨ad, e, fun j x hx => hc j x (by rw [List.getElem?_take] at hx; split at hx; (· exact hx); (· cases hx))⟩

theorem run_append_nilB {w : World} {B : Nat} {v : Value} {l : List Bool} {c : Nat} {ty : TypeId} (h : Rowb w B v l) : (Builtin.append_ #[46, 46] ty #[v, .slice none 0 c]).run Try.prog w = .ok v w := by
  obtain ⟨i, hi, hz0, hz1, hz2⟩ := info_parts infoBool
  rcases h.2 with ⟨rfl, h2⟩ | ⟨g, cap, cur, rfl, _, _, hnc, _⟩
  · simp [Builtin.append_, run_underlying Try.underlying46, sizeOf, typeInfo, hi, Builtin.lenOf, Builtin.firstCells]
  · simp [Builtin.append_, run_underlying Try.underlying46, sizeOf, typeInfo, hi, Builtin.lenOf, Builtin.firstCells, hnc, storeCells]

theorem run_appb {w : World} {B : Nat} {v : Value} {l : List Bool} {A : Option Addr} {m c : Nat} {news : List Bool} (ty : TypeId) (h : Rowb w B v l) (hs : Srcb w A m news) (hA : A = none → m = 0) (hle : l.length + m ≤ 1000000) (hB : B ≤ w.heap.size) :
    ∃ v' w', (Builtin.append_ #[46, 46] ty #[v, .slice A m c]).run Try.prog w = .ok v' w' ∧ Rowb w' B v' (l ++ news) ∧ Fr v.ownBlock.toList w w' ∧ (v'.ownBlock = v.ownBlock ∨ v'.ownBlock = some w.heap.size) := by
  obtain ⟨i, hi, hz0, hz1, hz2⟩ := info_parts infoBool
  cases A with
  | none =>
    obtain rfl := hA rfl
    have : news = [] := List.length_eq_zero_iff.1 hs.1
    subst this
    exact ⟨v, w, run_append_nilB h, by simpa using h, Fr.refl _ w, .inl rfl⟩
  | some ad =>
    have hc : ∀ j u, (bvs news)[j]? = some u → w.cell? (ad.add j) = some u := by
      intro j u hu
      obtain ⟨x, hx, rfl⟩ := bvs_get hu
      have hm : 0 < m := by have := (List.getElem?_eq_some_iff.1 hx).1; have := hs.1; omega
      obtain ⟨ad', e, hc⟩ := hs.2 hm
      cases e
      exact hc j x hx
    obtain ⟨v', w', hr, h2, h3, _, h5⟩ := run_append_own_at (P := Try.prog) w B 46 ty 4 i (.bool false) 1 1 Try.underlying46 hi hz0 hz1 hz2 rfl (by decide) v l.length (bvs l) h ad m c (bvs news) (by rw [bvs_len, hs.1]; omega) hc (bvs_one _) (by unfold maxLen; omega) (by omega) hB
    refine ⟨v', w', hr, ?_, ⟨h3.os, h3.tape, h3.output, h3.size, fun k hk hn => h3.block k hk (fun e => hn (by simp [← e]))⟩, h5⟩
    unfold Rowb
    rw [List.length_append, hs.1]
    simpa [bvs] using h2

theorem step_appb {ops : Array Oper} {o : Oper} {a : Act} {w : World} {K : Act → World → Prop} {Q : Exit → Act → World → Prop} {E : Prop}
    (hg : o.guard = none) (s x : Operand) (hop : o.op = Op.call { callee := Callee.builtin Builtin.append, args := #[s, x], argTypes := #[46, 46] })
    (B : Nat) (v : Value) (l : List Bool) (hs : a.eval s = v) (h : Rowb w B v l) (A : Option Addr) (m c : Nat) (news : List Bool) (hx : a.eval x = .slice A m c) (hsr : Srcb w A m news) (hA : A = none → m = 0) (hle : l.length + m ≤ 1000000) (hB : B ≤ w.heap.size)
    (hK : ∀ v' w', Rowb w' B v' (l ++ news) → Fr v.ownBlock.toList w w' → (v'.ownBlock = v.ownBlock ∨ v'.ownBlock = some w.heap.size) → K (a.put o.dst v') w') :
    if Region.wanted o (yielded ops a.tmps) = true then Oper.wp Try.prog o a w K Q else E := by
  have hw : Region.wanted o (yielded ops a.tmps) = true := by simp [Region.wanted, hg]
  rw [if_pos hw]
  obtain ⟨v', w', hr, h1, h2, h3⟩ := run_appb (c := c) o.type h hsr hA hle hB
  unfold Oper.wp
  simp [execOp, hop, resolve, invoke, builtin, hs, hx, hr, Result.andThen]
  exact hK v' w' h1 h2 h3

theorem wpList_appb {ops : Array Oper} {rest : List Oper} {o : Oper} {a : Act} {w : World} {Q : Exit → Act → World → Prop}
    (hg : o.guard = none) (s x : Operand) (hop : o.op = Op.call { callee := Callee.builtin Builtin.append, args := #[s, x], argTypes := #[46, 46] })
    (B : Nat) (v : Value) (l : List Bool) (hs : a.eval s = v) (h : Rowb w B v l) (A : Option Addr) (m c : Nat) (news : List Bool) (hx : a.eval x = .slice A m c) (hsr : Srcb w A m news) (hA : A = none → m = 0) (hle : l.length + m ≤ 1000000) (hB : B ≤ w.heap.size)
    (hK : ∀ v' w', Rowb w' B v' (l ++ news) → Fr v.ownBlock.toList w w' → (v'.ownBlock = v.ownBlock ∨ v'.ownBlock = some w.heap.size) → wpList Try.prog ops Q rest (a.put o.dst v') w') :
    wpList Try.prog ops Q (o :: rest) a w := by
  refine wpList_plain hg fun K' hK' => ?_
  obtain ⟨v', w', hr, h1, h2, h3⟩ := run_appb (c := c) o.type h hsr hA hle hB
  unfold Oper.wp
  simp [execOp, hop, resolve, invoke, builtin, hs, hx, hr, Result.andThen]
  exact hK' _ _ (hK v' w' h1 h2 h3)
end Go.Proofs.Ytifillpcphiblaa
