
import Derived.Test.YtklnpooninbogaaGreatMBase
import Derived.Test.YtklnpooninbogaaGreatMRing
import Derived.Maps.AppendAt
import Derived.Deep.RegionLaw
namespace Go.Proofs.YtklnpooninbogaaGreat
open Go Go.Proofs Go.RowKit
def ivs (l : List Int) : List Value := l.map (.int .i64)
theorem ivs_len (l : List Int) : (ivs l).length = l.length := by simp [ivs]
theorem ivs_get {l : List Int} {j : Nat} {v : Value} (h : (ivs l)[j]? = some v) : ∃ x, l[j]? = some x ∧ v = .int .i64 x := by
  simp only [ivs, List.getElem?_map, Option.map_eq_some_iff] at h
  obtain ⟨x, h1, h2⟩ := h
  exact ⟨x, h1, h2.symm⟩
theorem ivs_one (l : List Int) : ∀ v ∈ ivs l, v.oneCell' = true := by
  intro v hv
  simp only [ivs, List.mem_map] at hv
  obtain ⟨x, _, rfl⟩ := hv
  rfl
def Rowi (w : World) (B : Nat) (v : Value) (l : List Int) : Prop := w.ownsRow B 3 1 v l.length (ivs l)
theorem infoInt : (Tryz.prog.info? 3).map (fun i => (i.zero, i.size, i.bytes)) = some (some (.int .i64 0), 1, 8) := by kernel_rfl
theorem Rowi.nil (w : World) (B : Nat) : Rowi w B (.slice none 0 0) [] := ⟨rfl, .inl ⟨rfl, rfl⟩⟩
theorem Rowi.fr {S : List Nat} {w w' : World} {B : Nat} {v : Value} {l : List Int} (h : Rowi w B v l) (hf : Fr S w w') (hS : ∀ g, v.ownBlock = some g → g ∉ S) : Rowi w' B v l := by
  refine ⟨h.1, ?_⟩
  rcases h.2 with h0 | ⟨g, cap, cur, e1, e2, e3, e4⟩
  · exact .inl h0
  · subst e1
    refine .inr ⟨g, cap, cur, rfl, e2, ?_, e4⟩
    rw [hf.block g (Array.getElem?_eq_some_iff.1 e3).1 (hS g rfl)]
    exact e3
theorem Rowi.drew {w : World} {B : Nat} {v : Value} {l : List Int} (h : Rowi w B v l) : Rowi w.drew B v l := h
theorem Rowi.alloc {w : World} {B : Nat} {v : Value} {l : List Int} (h : Rowi w B v l) (o : Obj) : Rowi (w.alloc o) B v l := h.fr (S := []) ((Fr.refl _ w).alloc o) (by simp)
theorem Rowi.drewN {w : World} {B : Nat} {v : Value} {l : List Int} (h : Rowi w B v l) (n : Nat) : Rowi (w.drewN n) B v l := h.fr (S := []) ((Fr.refl _ w).drewN n) (by simp)
theorem Rowi.base {w : World} {B B' : Nat} {v : Value} {l : List Int} (h : Rowi w B v l) (hB : B' ≤ B) : Rowi w B' v l := by
  refine ⟨h.1, ?_⟩
  rcases h.2 with h0 | ⟨g, cap, cur, e1, e2, e3⟩
  · exact .inl h0
  · exact .inr ⟨g, cap, cur, e1, Nat.le_trans hB e2, e3⟩
theorem Rowi.form {w : World} {B : Nat} {v : Value} {l : List Int} (h : Rowi w B v l) : ∃ A c, v = .slice A l.length c := by
  rcases h.2 with ⟨h1, h2⟩ | ⟨g, cap, cur, e1, _⟩
  · exact ⟨none, 0, by rw [h1, h2]⟩
  · exact ⟨_, cap, e1⟩
theorem Rowi.at {w : World} {B : Nat} {A : Option Addr} {n c : Nat} {l : List Int} (h : Rowi w B (.slice A n c) l) (hl : 0 < l.length) : ∃ g, A = some ⟨g, 0, none⟩ ∧ B ≤ g ∧ g < w.heap.size ∧ n = l.length ∧ l.length ≤ c ∧ c ≤ maxLen ∧ ∀ j x, l[j]? = some x → w.cell? ⟨g, j, none⟩ = some (.int .i64 x) := by
  rcases h.2 with ⟨h1, h2⟩ | ⟨g, cap, cur, e1, e2, e3, e4, e5, e6, e7⟩
  · omega
  · cases e1
    refine ⟨g, rfl, e2, (Array.getElem?_eq_some_iff.1 e3).1, rfl, e4, e5, fun j x hx => ?_⟩
    have hj := (List.getElem?_eq_some_iff.1 hx).1
    have hx' : (ivs l)[j]? = some (.int .i64 x) := by simp [ivs, hx]
    rw [← e7, List.getElem?_take] at hx'
    split at hx'
    · simpa [World.cell?, e3] using hx'
    · cases hx'
theorem Rowi.ne {w : World} {B b : Nat} {v : Value} {l : List Int} {cs : List Value} {T : TypeId} (h : Rowi w B v l) (hb : Blk w b cs T) (hT : T ≠ 3) : ∀ g, v.ownBlock = some g → g ≠ b := by
  intro g hg e
  subst e
  rcases h.2 with h0 | ⟨g', cap, cur, e1, e2, e3, e4⟩
  · rw [h0.1] at hg; simp [Value.ownBlock] at hg
  · rw [e1] at hg
    simp [Value.ownBlock] at hg
    subst hg
    unfold Blk at hb
    rw [hb] at e3
    simp at e3
    exact hT e3.2
theorem Rowi.lt {w : World} {B : Nat} {v : Value} {l : List Int} (h : Rowi w B v l) : ∀ g, v.ownBlock = some g → B ≤ g ∧ g < w.heap.size := by
  intro g hg
  rcases h.2 with h0 | ⟨g', cap, cur, e1, e2, e3, e4⟩
  · rw [h0.1] at hg; simp [Value.ownBlock] at hg
  · rw [e1] at hg
    simp [Value.ownBlock] at hg
    subst hg
    exact ⟨e2, (Array.getElem?_eq_some_iff.1 e3).1⟩
theorem Rowi.empty (w : World) {B : Nat} (hB : B ≤ w.heap.size) : Rowi (w.alloc (.cells #[] 3)) B (.slice (some ⟨w.heap.size, 0, none⟩) 0 0) [] :=
  ⟨rfl, .inr ⟨w.heap.size, 0, #[], rfl, hB, Blk.new w [] _, Nat.le_refl _, by decide, rfl, rfl⟩⟩
theorem Rowi.one (w : World) (x : Int) {B : Nat} (hB : B ≤ w.heap.size) : Rowi (w.alloc (.cells #[.int .i64 x] 3)) B (.slice (some ⟨w.heap.size, 0, none⟩) 1 1) [x] :=
  ⟨rfl, .inr ⟨w.heap.size, 1, #[.int .i64 x], rfl, hB, Blk.new w [.int .i64 x] _, Nat.le_refl _, by decide, rfl, rfl⟩⟩
def Srci (w : World) (A : Option Addr) (m : Nat) (l : List Int) : Prop := l.length = m ∧ (0 < m → ∃ ad, A = some ad ∧ ∀ j x, l[j]? = some x → w.cell? (ad.add j) = some (.int .i64 x))
theorem Srci.fr {S : List Nat} {w w' : World} {A : Option Addr} {m : Nat} {l : List Int} (h : Srci w A m l) (hf : Fr S w w') (hS : ∀ ad, A = some ad → ad.block < w.heap.size ∧ ad.block ∉ S) : Srci w' A m l := by
  refine ⟨h.1, fun hm => ?_⟩
  obtain ⟨ad, e, hc⟩ := h.2 hm
  obtain ⟨h1, h2⟩ := hS ad e
  refine ⟨ad, e, fun j x hx => ?_⟩
  have hb : (ad.add j).block = ad.block := by unfold Addr.add; split <;> rfl
  rw [← hc j x hx]
  exact World.cell?_of_block (w := w) (hf.block _ (by rw [hb]; exact h1) (by rw [hb]; exact h2))
theorem Rowi.src {w : World} {B : Nat} {A : Option Addr} {n c : Nat} {l : List Int} (h : Rowi w B (.slice A n c) l) : Srci w A l.length l := by
  refine ⟨rfl, fun hm => ?_⟩
  obtain ⟨g, e, _, _, _, _, _, hc⟩ := h.at hm
  exact ⟨_, e, fun j x hx => by rw [Addr.add_lit, Nat.zero_add]; exact hc j x hx⟩
theorem Srci.take {w : World} {A : Option Addr} {m k : Nat} {l : List Int} (h : Srci w A m l) (hk : k ≤ m) : Srci w A k (l.take k) := by
  refine ⟨by rw [List.length_take, h.1]; omega, fun h0 => ?_⟩
  obtain ⟨ad, e, hc⟩ := h.2 (by omega)
  exact ⟨ad, e, fun j x hx => hc j x (by rw [List.getElem?_take] at hx; split at hx; (· exact hx); (· cases hx))⟩
theorem run_append_nilS {w : World} {B : Nat} {v : Value} {l : List Int} {c : Nat} {ty : TypeId} (h : Rowi w B v l) : (Builtin.append_ #[22, 22] ty #[v, .slice none 0 c]).run Tryz.prog w = .ok v w := by
  obtain ⟨i, hi, hz0, hz1, hz2⟩ := info_parts infoInt
  rcases h.2 with ⟨rfl, h2⟩ | ⟨g, cap, cur, rfl, _, _, hnc, _⟩
  · simp [Builtin.append_, run_underlying Tryz.underlying22, sizeOf, typeInfo, hi, Builtin.lenOf, Builtin.firstCells]
  · simp [Builtin.append_, run_underlying Tryz.underlying22, sizeOf, typeInfo, hi, Builtin.lenOf, Builtin.firstCells, hnc, storeCells]
theorem run_appi {w : World} {B : Nat} {v : Value} {l : List Int} {A : Option Addr} {m c : Nat} {news : List Int} (ty : TypeId) (h : Rowi w B v l) (hs : Srci w A m news) (hA : A = none → m = 0) (hle : l.length + m ≤ 1000000) (hB : B ≤ w.heap.size) :
    ∃ v' w', (Builtin.append_ #[22, 22] ty #[v, .slice A m c]).run Tryz.prog w = .ok v' w' ∧ Rowi w' B v' (l ++ news) ∧ Fr v.ownBlock.toList w w' ∧ (v'.ownBlock = v.ownBlock ∨ v'.ownBlock = some w.heap.size) := by
  obtain ⟨i, hi, hz0, hz1, hz2⟩ := info_parts infoInt
  cases A with
  | none =>
    obtain rfl := hA rfl
    have : news = [] := List.length_eq_zero_iff.1 hs.1
    subst this
    exact ⟨v, w, run_append_nilS h, by simpa using h, Fr.refl _ w, .inl rfl⟩
  | some ad =>
    have hc : ∀ j u, (ivs news)[j]? = some u → w.cell? (ad.add j) = some u := by
      intro j u hu
      obtain ⟨x, hx, rfl⟩ := ivs_get hu
      have hm : 0 < m := by have := (List.getElem?_eq_some_iff.1 hx).1; have := hs.1; omega
      obtain ⟨ad', e, hc⟩ := hs.2 hm
      cases e
      exact hc j x hx
    obtain ⟨v', w', hr, h2, h3, _, h5⟩ := run_append_own_at (P := Tryz.prog) w B 22 ty 3 i (.int .i64 0) 1 8 Tryz.underlying22 hi hz0 hz1 hz2 rfl (by decide) v l.length (ivs l) h ad m c (ivs news) (by rw [ivs_len, hs.1]; omega) hc (ivs_one _) (by unfold maxLen; omega) (by omega) hB
    refine ⟨v', w', hr, ?_, ⟨h3.os, h3.tape, h3.output, h3.size, fun k hk hn => h3.block k hk (fun e => hn (by simp [← e]))⟩, h5⟩
    unfold Rowi
    rw [List.length_append, hs.1]
    simpa [ivs] using h2
theorem step_appi {ops : Array Oper} {o : Oper} {a : Act} {w : World} {K : Act → World → Prop} {Q : Exit → Act → World → Prop} {E : Prop}
    (hg : o.guard = none) (s x : Operand) (hop : o.op = Op.call { callee := Callee.builtin Builtin.append, args := #[s, x], argTypes := #[22, 22] })
    (B : Nat) (v : Value) (l : List Int) (hs : a.eval s = v) (h : Rowi w B v l) (A : Option Addr) (m c : Nat) (news : List Int) (hx : a.eval x = .slice A m c) (hsr : Srci w A m news) (hA : A = none → m = 0) (hle : l.length + m ≤ 1000000) (hB : B ≤ w.heap.size)
    (hK : ∀ v' w', Rowi w' B v' (l ++ news) → Fr v.ownBlock.toList w w' → (v'.ownBlock = v.ownBlock ∨ v'.ownBlock = some w.heap.size) → K (a.put o.dst v') w') :
    if Region.wanted o (yielded ops a.tmps) = true then Oper.wp Tryz.prog o a w K Q else E := by
  have hw : Region.wanted o (yielded ops a.tmps) = true := by simp [Region.wanted, hg]
  rw [if_pos hw]
  obtain ⟨v', w', hr, h1, h2, h3⟩ := run_appi (c := c) o.type h hsr hA hle hB
  unfold Oper.wp
  simp [execOp, hop, resolve, invoke, builtin, hs, hx, hr, Result.andThen]
  exact hK v' w' h1 h2 h3
theorem wpList_appi {ops : Array Oper} {rest : List Oper} {o : Oper} {a : Act} {w : World} {Q : Exit → Act → World → Prop}
    (hg : o.guard = none) (s x : Operand) (hop : o.op = Op.call { callee := Callee.builtin Builtin.append, args := #[s, x], argTypes := #[22, 22] })
    (B : Nat) (v : Value) (l : List Int) (hs : a.eval s = v) (h : Rowi w B v l) (A : Option Addr) (m c : Nat) (news : List Int) (hx : a.eval x = .slice A m c) (hsr : Srci w A m news) (hA : A = none → m = 0) (hle : l.length + m ≤ 1000000) (hB : B ≤ w.heap.size)
    (hK : ∀ v' w', Rowi w' B v' (l ++ news) → Fr v.ownBlock.toList w w' → (v'.ownBlock = v.ownBlock ∨ v'.ownBlock = some w.heap.size) → wpList Tryz.prog ops Q rest (a.put o.dst v') w') :
    wpList Tryz.prog ops Q (o :: rest) a w := by
  refine wpList_plain hg fun K' hK' => ?_
  obtain ⟨v', w', hr, h1, h2, h3⟩ := run_appi (c := c) o.type h hsr hA hle hB
  unfold Oper.wp
  simp [execOp, hop, resolve, invoke, builtin, hs, hx, hr, Result.andThen]
  exact hK' _ _ (hK v' w' h1 h2 h3)
def lvs (l : List Int) : List Value := l.map (.int .i64)
theorem lvs_len (l : List Int) : (lvs l).length = l.length := by simp [lvs]
theorem lvs_get {l : List Int} {j : Nat} {v : Value} (h : (lvs l)[j]? = some v) : ∃ x, l[j]? = some x ∧ v = .int .i64 x := by
  simp only [lvs, List.getElem?_map, Option.map_eq_some_iff] at h
  obtain ⟨x, h1, h2⟩ := h
  exact ⟨x, h1, h2.symm⟩
theorem lvs_one (l : List Int) : ∀ v ∈ lvs l, v.oneCell' = true := by
  intro v hv
  simp only [lvs, List.mem_map] at hv
  obtain ⟨x, _, rfl⟩ := hv
  rfl
def Rowl (w : World) (B : Nat) (v : Value) (l : List Int) : Prop := w.ownsRow B 2 1 v l.length (lvs l)
theorem infoI64l : (Tryz.prog.info? 2).map (fun i => (i.zero, i.size, i.bytes)) = some (some (.int .i64 0), 1, 8) := by kernel_rfl
theorem Rowl.nil (w : World) (B : Nat) : Rowl w B (.slice none 0 0) [] := ⟨rfl, .inl ⟨rfl, rfl⟩⟩
theorem Rowl.fr {S : List Nat} {w w' : World} {B : Nat} {v : Value} {l : List Int} (h : Rowl w B v l) (hf : Fr S w w') (hS : ∀ g, v.ownBlock = some g → g ∉ S) : Rowl w' B v l := by
  refine ⟨h.1, ?_⟩
  rcases h.2 with h0 | ⟨g, cap, cur, e1, e2, e3, e4⟩
  · exact .inl h0
  · subst e1
    refine .inr ⟨g, cap, cur, rfl, e2, ?_, e4⟩
    rw [hf.block g (Array.getElem?_eq_some_iff.1 e3).1 (hS g rfl)]
    exact e3
theorem Rowl.drew {w : World} {B : Nat} {v : Value} {l : List Int} (h : Rowl w B v l) : Rowl w.drew B v l := h
theorem Rowl.alloc {w : World} {B : Nat} {v : Value} {l : List Int} (h : Rowl w B v l) (o : Obj) : Rowl (w.alloc o) B v l := h.fr (S := []) ((Fr.refl _ w).alloc o) (by simp)
theorem Rowl.drewN {w : World} {B : Nat} {v : Value} {l : List Int} (h : Rowl w B v l) (n : Nat) : Rowl (w.drewN n) B v l := h.fr (S := []) ((Fr.refl _ w).drewN n) (by simp)
theorem Rowl.base {w : World} {B B' : Nat} {v : Value} {l : List Int} (h : Rowl w B v l) (hB : B' ≤ B) : Rowl w B' v l := by
  refine ⟨h.1, ?_⟩
  rcases h.2 with h0 | ⟨g, cap, cur, e1, e2, e3⟩
  · exact .inl h0
  · exact .inr ⟨g, cap, cur, e1, Nat.le_trans hB e2, e3⟩
theorem Rowl.form {w : World} {B : Nat} {v : Value} {l : List Int} (h : Rowl w B v l) : ∃ A c, v = .slice A l.length c := by
  rcases h.2 with ⟨h1, h2⟩ | ⟨g, cap, cur, e1, _⟩
  · exact ⟨none, 0, by rw [h1, h2]⟩
  · exact ⟨_, cap, e1⟩
theorem Rowl.at {w : World} {B : Nat} {A : Option Addr} {n c : Nat} {l : List Int} (h : Rowl w B (.slice A n c) l) (hl : 0 < l.length) : ∃ g, A = some ⟨g, 0, none⟩ ∧ B ≤ g ∧ g < w.heap.size ∧ n = l.length ∧ l.length ≤ c ∧ c ≤ maxLen ∧ ∀ j x, l[j]? = some x → w.cell? ⟨g, j, none⟩ = some (.int .i64 x) := by
  rcases h.2 with ⟨h1, h2⟩ | ⟨g, cap, cur, e1, e2, e3, e4, e5, e6, e7⟩
  · omega
  · cases e1
    refine ⟨g, rfl, e2, (Array.getElem?_eq_some_iff.1 e3).1, rfl, e4, e5, fun j x hx => ?_⟩
    have hj := (List.getElem?_eq_some_iff.1 hx).1
    have hx' : (lvs l)[j]? = some (.int .i64 x) := by simp [lvs, hx]
    rw [← e7, List.getElem?_take] at hx'
    split at hx'
    · simpa [World.cell?, e3] using hx'
    · cases hx'
theorem Rowl.ne {w : World} {B b : Nat} {v : Value} {l : List Int} {cs : List Value} {T : TypeId} (h : Rowl w B v l) (hb : Blk w b cs T) (hT : T ≠ 2) : ∀ g, v.ownBlock = some g → g ≠ b := by
  intro g hg e
  subst e
  rcases h.2 with h0 | ⟨g', cap, cur, e1, e2, e3, e4⟩
  · rw [h0.1] at hg; simp [Value.ownBlock] at hg
  · rw [e1] at hg
    simp [Value.ownBlock] at hg
    subst hg
    unfold Blk at hb
    rw [hb] at e3
    simp at e3
    exact hT e3.2
theorem Rowl.lt {w : World} {B : Nat} {v : Value} {l : List Int} (h : Rowl w B v l) : ∀ g, v.ownBlock = some g → B ≤ g ∧ g < w.heap.size := by
  intro g hg
  rcases h.2 with h0 | ⟨g', cap, cur, e1, e2, e3, e4⟩
  · rw [h0.1] at hg; simp [Value.ownBlock] at hg
  · rw [e1] at hg
    simp [Value.ownBlock] at hg
    subst hg
    exact ⟨e2, (Array.getElem?_eq_some_iff.1 e3).1⟩
theorem Rowl.empty (w : World) {B : Nat} (hB : B ≤ w.heap.size) : Rowl (w.alloc (.cells #[] 2)) B (.slice (some ⟨w.heap.size, 0, none⟩) 0 0) [] :=
  ⟨rfl, .inr ⟨w.heap.size, 0, #[], rfl, hB, Blk.new w [] _, Nat.le_refl _, by decide, rfl, rfl⟩⟩
theorem Rowl.one (w : World) (x : Int) {B : Nat} (hB : B ≤ w.heap.size) : Rowl (w.alloc (.cells #[.int .i64 x] 2)) B (.slice (some ⟨w.heap.size, 0, none⟩) 1 1) [x] :=
  ⟨rfl, .inr ⟨w.heap.size, 1, #[.int .i64 x], rfl, hB, Blk.new w [.int .i64 x] _, Nat.le_refl _, by decide, rfl, rfl⟩⟩
def Srcl (w : World) (A : Option Addr) (m : Nat) (l : List Int) : Prop := l.length = m ∧ (0 < m → ∃ ad, A = some ad ∧ ∀ j x, l[j]? = some x → w.cell? (ad.add j) = some (.int .i64 x))
theorem Srcl.fr {S : List Nat} {w w' : World} {A : Option Addr} {m : Nat} {l : List Int} (h : Srcl w A m l) (hf : Fr S w w') (hS : ∀ ad, A = some ad → ad.block < w.heap.size ∧ ad.block ∉ S) : Srcl w' A m l := by
  refine ⟨h.1, fun hm => ?_⟩
  obtain ⟨ad, e, hc⟩ := h.2 hm
  obtain ⟨h1, h2⟩ := hS ad e
  refine ⟨ad, e, fun j x hx => ?_⟩
  have hb : (ad.add j).block = ad.block := by unfold Addr.add; split <;> rfl
  rw [← hc j x hx]
  exact World.cell?_of_block (w := w) (hf.block _ (by rw [hb]; exact h1) (by rw [hb]; exact h2))
theorem Rowl.src {w : World} {B : Nat} {A : Option Addr} {n c : Nat} {l : List Int} (h : Rowl w B (.slice A n c) l) : Srcl w A l.length l := by
  refine ⟨rfl, fun hm => ?_⟩
  obtain ⟨g, e, _, _, _, _, _, hc⟩ := h.at hm
  exact ⟨_, e, fun j x hx => by rw [Addr.add_lit, Nat.zero_add]; exact hc j x hx⟩
theorem Srcl.take {w : World} {A : Option Addr} {m k : Nat} {l : List Int} (h : Srcl w A m l) (hk : k ≤ m) : Srcl w A k (l.take k) := by
  refine ⟨by rw [List.length_take, h.1]; omega, fun h0 => ?_⟩
  obtain ⟨ad, e, hc⟩ := h.2 (by omega)
  exact ⟨ad, e, fun j x hx => hc j x (by rw [List.getElem?_take] at hx; split at hx; (· exact hx); (· cases hx))⟩
theorem run_append_nill {w : World} {B : Nat} {v : Value} {l : List Int} {c : Nat} {ty : TypeId} (h : Rowl w B v l) : (Builtin.append_ #[67, 67] ty #[v, .slice none 0 c]).run Tryz.prog w = .ok v w := by
  obtain ⟨i, hi, hz0, hz1, hz2⟩ := info_parts infoI64l
  rcases h.2 with ⟨rfl, h2⟩ | ⟨g, cap, cur, rfl, _, _, hnc, _⟩
  · simp [Builtin.append_, run_underlying Tryz.underlying67, sizeOf, typeInfo, hi, Builtin.lenOf, Builtin.firstCells]
  · simp [Builtin.append_, run_underlying Tryz.underlying67, sizeOf, typeInfo, hi, Builtin.lenOf, Builtin.firstCells, hnc, storeCells]
theorem run_appl {w : World} {B : Nat} {v : Value} {l : List Int} {A : Option Addr} {m c : Nat} {news : List Int} (ty : TypeId) (h : Rowl w B v l) (hs : Srcl w A m news) (hA : A = none → m = 0) (hle : l.length + m ≤ 1000000) (hB : B ≤ w.heap.size) :
    ∃ v' w', (Builtin.append_ #[67, 67] ty #[v, .slice A m c]).run Tryz.prog w = .ok v' w' ∧ Rowl w' B v' (l ++ news) ∧ Fr v.ownBlock.toList w w' ∧ (v'.ownBlock = v.ownBlock ∨ v'.ownBlock = some w.heap.size) := by
  obtain ⟨i, hi, hz0, hz1, hz2⟩ := info_parts infoI64l
  cases A with
  | none =>
    obtain rfl := hA rfl
    have : news = [] := List.length_eq_zero_iff.1 hs.1
    subst this
    exact ⟨v, w, run_append_nill h, by simpa using h, Fr.refl _ w, .inl rfl⟩
  | some ad =>
    have hc : ∀ j u, (lvs news)[j]? = some u → w.cell? (ad.add j) = some u := by
      intro j u hu
      obtain ⟨x, hx, rfl⟩ := lvs_get hu
      have hm : 0 < m := by have := (List.getElem?_eq_some_iff.1 hx).1; have := hs.1; omega
      obtain ⟨ad', e, hc⟩ := hs.2 hm
      cases e
      exact hc j x hx
    obtain ⟨v', w', hr, h2, h3, _, h5⟩ := run_append_own_at (P := Tryz.prog) w B 67 ty 2 i (.int .i64 0) 1 8 Tryz.underlying67 hi hz0 hz1 hz2 rfl (by decide) v l.length (lvs l) h ad m c (lvs news) (by rw [lvs_len, hs.1]; omega) hc (lvs_one _) (by unfold maxLen; omega) (by omega) hB
    refine ⟨v', w', hr, ?_, ⟨h3.os, h3.tape, h3.output, h3.size, fun k hk hn => h3.block k hk (fun e => hn (by simp [← e]))⟩, h5⟩
    unfold Rowl
    rw [List.length_append, hs.1]
    simpa [lvs] using h2
theorem step_appl {ops : Array Oper} {o : Oper} {a : Act} {w : World} {K : Act → World → Prop} {Q : Exit → Act → World → Prop} {E : Prop}
    (hg : o.guard = none) (s x : Operand) (hop : o.op = Op.call { callee := Callee.builtin Builtin.append, args := #[s, x], argTypes := #[67, 67] })
    (B : Nat) (v : Value) (l : List Int) (hs : a.eval s = v) (h : Rowl w B v l) (A : Option Addr) (m c : Nat) (news : List Int) (hx : a.eval x = .slice A m c) (hsr : Srcl w A m news) (hA : A = none → m = 0) (hle : l.length + m ≤ 1000000) (hB : B ≤ w.heap.size)
    (hK : ∀ v' w', Rowl w' B v' (l ++ news) → Fr v.ownBlock.toList w w' → (v'.ownBlock = v.ownBlock ∨ v'.ownBlock = some w.heap.size) → K (a.put o.dst v') w') :
    if Region.wanted o (yielded ops a.tmps) = true then Oper.wp Tryz.prog o a w K Q else E := by
  have hw : Region.wanted o (yielded ops a.tmps) = true := by simp [Region.wanted, hg]
  rw [if_pos hw]
  obtain ⟨v', w', hr, h1, h2, h3⟩ := run_appl (c := c) o.type h hsr hA hle hB
  unfold Oper.wp
  simp [execOp, hop, resolve, invoke, builtin, hs, hx, hr, Result.andThen]
  exact hK v' w' h1 h2 h3
abbrev SV := Option Addr × Nat × Nat
def sval (x : SV) : Value := .slice x.1 x.2.1 x.2.2
def vvs (l : List SV) : List Value := l.map sval
theorem vvs_len (l : List SV) : (vvs l).length = l.length := by simp [vvs]
theorem vvs_get {l : List SV} {j : Nat} {v : Value} (h : (vvs l)[j]? = some v) : ∃ x, l[j]? = some x ∧ v = sval x := by
  simp only [vvs, List.getElem?_map, Option.map_eq_some_iff] at h
  obtain ⟨x, h1, h2⟩ := h
  exact ⟨x, h1, h2.symm⟩
theorem vvs_one (l : List SV) : ∀ v ∈ vvs l, v.oneCell' = true := by
  intro v hv
  simp only [vvs, List.mem_map] at hv
  obtain ⟨x, _, rfl⟩ := hv
  rfl
def Rowv (w : World) (B : Nat) (v : Value) (l : List SV) : Prop := w.ownsRow B 67 1 v l.length (vvs l)
theorem infoSl : (Tryz.prog.info? 67).map (fun i => (i.zero, i.size, i.bytes)) = some (some (.slice none 0 0), 1, 24) := by kernel_rfl
theorem Rowv.nil (w : World) (B : Nat) : Rowv w B (.slice none 0 0) [] := ⟨rfl, .inl ⟨rfl, rfl⟩⟩
theorem Rowv.fr {S : List Nat} {w w' : World} {B : Nat} {v : Value} {l : List SV} (h : Rowv w B v l) (hf : Fr S w w') (hS : ∀ g, v.ownBlock = some g → g ∉ S) : Rowv w' B v l := by
  refine ⟨h.1, ?_⟩
  rcases h.2 with h0 | ⟨g, cap, cur, e1, e2, e3, e4⟩
  · exact .inl h0
  · subst e1
    refine .inr ⟨g, cap, cur, rfl, e2, ?_, e4⟩
    rw [hf.block g (Array.getElem?_eq_some_iff.1 e3).1 (hS g rfl)]
    exact e3
theorem Rowv.drew {w : World} {B : Nat} {v : Value} {l : List SV} (h : Rowv w B v l) : Rowv w.drew B v l := h
theorem Rowv.alloc {w : World} {B : Nat} {v : Value} {l : List SV} (h : Rowv w B v l) (o : Obj) : Rowv (w.alloc o) B v l := h.fr (S := []) ((Fr.refl _ w).alloc o) (by simp)
theorem Rowv.drewN {w : World} {B : Nat} {v : Value} {l : List SV} (h : Rowv w B v l) (n : Nat) : Rowv (w.drewN n) B v l := h.fr (S := []) ((Fr.refl _ w).drewN n) (by simp)
theorem Rowv.base {w : World} {B B' : Nat} {v : Value} {l : List SV} (h : Rowv w B v l) (hB : B' ≤ B) : Rowv w B' v l := by
  refine ⟨h.1, ?_⟩
  rcases h.2 with h0 | ⟨g, cap, cur, e1, e2, e3⟩
  · exact .inl h0
  · exact .inr ⟨g, cap, cur, e1, Nat.le_trans hB e2, e3⟩
theorem Rowv.form {w : World} {B : Nat} {v : Value} {l : List SV} (h : Rowv w B v l) : ∃ A c, v = .slice A l.length c := by
  rcases h.2 with ⟨h1, h2⟩ | ⟨g, cap, cur, e1, _⟩
  · exact ⟨none, 0, by rw [h1, h2]⟩
  · exact ⟨_, cap, e1⟩
theorem Rowv.at {w : World} {B : Nat} {A : Option Addr} {n c : Nat} {l : List SV} (h : Rowv w B (.slice A n c) l) (hl : 0 < l.length) : ∃ g, A = some ⟨g, 0, none⟩ ∧ B ≤ g ∧ g < w.heap.size ∧ n = l.length ∧ l.length ≤ c ∧ c ≤ maxLen ∧ ∀ j x, l[j]? = some x → w.cell? ⟨g, j, none⟩ = some (sval x) := by
  rcases h.2 with ⟨h1, h2⟩ | ⟨g, cap, cur, e1, e2, e3, e4, e5, e6, e7⟩
  · omega
  · cases e1
    refine ⟨g, rfl, e2, (Array.getElem?_eq_some_iff.1 e3).1, rfl, e4, e5, fun j x hx => ?_⟩
    have hj := (List.getElem?_eq_some_iff.1 hx).1
    have hx' : (vvs l)[j]? = some (sval x) := by simp [vvs, hx]
    rw [← e7, List.getElem?_take] at hx'
    split at hx'
    · simpa [World.cell?, e3] using hx'
    · cases hx'
theorem Rowv.ne {w : World} {B b : Nat} {v : Value} {l : List SV} {cs : List Value} {T : TypeId} (h : Rowv w B v l) (hb : Blk w b cs T) (hT : T ≠ 67) : ∀ g, v.ownBlock = some g → g ≠ b := by
  intro g hg e
  subst e
  rcases h.2 with h0 | ⟨g', cap, cur, e1, e2, e3, e4⟩
  · rw [h0.1] at hg; simp [Value.ownBlock] at hg
  · rw [e1] at hg
    simp [Value.ownBlock] at hg
    subst hg
    unfold Blk at hb
    rw [hb] at e3
    simp at e3
    exact hT e3.2
theorem Rowv.lt {w : World} {B : Nat} {v : Value} {l : List SV} (h : Rowv w B v l) : ∀ g, v.ownBlock = some g → B ≤ g ∧ g < w.heap.size := by
  intro g hg
  rcases h.2 with h0 | ⟨g', cap, cur, e1, e2, e3, e4⟩
  · rw [h0.1] at hg; simp [Value.ownBlock] at hg
  · rw [e1] at hg
    simp [Value.ownBlock] at hg
    subst hg
    exact ⟨e2, (Array.getElem?_eq_some_iff.1 e3).1⟩
theorem Rowv.empty (w : World) {B : Nat} (hB : B ≤ w.heap.size) : Rowv (w.alloc (.cells #[] 67)) B (.slice (some ⟨w.heap.size, 0, none⟩) 0 0) [] :=
  ⟨rfl, .inr ⟨w.heap.size, 0, #[], rfl, hB, Blk.new w [] _, Nat.le_refl _, by decide, rfl, rfl⟩⟩
theorem Rowv.one (w : World) (x : SV) {B : Nat} (hB : B ≤ w.heap.size) : Rowv (w.alloc (.cells #[sval x] 67)) B (.slice (some ⟨w.heap.size, 0, none⟩) 1 1) [x] :=
  ⟨rfl, .inr ⟨w.heap.size, 1, #[sval x], rfl, hB, Blk.new w [sval x] _, Nat.le_refl _, by decide, rfl, rfl⟩⟩
def Srcv (w : World) (A : Option Addr) (m : Nat) (l : List SV) : Prop := l.length = m ∧ (0 < m → ∃ ad, A = some ad ∧ ∀ j x, l[j]? = some x → w.cell? (ad.add j) = some (sval x))
theorem Srcv.fr {S : List Nat} {w w' : World} {A : Option Addr} {m : Nat} {l : List SV} (h : Srcv w A m l) (hf : Fr S w w') (hS : ∀ ad, A = some ad → ad.block < w.heap.size ∧ ad.block ∉ S) : Srcv w' A m l := by
  refine ⟨h.1, fun hm => ?_⟩
  obtain ⟨ad, e, hc⟩ := h.2 hm
  obtain ⟨h1, h2⟩ := hS ad e
  refine ⟨ad, e, fun j x hx => ?_⟩
  have hb : (ad.add j).block = ad.block := by unfold Addr.add; split <;> rfl
  rw [← hc j x hx]
  exact World.cell?_of_block (w := w) (hf.block _ (by rw [hb]; exact h1) (by rw [hb]; exact h2))
theorem Rowv.src {w : World} {B : Nat} {A : Option Addr} {n c : Nat} {l : List SV} (h : Rowv w B (.slice A n c) l) : Srcv w A l.length l := by
  refine ⟨rfl, fun hm => ?_⟩
  obtain ⟨g, e, _, _, _, _, _, hc⟩ := h.at hm
  exact ⟨_, e, fun j x hx => by rw [Addr.add_lit, Nat.zero_add]; exact hc j x hx⟩
theorem Srcv.take {w : World} {A : Option Addr} {m k : Nat} {l : List SV} (h : Srcv w A m l) (hk : k ≤ m) : Srcv w A k (l.take k) := by
  refine ⟨by rw [List.length_take, h.1]; omega, fun h0 => ?_⟩
  obtain ⟨ad, e, hc⟩ := h.2 (by omega)
  exact ⟨ad, e, fun j x hx => hc j x (by rw [List.getElem?_take] at hx; split at hx; (· exact hx); (· cases hx))⟩
theorem run_append_nilv {w : World} {B : Nat} {v : Value} {l : List SV} {c : Nat} {ty : TypeId} (h : Rowv w B v l) : (Builtin.append_ #[68, 68] ty #[v, .slice none 0 c]).run Tryz.prog w = .ok v w := by
  obtain ⟨i, hi, hz0, hz1, hz2⟩ := info_parts infoSl
  rcases h.2 with ⟨rfl, h2⟩ | ⟨g, cap, cur, rfl, _, _, hnc, _⟩
  · simp [Builtin.append_, run_underlying Tryz.underlying68, sizeOf, typeInfo, hi, Builtin.lenOf, Builtin.firstCells]
  · simp [Builtin.append_, run_underlying Tryz.underlying68, sizeOf, typeInfo, hi, Builtin.lenOf, Builtin.firstCells, hnc, storeCells]
theorem run_appv {w : World} {B : Nat} {v : Value} {l : List SV} {A : Option Addr} {m c : Nat} {news : List SV} (ty : TypeId) (h : Rowv w B v l) (hs : Srcv w A m news) (hA : A = none → m = 0) (hle : l.length + m ≤ 1000000) (hB : B ≤ w.heap.size) :
    ∃ v' w', (Builtin.append_ #[68, 68] ty #[v, .slice A m c]).run Tryz.prog w = .ok v' w' ∧ Rowv w' B v' (l ++ news) ∧ Fr v.ownBlock.toList w w' ∧ (v'.ownBlock = v.ownBlock ∨ v'.ownBlock = some w.heap.size) := by
  obtain ⟨i, hi, hz0, hz1, hz2⟩ := info_parts infoSl
  cases A with
  | none =>
    obtain rfl := hA rfl
    have : news = [] := List.length_eq_zero_iff.1 hs.1
    subst this
    exact ⟨v, w, run_append_nilv h, by simpa using h, Fr.refl _ w, .inl rfl⟩
  | some ad =>
    have hc : ∀ j u, (vvs news)[j]? = some u → w.cell? (ad.add j) = some u := by
      intro j u hu
      obtain ⟨x, hx, rfl⟩ := vvs_get hu
      have hm : 0 < m := by have := (List.getElem?_eq_some_iff.1 hx).1; have := hs.1; omega
      obtain ⟨ad', e, hc⟩ := hs.2 hm
      cases e
      exact hc j x hx
    obtain ⟨v', w', hr, h2, h3, _, h5⟩ := run_append_own_at (P := Tryz.prog) w B 68 ty 67 i (.slice none 0 0) 1 24 Tryz.underlying68 hi hz0 hz1 hz2 rfl (by decide) v l.length (vvs l) h ad m c (vvs news) (by rw [vvs_len, hs.1]; omega) hc (vvs_one _) (by unfold maxLen; omega) (by omega) hB
    refine ⟨v', w', hr, ?_, ⟨h3.os, h3.tape, h3.output, h3.size, fun k hk hn => h3.block k hk (fun e => hn (by simp [← e]))⟩, h5⟩
    unfold Rowv
    rw [List.length_append, hs.1]
    simpa [vvs] using h2
theorem step_appv {ops : Array Oper} {o : Oper} {a : Act} {w : World} {K : Act → World → Prop} {Q : Exit → Act → World → Prop} {E : Prop}
    (hg : o.guard = none) (s x : Operand) (hop : o.op = Op.call { callee := Callee.builtin Builtin.append, args := #[s, x], argTypes := #[68, 68] })
    (B : Nat) (v : Value) (l : List SV) (hs : a.eval s = v) (h : Rowv w B v l) (A : Option Addr) (m c : Nat) (news : List SV) (hx : a.eval x = .slice A m c) (hsr : Srcv w A m news) (hA : A = none → m = 0) (hle : l.length + m ≤ 1000000) (hB : B ≤ w.heap.size)
    (hK : ∀ v' w', Rowv w' B v' (l ++ news) → Fr v.ownBlock.toList w w' → (v'.ownBlock = v.ownBlock ∨ v'.ownBlock = some w.heap.size) → K (a.put o.dst v') w') :
    if Region.wanted o (yielded ops a.tmps) = true then Oper.wp Tryz.prog o a w K Q else E := by
  have hw : Region.wanted o (yielded ops a.tmps) = true := by simp [Region.wanted, hg]
  rw [if_pos hw]
  obtain ⟨v', w', hr, h1, h2, h3⟩ := run_appv (c := c) o.type h hsr hA hle hB
  unfold Oper.wp
  simp [execOp, hop, resolve, invoke, builtin, hs, hx, hr, Result.andThen]
  exact hK v' w' h1 h2 h3
end Go.Proofs.YtklnpooninbogaaGreat
