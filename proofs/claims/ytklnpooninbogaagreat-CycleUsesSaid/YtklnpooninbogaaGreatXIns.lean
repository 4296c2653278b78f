
import Derived.Test.YtklnpooninbogaaGreatMMXDel
import Derived.Test.YtklnpooninbogaaGreatMRing
import Derived.Deep.AppendSrc
import Derived.Lib.AppendZeros
import Derived.Lib.AppendZerosOnto
import Derived.Lib.Overlaps
import Derived.Laws.NewBlocks
namespace Go.Proofs.YtklnpooninbogaaGreat
open Go Go.Proofs Go.RowKit
theorem setL_eq (cs vs : List Value) (o : Nat) (h : o + vs.length ≤ cs.length) : setL cs o vs = cs.take o ++ vs ++ cs.drop (o + vs.length) := by
  have e : cs = cs.take o ++ (cs.drop o).take vs.length ++ cs.drop (o + vs.length) := by
    rw [List.append_assoc, ← List.drop_drop, List.take_append_drop, List.take_append_drop]
  have := setL_mid vs ((cs.drop o).take vs.length) (cs.take o) (cs.drop (o + vs.length)) (by simp; omega)
  rw [← e] at this
  rw [show (cs.take o).length = o by simp; omega] at this
  exact this
theorem flat_take (l : List (Int × Int)) (k : Nat) : (flat l).take (2 * k) = flat (l.take k) := by
  induction l generalizing k with
  | nil => simp [flat]
  | cons x l ih =>
    cases k with
    | zero => simp [flat]
    | succ k => rw [flat_cons, List.take_succ_cons, flat_cons, show 2 * (k + 1) = 2 * k + 1 + 1 by omega]; simp [ih]
theorem flat_drop (l : List (Int × Int)) (k : Nat) : (flat l).drop (2 * k) = flat (l.drop k) := by
  induction l generalizing k with
  | nil => simp [flat]
  | cons x l ih =>
    cases k with
    | zero => simp [flat]
    | succ k => rw [flat_cons, List.drop_succ_cons, show 2 * (k + 1) = 2 * k + 1 + 1 by omega]; simp [ih]
theorem flat_one (l : List (Int × Int)) : ∀ v ∈ flat l, v.oneCell' = true := by
  intro u hu
  simp only [flat, List.mem_flatMap, List.mem_cons, List.mem_nil_iff, or_false] at hu
  obtain ⟨y, _, rfl | rfl⟩ := hu <;> rfl
theorem flat_putAt (l : List (Int × Int)) (k : Nat) (a n : Int) : flat (putAt l k a n) = flat (l.take k) ++ (.int .i64 a :: .int .i64 n :: flat (l.drop k)) := by
  simp [putAt, flat_append, flat_cons]
theorem putAt_len (l : List (Int × Int)) (k : Nat) (a n : Int) : (putAt l k a n).length = l.length + 1 := by
  have := congrArg List.length (List.take_append_drop k l)
  simp only [List.length_append] at this
  simp only [putAt, List.length_append, List.length_cons]; omega
theorem run_copy2 (w : World) (ty : TypeId) (b o dLen dCap : Nat) (a : Addr) (sLen sCap : Nat) (cs : List Value) (m : Nat) (hm : m = Nat.min sLen dLen) (hn : cs.length = m * 2)
    (hsrc : ∀ j v, cs[j]? = some v → w.cell? (a.add j) = some v) (hc : ∀ j, j < cs.length → (w.cell? ⟨b, o + j, none⟩).isSome = true) (hf : ∀ j, j < cs.length → w.frozen? ⟨b, o + j, none⟩ = false) (h1 : ∀ v ∈ cs, v.oneCell' = true) :
    (Builtin.copy_ #[172, 172] ty #[.slice (some ⟨b, o, none⟩) dLen dCap, .slice (some a) sLen sCap]).run Tryz.prog w = .ok (goInt m) (w.setCells b o cs) := by
  obtain ⟨i, hi, hz0, hz1, hz2⟩ := info_parts info_run
  have hl := run_loadCells_list (P := Tryz.prog) w a cs hsrc
  have hst := run_storeCells_cells (P := Tryz.prog) b o cs 0 w (by simpa using hc) (by simpa using hf) h1
  rw [hn] at hl
  simp [Builtin.copy_, run_underlying Tryz.underlying172, Builtin.lenOf, Builtin.firstCells, sizeOf, typeInfo, hi, hz1, ← hm, hl, hst]
theorem wpList_copy2 {P : Program} (w : World) {ops : Array Oper} {rest : List Oper} {o : Oper} {a : Act} {Q : Exit → Act → World → Prop} (hgd : o.guard = none) (d s : Operand) (t t' : TypeId)
    (ho : o.op = .call { callee := .builtin .copy, args := #[d, s], argTypes := #[t, t'] }) (v u : Value) (hd : a.eval d = v) (hs : a.eval s = u) {v' : Value} {w' : World}
    (hr : (Builtin.copy_ #[t, t'] o.type #[v, u]).run P w = .ok v' w') (h : wpList P ops Q rest (a.put o.dst v') w') : wpList P ops Q (o :: rest) a w := by
  refine wpList_plain hgd fun K' hK' => ?_
  unfold Oper.wp
  simp [execOp, ho, resolve, invoke, builtin, hd, hs, hr, Result.andThen]
  exact hK' _ _ h
theorem step_copy2 {P : Program} {ops : Array Oper} {o : Oper} {a : Act} {w : World} {K : Act → World → Prop} {Q : Exit → Act → World → Prop} {E : Prop}
    (hg : o.guard = none) (d x : Operand) (dT sT : TypeId) (hop : o.op = Op.call { callee := Callee.builtin Builtin.copy, args := #[d, x], argTypes := #[dT, sT] })
    (v u : Value) (hd : a.eval d = v) (hx : a.eval x = u) {v' : Value} {w' : World} (hr : (Builtin.copy_ #[dT, sT] o.type #[v, u]).run P w = .ok v' w') (hK : K (a.put o.dst v') w') :
    if Region.wanted o (yielded ops a.tmps) = true then Oper.wp P o a w K Q else E := by
  have hw : Region.wanted o (yielded ops a.tmps) = true := by simp [Region.wanted, hg]
  rw [if_pos hw]
  unfold Oper.wp
  simp [execOp, hop, resolve, invoke, builtin, hd, hx, hr, Result.andThen]
  exact hK
def InsPost (b : Nat) (l : List (Int × Int)) (k : Nat) (a n : Int) (w : World) (e : Ending) (w' : World) : Prop :=
  ∃ b' cap' rest', e = .returned (.slice (some ⟨b', 0, none⟩) (l.length + 1) cap') ∧ Blk w' b' (flat (putAt l k a n) ++ rest') 175 ∧ (flat (putAt l k a n) ++ rest').length = 2 * cap' ∧ cap' ≤ maxLen ∧ (b' = b ∨ w.heap.size ≤ b') ∧ Fr [b] w w'
theorem Blk.isSome {w : World} {b : Nat} {cs : List Value} {T : TypeId} (h : Blk w b cs T) {j : Nat} (hj : j < cs.length) : (w.cell? ⟨b, j, none⟩).isSome = true := by
  rw [h.cell (List.getElem?_eq_getElem hj)]; rfl
set_option maxHeartbeats 1600000 in
set_option maxRecDepth 100000 in
theorem insEndRoom (b vb : Nat) (l : List (Int × Int)) (a n : Int) (rest : List Value) (cap N : Nat) (w : World) (hN : N = l.length) (hb : Blk w b (flat l ++ rest) 175) (hl : (flat l ++ rest).length = 2 * cap) (hcap : cap ≤ maxLen) (hv : Blk w vb [.int .i64 a, .int .i64 n] 175) (_hne : vb ≠ b) (hr : l.length + 1 ≤ cap) :
    Calls Tryz.prog 152 #[.slice (some ⟨b, 0, none⟩) N cap, .int .i64 N, .slice (some ⟨vb, 0, none⟩) 1 1] w (InsPost b l N a n w) := by
  obtain ⟨i0, hi0, hz0, hz1, hz2⟩ := info_parts info_run
  unfold maxLen at hcap
  have hfl := flat_len l
  have hrl : 2 ≤ rest.length := by simp [hfl] at hl; omega
  have hsrc : Src Tryz.prog i0.size 172 (.slice (some ⟨vb, 0, none⟩) 1 1) 1 [.int .i64 a, .int .i64 n] w := by
    rw [hz1]
    exact Src.ofSlice w Tryz.underlying172 ⟨vb, 0, none⟩ 1 1 _ rfl (fun j u hj => by rw [Addr.add_lit]; exact hv.cell (by simpa using hj)) (by simp [Value.oneCell'])
  have hrun : ∀ ty, (Builtin.append_ #[172, 172] ty #[.slice (some ⟨b, 0, none⟩) N cap, .slice (some ⟨vb, 0, none⟩) 1 1]).run Tryz.prog w = .ok (.slice (some ⟨b, 0, none⟩) (N + 1) cap) (w.setCells b (2 * N) [.int .i64 a, .int .i64 n]) := fun ty => by
    have := run_append_room_src w 172 172 ty 175 i0 Tryz.underlying172 hi0 b 0 N cap _ 1 _ hsrc (by omega) (fun j hj => ?_) (fun j hj => hb.frozen _)
    · rw [this, hz1, Nat.zero_add, Nat.mul_comm]
    · refine hb.isSome ?_
      simp at hj
      rw [hz1, hl]; omega
  have hW : Hid (Blk (w.setCells b (2 * N) [.int .i64 a, .int .i64 n]) b (flat (putAt l N a n) ++ rest.drop 2) 175) := by
    have := Blk.setCells [.int .i64 a, .int .i64 n] (2 * N) w _ hb
    rw [setL_eq _ _ _ (by rw [hl]; simp; omega)] at this
    have e : (flat l ++ rest).take (2 * N) ++ [.int .i64 a, .int .i64 n] ++ (flat l ++ rest).drop (2 * N + [Value.int .i64 a, .int .i64 n].length) = flat (putAt l N a n) ++ rest.drop 2 := by
      have e2 : (2 * N : Nat) = (flat l).length := by rw [hfl, hN]
      rw [e2, List.take_left', List.drop_append, List.drop_of_length_le (by simp)]
      · rw [flat_putAt, hN, List.take_length, List.drop_length]
        simp [flat]
      · rfl
    rw [e] at this
    exact this
  have hF : Hid (Fr [b] w (w.setCells b (2 * N) [.int .i64 a, .int .i64 n])) := Fr.setCells _ _ (Fr.refl _ w) (by simp)
  have hL : Hid ((flat (putAt l N a n) ++ rest.drop 2).length = 2 * cap) := by
    show _ = _
    simp only [List.length_append, flat_len, putAt_len, List.length_drop] at hl ⊢
    omega
  obtain ⟨W1, hW1⟩ : ∃ W1, W1 = w.setCells b (2 * N) [.int .i64 a, .int .i64 n] := ⟨_, rfl⟩
  rw [← hW1] at hrun hW hF
  have HC := hid hcap
  have hlen := hid hN
  have hcn : ¬ (cap = N) := by omega
  clear hsrc hi0 hz0 hz1 hz2 hb hl hv hfl hrl hW1 hN
  go_enter Tryz.func152, Tryz.ntmps152
  go_wp2_with (at_builtin; refine Lib.wpList_append_run _ rfl _ _ _ _ rfl _ _ rfl rfl _ _ (hrun _) ?_)
  go_ret
  exact ⟨b, cap, _, by rw [← hlen.out]; rfl, hW.out, hL.out, HC.out, .inl rfl, hF.out⟩
set_option maxHeartbeats 1600000 in
set_option maxRecDepth 100000 in
theorem insEndGrow (b vb : Nat) (l : List (Int × Int)) (a n : Int) (rest : List Value) (cap N : Nat) (w : World) (hN : N = l.length) (hb : Blk w b (flat l ++ rest) 175) (hl : (flat l ++ rest).length = 2 * cap) (hv : Blk w vb [.int .i64 a, .int .i64 n] 175) (_hne : vb ≠ b) (hr : cap < l.length + 1) (hs : l.length ≤ 65536) :
    Calls Tryz.prog 152 #[.slice (some ⟨b, 0, none⟩) N cap, .int .i64 N, .slice (some ⟨vb, 0, none⟩) 1 1] w (InsPost b l N a n w) := by
  obtain ⟨i0, hi0, hz0, hz1, hz2⟩ := info_parts info_run
  have hfl := flat_len l
  have hcl : l.length ≤ cap := by simp [hfl] at hl; omega
  obtain rfl : cap = N := by omega
  have hsrc : Src Tryz.prog i0.size 172 (.slice (some ⟨vb, 0, none⟩) 1 1) 1 [.int .i64 a, .int .i64 n] w := by
    rw [hz1]
    exact Src.ofSlice w Tryz.underlying172 ⟨vb, 0, none⟩ 1 1 _ rfl (fun j u hj => by rw [Addr.add_lit]; exact hv.cell (by simpa using hj)) (by simp [Value.oneCell'])
  have hold : (Builtin.firstCells i0.size cap (.slice (some ⟨b, 0, none⟩) cap cap)).run Tryz.prog w.drew = .ok (flat l).toArray w.drew := by
    rw [hz1]
    exact run_firstCells_some w.drew 2 cap ⟨b, 0, none⟩ cap cap (flat l) (by rw [hfl, hN]; omega) (fun j v hj => by
      rw [Addr.add_lit, Nat.zero_add]
      exact hb.cell (by rw [List.getElem?_append_left (List.getElem?_eq_some_iff.1 hj).1]; exact hj))
  have hrun : ∀ ty, (Builtin.append_ #[172, 172] ty #[.slice (some ⟨b, 0, none⟩) cap cap, .slice (some ⟨vb, 0, none⟩) 1 1]).run Tryz.prog w = _ := fun ty =>
    run_append_grow_src w 172 172 ty 175 i0 _ Tryz.underlying172 hi0 hz0 (some ⟨b, 0, none⟩) cap cap (flat l) hold _ 1 _ hsrc (by omega) (by omega) (by rw [hz2]; exact growslice_fits (by omega) (by omega))
  have hG := grownCap_ge w (cap + 1) cap 175
  have hG2 := grownCap_le_maxLen w (cap + 1) cap 175 (by unfold maxLen; omega)
  obtain ⟨G, hGe⟩ : ∃ G, G = grownCap w (cap + 1) cap 175 := ⟨_, rfl⟩
  rw [← hGe] at hrun hG hG2
  obtain ⟨zs, hzs⟩ : ∃ zs, zs = Builtin.zeroCells (Value.agg #[.int .i64 0, .int .i64 0]).cells (G - (cap + 1)) := ⟨_, rfl⟩
  have hzl : zs.size = 2 * (G - (cap + 1)) := by rw [hzs]; simp [Builtin.zeroCells, Value.cells]; omega
  rw [← hzs] at hrun
  obtain ⟨W1, hW1⟩ : ∃ W1, W1 = w.drew.alloc (.cells ((flat l ++ [Value.int .i64 a, Value.int .i64 n]).toArray ++ zs) 175) := ⟨_, rfl⟩
  have hW : Hid (Blk W1 w.heap.size (flat (putAt l cap a n) ++ zs.toList) 175) := by
    have e : flat (putAt l cap a n) ++ zs.toList = ((flat l ++ [Value.int .i64 a, Value.int .i64 n]).toArray ++ zs).toList := by
      rw [flat_putAt, hN, List.take_length, List.drop_length]
      simp [flat]
    rw [hW1, e]
    exact Blk.new w.drew _ _
  have hF : Hid (Fr [b] w W1) := by rw [hW1]; exact ((Fr.refl _ w).drew).alloc _
  have hL : Hid ((flat (putAt l cap a n) ++ zs.toList).length = 2 * G) := by
    show _ = _
    simp only [List.length_append, flat_len, putAt_len, Array.length_toList]
    omega
  rw [← hW1] at hrun
  have HG := hid hG2
  have hlen := hid hN
  clear hsrc hi0 hz0 hz1 hz2 hb hl hv hfl hcl hW1 hN hold hG hG2 hGe hzs hzl
  go_enter Tryz.func152, Tryz.ntmps152
  go_wp2_with (at_builtin; refine Lib.wpList_append_run _ rfl _ _ _ _ rfl _ _ rfl rfl _ _ (hrun _) ?_)
  go_ret
  exact ⟨w.heap.size, G, _, by rw [← hlen.out]; rfl, hW.out, hL.out, HG.out, .inr (Nat.le_refl _), hF.out⟩
end Go.Proofs.YtklnpooninbogaaGreat
