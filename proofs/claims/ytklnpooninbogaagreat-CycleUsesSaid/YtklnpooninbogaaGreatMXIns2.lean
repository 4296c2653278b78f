
import Derived.Test.YtklnpooninbogaaGreatXIns
import Derived.Laws.Externs
import Derived.Deep.QuietTactic
import Derived.BigQuiet
import Derived.StillTailTactics
namespace Go.Proofs.YtklnpooninbogaaGreat
open Go Go.Proofs Go.RowKit
theorem Blk.shape {w : World} {b : Nat} {cs : List Value} {T : TypeId} (h : Blk w b cs T) : w.shape? b = some (T, cs.length) := by
  unfold Blk at h
  simp [World.shape?, h]
set_option maxHeartbeats 3200000 in
set_option maxRecDepth 100000 in
theorem insShift (b vb : Nat) (l : List (Int × Int)) (a n : Int) (rest : List Value) (cap N k : Nat) (w : World) (hN : N = l.length) (hk : k < N) (hb : Blk w b (flat l ++ rest) 175) (hl : (flat l ++ rest).length = 2 * cap) (hcap : cap ≤ maxLen) (hv : Blk w vb [.int .i64 a, .int .i64 n] 175) (hne : vb ≠ b) (hr : l.length + 1 ≤ cap) :
    Calls Tryz.prog 152 #[.slice (some ⟨b, 0, none⟩) N cap, .int .i64 k, .slice (some ⟨vb, 0, none⟩) 1 1] w (InsPost b l k a n w) := by
  have HC := hid hcap
  unfold maxLen at hcap
  have hfl := flat_len l
  have hov : ∀ lb cb, (callFunc 169 #[.slice (some ⟨vb, 0, none⟩) 1 1, .slice (some ⟨b, (k + 1) * 2, none⟩) lb cb]).run Tryz.prog w = .ok (.value (.bool false)) w := fun lb cb => by
    rw [run_callFunc_extern Tryz.func169 (by kernel_rfl) (by kernel_rfl) (by kernel_rfl) (e := Extern.SlicesOverlaps.overlaps #[172, 172] #[4]) (by kernel_rfl),
      Lib.run_overlaps_apart w 172 4 175 Tryz.underlying172 2 (fun _ => by kernel_rfl) ⟨vb, 0, none⟩ ⟨b, (k + 1) * 2, none⟩ 1 1 lb cb hne _ _ _ _ hv.shape hb.shape (by rw [hl]; omega) (hv.frozen _) (hv.frozen _)]
    rfl
  obtain ⟨D, hD⟩ : ∃ D, D = flat (l.drop k) := ⟨_, rfl⟩
  have hDl : D.length = (N - k) * 2 := by rw [hD, flat_len, List.length_drop, hN]; omega
  have hcp1 : ∀ ty dc sc, (Builtin.copy_ #[172, 172] ty #[.slice (some ⟨b, (k + 1) * 2, none⟩) (N - k) dc, .slice (some ⟨b, k * 2, none⟩) (N + 1 - k) sc]).run Tryz.prog w.drew = .ok (goInt (N - k : Nat)) (w.drew.setCells b ((k + 1) * 2) D) := fun ty dc sc =>
    run_copy2 w.drew ty b ((k + 1) * 2) _ dc ⟨b, k * 2, none⟩ _ sc D (N - k) (by simp only [Nat.min_def]; split <;> omega) hDl
      (fun j v hj => by
        rw [Addr.add_lit]
        refine hb.drew.cell ?_
        rw [hD, ← flat_drop] at hj
        rw [List.getElem?_drop] at hj
        rw [List.getElem?_append_left (by have := (List.getElem?_eq_some_iff.1 hj).1; omega), Nat.mul_comm k 2]
        exact hj)
      (fun j hj => hb.drew.isSome (by rw [hl]; omega)) (fun j _ => hb.drew.frozen _) (by rw [hD]; exact flat_one _)
  obtain ⟨W1, hW1⟩ : ∃ W1, W1 = w.drew.setCells b ((k + 1) * 2) D := ⟨_, rfl⟩
  have hB1 : Blk W1 b ((flat l ++ rest).take (2 * k + 2) ++ D ++ (flat l ++ rest).drop (2 * N + 2)) 175 := by
    rw [hW1]
    have := Blk.setCells D ((k + 1) * 2) _ _ hb.drew
    rw [setL_eq _ _ _ (by rw [hl, hDl]; omega), hDl, show (k + 1) * 2 = 2 * k + 2 by omega, show 2 * k + 2 + (N - k) * 2 = 2 * N + 2 by omega] at this
    rw [show (k + 1) * 2 = 2 * k + 2 by omega]
    exact this
  have hl1 : ((flat l ++ rest).take (2 * k + 2) ++ D ++ (flat l ++ rest).drop (2 * N + 2)).length = 2 * cap := by
    rw [List.length_append, List.length_append, List.length_take, List.length_drop, hl, hDl]
    simp only [Nat.min_def]; split <;> omega
  have hV1 : Blk W1 vb [.int .i64 a, .int .i64 n] 175 := by
    rw [hW1]
    exact hv.drew.fr (S := [b]) (Fr.setCells _ _ (Fr.refl _ _) (by simp)) (by simpa using hne)
  have hcp2 : ∀ ty dc, (Builtin.copy_ #[172, 172] ty #[.slice (some ⟨b, k * 2, none⟩) (N + 1 - k) dc, .slice (some ⟨vb, 0, none⟩) 1 1]).run Tryz.prog W1 = .ok (goInt (1 : Nat)) (W1.setCells b (k * 2) [.int .i64 a, .int .i64 n]) := fun ty dc =>
    run_copy2 W1 ty b (k * 2) _ dc ⟨vb, 0, none⟩ 1 1 _ 1 (by simp only [Nat.min_def]; split <;> omega) rfl
      (fun j v hj => by rw [Addr.add_lit, Nat.zero_add]; exact hV1.cell hj)
      (fun j hj => hB1.isSome (by rw [hl1]; simp at hj; omega)) (fun j _ => hB1.frozen _) (by simp [Value.oneCell'])
  obtain ⟨W2, hW2⟩ : ∃ W2, W2 = W1.setCells b (k * 2) [.int .i64 a, .int .i64 n] := ⟨_, rfl⟩
  have hB2 : Hid (Blk W2 b (flat (putAt l k a n) ++ rest.drop 2) 175) := by
    have := Blk.setCells [.int .i64 a, .int .i64 n] (k * 2) _ _ hB1
    rw [setL_eq _ _ _ (by rw [hl1]; simp; omega)] at this
    rw [hW2]
    have e : ((flat l ++ rest).take (2 * k + 2) ++ D ++ (flat l ++ rest).drop (2 * N + 2)).take (k * 2) ++ [.int .i64 a, .int .i64 n] ++ ((flat l ++ rest).take (2 * k + 2) ++ D ++ (flat l ++ rest).drop (2 * N + 2)).drop (k * 2 + [Value.int .i64 a, .int .i64 n].length) = flat (putAt l k a n) ++ rest.drop 2 := by
      have e1 : ((flat l ++ rest).take (2 * k + 2)).length = k * 2 + [Value.int .i64 a, .int .i64 n].length := by rw [List.length_take, hl]; simp only [List.length_cons, List.length_nil, Nat.min_def]; split <;> omega
      rw [List.append_assoc ((flat l ++ rest).take (2 * k + 2)), List.drop_left' e1, List.take_append, List.take_take, show min (k * 2) (2 * k + 2) = k * 2 by omega, e1, show k * 2 - (k * 2 + [Value.int .i64 a, .int .i64 n].length) = 0 by omega, List.take_zero, List.append_nil]
      rw [List.take_append, hfl, show k * 2 - 2 * l.length = 0 by omega, List.take_zero, List.append_nil, Nat.mul_comm k 2, flat_take]
      rw [List.drop_append, List.drop_of_length_le (by omega), hfl, show 2 * N + 2 - 2 * l.length = 2 by omega, flat_putAt, hD]
      simp
    rw [e] at this
    exact this
  have hF : Hid (Fr [b] w W2) := by rw [hW2, hW1]; exact Fr.setCells _ _ (Fr.setCells _ _ ((Fr.refl _ w).drew) (by simp)) (by simp)
  have hL : Hid ((flat (putAt l k a n) ++ rest.drop 2).length = 2 * cap) := by
    show _ = _
    simp only [List.length_append, flat_len, putAt_len, List.length_drop] at hl ⊢
    omega
  rw [← hW1] at hcp1
  rw [← hW2] at hcp2
  have HN := hid hN
  have hNc : N + 1 ≤ cap := by omega
  clear hD hDl hfl hW1 hB1 hl1 hV1 hW2 hb hl hv hr hN
  have hw1 : IntKind.i64.wrap ((k : Int) + 1) = (k : Int) + 1 := by rw [IntKind.wrap_i64]; omega
  have hw2 : IntKind.i64.wrap ((N : Int) + 1) = (N : Int) + 1 := by rw [IntKind.wrap_i64]; omega
  have hz2 : ¬ ((k : Int) = (N : Int)) := by omega
  have hb1 : (0 : Int) ≤ (k : Int) + 1 := by omega
  have htn : ((k : Int) + 1).toNat = k + 1 := by omega
  have htN : ((N : Int) + 1).toNat = N + 1 := by omega
  have hb2 : ¬ (cap = k + 1) := by omega
  have hb3 : (k : Int) ≤ (N : Int) + 1 := by omega
  have hb4 : ¬ (cap = k) := by omega
  have hb5 : (k : Int) + 1 ≤ (N : Int) + 1 := by omega
  have hb6 : (k : Int) ≤ (N : Int) := by omega
  have hb7 : ¬ ((cap : Int) < (N : Int) + 1) := by omega
  go_enter Tryz.func152, Tryz.ntmps152
  go_wp2_with (simp only [hov])
  go_region_law (refine step_copy2 rfl _ _ 172 172 rfl _ _ (by simp [Act.eval, Act.put]) (by simp [Act.eval, Act.put]) (hcp1 _ _ _) ?_)
  go_wp2_with (at_builtin; refine wpList_copy2 _ rfl _ _ 172 172 rfl _ _ rfl rfl (hcp2 _ _) ?_)
  go_ret
  exact ⟨b, cap, _, by rw [← HN.out]; rfl, hB2.out, hL.out, HC.out, .inl rfl, hF.out⟩
set_option maxHeartbeats 3200000 in
set_option maxRecDepth 100000 in
theorem insGrow (b vb : Nat) (l : List (Int × Int)) (a n : Int) (rest : List Value) (cap N k : Nat) (w : World) (hN : N = l.length) (hk : k < N) (hb : Blk w b (flat l ++ rest) 175) (hl : (flat l ++ rest).length = 2 * cap) (hv : Blk w vb [.int .i64 a, .int .i64 n] 175) (_hne : vb ≠ b) (hr : cap < l.length + 1) (hs : l.length ≤ 65536) :
    Calls Tryz.prog 152 #[.slice (some ⟨b, 0, none⟩) N cap, .int .i64 k, .slice (some ⟨vb, 0, none⟩) 1 1] w (InsPost b l k a n w) := by
  obtain ⟨i0, hi0, hz0, hz1, hzb⟩ := info_parts info_run
  have hfl := flat_len l
  have hcl : N ≤ cap := by simp [hfl] at hl; omega
  have hbw := hb.lt
  have hvw := hv.lt
  have hold : (Builtin.firstCells i0.size k (.slice (some ⟨b, 0, none⟩) k cap)).run Tryz.prog w.drew = .ok (flat (l.take k)).toArray w.drew := by
    rw [hz1]
    exact run_firstCells_some w.drew 2 k ⟨b, 0, none⟩ k cap (flat (l.take k)) (by rw [flat_len, List.length_take]; omega) (fun j v hj => by
      rw [Addr.add_lit, Nat.zero_add]
      rw [← flat_take, List.getElem?_take] at hj
      split at hj
      · exact hb.drew.cell (by rw [List.getElem?_append_left (List.getElem?_eq_some_iff.1 hj).1]; exact hj)
      · cases hj)
  have hkk : (N : Int) + 1 - (k : Int) = ((N + 1 - k : Nat) : Int) := by omega
  have hik : k + (N + 1 - k) = N + 1 := by omega
  obtain ⟨G, hG⟩ : ∃ G, G = grownCap w (N + 1) cap 175 := ⟨_, rfl⟩
  have hG1 : N + 1 ≤ G := by rw [hG]; exact grownCap_ge w _ _ _
  have hG2 : G ≤ maxLen := by rw [hG]; exact grownCap_le_maxLen w (N + 1) cap 175 (by unfold maxLen; omega)
  obtain ⟨ROW, hROW⟩ : ∃ ROW : Array Value, ROW = (flat (l.take k)).toArray ++ Builtin.zeroCells (Value.agg #[.int .i64 0, .int .i64 0]).cells (N + 1 - k) ++ Builtin.zeroCells (Value.agg #[.int .i64 0, .int .i64 0]).cells (G - (N + 1)) := ⟨_, rfl⟩
  have hrz : ∀ ty, (Builtin.append_ #[172, 3] ty #[.slice (some ⟨b, 0, none⟩) k cap, .int .i64 ((N : Int) + 1 - (k : Int))]).run Tryz.prog w =
      .ok (.slice (some ⟨w.heap.size, 0, none⟩) (N + 1) G) (w.drew.alloc (.cells ROW 175)) := fun ty => by
    have h := Lib.run_append_grow_zeros w 172 3 ty 175 i0 _ .i64 .i64 Tryz.underlying172 Tryz.underlying3 hi0 hz0 (some ⟨b, 0, none⟩) k cap (flat (l.take k)) hold (N + 1 - k) (by omega) (by omega) (by omega) (by omega) (by rw [hzb]; omega) (by rw [hzb, hik]; exact growslice_fits (by omega) (by omega))
    rw [hik] at h
    rw [hkk, h, hROW, hG]
  have hRl : ROW.size = 2 * G := by
    rw [hROW]
    simp [Builtin.zeroCells, Value.cells, flat_len]
    omega
  obtain ⟨W1, hW1⟩ : ∃ W1, W1 = w.drew.alloc (.cells ROW 175) := ⟨_, rfl⟩
  rw [← hW1] at hrz
  have hR0 : ROW.toList.take (2 * k) = flat (l.take k) := by
    rw [hROW]
    simp only [Array.toList_append, List.append_assoc]
    rw [List.take_left' (by rw [flat_len, List.length_take]; omega)]
  have hB1 : Blk W1 w.heap.size ROW.toList 175 := by rw [hW1]; exact Blk.new w.drew _ _
  have hV1 : Blk W1 vb [.int .i64 a, .int .i64 n] 175 := by rw [hW1]; exact hv.drew.alloc _
  have hb1 : Blk W1 b (flat l ++ rest) 175 := by rw [hW1]; exact hb.drew.alloc _
  have hcpA : ∀ ty dc, (Builtin.copy_ #[172, 172] ty #[.slice (some ⟨w.heap.size, k * 2, none⟩) (N + 1 - k) dc, .slice (some ⟨vb, 0, none⟩) 1 1]).run Tryz.prog W1 = .ok (goInt (1 : Nat)) (W1.setCells w.heap.size (k * 2) [.int .i64 a, .int .i64 n]) := fun ty dc =>
    run_copy2 W1 ty w.heap.size (k * 2) _ dc ⟨vb, 0, none⟩ 1 1 _ 1 (by simp only [Nat.min_def]; split <;> omega) rfl
      (fun j v hj => by rw [Addr.add_lit, Nat.zero_add]; exact hV1.cell hj)
      (fun j hj => hB1.isSome (by rw [Array.length_toList, hRl]; simp at hj; omega)) (fun j _ => hB1.frozen _) (by simp [Value.oneCell'])
  obtain ⟨W2, hW2⟩ : ∃ W2, W2 = W1.setCells w.heap.size (k * 2) [.int .i64 a, .int .i64 n] := ⟨_, rfl⟩
  have hB2 : Blk W2 w.heap.size (flat (l.take k) ++ [Value.int .i64 a, Value.int .i64 n] ++ ROW.toList.drop (2 * k + 2)) 175 := by
    rw [hW2]
    have := Blk.setCells [.int .i64 a, .int .i64 n] (k * 2) _ _ hB1
    rw [setL_eq _ _ _ (by simp only [Array.length_toList, hRl, List.length_cons, List.length_nil]; omega), Nat.mul_comm k 2, hR0] at this
    rw [Nat.mul_comm k 2]
    exact this
  have hl2 : (flat (l.take k) ++ [Value.int .i64 a, Value.int .i64 n] ++ ROW.toList.drop (2 * k + 2)).length = 2 * G := by
    simp only [List.length_append, flat_len, List.length_take, List.length_drop, Array.length_toList, hRl, List.length_cons, List.length_nil]
    omega
  have hb2 : Blk W2 b (flat l ++ rest) 175 := by
    rw [hW2]
    exact hb1.fr (S := [w.heap.size]) (Fr.setCells _ _ (Fr.refl _ _) (by simp)) (by simp; omega)
  obtain ⟨D, hD⟩ : ∃ D, D = flat (l.drop k) := ⟨_, rfl⟩
  have hDl : D.length = (N - k) * 2 := by rw [hD, flat_len, List.length_drop, hN]; omega
  have hcpB : ∀ ty dc sc, (Builtin.copy_ #[172, 172] ty #[.slice (some ⟨w.heap.size, (k + 1) * 2, none⟩) (N - k) dc, .slice (some ⟨b, k * 2, none⟩) (N - k) sc]).run Tryz.prog W2.drew = .ok (goInt (N - k : Nat)) (W2.drew.setCells w.heap.size ((k + 1) * 2) D) := fun ty dc sc =>
    run_copy2 W2.drew ty w.heap.size ((k + 1) * 2) _ dc ⟨b, k * 2, none⟩ _ sc D (N - k) (by simp only [Nat.min_def]; split <;> omega) hDl
      (fun j v hj => by
        rw [Addr.add_lit]
        refine hb2.drew.cell ?_
        rw [hD, ← flat_drop] at hj
        rw [List.getElem?_drop] at hj
        rw [List.getElem?_append_left (by have := (List.getElem?_eq_some_iff.1 hj).1; omega), Nat.mul_comm k 2]
        exact hj)
      (fun j hj => hB2.drew.isSome (by rw [hl2]; omega)) (fun j _ => hB2.drew.frozen _) (by rw [hD]; exact flat_one _)
  obtain ⟨W3, hW3⟩ : ∃ W3, W3 = W2.drew.setCells w.heap.size ((k + 1) * 2) D := ⟨_, rfl⟩
  have hB3 : Hid (Blk W3 w.heap.size (flat (putAt l k a n) ++ ROW.toList.drop (2 * N + 2)) 175) := by
    have := Blk.setCells D ((k + 1) * 2) _ _ hB2.drew
    rw [setL_eq _ _ _ (by rw [hl2, hDl]; omega), hDl] at this
    rw [hW3]
    have e1 : (flat (l.take k) ++ [Value.int .i64 a, .int .i64 n]).length = (k + 1) * 2 := by simp only [List.length_append, flat_len, List.length_take, List.length_cons, List.length_nil]; omega
    have e : (flat (l.take k) ++ [Value.int .i64 a, .int .i64 n] ++ ROW.toList.drop (2 * k + 2)).take ((k + 1) * 2) ++ D ++ (flat (l.take k) ++ [Value.int .i64 a, .int .i64 n] ++ ROW.toList.drop (2 * k + 2)).drop ((k + 1) * 2 + (N - k) * 2) = flat (putAt l k a n) ++ ROW.toList.drop (2 * N + 2) := by
      rw [List.take_left' e1, List.drop_append, List.drop_of_length_le (by omega), e1, List.drop_drop, show 2 * k + 2 + ((k + 1) * 2 + (N - k) * 2 - (k + 1) * 2) = 2 * N + 2 by omega, flat_putAt, hD]
      simp
    rw [e] at this
    exact this
  have hF : Hid (Fr [b] w W3) := by
    have f1 : Fr [b] w W1 := by rw [hW1]; exact ((Fr.refl _ w).drew).alloc _
    rw [hW3, hW2]; exact Fr.setCells _ _ ((Fr.setCells _ _ f1 (.inr (Nat.le_refl _))).drew) (.inr (Nat.le_refl _))
  have hL : Hid ((flat (putAt l k a n) ++ ROW.toList.drop (2 * N + 2)).length = 2 * G) := by
    show _ = _
    simp only [List.length_append, flat_len, putAt_len, List.length_drop, Array.length_toList, hRl]
    omega
  rw [← hW2] at hcpA
  rw [← hW3] at hcpB
  have HN := hid hN
  have HG := hid hG2
  have hrc : cap < N + 1 := by omega
  unfold maxLen at hG2
  clear hi0 hz0 hz1 hzb hfl hbw hvw hold hkk hik hG hROW hRl hW1 hR0 hB1 hV1 hb1 hW2 hB2 hl2 hb2 hD hDl hW3 hb hl hv hr hN
  have hw1 : IntKind.i64.wrap ((k : Int) + 1) = (k : Int) + 1 := by rw [IntKind.wrap_i64]; omega
  have hw2 : IntKind.i64.wrap ((N : Int) + 1) = (N : Int) + 1 := by rw [IntKind.wrap_i64]; omega
  have hw3 : IntKind.i64.wrap ((N : Int) + 1 - k) = (N : Int) + 1 - k := by rw [IntKind.wrap_i64]; omega
  have hz2 : ¬ ((k : Int) = (N : Int)) := by omega
  have hz3 : (cap : Int) < (N : Int) + 1 := by omega
  have hb1 : (0 : Int) ≤ (k : Int) + 1 := by omega
  have htn : ((k : Int) + 1).toNat = k + 1 := by omega
  have hGi : ¬ (G = k) := by omega
  have hGim : ¬ (G = k + 1) := by omega
  have hci : ¬ (cap = k) := by omega
  have hb3 : (k : Int) ≤ (N : Int) + 1 := by omega
  have hb5 : (k : Int) + 1 ≤ (N : Int) + 1 := by omega
  have hb6 : (k : Int) ≤ (N : Int) := by omega
  go_enter Tryz.func152, Tryz.ntmps152
  go_wp2_with (first
    | (at_builtin; refine Lib.wpList_append_run _ rfl _ _ _ _ rfl _ _ rfl rfl _ _ (hrz _) ?_)
    | (at_builtin; refine wpList_copy2 _ rfl _ _ 172 172 rfl _ _ rfl rfl (hcpA _ _) ?_))
  go_region_law (refine step_copy2 rfl _ _ 172 172 rfl _ _ (by simp [Act.eval, Act.put]) (by simp [Act.eval, Act.put]) (hcpB _ _ _) ?_)
  go_wp2_with fail
  go_ret
  exact ⟨w.heap.size, G, _, by rw [← HN.out]; rfl, hB3.out, hL.out, HG.out, .inr (Nat.le_refl _), hF.out⟩
theorem insRun (b vb : Nat) (l : List (Int × Int)) (a n : Int) (rest : List Value) (cap k : Nat) (w : World) (hk : k ≤ l.length) (hb : Blk w b (flat l ++ rest) 175) (hl : (flat l ++ rest).length = 2 * cap) (hcap : cap ≤ maxLen) (hv : Blk w vb [.int .i64 a, .int .i64 n] 175) (hne : vb ≠ b) (hs : l.length ≤ 65536) :
    Calls Tryz.prog 152 #[.slice (some ⟨b, 0, none⟩) l.length cap, .int .i64 k, .slice (some ⟨vb, 0, none⟩) 1 1] w (InsPost b l k a n w) := by
  rcases Nat.lt_or_ge cap (l.length + 1) with h | h
  · rcases Nat.lt_or_ge k l.length with h2 | h2
    · exact insGrow b vb l a n rest cap l.length k w rfl h2 hb hl hv hne h hs
    · obtain rfl : k = l.length := by omega
      exact insEndGrow b vb l a n rest cap l.length w rfl hb hl hv hne h hs
  · rcases Nat.lt_or_ge k l.length with h2 | h2
    · exact insShift b vb l a n rest cap l.length k w rfl h2 hb hl hcap hv hne h
    · obtain rfl : k = l.length := by omega
      exact insEndRoom b vb l a n rest cap l.length w rfl hb hl hcap hv hne h
theorem give1Lit (x y a n : Int) (pa pn : Nat) (w : World) (ha : w.cell? ⟨pa, 0, none⟩ = some (.int .i64 a)) (hn : w.cell? ⟨pn, 0, none⟩ = some (.int .i64 n)) (la : pa < w.heap.size) (ln : pn < w.heap.size)
    (b1 : 0 ≤ a ∧ a ≤ 65536 ∧ 0 ≤ n ∧ n ≤ 65536) (b2 : 0 ≤ x ∧ x ≤ 65536 ∧ 0 ≤ y ∧ y ≤ 65536) (h : a + n ≤ x ∨ x + y ≤ a) :
    Calls Tryz.prog 150 #[.agg #[.int .i64 x, .int .i64 y], .pointer (some ⟨pa, 0, none⟩), .pointer (some ⟨pn, 0, none⟩)] w fun e w' => e = .returned (.bool false) ∧ Fr [] w w' := by
  have B0 := Blk.new w [.int .i64 x, .int .i64 y] 175
  have q0 := B0.cell (i := 0) rfl
  have q1 := B0.cell (i := 1) rfl
  have ha' : (w.alloc (.cells #[.int .i64 x, .int .i64 y] 175)).cell? ⟨pa, 0, none⟩ = some (.int .i64 a) := by
    rw [World.cell?_alloc_past _ _ _ la]; exact ha
  have hn' : (w.alloc (.cells #[.int .i64 x, .int .i64 y] 175)).cell? ⟨pn, 0, none⟩ = some (.int .i64 n) := by
    rw [World.cell?_alloc_past _ _ _ ln]; exact hn
  clear ha hn
  by_cases h1 : a + n ≤ x
  · have h1' : ¬ x < a + n := by omega
    clear h h1
    go_enter Tryz.func150, Tryz.ntmps150
    go_wp2_with fail
    go_ret
    exact ⟨rfl, (Fr.refl _ w).alloc _⟩
  · have h2 : ¬ a < x + y := by omega
    have h1' : x < a + n := by omega
    clear h h1
    go_enter Tryz.func150, Tryz.ntmps150
    go_wp2_with fail
    go_ret
    exact ⟨rfl, (Fr.refl _ w).alloc _⟩
theorem give2Lit (x y a : Int) (pa : Nat) (w : World) (ha : w.cell? ⟨pa, 0, none⟩ = some (.int .i64 a)) (la : pa < w.heap.size) :
    Calls Tryz.prog 151 #[.agg #[.int .i64 x, .int .i64 y], .pointer (some ⟨pa, 0, none⟩)] w fun e w' => e = .returned (.bool (decide (a < x))) ∧ Fr [] w w' := by
  have B0 := Blk.new w [.int .i64 x, .int .i64 y] 175
  have q0 := B0.cell (i := 0) rfl
  have ha' : (w.alloc (.cells #[.int .i64 x, .int .i64 y] 175)).cell? ⟨pa, 0, none⟩ = some (.int .i64 a) := by
    rw [World.cell?_alloc_past _ _ _ la]; exact ha
  clear ha
  go_enter Tryz.func151, Tryz.ntmps151
  go_wp2_with fail
  go_ret
  exact ⟨rfl, (Fr.refl _ w).alloc _⟩
set_option maxHeartbeats 1600000 in
theorem ixGive1 (b : Nat) (l : List (Int × Int)) (cap : Nat) (a n : Int) (pa pn : Nat) (w : World) (hm : l.length ≤ 65536) (hc : Rd w b (flat l)) (ha : w.cell? ⟨pa, 0, none⟩ = some (.int .i64 a)) (hn : w.cell? ⟨pn, 0, none⟩ = some (.int .i64 n)) (la : pa < w.heap.size) (ln : pn < w.heap.size)
    (b1 : 0 ≤ a ∧ a ≤ 65536 ∧ 0 ≤ n ∧ n ≤ 65536) (b2 : ∀ x ∈ l, 0 ≤ x.1 ∧ x.1 ≤ 65536 ∧ 0 ≤ x.2 ∧ x.2 ≤ 65536) (ho : Off a n l) :
    Calls Tryz.prog 129 #[.slice (some ⟨b, 0, none⟩) l.length cap, .func (.func 150) #[] #[.pointer (some ⟨pa, 0, none⟩), .pointer (some ⟨pn, 0, none⟩)]] w fun e w' => e = .returned (.int .i64 (-1)) ∧ Fr [] w w' := by
  have Ho := hid ho
  have Hb := hid b2
  clear ho b2
  go_enter Tryz.func129, Tryz.ntmps129
  go_wp2_with fail
  go_loopw [8] (fun i wr => ∃ k : Nat, k ≤ l.length ∧ i = .int .i64 k ∧ Fr [] w wr) (fun i _ => l.length - (intOf i).toNat)
  case atStart => exact ⟨0, Nat.zero_le _, rfl, Fr.refl _ _⟩
  case round =>
    obtain ⟨k, hk, rfl, hFr⟩ := hrel
    have hcr := hc.fr hFr (by simp)
    have hra : wr.cell? ⟨pa, 0, none⟩ = some (.int .i64 a) := (World.cell?_of_block (w := w) (hFr.block _ la (by simp))).trans ha
    have hrn : wr.cell? ⟨pn, 0, none⟩ = some (.int .i64 n) := (World.cell?_of_block (w := w) (hFr.block _ ln (by simp))).trans hn
    have hla := Nat.lt_of_lt_of_le la hFr.size
    have hln := Nat.lt_of_lt_of_le ln hFr.size
    by_cases hlt : k < l.length
    · obtain ⟨x, hx⟩ : ∃ x, l[k]? = some x := ⟨_, List.getElem?_eq_getElem hlt⟩
      obtain ⟨g1, g2⟩ := flat_get l k x hx
      have c1 := hcr.2 _ _ g1
      have c2 := hcr.2 _ _ g2
      have o1 := Ho.out x (List.mem_of_getElem? hx)
      have o2 := Hb.out x (List.mem_of_getElem? hx)
      clear hx g1 g2
      obtain ⟨x1, x2⟩ := x
      simp only at c1 c2 o1 o2
      go_wp2_with (go_at_call 150; refine (give1Lit _ _ _ _ _ _ _ hra hrn hla hln b1 o2 o1).mono ?_; rintro e w' ⟨rfl, hF⟩)
      go_roundw
      case rel => exact ⟨k + 1, by omega, by go_num, hFr.trans hF⟩
      case measure => simp [intOf]; omega
    · go_wp2_with fail
      go_ret
      exact ⟨rfl, hFr⟩
theorem contGive (b : Nat) (l : List (Int × Int)) (cap : Nat) (a n : Int) (pa pn : Nat) (w : World) (hm : l.length ≤ 65536) (hc : Rd w b (flat l)) (ha : w.cell? ⟨pa, 0, none⟩ = some (.int .i64 a)) (hn : w.cell? ⟨pn, 0, none⟩ = some (.int .i64 n)) (la : pa < w.heap.size) (ln : pn < w.heap.size)
    (b1 : 0 ≤ a ∧ a ≤ 65536 ∧ 0 ≤ n ∧ n ≤ 65536) (b2 : ∀ x ∈ l, 0 ≤ x.1 ∧ x.1 ≤ 65536 ∧ 0 ≤ x.2 ∧ x.2 ≤ 65536) (ho : Off a n l) :
    Calls Tryz.prog 149 #[.slice (some ⟨b, 0, none⟩) l.length cap, .func (.func 150) #[] #[.pointer (some ⟨pa, 0, none⟩), .pointer (some ⟨pn, 0, none⟩)]] w fun e w' => e = .returned (.bool false) ∧ Fr [] w w' := by
  go_enter Tryz.func149, Tryz.ntmps149
  go_wp2_with fail
  refine (ixGive1 b l cap a n pa pn w hm hc ha hn la ln b1 b2 ho).mono ?_
  rintro e w' ⟨rfl, hF⟩
  go_wp2_with fail
  go_ret
  exact ⟨rfl, hF⟩
def ixBeg (l : List (Int × Int)) (a : Int) : Int := ixGe (l.map (·.1)) (a + 1)
set_option maxHeartbeats 1600000 in
theorem ixGive2 (b : Nat) (l : List (Int × Int)) (cap : Nat) (a : Int) (pa : Nat) (w : World) (hm : l.length ≤ 65536) (hc : Rd w b (flat l)) (ha : w.cell? ⟨pa, 0, none⟩ = some (.int .i64 a)) (la : pa < w.heap.size) :
    Calls Tryz.prog 129 #[.slice (some ⟨b, 0, none⟩) l.length cap, .func (.func 151) #[] #[.pointer (some ⟨pa, 0, none⟩)]] w fun e w' => e = .returned (.int .i64 (ixBeg l a)) ∧ Fr [] w w' := by
  go_enter Tryz.func129, Tryz.ntmps129
  go_wp2_with fail
  go_loopw [8] (fun i wr => ∃ k : Nat, k ≤ l.length ∧ i = .int .i64 k ∧ below (l.map (·.1)) (a + 1) k ∧ Fr [] w wr) (fun i _ => l.length - (intOf i).toNat)
  case atStart => exact ⟨0, Nat.zero_le _, rfl, below_zero _ _, Fr.refl _ _⟩
  case round =>
    obtain ⟨k, hk, rfl, hH, hFr⟩ := hrel
    have hcr := hc.fr hFr (by simp)
    have hr : wr.cell? ⟨pa, 0, none⟩ = some (.int .i64 a) := (World.cell?_of_block (w := w) (hFr.block _ la (by simp))).trans ha
    have hlr := Nat.lt_of_lt_of_le la hFr.size
    by_cases hlt : k < l.length
    · obtain ⟨x, hx⟩ : ∃ x, l[k]? = some x := ⟨_, List.getElem?_eq_getElem hlt⟩
      obtain ⟨g1, g2⟩ := flat_get l k x hx
      have c1 := hcr.2 _ _ g1
      have c2 := hcr.2 _ _ g2
      have hx2 : (l.map (·.1))[k]? = some x.1 := by simp [hx]
      have Hx := hid hx2
      clear hx g1 g2 hx2
      obtain ⟨x1, x2⟩ := x
      simp only at c1 c2 Hx
      by_cases hs : a < x1
      · go_wp2_with (go_at_call 151; refine (give2Lit _ _ _ _ _ hr hlr).mono ?_; rintro e w' ⟨rfl, hF⟩)
        go_ret
        exact ⟨by unfold ixBeg; rw [ixGe_some hH Hx.out (by omega)]; rfl, hFr.trans hF⟩
      · go_wp2_with (go_at_call 151; refine (give2Lit _ _ _ _ _ hr hlr).mono ?_; rintro e w' ⟨rfl, hF⟩)
        go_roundw
        case rel => exact ⟨k + 1, by omega, by go_num, below_succ hH Hx.out (by omega), hFr.trans hF⟩
        case measure => simp [intOf]; omega
    · go_wp2_with fail
      go_ret
      have e : k = l.length := by omega
      subst e
      exact ⟨by unfold ixBeg; rw [ixGe_none (by simpa using hH)]; rfl, hFr⟩
theorem ixGe_eq (cls : List Int) (s : Int) : ixGe cls s = if cls.findIdx (fun n => decide (s ≤ n)) < cls.length then (cls.findIdx (fun n => decide (s ≤ n)) : Int) else -1 := by
  unfold ixGe
  by_cases h : cls.findIdx (fun n => decide (s ≤ n)) < cls.length
  · rw [if_pos h, List.findIdx?_eq_guard_findIdx_lt]
    simp [Option.guard, h]
  · rw [if_neg h]
    have : cls.findIdx? (fun n => decide (s ≤ n)) = none := by
      rw [List.findIdx?_eq_none_iff]
      have e : cls.findIdx (fun n => decide (s ≤ n)) = cls.length := Nat.le_antisymm (List.findIdx_le_length) (by omega)
      rw [List.findIdx_eq_length] at e
      exact e
    rw [this]
theorem spot_ix (l : List (Int × Int)) (a : Int) : ixBeg l a = if spotOf l a < l.length then (spotOf l a : Int) else -1 := by
  unfold ixBeg
  rw [ixGe_eq]
  have : (l.map (·.1)).findIdx (fun n => decide (a + 1 ≤ n)) = spotOf l a := by
    unfold spotOf
    rw [List.findIdx_map]
    rfl
  rw [this, List.length_map]
theorem spotOf_le (l : List (Int × Int)) (a : Int) : spotOf l a ≤ l.length := List.findIdx_le_length
theorem xWithin (xb : Nat) (f p : Int) (sv : Value) (a n : Int) (w : World) (hs : Blk w xb [.int .i64 f, .int .i64 p, sv] 174) (hn : 1 ≤ n) (hnp : n ≤ p) (hf : f ≤ a) (hap : a - f ≤ p - n) (h0 : 0 ≤ f) (h1 : p ≤ 65536) (h2 : a ≤ 65536) :
    Calls Tryz.prog 148 #[.pointer (some ⟨xb, 0, none⟩), .int .i64 a, .int .i64 n] w fun e w' => e = .returned (.bool true) ∧ ∃ k, w' = w.drewN k := by
  have s0 := hs.cell (i := 0) rfl
  have s1 := hs.cell (i := 1) rfl
  have hw1 : IntKind.i64.wrap (a - f) = a - f := by rw [IntKind.wrap_i64]; omega
  have hw2 : IntKind.i64.wrap (p - n) = p - n := by rw [IntKind.wrap_i64]; omega
  go_enter Tryz.func148, Tryz.ntmps148
  go_wp2_with fail
  go_quiet (fail)
  go_wp2_with fail
  go_ret
  exact ⟨rfl, _, rfl⟩
theorem xJoinOut (xb b : Nat) (f p : Int) (l : List (Int × Int)) (rest : List Value) (cap : Nat) (k : Int) (w : World) (h : XAt w xb b f p l rest cap) (hk : k < 0 ∨ (l.length : Int) ≤ k + 1) (hk2 : k ≤ 65537) (hk3 : -1 ≤ k) :
    Calls Tryz.prog 153 #[.pointer (some ⟨xb, 0, none⟩), .int .i64 k] w fun e w' => e = .returned (.tuple #[]) ∧ ∃ n, w' = w.drewN n := by
  have s2 := h.s.cell (i := 2) rfl
  have hw1 : IntKind.i64.wrap (k + 1) = k + 1 := by rw [IntKind.wrap_i64]; omega
  by_cases h0 : k < 0
  · have hd0 : decide (k < 0) = true := by simpa using h0
    clear hk
    go_enter Tryz.func153, Tryz.ntmps153
    go_wp2_with fail
    go_quiet (fail)
    go_wp2_with fail
    refine bodyPost_ret (v := .tuple #[]) (by simp [results, Tryz.results153, go_sem]) rfl ?_
    exact ⟨rfl, _, rfl⟩
  · have h1 : (l.length : Int) ≤ k + 1 := by omega
    have hd0 : decide (k < 0) = false := by simpa using h0
    have hd1 : decide ((l.length : Int) ≤ k + 1) = true := by simpa using h1
    clear hk
    go_enter Tryz.func153, Tryz.ntmps153
    go_wp2_with fail
    go_quiet (fail)
    go_wp2_with fail
    refine bodyPost_ret (v := .tuple #[]) (by simp [results, Tryz.results153, go_sem]) rfl ?_
    exact ⟨rfl, _, rfl⟩
theorem cs_two (l1 l2 : List (Int × Int)) (x y : Int × Int) (rest : List Value) : flat (l1 ++ x :: y :: l2) ++ rest = flat l1 ++ (.int .i64 x.1 :: .int .i64 x.2 :: .int .i64 y.1 :: .int .i64 y.2 :: (flat l2 ++ rest)) := by
  simp [flat_append, flat_cons]
theorem cs_two_at (l1 l2 : List (Int × Int)) (x y : Int × Int) (rest : List Value) (k : Nat) (hk : k = l1.length) :
    (flat (l1 ++ x :: y :: l2) ++ rest)[k * 2]? = some (.int .i64 x.1) ∧ (flat (l1 ++ x :: y :: l2) ++ rest)[k * 2 + 1]? = some (.int .i64 x.2) ∧ (flat (l1 ++ x :: y :: l2) ++ rest)[(k + 1) * 2]? = some (.int .i64 y.1) ∧ (flat (l1 ++ x :: y :: l2) ++ rest)[(k + 1) * 2 + 1]? = some (.int .i64 y.2) := by
  subst hk
  rw [cs_two]
  have e := flat_len l1
  refine ⟨?_, ?_, ?_, ?_⟩
  · rw [List.getElem?_append_right (by omega), e, show l1.length * 2 - 2 * l1.length = 0 by omega]; rfl
  · rw [List.getElem?_append_right (by omega), e, show l1.length * 2 + 1 - 2 * l1.length = 1 by omega]; rfl
  · rw [List.getElem?_append_right (by omega), e, show (l1.length + 1) * 2 - 2 * l1.length = 2 by omega]; rfl
  · rw [List.getElem?_append_right (by omega), e, show (l1.length + 1) * 2 + 1 - 2 * l1.length = 3 by omega]; rfl
theorem xJoinNo (xb b : Nat) (f p : Int) (l1 l2 : List (Int × Int)) (x y : Int × Int) (rest : List Value) (cap : Nat) (k : Nat) (w : World) (h : XAt w xb b f p (l1 ++ x :: y :: l2) rest cap) (hk : k = l1.length) (hl : (l1 ++ x :: y :: l2).length ≤ 65537)
    (b1 : 0 ≤ x.1 ∧ x.1 ≤ 65536 ∧ 0 ≤ x.2 ∧ x.2 ≤ 65536) (hno : ¬ x.1 + x.2 = y.1) :
    Calls Tryz.prog 153 #[.pointer (some ⟨xb, 0, none⟩), .int .i64 k] w fun e w' => e = .returned (.tuple #[]) ∧ ∃ n, w' = w.drewN n := by
  have s2 := h.s.cell (i := 2) rfl
  obtain ⟨e1, e2, e3, e4⟩ := cs_two_at l1 l2 x y rest k hk
  have c1 := h.c.cell e1
  have c2 := h.c.cell e2
  have c3 := h.c.cell e3
  have hkN : k + 2 ≤ (l1 ++ x :: y :: l2).length := by simp; omega
  obtain ⟨N, hN⟩ : ∃ N, N = (l1 ++ x :: y :: l2).length := ⟨_, rfl⟩
  rw [← hN] at s2 hl hkN
  clear e1 e2 e3 e4 hN h hk
  obtain ⟨a, m⟩ := x
  obtain ⟨c, q⟩ := y
  simp only at c1 c2 c3 b1 hno
  have hw1 : IntKind.i64.wrap ((k : Int) + 1) = (k : Int) + 1 := by rw [IntKind.wrap_i64]; omega
  have hw2 : IntKind.i64.wrap (a + m) = a + m := by rw [IntKind.wrap_i64]; omega
  have t1 : (0 : Int) ≤ (k : Int) + 1 := by omega
  have t2 : ((k : Int) + 1).toNat = k + 1 := by omega
  have d0 : decide ((k : Int) < 0) = false := by simp
  have d1 : decide ((N : Int) ≤ (k : Int) + 1) = false := by simp; omega
  have d2 : (a + m != c) = true := by simpa using hno
  go_enter Tryz.func153, Tryz.ntmps153
  go_wp2_with fail
  go_quiet (fail)
  go_wp2_with fail
  refine bodyPost_ret (v := .tuple #[]) (by simp [results, Tryz.results153, go_sem]) rfl ?_
  exact ⟨rfl, _, rfl⟩
theorem delRunI (b : Nat) (l1 l2 : List (Int × Int)) (x : Int × Int) (rest : List Value) (cap N : Nat) (k k1 : Int) (w : World) (hk : k = l1.length) (hN : N = l1.length + l2.length + 1) (hk1 : k1 = l1.length + 1) (hb : Blk w b (flat l1 ++ (flat (x :: l2) ++ rest)) 175) (hl : (flat (l1 ++ x :: l2) ++ rest).length = 2 * cap) :
    Calls Tryz.prog 131 #[.slice (some ⟨b, 0, none⟩) N cap, .int .i64 k, .int .i64 k1] w fun e w' => e = .returned (.slice (some ⟨b, 0, none⟩) (l1.length + l2.length : Nat) cap) ∧ Blk w' b (flat (l1 ++ l2) ++ (.int .i64 0 :: .int .i64 0 :: rest)) 175 ∧ Fr [b] w w' := by
  subst hk
  exact delRun b l1 l2 x rest cap N k1 w hN hk1 hb hl
theorem cs_join (l1 l2 : List (Int × Int)) (a m c q v : Int) (rest : List Value) (k : Nat) (hk : k = l1.length) : (flat (l1 ++ (a, m) :: (c, q) :: l2) ++ rest).set (k * 2 + 1) (.int .i64 v) = flat (l1 ++ [(a, v)]) ++ (flat ((c, q) :: l2) ++ rest) := by
  subst hk
  rw [cs_two]
  have e : l1.length * 2 + 1 = (flat l1).length + 1 := by rw [flat_len]; omega
  rw [e]
  simp [flat]
set_option maxRecDepth 100000 in
set_option maxHeartbeats 3200000 in
theorem xJoinYes (xb b : Nat) (f p : Int) (l1 l2 : List (Int × Int)) (x y : Int × Int) (rest : List Value) (cap : Nat) (k : Nat) (w : World) (h : XAt w xb b f p (l1 ++ x :: y :: l2) rest cap) (hk : k = l1.length) (hl : (l1 ++ x :: y :: l2).length ≤ 65537)
    (b1 : 0 ≤ x.1 ∧ x.1 ≤ 65536 ∧ 0 ≤ x.2 ∧ x.2 ≤ 65536) (b2 : 0 ≤ y.2 ∧ y.2 ≤ 65536) (hy : x.1 + x.2 = y.1) :
    Calls Tryz.prog 153 #[.pointer (some ⟨xb, 0, none⟩), .int .i64 k] w fun e w' => e = .returned (.tuple #[]) ∧ XAt w' xb b f p (l1 ++ (x.1, x.2 + y.2) :: l2) (.int .i64 0 :: .int .i64 0 :: rest) cap ∧ Fr [xb, b] w w' := by
  have s0 := h.s
  have c0 := h.c
  have hne : xb ≠ b := blk_ne h.s h.c (by decide)
  have s2 := h.s.cell (i := 2) rfl
  obtain ⟨e1, e2, e3, e4⟩ := cs_two_at l1 l2 x y rest k hk
  have c1 := h.c.cell e1
  have c2 := h.c.cell e2
  have c3 := h.c.cell e3
  have c4 := h.c.cell e4
  have f2 := h.c.frozen (k * 2 + 1)
  have hkN : k + 2 ≤ (l1 ++ x :: y :: l2).length := by simp; omega
  obtain ⟨N, hN⟩ : ∃ N, N = (l1 ++ x :: y :: l2).length := ⟨_, rfl⟩
  have HL := hid h.len
  have HCB := hid h.cb
  rw [← hN] at s2 hl s0 hkN
  have HN := hid hN
  have HK := hid hk
  have HS := hid s0
  have HC0 := hid c0
  clear e1 e2 e3 e4 hN h hk s0 c0
  obtain ⟨a, m⟩ := x
  obtain ⟨c, q⟩ := y
  simp only at c1 c2 c3 c4 b1 b2 hy HL HC0
  obtain rfl : c = a + m := hy.symm
  clear hy
  have hw1 : IntKind.i64.wrap ((k : Int) + 1) = (k : Int) + 1 := by rw [IntKind.wrap_i64]; omega
  have hw2 : IntKind.i64.wrap (a + m) = a + m := by rw [IntKind.wrap_i64]; omega
  have hw3 : IntKind.i64.wrap (m + q) = m + q := by rw [IntKind.wrap_i64]; omega
  have hw4 : IntKind.i64.wrap ((k : Int) + 2) = (k : Int) + 2 := by rw [IntKind.wrap_i64]; omega
  have t1 : (0 : Int) ≤ (k : Int) + 1 := by omega
  have t2 : ((k : Int) + 1).toNat = k + 1 := by omega
  have d0 : decide ((k : Int) < 0) = false := by simp
  have d1 : decide ((N : Int) ≤ (k : Int) + 1) = false := by simp; omega
  have d2 : (a + m != a + m) = false := by simp
  go_enter Tryz.func153, Tryz.ntmps153
  go_wp2_with fail
  go_quiet (fail)
  go_wp2_with fail
  go_region
  go_wp2_with fail
  have hB : Hid (Blk ((w.drewN (nq + 1)).setCell ⟨b, k * 2 + 1, none⟩ (.int .i64 (m + q))) b (flat (l1 ++ [(a, m + q)]) ++ (flat ((a + m, q) :: l2) ++ rest)) 175) := by
    have := (HC0.out.drewN (nq + 1)).set (k * 2 + 1) (.int .i64 (m + q))
    rw [cs_join l1 l2 a m (a + m) q (m + q) rest k HK.out] at this
    exact this
  have hS : Hid (Blk ((w.drewN (nq + 1)).setCell ⟨b, k * 2 + 1, none⟩ (.int .i64 (m + q))) xb [.int .i64 f, .int .i64 p, .slice (some ⟨b, 0, none⟩) N cap] 174) :=
    (HS.out.drewN (nq + 1)).other hne _
  have hF : Hid (Fr [xb, b] w ((w.drewN (nq + 1)).setCell ⟨b, k * 2 + 1, none⟩ (.int .i64 (m + q)))) := ((Fr.refl _ w).drewN _).set (by simp) _
  have hl2 : Hid ((flat ((l1 ++ [(a, m + q)]) ++ (a + m, q) :: l2) ++ rest).length = 2 * cap) := by
    have := HL.out
    show _ = _
    simp only [List.length_append, flat_len, List.length_cons, List.length_nil] at this ⊢
    omega
  have hN2 : Hid (N = (l1 ++ [(a, m + q)]).length + l2.length + 1) := by
    have := HN.out
    show _ = _
    simp at this ⊢
    omega
  obtain ⟨W, hW⟩ : ∃ W, W = (w.drewN (nq + 1)).setCell ⟨b, k * 2 + 1, none⟩ (.int .i64 (m + q)) := ⟨_, rfl⟩
  rw [← hW] at hB hS hF ⊢
  clear hW
  refine (delRunI b (l1 ++ [(a, m + q)]) l2 (a + m, q) rest cap N _ _ W (by have := HK.out; simp; omega) hN2.out (by have := HK.out; simp; omega) hB.out hl2.out).mono ?_
  rintro e w2 ⟨rfl, hB2, hF2⟩
  have s4 := hS.out.fr hF2 (by simpa using hne)
  have s42 := s4.frozen 2
  have s43 := s4.cell (i := 2) rfl
  have HB2 := hid hB2
  have HF2 := hid hF2
  clear hB2 hF2
  go_wp2_with fail
  go_end0
  refine ⟨rfl, ⟨?_, ?_, ?_, HCB.out⟩, ?_⟩
  · have := s4.set 2 (.slice (some ⟨b, 0, none⟩) ((l1 ++ [(a, m + q)]).length + l2.length : Nat) cap)
    have e : (l1 ++ [(a, m + q)]).length + l2.length = (l1 ++ (a, m + q) :: l2).length := by simp; omega
    rw [← e]
    simpa using this
  · have := HB2.out.other (a := ⟨xb, 2, none⟩) (Ne.symm hne) (.slice (some ⟨b, 0, none⟩) ((l1 ++ [(a, m + q)]).length + l2.length : Nat) cap)
    have e : (l1 ++ [(a, m + q)]) ++ l2 = l1 ++ (a, m + q) :: l2 := by simp
    rw [e] at this
    simpa using this
  · have := HL.out
    simp only [List.length_append, flat_len, List.length_cons] at this ⊢
    omega
  · exact (hF.out.trans (HF2.out.here (by simp))).set (by simp) _
theorem xJoin (xb b : Nat) (f p : Int) (l : List (Int × Int)) (rest : List Value) (cap k : Nat) (w : World) (h : XAt w xb b f p l rest cap) (hl : l.length ≤ 65537) (hk : k ≤ 65537)
    (hb : ∀ x ∈ l, 0 ≤ x.1 ∧ x.1 ≤ 65536 ∧ 0 ≤ x.2 ∧ x.2 ≤ 65536) :
    Calls Tryz.prog 153 #[.pointer (some ⟨xb, 0, none⟩), .int .i64 k] w fun e w' => e = .returned (.tuple #[]) ∧ (∃ rest', XAt w' xb b f p (joinAt l k) rest' cap) ∧ Fr [xb, b] w w' := by
  have key : ∀ (l : List (Int × Int)) (k : Nat), l.length ≤ k + 1 → joinAt l k = l := by
    intro l
    induction l with
    | nil => intro k _; cases k <;> rfl
    | cons x l ih =>
      intro k hk
      cases k with
      | zero => cases l with
        | nil => rfl
        | cons y l => simp at hk
      | succ k => show x :: joinAt l k = x :: l; rw [ih k (by simpa using hk)]
  rcases Nat.lt_or_ge (k + 1) l.length with h1 | h1
  · have e : l = l.take k ++ l[k] :: l[k + 1] :: l.drop (k + 2) := by
      rw [← List.drop_eq_getElem_cons (by omega), ← List.drop_eq_getElem_cons (by omega), List.take_append_drop]
    obtain ⟨l1, x, y, l2, rfl, hkl⟩ : ∃ l1 x y l2, l = l1 ++ x :: y :: l2 ∧ k = l1.length := ⟨_, _, _, _, e, by simp; omega⟩
    clear h1 e
    have hj : joinAt (l1 ++ x :: y :: l2) k = l1 ++ joinR (x :: y :: l2) := by rw [hkl]; exact joinAt_append _ _
    have bx := hb x (by simp)
    have by' := hb y (by simp)
    by_cases hxy : x.1 + x.2 = y.1
    · refine (xJoinYes xb b f p l1 l2 x y rest cap k w h hkl hl bx by'.2.2 hxy).mono ?_
      rintro e w' ⟨rfl, hX, hF⟩
      rw [hj, joinR_yes hxy]
      exact ⟨rfl, ⟨_, hX⟩, hF⟩
    · refine (xJoinNo xb b f p l1 l2 x y rest cap k w h hkl hl bx hxy).mono ?_
      rintro e w' ⟨rfl, n, rfl⟩
      rw [hj, joinR_no hxy]
      exact ⟨rfl, ⟨rest, h.s.drewN n, h.c.drewN n, h.len, h.cb⟩, (Fr.refl _ w).drewN n⟩
  · refine (xJoinOut xb b f p l rest cap k w h (.inr (by omega)) (by omega) (by omega)).mono ?_
    rintro e w' ⟨rfl, n, rfl⟩
    rw [key l k h1]
    exact ⟨rfl, ⟨rest, h.s.drewN n, h.c.drewN n, h.len, h.cb⟩, (Fr.refl _ w).drewN n⟩
end Go.Proofs.YtklnpooninbogaaGreat
