import Derived.Test.YtifillpcphiblaaXIns
import Derived.Laws.Externs
namespace Go.Proofs.Ytifillpcphiblaa
open Go Go.Proofs Go.RowKit

theorem Blk.shape {w : World} {b : Nat} {cs : List Value} {T : TypeId} (h : Blk w b cs T) : w.shape? b = some (T, cs.length) := by
  unfold Blk at h
  simp [World.shape?, h]

theorem take_put (cs vs : List Value) (o : Nat) (h : o ≤ cs.length) (X : List Value) : (cs.take (o + vs.length) ++ X).take o = cs.take o := by
  rw [List.take_append]
  simp [List.take_take]
  omega

set_option maxHeartbeats 3200000 in
set_option maxRecDepth 100000 in
theorem insShift (b vb : Nat) (l : List (Int × Int)) (a n : Int) (rest : List Value) (cap N k : Nat) (w : World) (hN : N = l.length) (hk : k < N) (hb : Blk w b (flat l ++ rest) 186) (hl : (flat l ++ rest).length = 2 * cap) (hcap : cap ≤ maxLen) (hv : Blk w vb [.int .i64 a, .int .i64 n] 186) (hne : vb ≠ b) (hr : l.length + 1 ≤ cap) :
    Calls Try.prog 137 #[.slice (some ⟨b, 0, none⟩) N cap, .int .i64 k, .slice (some ⟨vb, 0, none⟩) 1 1] w (InsPost b l k a n w) := by
  have HC := hid hcap
  unfold maxLen at hcap
  have hfl := flat_len l
  have hov : ∀ lb cb, (callFunc 153 #[.slice (some ⟨vb, 0, none⟩) 1 1, .slice (some ⟨b, (k + 1) * 2, none⟩) lb cb]).run Try.prog w = .ok (.value (.bool false)) w := fun lb cb => by
    rw [run_callFunc_extern Try.func153 (by kernel_rfl) (by kernel_rfl) (by kernel_rfl) (e := Extern.SlicesOverlaps.overlaps #[183, 183] #[4]) (by kernel_rfl),
      Lib.run_overlaps_apart w 183 4 186 Try.underlying183 2 (fun _ => by kernel_rfl) ⟨vb, 0, none⟩ ⟨b, (k + 1) * 2, none⟩ 1 1 lb cb hne _ _ _ _ hv.shape hb.shape (by rw [hl]; omega) (hv.frozen _) (hv.frozen _)]
    rfl
  obtain ⟨D, hD⟩ : ∃ D, D = flat (l.drop k) := ⟨_, rfl⟩
  have hDl : D.length = (N - k) * 2 := by rw [hD, flat_len, List.length_drop, hN]; omega
  have hcp1 : ∀ ty dc sc, (Builtin.copy_ #[183, 183] ty #[.slice (some ⟨b, (k + 1) * 2, none⟩) (N - k) dc, .slice (some ⟨b, k * 2, none⟩) (N + 1 - k) sc]).run Try.prog w.drew = .ok (goInt (N - k : Nat)) (w.drew.setCells b ((k + 1) * 2) D) := fun ty dc sc =>
    run_copy2 w.drew ty b ((k + 1) * 2) _ dc ⟨b, k * 2, none⟩ _ sc D (N - k) (by simp only [Nat.min_def]; split <;> omega) hDl
      (fun j v hj => by
        rw [Addr.add_lit]
        refine hb.drew.cell ?_
        rw [hD, ← flat_drop] at hj
        rw [List.getElem?_drop] at hj
        rw [List.getElem?_append_left (by have := (List.getElem?_eq_some_iff.1 hj).1; omega), Nat.mul_comm k 2]
        exact hj)
      (fun j hj => hb.drew.isSome (by rw [hl]; omega)) (fun j _ => hb.drew.frozen _) (by rw [hD]; exact flat_one _)
  obtain ⟨W1, hW1⟩ : ∃ W1, W1 = w.drew.setCells b ((k + 1) * 2) D := ⟨_, rfl⟩
  have hB1 : Blk W1 b ((flat l ++ rest).take (2 * k + 2) ++ D ++ (flat l ++ rest).drop (2 * N + 2)) 186 := by
    rw [hW1]
    have := Blk.setCells D ((k + 1) * 2) _ _ hb.drew
    rw [setL_eq _ _ _ (by rw [hl, hDl]; omega), hDl, show (k + 1) * 2 = 2 * k + 2 by omega, show 2 * k + 2 + (N - k) * 2 = 2 * N + 2 by omega] at this
    rw [show (k + 1) * 2 = 2 * k + 2 by omega]
    exact this
  have hl1 : ((flat l ++ rest).take (2 * k + 2) ++ D ++ (flat l ++ rest).drop (2 * N + 2)).length = 2 * cap := by
    rw [List.length_append, List.length_append, List.length_take, List.length_drop, hl, hDl]
    simp only [Nat.min_def]; split <;> omega
  have hV1 : Blk W1 vb [.int .i64 a, .int .i64 n] 186 := by
    rw [hW1]
    exact hv.drew.fr (S := [b]) (Fr.setCells _ _ (Fr.refl _ _) (by simp)) (by simpa using hne)
  have hcp2 : ∀ ty dc, (Builtin.copy_ #[183, 183] ty #[.slice (some ⟨b, k * 2, none⟩) (N + 1 - k) dc, .slice (some ⟨vb, 0, none⟩) 1 1]).run Try.prog W1 = .ok (goInt (1 : Nat)) (W1.setCells b (k * 2) [.int .i64 a, .int .i64 n]) := fun ty dc =>
    run_copy2 W1 ty b (k * 2) _ dc ⟨vb, 0, none⟩ 1 1 _ 1 (by simp only [Nat.min_def]; split <;> omega) rfl
      (fun j v hj => by rw [Addr.add_lit, Nat.zero_add]; exact hV1.cell hj)
      (fun j hj => hB1.isSome (by rw [hl1]; simp at hj; omega)) (fun j _ => hB1.frozen _) (by simp [Value.oneCell'])
  obtain ⟨W2, hW2⟩ : ∃ W2, W2 = W1.setCells b (k * 2) [.int .i64 a, .int .i64 n] := ⟨_, rfl⟩
  have hB2 : Hid (Blk W2 b (flat (putAt l k a n) ++ rest.drop 2) 186) := by
    have := Blk.setCells [.int .i64 a, .int .i64 n] (k * 2) _ _ hB1
    rw [setL_eq _ _ _ (by rw [hl1]; simp; omega)] at this
    rw [hW2]
    have e : ((flat l ++ rest).take (2 * k + 2) ++ D ++ (flat l ++ rest).drop (2 * N + 2)).take (k * 2) ++ [.int .i64 a, .int .i64 n] ++ ((flat l ++ rest).take (2 * k + 2) ++ D ++ (flat l ++ rest).drop (2 * N + 2)).drop (k * 2 + [Value.int .i64 a, .int .i64 n].length) = flat (putAt l k a n) ++ rest.drop 2 := by
      have e1 : ((flat l ++ rest).take (2 * k + 2)).length = k * 2 + [Value.int .i64 a, .int .i64 n].length := by rw [List.length_take, hl]; simp only [List.length_cons, List.length_nil, Nat.min_def]; split <;> omega
      rw [List.append_assoc ((flat l ++ rest).take (2 * k + 2)), List.drop_left' e1, List.take_append, List.take_take, show min (k * 2) (2 * k + 2) = k * 2 by omega, e1, show k * 2 - (k * 2 + [Value.int .i64 a, .int .i64 n].length) = 0 by omega, List.take_zero, List.append_nil]
      rw [List.take_append, hfl, show k * 2 - 2 * l.length = 0 by omega, List.take_zero, List.append_nil, Nat.mul_comm k 2, flat_take]
      rw [List.drop_append, List.drop_of_length_le (by omega), hfl, show 2 * N + 2 - 2 * l.length = 2 by omega, flat_putAt, hD]
      simp
    rw [e] at this
    exact this
  have hF : Hid (Fr [b] w W2) := by rw [hW2, hW1]; exact Fr.setCells _ _ (Fr.setCells _ _ ((Fr.refl _ w).drew) (by simp)) (by simp)
  have hL : Hid ((flat (putAt l k a n) ++ rest.drop 2).length = 2 * cap) := by
    show _ = _
    simp only [List.length_append, flat_len, putAt_len, List.length_drop] at hl ⊢
    omega
  rw [← hW1] at hcp1
  rw [← hW2] at hcp2
  have HN := hid hN
  have hNc : N + 1 ≤ cap := by omega
  clear hD hDl hfl hW1 hB1 hl1 hV1 hW2 hb hl hv hr hN
  have hw1 : IntKind.i64.wrap ((k : Int) + 1) = (k : Int) + 1 := by rw [IntKind.wrap_i64]; omega
  have hw2 : IntKind.i64.wrap ((N : Int) + 1) = (N : Int) + 1 := by rw [IntKind.wrap_i64]; omega
  have hz2 : ¬ ((k : Int) = (N : Int)) := by omega
  have hb1 : (0 : Int) ≤ (k : Int) + 1 := by omega
  have htn : ((k : Int) + 1).toNat = k + 1 := by omega
  have htN : ((N : Int) + 1).toNat = N + 1 := by omega
  have hb2 : ¬ (cap = k + 1) := by omega
  have hb3 : (k : Int) ≤ (N : Int) + 1 := by omega
  have hb4 : ¬ (cap = k) := by omega
  have hb5 : (k : Int) + 1 ≤ (N : Int) + 1 := by omega
  have hb6 : (k : Int) ≤ (N : Int) := by omega
  have hb7 : ¬ ((cap : Int) < (N : Int) + 1) := by omega
  go_enter Try.func137, Try.ntmps137
  go_wp2_with (simp only [hov])
  go_region_law (refine step_copy2 rfl _ _ 183 183 rfl _ _ (by simp [Act.eval, Act.put]) (by simp [Act.eval, Act.put]) (hcp1 _ _ _) ?_)
  go_wp2_with (at_builtin; refine wpList_copy2 _ rfl _ _ 183 183 rfl _ _ rfl rfl (hcp2 _ _) ?_)
  go_ret
  exact ⟨b, cap, _, by rw [← HN.out]; rfl, hB2.out, hL.out, HC.out, .inl rfl, hF.out⟩

set_option maxHeartbeats 3200000 in
set_option maxRecDepth 100000 in
theorem insGrow (b vb : Nat) (l : List (Int × Int)) (a n : Int) (rest : List Value) (cap N k : Nat) (w : World) (hN : N = l.length) (hk : k < N) (hb : Blk w b (flat l ++ rest) 186) (hl : (flat l ++ rest).length = 2 * cap) (hv : Blk w vb [.int .i64 a, .int .i64 n] 186) (_hne : vb ≠ b) (hr : cap < l.length + 1) (hs : l.length ≤ 65536) :
    Calls Try.prog 137 #[.slice (some ⟨b, 0, none⟩) N cap, .int .i64 k, .slice (some ⟨vb, 0, none⟩) 1 1] w (InsPost b l k a n w) := by
  obtain ⟨i0, hi0, hz0, hz1, hzb⟩ := info_parts info_run
  have hfl := flat_len l
  have hcl : N ≤ cap := by simp [hfl] at hl; omega
  have hbw := hb.lt
  have hvw := hv.lt
  have hold : (Builtin.firstCells i0.size k (.slice (some ⟨b, 0, none⟩) k cap)).run Try.prog w.drew = .ok (flat (l.take k)).toArray w.drew := by
    rw [hz1]
    exact run_firstCells_some w.drew 2 k ⟨b, 0, none⟩ k cap (flat (l.take k)) (by rw [flat_len, List.length_take]; omega) (fun j v hj => by
      rw [Addr.add_lit, Nat.zero_add]
      rw [← flat_take, List.getElem?_take] at hj
      split at hj
      · exact hb.drew.cell (by rw [List.getElem?_append_left (List.getElem?_eq_some_iff.1 hj).1]; exact hj)
      · cases hj)
  have hkk : (N : Int) + 1 - (k : Int) = ((N + 1 - k : Nat) : Int) := by omega
  have hik : k + (N + 1 - k) = N + 1 := by omega
  obtain ⟨G, hG⟩ : ∃ G, G = grownCap w (N + 1) cap 186 := ⟨_, rfl⟩
  have hG1 : N + 1 ≤ G := by rw [hG]; exact grownCap_ge w _ _ _
  have hG2 : G ≤ maxLen := by rw [hG]; exact grownCap_le_maxLen w (N + 1) cap 186 (by unfold maxLen; omega)
  obtain ⟨ROW, hROW⟩ : ∃ ROW : Array Value, ROW = (flat (l.take k)).toArray ++ Builtin.zeroCells (Value.agg #[.int .i64 0, .int .i64 0]).cells (N + 1 - k) ++ Builtin.zeroCells (Value.agg #[.int .i64 0, .int .i64 0]).cells (G - (N + 1)) := ⟨_, rfl⟩
  have hrz : ∀ ty, (Builtin.append_ #[183, 3] ty #[.slice (some ⟨b, 0, none⟩) k cap, .int .i64 ((N : Int) + 1 - (k : Int))]).run Try.prog w =
      .ok (.slice (some ⟨w.heap.size, 0, none⟩) (N + 1) G) (w.drew.alloc (.cells ROW 186)) := fun ty => by
    have h := Lib.run_append_grow_zeros w 183 3 ty 186 i0 _ .i64 .i64 Try.underlying183 Try.underlying3 hi0 hz0 (some ⟨b, 0, none⟩) k cap (flat (l.take k)) hold (N + 1 - k) (by omega) (by omega) (by omega) (by omega) (by rw [hzb]; omega) (by rw [hzb, hik]; exact growslice_fits (by omega) (by omega))
    rw [hik] at h
    rw [hkk, h, hROW, hG]
  have hRl : ROW.size = 2 * G := by
    rw [hROW]
    simp [Builtin.zeroCells, Value.cells, flat_len]
    omega
  obtain ⟨W1, hW1⟩ : ∃ W1, W1 = w.drew.alloc (.cells ROW 186) := ⟨_, rfl⟩
  rw [← hW1] at hrz
  have hR0 : ROW.toList.take (2 * k) = flat (l.take k) := by
    rw [hROW]
    simp only [Array.toList_append, List.append_assoc]
    rw [List.take_left' (by rw [flat_len, List.length_take]; omega)]
  have hB1 : Blk W1 w.heap.size ROW.toList 186 := by rw [hW1]; exact Blk.new w.drew _ _
  have hV1 : Blk W1 vb [.int .i64 a, .int .i64 n] 186 := by rw [hW1]; exact hv.drew.alloc _
  have hb1 : Blk W1 b (flat l ++ rest) 186 := by rw [hW1]; exact hb.drew.alloc _
  have hcpA : ∀ ty dc, (Builtin.copy_ #[183, 183] ty #[.slice (some ⟨w.heap.size, k * 2, none⟩) (N + 1 - k) dc, .slice (some ⟨vb, 0, none⟩) 1 1]).run Try.prog W1 = .ok (goInt (1 : Nat)) (W1.setCells w.heap.size (k * 2) [.int .i64 a, .int .i64 n]) := fun ty dc =>
    run_copy2 W1 ty w.heap.size (k * 2) _ dc ⟨vb, 0, none⟩ 1 1 _ 1 (by simp only [Nat.min_def]; split <;> omega) rfl
      (fun j v hj => by rw [Addr.add_lit, Nat.zero_add]; exact hV1.cell hj)
      (fun j hj => hB1.isSome (by rw [Array.length_toList, hRl]; simp at hj; omega)) (fun j _ => hB1.frozen _) (by simp [Value.oneCell'])
  obtain ⟨W2, hW2⟩ : ∃ W2, W2 = W1.setCells w.heap.size (k * 2) [.int .i64 a, .int .i64 n] := ⟨_, rfl⟩
  have hB2 : Blk W2 w.heap.size (flat (l.take k) ++ [Value.int .i64 a, Value.int .i64 n] ++ ROW.toList.drop (2 * k + 2)) 186 := by
    rw [hW2]
    have := Blk.setCells [.int .i64 a, .int .i64 n] (k * 2) _ _ hB1
    rw [setL_eq _ _ _ (by simp only [Array.length_toList, hRl, List.length_cons, List.length_nil]; omega), Nat.mul_comm k 2, hR0] at this
    rw [Nat.mul_comm k 2]
    exact this
  have hl2 : (flat (l.take k) ++ [Value.int .i64 a, Value.int .i64 n] ++ ROW.toList.drop (2 * k + 2)).length = 2 * G := by
    simp only [List.length_append, flat_len, List.length_take, List.length_drop, Array.length_toList, hRl, List.length_cons, List.length_nil]
    omega
  have hb2 : Blk W2 b (flat l ++ rest) 186 := by
    rw [hW2]
    exact hb1.fr (S := [w.heap.size]) (Fr.setCells _ _ (Fr.refl _ _) (by simp)) (by simp; omega)
  obtain ⟨D, hD⟩ : ∃ D, D = flat (l.drop k) := ⟨_, rfl⟩
  have hDl : D.length = (N - k) * 2 := by rw [hD, flat_len, List.length_drop, hN]; omega
  have hcpB : ∀ ty dc sc, (Builtin.copy_ #[183, 183] ty #[.slice (some ⟨w.heap.size, (k + 1) * 2, none⟩) (N - k) dc, .slice (some ⟨b, k * 2, none⟩) (N - k) sc]).run Try.prog W2.drew = .ok (goInt (N - k : Nat)) (W2.drew.setCells w.heap.size ((k + 1) * 2) D) := fun ty dc sc =>
    run_copy2 W2.drew ty w.heap.size ((k + 1) * 2) _ dc ⟨b, k * 2, none⟩ _ sc D (N - k) (by simp only [Nat.min_def]; split <;> omega) hDl
      (fun j v hj => by
        rw [Addr.add_lit]
        refine hb2.drew.cell ?_
        rw [hD, ← flat_drop] at hj
        rw [List.getElem?_drop] at hj
        rw [List.getElem?_append_left (by have := (List.getElem?_eq_some_iff.1 hj).1; omega), Nat.mul_comm k 2]
        exact hj)
      (fun j hj => hB2.drew.isSome (by rw [hl2]; omega)) (fun j _ => hB2.drew.frozen _) (by rw [hD]; exact flat_one _)
  obtain ⟨W3, hW3⟩ : ∃ W3, W3 = W2.drew.setCells w.heap.size ((k + 1) * 2) D := ⟨_, rfl⟩
  have hB3 : Hid (Blk W3 w.heap.size (flat (putAt l k a n) ++ ROW.toList.drop (2 * N + 2)) 186) := by
    have := Blk.setCells D ((k + 1) * 2) _ _ hB2.drew
    rw [setL_eq _ _ _ (by rw [hl2, hDl]; omega), hDl] at this
    rw [hW3]
    have e1 : (flat (l.take k) ++ [Value.int .i64 a, .int .i64 n]).length = (k + 1) * 2 := by simp only [List.length_append, flat_len, List.length_take, List.length_cons, List.length_nil]; omega
    have e : (flat (l.take k) ++ [Value.int .i64 a, .int .i64 n] ++ ROW.toList.drop (2 * k + 2)).take ((k + 1) * 2) ++ D ++ (flat (l.take k) ++ [Value.int .i64 a, .int .i64 n] ++ ROW.toList.drop (2 * k + 2)).drop ((k + 1) * 2 + (N - k) * 2) = flat (putAt l k a n) ++ ROW.toList.drop (2 * N + 2) := by
      rw [List.take_left' e1, List.drop_append, List.drop_of_length_le (by omega), e1, List.drop_drop, show 2 * k + 2 + ((k + 1) * 2 + (N - k) * 2 - (k + 1) * 2) = 2 * N + 2 by omega, flat_putAt, hD]
      simp
    rw [e] at this
    exact this
  have hF : Hid (Fr [b] w W3) := by
    have f1 : Fr [b] w W1 := by rw [hW1]; exact ((Fr.refl _ w).drew).alloc _
    rw [hW3, hW2]; exact Fr.setCells _ _ ((Fr.setCells _ _ f1 (.inr (Nat.le_refl _))).drew) (.inr (Nat.le_refl _))
  have hL : Hid ((flat (putAt l k a n) ++ ROW.toList.drop (2 * N + 2)).length = 2 * G) := by
    show _ = _
    simp only [List.length_append, flat_len, putAt_len, List.length_drop, Array.length_toList, hRl]
    omega
  rw [← hW2] at hcpA
  rw [← hW3] at hcpB
  have HN := hid hN
  have HG := hid hG2
  have hrc : cap < N + 1 := by omega
  unfold maxLen at hG2
  clear hi0 hz0 hz1 hzb hfl hbw hvw hold hkk hik hG hROW hRl hW1 hR0 hB1 hV1 hb1 hW2 hB2 hl2 hb2 hD hDl hW3 hb hl hv hr hN
  have hw1 : IntKind.i64.wrap ((k : Int) + 1) = (k : Int) + 1 := by rw [IntKind.wrap_i64]; omega
  have hw2 : IntKind.i64.wrap ((N : Int) + 1) = (N : Int) + 1 := by rw [IntKind.wrap_i64]; omega
  have hw3 : IntKind.i64.wrap ((N : Int) + 1 - k) = (N : Int) + 1 - k := by rw [IntKind.wrap_i64]; omega
  have hz2 : ¬ ((k : Int) = (N : Int)) := by omega
  have hz3 : (cap : Int) < (N : Int) + 1 := by omega
  have hb1 : (0 : Int) ≤ (k : Int) + 1 := by omega
  have htn : ((k : Int) + 1).toNat = k + 1 := by omega
  have hGi : ¬ (G = k) := by omega
  have hGim : ¬ (G = k + 1) := by omega
  have hci : ¬ (cap = k) := by omega
  have hb3 : (k : Int) ≤ (N : Int) + 1 := by omega
  have hb5 : (k : Int) + 1 ≤ (N : Int) + 1 := by omega
  have hb6 : (k : Int) ≤ (N : Int) := by omega
  go_enter Try.func137, Try.ntmps137
  go_wp2_with (first
    | (at_builtin; refine Lib.wpList_append_run _ rfl _ _ _ _ rfl _ _ rfl rfl _ _ (hrz _) ?_)
    | (at_builtin; refine wpList_copy2 _ rfl _ _ 183 183 rfl _ _ rfl rfl (hcpA _ _) ?_))
  go_region_law (refine step_copy2 rfl _ _ 183 183 rfl _ _ (by simp [Act.eval, Act.put]) (by simp [Act.eval, Act.put]) (hcpB _ _ _) ?_)
  go_wp2_with fail
  go_ret
  exact ⟨w.heap.size, G, _, by rw [← HN.out]; rfl, hB3.out, hL.out, HG.out, .inr (Nat.le_refl _), hF.out⟩

/-- One run is put in. -/
theorem insRun (b vb : Nat) (l : List (Int × Int)) (a n : Int) (rest : List Value) (cap k : Nat) (w : World) (hk : k ≤ l.length) (hb : Blk w b (flat l ++ rest) 186) (hl : (flat l ++ rest).length = 2 * cap) (hcap : cap ≤ maxLen) (hv : Blk w vb [.int .i64 a, .int .i64 n] 186) (hne : vb ≠ b) (hs : l.length ≤ 65536) :
    Calls Try.prog 137 #[.slice (some ⟨b, 0, none⟩) l.length cap, .int .i64 k, .slice (some ⟨vb, 0, none⟩) 1 1] w (InsPost b l k a n w) := by
  rcases Nat.lt_or_ge cap (l.length + 1) with h | h
  · rcases Nat.lt_or_ge k l.length with h2 | h2
    · exact insGrow b vb l a n rest cap l.length k w rfl h2 hb hl hv hne h hs
    · obtain rfl : k = l.length := by omega
      exact insEndGrow b vb l a n rest cap l.length w rfl hb hl hv hne h hs
  · rcases Nat.lt_or_ge k l.length with h2 | h2
    · exact insShift b vb l a n rest cap l.length k w rfl h2 hb hl hcap hv hne h
    · obtain rfl : k = l.length := by omega
      exact insEndRoom b vb l a n rest cap l.length w rfl hb hl hcap hv hne h
end Go.Proofs.Ytifillpcphiblaa
