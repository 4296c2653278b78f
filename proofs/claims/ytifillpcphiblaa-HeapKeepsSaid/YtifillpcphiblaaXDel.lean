import Derived.Test.YtifillpcphiblaaXTake
import Derived.Lib.SliceRun
import Derived.Deep.RegionLaw
namespace Go.Proofs.Ytifillpcphiblaa
open Go Go.Proofs Go.RowKit

def setL (cs : List Value) : Nat → List Value → List Value
  | _, [] => cs
  | o, v :: r => setL (cs.set o v) (o + 1) r

theorem Blk.setCells {b : Nat} {T : TypeId} : ∀ (vs : List Value) (o : Nat) (w : World) (cs : List Value), Blk w b cs T → Blk (w.setCells b o vs) b (setL cs o vs) T
  | [], _, _, _, h => h
  | v :: r, o, _, _, h => Blk.setCells r (o + 1) _ _ (h.set o v)

theorem Fr.setCells {S : List Nat} {b : Nat} : ∀ (vs : List Value) (o : Nat) {a w : World}, Fr S a w → (b ∈ S ∨ a.heap.size ≤ b) → Fr S a (w.setCells b o vs)
  | [], _, _, _, h, _ => h
  | _ :: r, o, _, _, h, hb => Fr.setCells r (o + 1) (h.set hb _) hb

theorem setL_mid : ∀ (vs old : List Value) (pre post : List Value), old.length = vs.length → setL (pre ++ old ++ post) pre.length vs = pre ++ vs ++ post
  | [], [], pre, post, _ => rfl
  | v :: vs, o :: old, pre, post, h => by
    have e : (pre ++ (o :: old) ++ post).set pre.length v = (pre ++ [v]) ++ old ++ post := by simp
    show setL ((pre ++ (o :: old) ++ post).set pre.length v) (pre.length + 1) vs = _
    rw [e]
    have := setL_mid vs old (pre ++ [v]) post (by simpa using h)
    rw [show (pre ++ [v]).length = pre.length + 1 by simp] at this
    rw [this]; simp
  | [], _ :: _, _, _, h => by simp at h
  | _ :: _, [], _, _, h => by simp at h

theorem info_run : (Try.prog.info? 186).map (fun i => (i.zero, i.size, i.bytes)) = some (some (.agg #[.int .i64 0, .int .i64 0]), 2, 16) := by kernel_rfl

theorem clearRun (w : World) (ty : TypeId) (b o c : Nat) (hc : ∀ j, j < 2 → (w.cell? ⟨b, o + j, none⟩).isSome = true) (hf : ∀ j, j < 2 → w.frozen? ⟨b, o + j, none⟩ = false) :
    (Builtin.clear_ #[183] ty #[.slice (some ⟨b, o, none⟩) 1 c]).run Try.prog w = .ok (.tuple #[]) (w.setCells b o [.int .i64 0, .int .i64 0]) := by
  have hv : ∀ w, (zeroValue 186).run Try.prog w = .ok (.agg #[.int .i64 0, .int .i64 0]) w := fun _ => by kernel_rfl
  have hzc : (Builtin.zeroCells (Value.agg #[.int .i64 0, .int .i64 0]).cells 1).toList = [.int .i64 0, .int .i64 0] := by kernel_rfl
  have hst := run_storeCells_cells (P := Try.prog) b o [.int .i64 0, .int .i64 0] 0 w (by simpa using hc) (by simpa using hf) (by simp [Value.oneCell'])
  simp only [Nat.add_zero] at hst
  simp [Builtin.clear_, run_underlying Try.underlying183, hv, hzc, hst]

set_option maxHeartbeats 1600000 in
set_option maxRecDepth 100000 in
theorem delRun (b : Nat) (l1 l2 : List (Int × Int)) (x : Int × Int) (rest : List Value) (cap N : Nat) (k1 : Int) (w : World) (hN : N = l1.length + l2.length + 1) (hk1 : k1 = l1.length + 1) (hb : Blk w b (flat l1 ++ (flat (x :: l2) ++ rest)) 186) (hl : (flat (l1 ++ x :: l2) ++ rest).length = 2 * cap) :
    Calls Try.prog 143 #[.slice (some ⟨b, 0, none⟩) N cap, .int .i64 (l1.length : Nat), .int .i64 k1] w fun e w' => e = .returned (.slice (some ⟨b, 0, none⟩) (l1.length + l2.length : Nat) cap) ∧ Blk w' b (flat (l1 ++ l2) ++ (.int .i64 0 :: .int .i64 0 :: rest)) 186 ∧ Fr [b] w w' := by
  obtain ⟨i0, hi0, hz0, hz1, hz2⟩ := info_parts info_run
  have hk1' : k1 = ((l1.length + 1 : Nat) : Int) := by omega
  subst hN hk1'
  clear hk1
  have hcl : l1.length + l2.length + 1 ≤ cap := by
    simp [flat_append, flat_cons, flat_len] at hl
    omega
  obtain ⟨k, hk⟩ : ∃ k, k = l1.length := ⟨_, rfl⟩
  obtain ⟨m, hm2⟩ : ∃ m, m = l2.length := ⟨_, rfl⟩
  obtain ⟨news, hnews⟩ : ∃ news, news = flat l2 := ⟨_, rfl⟩
  have hnl : news.length = m * 2 := by rw [hnews, flat_len, hm2]; omega
  have hcell : ∀ j v, (flat l2)[j]? = some v → w.cell? ⟨b, (k + 1) * 2 + j, none⟩ = some v := by
    intro j v hv
    refine hb.cell ?_
    rw [List.getElem?_append_right (by rw [flat_len]; omega), flat_len, flat_cons]
    rw [show (k + 1) * 2 + j - 2 * l1.length = j + 1 + 1 by omega]
    simp only [List.cons_append, List.getElem?_cons_succ]
    rw [List.getElem?_append_left (List.getElem?_eq_some_iff.1 hv).1]; exact hv
  obtain ⟨A, hA, hsrc⟩ : ∃ A : Addr, (if cap = k + 1 then some (⟨b, 0, none⟩ : Addr) else some ⟨b, (k + 1) * 2, none⟩) = some A ∧ Hid (∀ t u, news[t]? = some u → w.drew.cell? (A.add t) = some u) := by
    by_cases h : cap = k + 1
    · refine ⟨⟨b, 0, none⟩, by simp [h], fun t u hu => ?_⟩
      have h0 : news.length = 0 := by rw [hnl]; omega
      rw [List.length_eq_zero_iff.1 h0] at hu
      simp at hu
    · refine ⟨⟨b, (k + 1) * 2, none⟩, by simp [h], fun t u hu => ?_⟩
      rw [hnews] at hu
      rw [Addr.add_lit]
      exact hcell t u hu
  have s1 : Hid (news.length = m * 2) := hnl
  have s2 : Hid (∀ u ∈ news, u.oneCell' = true) := by
    intro u hu
    rw [hnews] at hu
    simp only [flat, List.mem_flatMap, List.mem_cons, List.mem_nil_iff, or_false] at hu
    obtain ⟨y, _, rfl | rfl⟩ := hu <;> rfl
  have htot : ∀ j, j < (flat l1 ++ (flat (x :: l2) ++ rest)).length → (w.cell? ⟨b, j, none⟩).isSome = true := by
    intro j hj
    obtain ⟨v, hv⟩ : ∃ v, (flat l1 ++ (flat (x :: l2) ++ rest))[j]? = some v := ⟨_, List.getElem?_eq_getElem hj⟩
    rw [hb.cell hv]; rfl
  have s3 : Hid (∀ t, t < news.length → (w.drew.cell? ⟨b, 0 + k * 2 + t, none⟩).isSome = true ∧ w.drew.frozen? ⟨b, 0 + k * 2 + t, none⟩ = false) := by
    intro t ht
    refine ⟨htot _ ?_, hb.frozen _⟩
    simp [flat_len]
    omega
  -- the world behind the append
  obtain ⟨W1, hW1⟩ : ∃ W1, W1 = w.drew.setCells b (0 + k * 2) news := ⟨_, rfl⟩
  obtain ⟨y1, y2, hy⟩ : ∃ y1 y2, .int .i64 x.1 :: .int .i64 x.2 :: flat l2 = ((.int .i64 x.1 :: .int .i64 x.2 :: flat l2).take news.length) ++ [y1, y2] := by
    have h2 : ((Value.int .i64 x.1 :: .int .i64 x.2 :: flat l2).drop news.length).length = 2 := by simp [hnews]; omega
    match hd : (Value.int .i64 x.1 :: .int .i64 x.2 :: flat l2).drop news.length, h2 with
    | [y1, y2], _ => exact ⟨y1, y2, by rw [← hd, List.take_append_drop]⟩
  have hB1 : Blk W1 b (flat l1 ++ flat l2 ++ ([y1, y2] ++ rest)) 186 := by
    rw [hW1]
    have := Blk.setCells news (0 + k * 2) _ _ hb.drew
    rw [flat_cons, hy] at this
    have e : flat l1 ++ ((((Value.int .i64 x.1 :: .int .i64 x.2 :: flat l2).take news.length) ++ [y1, y2]) ++ rest) = flat l1 ++ ((Value.int .i64 x.1 :: .int .i64 x.2 :: flat l2).take news.length) ++ ([y1, y2] ++ rest) := by simp
    rw [e, show 0 + k * 2 = (flat l1).length by rw [flat_len]; omega, setL_mid _ _ _ _ (by simp [hnews]; omega)] at this
    rw [hnews] at this ⊢
    rw [show 0 + k * 2 = (flat l1).length by rw [flat_len]; omega]
    exact this
  have hF1 : Fr [b] w W1 := by rw [hW1]; exact Fr.setCells _ _ ((Fr.refl _ w).drew) (by simp)
  have hclr : ∀ ty c, (Builtin.clear_ #[183] ty #[.slice (some ⟨b, (k + m) * 2, none⟩) 1 c]).run Try.prog W1 = .ok (.tuple #[]) (W1.setCells b ((k + m) * 2) [.int .i64 0, .int .i64 0]) := by
    intro ty c
    refine clearRun W1 ty b _ c (fun j hj => ?_) (fun j _ => hB1.frozen _)
    obtain ⟨v, hv⟩ : ∃ v, (flat l1 ++ flat l2 ++ ([y1, y2] ++ rest))[(k + m) * 2 + j]? = some v := by
      refine ⟨_, List.getElem?_eq_getElem ?_⟩
      simp [flat_len]; omega
    rw [hB1.cell hv]; rfl
  have hB2 : Blk (W1.setCells b ((k + m) * 2) [.int .i64 0, .int .i64 0]) b (flat (l1 ++ l2) ++ (.int .i64 0 :: .int .i64 0 :: rest)) 186 := by
    have := Blk.setCells [.int .i64 0, .int .i64 0] ((k + m) * 2) _ _ hB1
    have e : flat l1 ++ flat l2 ++ ([y1, y2] ++ rest) = (flat l1 ++ flat l2) ++ [y1, y2] ++ rest := by simp
    rw [e, show (k + m) * 2 = (flat l1 ++ flat l2).length by simp [flat_len]; omega, setL_mid [.int .i64 0, .int .i64 0] [y1, y2] (flat l1 ++ flat l2) rest rfl] at this
    rw [flat_append, show (k + m) * 2 = (flat l1 ++ flat l2).length by simp [flat_len]; omega]
    simpa using this
  have hF2 : Fr [b] w (W1.setCells b ((k + m) * 2) [.int .i64 0, .int .i64 0]) := Fr.setCells _ _ hF1 (by simp)
  have X1 := hid hB2
  have X2 := hid hF2
  have hW := hid hW1
  rw [← hk, ← hm2] at hcl ⊢
  clear hB2 hF2 hB1 hF1 hW1 hy htot hcell hnl hk hm2 hb hl
  have hic : k ≤ cap := by omega
  have hjc : k + 1 ≤ cap := by omega
  have hp0 : (0 : Int) ≤ (k : Int) + 1 := by omega
  have hp1 : (k : Int) + 1 ≤ (k : Int) + m + 1 := by omega
  have hp2 : ((k : Int) + 1).toNat = k + 1 := by omega
  have hp3 : ((k : Int) + m + 1).toNat = k + m + 1 := by omega
  have hp4 : ((k : Int) + m).toNat = k + m := by omega
  have hp5 : k + m + 1 - (k + 1) = m := by omega
  have hp6 : k + m + 1 - (k + m) = 1 := by omega
  go_enter Try.func143, Try.ntmps143
  go_wp2_with fail
  go_region_law (refine step_append_room rfl (.tmp 22) (.tmp 25) 183 rfl 186 i0 2 Try.underlying183 hi0 hz1 b 0 k cap (by simp [Act.eval, Act.put]) A m (cap - (k + 1)) news (by simp [Act.eval, Act.put]) s1.out hsrc.out s2.out (by omega) s3.out ?_; rw [← hW.out])
  go_wp2_with fail
  go_ret
  exact ⟨rfl, X1.out, X2.out⟩
end Go.Proofs.Ytifillpcphiblaa
