import Derived.Test.YtifillpcphiblaaWDoc0
namespace Go.Proofs.Ytifillpcphiblaa
open Go Go.Proofs Go.RowKit

/-! The document's table: Take, Places. -/

theorem SlM.shape {w : World} {base : Nat} {sv : Value} {l : List (Int × Int)} (h : SlM w base sv l) : ∃ p c, sv = .slice p l.length c := by
  rcases h with ⟨rfl, rfl⟩ | ⟨b, o, cap, cs, f, rfl, _⟩
  · exact ⟨_, _, rfl⟩
  · exact ⟨_, _, rfl⟩

/-- The cells of one of a row. -/
theorem SlM.at {w : World} {base : Nat} {p : Option Addr} {c : Nat} {l : List (Int × Int)} (h : SlM w base (.slice p l.length c) l) (hl : 0 < l.length) : ∃ b o, p = some ⟨b, o, none⟩ ∧ base ≤ b ∧ b < w.heap.size ∧ l.length ≤ c ∧
    (∀ (k : Nat) (x : Int × Int), l[k]? = some x → w.cell? ⟨b, o + k * 3, none⟩ = some (.int .i64 x.1) ∧ w.cell? ⟨b, o + k * 3 + 1, none⟩ = some (.int .i64 x.2) ∧ w.cell? ⟨b, o + k * 3 + 2, none⟩ = some (.bool false)) ∧
    ∃ cs f, w.heap[b]? = some (.cells cs 149 f) ∧ (∀ (j : Nat) (x : Value), (mwv l)[j]? = some x → cs[o + j]? = some x) := by
  rcases h with ⟨e, rfl⟩ | ⟨b, o, cap, cs, f, e, e2, e3, e4, e5⟩
  · simp at hl
  · cases e
    refine ⟨b, o, rfl, e2, (Array.getElem?_eq_some_iff.1 e3).1, e5, fun k x hx => ?_, cs, f, e3, e4⟩
    obtain ⟨g1, g2, g3⟩ := mwv_get hx
    refine ⟨?_, ?_, ?_⟩
    · rw [cell_of_row w b _ cs _ f e3]; exact e4 _ _ g1
    · rw [cell_of_row w b _ cs _ f e3, Nat.add_assoc]; exact e4 _ _ g2
    · rw [cell_of_row w b _ cs _ f e3, Nat.add_assoc]; exact e4 _ _ g3

/-- The row without its first. -/
theorem SlM.tail {w : World} {base b o c : Nat} {x : Int × Int} {l : List (Int × Int)} {cs : Array Value} {f : Nat × Nat} (hb : base ≤ b) (hc : l.length + 1 ≤ c) (e3 : w.heap[b]? = some (.cells cs 149 f)) (e4 : ∀ (j : Nat) (y : Value), (mwv (x :: l))[j]? = some y → cs[o + j]? = some y) :
    SlM w base (.slice (some ⟨b, if c = 1 then o else o + 3, none⟩) l.length (c - 1)) l := by
  refine .inr ⟨b, _, c - 1, cs, f, rfl, hb, e3, fun j y hy => ?_, by omega⟩
  by_cases h1 : c = 1
  · have : l = [] := List.eq_nil_of_length_eq_zero (by omega)
    subst this
    simp [mwv] at hy
  · rw [if_neg h1, Nat.add_assoc, Nat.add_comm 3 j]
    refine e4 (j + 3) y ?_
    simp only [mwv, List.flatMap_cons, List.cons_append, List.nil_append, List.getElem?_cons_succ]
    exact hy

set_option maxRecDepth 100000 in
set_option maxHeartbeats 4000000 in
theorem mTake0 (mb base : Nat) (R K : List (Int × Int)) (w : World) (h : MR w mb base R [] K) :
    Calls Try.prog 47 #[.pointer (some ⟨mb, 0, none⟩)] w fun e w' => e = .returned (.agg #[.int .i64 0, .int .i64 0, .bool false, .bool false]) ∧ MR w' mb base R [] K ∧ Fr [] w w' := by
  obtain ⟨rv, qv, kv, hB, hR, hQ, hK⟩ := h.ex
  obtain ⟨pq, cq, rfl⟩ := hQ.shape
  have hmlt := hB.lt
  have q0 := hB.cell (i := 1) rfl
  have H := hid h
  go_enter Try.func47, Try.ntmps47
  go_wp2_with fail
  have hF : Fr [] w (w.alloc (.cells #[.int .i64 0, .int .i64 0, .bool false, .bool false] 81)) := (Fr.refl _ w).alloc _
  exact bodyPost_ret (v := .agg #[.int .i64 0, .int .i64 0, .bool false, .bool false]) (by simp [results, Try.results47, go_sem]) rfl ⟨rfl, H.out.fr hF (by simp) (by simp), hF⟩

set_option maxRecDepth 100000 in
set_option maxHeartbeats 4000000 in
theorem mTake (mb base : Nat) (R Q K : List (Int × Int)) (p n : Int) (w : World) (h : MR w mb base R ((p, n) :: Q) K) (hmb : mb < base) :
    Calls Try.prog 47 #[.pointer (some ⟨mb, 0, none⟩)] w fun e w' => e = .returned (.agg #[.int .i64 p, .int .i64 n, .bool false, .bool true]) ∧ MR w' mb base R Q K ∧ Fr [mb] w w' := by
  obtain ⟨rv, qv, kv, hB, hR, hQ, hK⟩ := h.ex
  obtain ⟨pq, cq, rfl⟩ := hQ.shape
  obtain ⟨b, o, rfl, hb, hbl, hc, hcell, cs, f, e3, e4⟩ := hQ.at (by simp)
  obtain ⟨q1, q2, q3⟩ := hcell 0 (p, n) rfl
  simp only [Nat.zero_mul, Nat.add_zero] at q1 q2 q3
  simp only [List.length_cons] at hc
  have hne : mb ≠ b := by omega
  have hmlt := hB.lt
  have q0 := hB.cell (i := 1) rfl
  have y0 := hB.frozen 1
  have H := hid h
  have ht := SlM.tail hb hc e3 e4
  have HT := hid ht
  have fin : ∀ (v : Value) (o' : Obj) (o'' : Obj), SlM w base v Q → MR (((w.setCell ⟨mb, 1, none⟩ v).alloc o').alloc o'') mb base R Q K ∧ Fr [mb] w (((w.setCell ⟨mb, 1, none⟩ v).alloc o').alloc o'') := by
    intro v o' o'' hv
    have hF : Fr [mb] w (((w.setCell ⟨mb, 1, none⟩ v).alloc o').alloc o'') := (((Fr.refl _ w).set (by simp) _).alloc _).alloc _
    have low : ∀ b ∈ [mb], b < base ∨ ∃ c T f, w.heap[b]? = some (.cells c T f) ∧ T ≠ 149 := fun b hb => by simp at hb; subst hb; exact .inl hmb
    exact ⟨⟨rv, v, kv, ((hB.set 1 _).alloc _).alloc _, hR.fr hF low, hv.fr hF low, hK.fr hF low⟩, hF⟩
  clear ht hcell e3 e4 hR hQ hK h
  by_cases h1 : cq = 1
  · have hQ0 : Q = [] := List.eq_nil_of_length_eq_zero (by omega)
    subst h1 hQ0
    have ht1 := HT.out
    rw [if_pos rfl] at ht1
    have HT1 := hid ht1
    have HF := hid fin
    clear ht1 HT fin
    go_enter Try.func47, Try.ntmps47
    go_wp2_with fail
    exact bodyPost_ret (v := .agg #[.int .i64 p, .int .i64 n, .bool false, .bool true]) (by simp [results, Try.results47, go_sem]) rfl ⟨rfl, (HF.out _ _ _ HT1.out).1, (HF.out _ _ _ HT1.out).2⟩
  · have ht1 := HT.out
    rw [if_neg h1] at ht1
    have HT1 := hid ht1
    have HF := hid fin
    clear ht1 HT fin
    go_enter Try.func47, Try.ntmps47
    go_wp2_with fail
    exact bodyPost_ret (v := .agg #[.int .i64 p, .int .i64 n, .bool false, .bool true]) (by simp [results, Try.results47, go_sem]) rfl ⟨rfl, (HF.out _ _ _ HT1.out).1, (HF.out _ _ _ HT1.out).2⟩

set_option maxRecDepth 100000 in
set_option maxHeartbeats 4000000 in
theorem mPlaces (base : Nat) (sv : Value) (l : List (Int × Int)) (w : World) (h : SlM w base sv l) (hl : l.length ≤ 65536) :
    Calls Try.prog 97 #[sv] w fun e w' => (∃ v, e = .returned v ∧ w'.ownsRow w.heap.size 3 1 v l.length (intv (l.map (·.1)))) ∧ Fr [] w w' := by
  obtain ⟨ps, cs, rfl⟩ := h.shape
  have HI := hid (info_parts info_i)
  go_enter Try.func97, Try.ntmps97
  go_wp2_with fail
  go_loopw [3, 4] (fun out i wr => ∃ k : Nat, k ≤ l.length ∧ i = .int .i64 k ∧ wr.ownsRow w.heap.size 3 1 out k (intv ((l.map (·.1)).take k)) ∧ Fr [] w wr) (fun _ i _ => l.length - (intOf i).toNat)
  case atStart => exact ⟨0, Nat.zero_le _, rfl, ⟨by simp [intv], .inl ⟨rfl, rfl⟩⟩, Fr.refl _ _⟩
  case round =>
    obtain ⟨k, hk, rfl, hown, hF⟩ := hrel
    obtain ⟨pp, cc, rfl⟩ := own_len hown
    by_cases hlt : k < l.length
    · obtain ⟨b, o, rfl, hb, hbl, hc, hcell, -⟩ := h.at (by omega)
      obtain ⟨x, hx⟩ : ∃ x, l[k]? = some x := ⟨_, List.getElem?_eq_getElem hlt⟩
      have q0 := (cell_fr hF (by simp) hbl (o + k * 3)).trans (hcell k x hx).1
      have hxs : intv ((l.map (·.1)).take (k + 1)) = intv ((l.map (·.1)).take k) ++ [.int .i64 x.1] := by
        rw [List.take_add_one, List.getElem?_map, hx]; simp [intv]
      have HXS := hid hxs
      have HO := hid hown
      have hsz := hF.size
      clear hcell hx hxs hown
      go_wp2_with (at_builtin; obtain ⟨i0, hi, hz0, hz1, hz2⟩ := HI.out; refine wpList_append_own _ rfl _ _ _ rfl w.heap.size 3 i0 (.int .i64 0) 1 8 Try.underlying22 hi hz0 hz1 hz2 rfl (by decide) (.slice pp k cc) k _ rfl (HO.out.alloc _) ⟨wr.heap.size, 0, none⟩ 1 1 [.int .i64 x.1] rfl rfl (cell_one_new _ _ _) ?c1 ?c2 ?c3 ?c4 ?c5)
      case c1 => simp [Value.oneCell']
      case c2 => simp only [maxLen]; omega
      case c3 => omega
      case c4 => omega
      case c5 =>
        intro v' w2 hown' hgrow hniliff
        have hGr : Fr (Value.slice pp k cc).ownBlock.toList (wr.alloc (.cells #[.int .i64 x.1] 3)) w2 := Fr.of_grownBy hgrow (by intro k' hk'; left; simp [hk'])
        have hlow := own_low HO.out
        have hF2 : Fr [] w w2 := (hF.alloc _).step hGr (fun b hb => .inr (hlow b hb))
        obtain ⟨gg, cc', rfl⟩ := own_slice' hown' (by omega)
        have HO2 := hid hown'
        clear hown' hgrow hniliff q0
        go_wp2_with fail
        go_roundw
        case rel => exact ⟨k + 1, by omega, by go_num, by rw [HXS.out]; exact HO2.out, hF2⟩
        case measure => simp [intOf]; omega
    · obtain rfl : k = l.length := by omega
      have HO := hid hown
      clear hown
      go_wp2_with fail
      go_ret
      refine ⟨⟨_, rfl, ?_⟩, hF⟩
      have := HO.out
      rw [List.take_of_length_le (by simp)] at this
      exact this
end Go.Proofs.Ytifillpcphiblaa
