import Derived.Test.YtifillpcphiblaaPAlloc2
namespace Go.Proofs.Ytifillpcphiblaa
open Go Go.Proofs Go.RowKit

theorem takeLit (a m n : Int) (pb : Nat) (w : World) (h : w.cell? ⟨pb, 0, none⟩ = some (.int .i64 n)) (hl : pb < w.heap.size) :
    Calls Try.prog 142 #[.agg #[.int .i64 a, .int .i64 m], .pointer (some ⟨pb, 0, none⟩)] w fun e w' => e = .returned (.bool (decide (n ≤ m))) ∧ Fr [] w w' := by
  have B0 := Blk.new w [.int .i64 a, .int .i64 m] 186
  have q1 := B0.cell (i := 1) rfl
  have h' : (w.alloc (.cells #[.int .i64 a, .int .i64 m] 186)).cell? ⟨pb, 0, none⟩ = some (.int .i64 n) := by
    rw [World.cell?_alloc_past _ _ _ hl]; exact h
  clear h
  go_enter Try.func142, Try.ntmps142
  go_wp2_with fail
  go_ret
  exact ⟨rfl, (Fr.refl _ w).alloc _⟩

/-- The first run that is no less; -1: none. -/
def ixRun (l : List (Int × Int)) (n : Int) : Int := ixGe (l.map (·.2)) n

theorem flat_cons (x : Int × Int) (l : List (Int × Int)) : flat (x :: l) = .int .i64 x.1 :: .int .i64 x.2 :: flat l := rfl
theorem flat_append (l l' : List (Int × Int)) : flat (l ++ l') = flat l ++ flat l' := by simp [flat]
theorem flat_len (l : List (Int × Int)) : (flat l).length = 2 * l.length := by
  induction l with
  | nil => rfl
  | cons x l ih => rw [flat_cons]; simp [ih]; omega
theorem flat_get (l : List (Int × Int)) (k : Nat) (x : Int × Int) (h : l[k]? = some x) : (flat l)[k * 2]? = some (.int .i64 x.1) ∧ (flat l)[k * 2 + 1]? = some (.int .i64 x.2) := by
  induction l generalizing k with
  | nil => simp at h
  | cons y l ih =>
    cases k with
    | zero => simp at h; subst h; exact ⟨rfl, rfl⟩
    | succ k =>
      have := ih k (by simpa using h)
      rw [flat_cons]
      exact ⟨by rw [show (k + 1) * 2 = k * 2 + 1 + 1 by omega]; simpa using this.1, by rw [show (k + 1) * 2 + 1 = k * 2 + 1 + 1 + 1 by omega]; simpa using this.2⟩

set_option maxHeartbeats 1600000 in
theorem ixTake (b : Nat) (l : List (Int × Int)) (cap : Nat) (n : Int) (pb : Nat) (w : World) (hm : l.length ≤ 65536) (hc : Rd w b (flat l)) (h : w.cell? ⟨pb, 0, none⟩ = some (.int .i64 n)) (hl : pb < w.heap.size) :
    Calls Try.prog 135 #[.slice (some ⟨b, 0, none⟩) l.length cap, .func (.func 142) #[] #[.pointer (some ⟨pb, 0, none⟩)]] w fun e w' => e = .returned (.int .i64 (ixRun l n)) ∧ Fr [] w w' := by
  go_enter Try.func135, Try.ntmps135
  go_wp2_with fail
  go_loopw [8] (fun i wr => ∃ k : Nat, k ≤ l.length ∧ i = .int .i64 k ∧ below (l.map (·.2)) n k ∧ Fr [] w wr) (fun i _ => l.length - (intOf i).toNat)
  case atStart => exact ⟨0, Nat.zero_le _, rfl, below_zero _ _, Fr.refl _ _⟩
  case round =>
    obtain ⟨k, hk, rfl, hH, hFr⟩ := hrel
    have hcr := hc.fr hFr (by simp)
    have hr : wr.cell? ⟨pb, 0, none⟩ = some (.int .i64 n) := by
      exact (World.cell?_of_block (w := w) (hFr.block _ hl (by simp))).trans h
    have hlr := Nat.lt_of_lt_of_le hl hFr.size
    by_cases hlt : k < l.length
    · obtain ⟨x, hx⟩ : ∃ x, l[k]? = some x := ⟨_, List.getElem?_eq_getElem hlt⟩
      obtain ⟨g1, g2⟩ := flat_get l k x hx
      have c1 := hcr.2 _ _ g1
      have c2 := hcr.2 _ _ g2
      have hx2 : (l.map (·.2))[k]? = some x.2 := by simp [hx]
      have Hx := hid hx2
      clear hx g1 g2 hx2
      obtain ⟨x1, x2⟩ := x
      simp only at c1 c2 Hx
      by_cases hs : n ≤ x2
      · go_wp2_with (go_at_call 142; refine (takeLit _ _ _ _ _ hr hlr).mono ?_; rintro e w' ⟨rfl, hF⟩)
        go_ret
        exact ⟨by unfold ixRun; rw [ixGe_some hH Hx.out hs]; rfl, hFr.trans hF⟩
      · go_wp2_with (go_at_call 142; refine (takeLit _ _ _ _ _ hr hlr).mono ?_; rintro e w' ⟨rfl, hF⟩)
        go_roundw
        case rel => exact ⟨k + 1, by omega, by go_num, below_succ hH Hx.out (by omega), hFr.trans hF⟩
        case measure => simp [intOf]; omega
    · go_wp2_with fail
      go_ret
      have e : k = l.length := by omega
      subst e
      exact ⟨by unfold ixRun; rw [ixGe_none (by simpa using hH)]; rfl, hFr⟩
end Go.Proofs.Ytifillpcphiblaa
