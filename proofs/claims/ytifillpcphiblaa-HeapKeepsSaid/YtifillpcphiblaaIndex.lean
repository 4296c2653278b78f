import Derived.Test.YtifillpcphiblaaCell
namespace Go.Proofs.Ytifillpcphiblaa
open Go Go.Proofs Go.RowKit

/-- Cells of a block that are read only. -/
def Rd (w : World) (b : Nat) (vs : List Value) : Prop := b < w.heap.size ∧ ∀ i v, vs[i]? = some v → w.cell? ⟨b, i, none⟩ = some v
theorem cell_fr {S : List Nat} {w w' : World} {b : Nat} (hf : Fr S w w') (hb : b ∉ S) (hl : b < w.heap.size) (i : Nat) : w'.cell? ⟨b, i, none⟩ = w.cell? ⟨b, i, none⟩ := World.cell?_of_block (w := w) (hf.block b hl hb)
theorem frozen_fr {S : List Nat} {w w' : World} {b : Nat} (hf : Fr S w w') (hb : b ∉ S) (hl : b < w.heap.size) (i : Nat) : w'.frozen? ⟨b, i, none⟩ = w.frozen? ⟨b, i, none⟩ := World.frozen?_of_block (w := w) (hf.block b hl hb)
theorem Rd.fr {S : List Nat} {w w' : World} {b : Nat} {vs : List Value} (h : Rd w b vs) (hf : Fr S w w') (hb : b ∉ S) : Rd w' b vs :=
  ⟨Nat.lt_of_lt_of_le h.1 hf.size, fun i v hv => (cell_fr hf hb h.1 i).trans (h.2 i v hv)⟩
theorem Rd.alloc {w : World} {b : Nat} {vs : List Value} (h : Rd w b vs) (o : Obj) : Rd (w.alloc o) b vs := h.fr ((Fr.refl [] w).alloc o) (by simp)
theorem Rd.drew {w : World} {b : Nat} {vs : List Value} (h : Rd w b vs) : Rd w.drew b vs := h.fr ((Fr.refl [] w).drew) (by simp)
theorem Rd.drewN {w : World} {b : Nat} {vs : List Value} (h : Rd w b vs) (n : Nat) : Rd (w.drewN n) b vs := h.fr ((Fr.refl [] w).drewN n) (by simp)
theorem Rd.other {w : World} {b : Nat} {vs : List Value} (h : Rd w b vs) {a : Addr} (hne : b ≠ a.block) (v : Value) : Rd (w.setCell a v) b vs := h.fr ((Fr.refl [a.block] w).set (by simp) v) (by simpa using hne)

theorem classGe (n s : Int) (pb : Addr) (w : World) (h : w.cell? pb = some (.int .i64 s)) :
    Calls Try.prog 111 #[.int .i64 n, .pointer (some pb)] w fun e w' => e = .returned (.bool (decide (s ≤ n))) ∧ w = w' := by
  go_enter Try.func111, Try.ntmps111
  go_wp2_with fail
  go_ret
  exact ⟨rfl, rfl⟩

/-- The first class that is no less; -1: none. -/
def ixGe (cls : List Int) (s : Int) : Int := match cls.findIdx? (fun n => decide (s ≤ n)) with | some k => k | none => -1
def below (cls : List Int) (s : Int) (k : Nat) : Prop := ∀ j y, j < k → cls[j]? = some y → y < s
theorem below_zero (cls : List Int) (s : Int) : below cls s 0 := fun _ _ h => by omega
theorem below_succ {cls : List Int} {s : Int} {k : Nat} {x : Int} (h : below cls s k) (hx : cls[k]? = some x) (hl : x < s) : below cls s (k + 1) := by
  intro j y hj hy
  by_cases e : j = k
  · subst e; rw [hx] at hy; cases hy; exact hl
  · exact h j y (by omega) hy
theorem ixGe_some {cls : List Int} {s : Int} {k : Nat} {x : Int} (h : below cls s k) (hx : cls[k]? = some x) (hl : s ≤ x) : ixGe cls s = k := by
  have hk : k < cls.length := by
    rcases Nat.lt_or_ge k cls.length with h | h
    · exact h
    · rw [List.getElem?_eq_none h] at hx; cases hx
  have : cls.findIdx? (fun n => decide (s ≤ n)) = some k := by
    rw [List.findIdx?_eq_some_iff_getElem]
    refine ⟨hk, ?_, fun j hj => ?_⟩
    · rw [List.getElem?_eq_getElem hk] at hx; cases hx; simpa using hl
    · have := h j cls[j] hj (List.getElem?_eq_getElem (by omega))
      simp; omega
  simp [ixGe, this]
theorem ixGe_none {cls : List Int} {s : Int} (h : below cls s cls.length) : ixGe cls s = -1 := by
  have : cls.findIdx? (fun n => decide (s ≤ n)) = none := by
    rw [List.findIdx?_eq_none_iff]
    intro x hx
    obtain ⟨j, hj, rfl⟩ := List.getElem_of_mem hx
    have := h j cls[j] hj (List.getElem?_eq_getElem hj)
    simp; omega
  simp [ixGe, this]
theorem ixGe_cases (cls : List Int) (s : Int) : ixGe cls s = -1 ∨ ∃ k : Nat, k < cls.length ∧ ixGe cls s = k ∧ ∃ x, cls[k]? = some x ∧ s ≤ x := by
  unfold ixGe
  cases h : cls.findIdx? (fun n => decide (s ≤ n)) with
  | none => exact .inl rfl
  | some k =>
    rw [List.findIdx?_eq_some_iff_getElem] at h
    obtain ⟨hk, hp, _⟩ := h
    exact .inr ⟨k, hk, rfl, cls[k], List.getElem?_eq_getElem hk, by simpa using hp⟩

set_option maxHeartbeats 800000 in
theorem ixClass (cb : Nat) (cls : List Int) (cap : Nat) (s : Int) (pb : Addr) (w : World) (hm : cls.length ≤ 100) (hc : Rd w cb (cls.map (.int .i64))) (h : w.cell? pb = some (.int .i64 s)) :
    Calls Try.prog 110 #[.slice (some ⟨cb, 0, none⟩) cls.length cap, .func (.func 111) #[] #[.pointer (some pb)]] w fun e w' => e = .returned (.int .i64 (ixGe cls s)) ∧ w = w' := by
  go_enter Try.func110, Try.ntmps110
  go_wp2_with fail
  go_loop [8] (fun i => ∃ k : Nat, k ≤ cls.length ∧ i = .int .i64 k ∧ below cls s k) (fun i => cls.length - (intOf i).toNat)
  case atStart => exact ⟨0, Nat.zero_le _, rfl, below_zero _ _⟩
  case round =>
    obtain ⟨k, hk, rfl, hH⟩ := hrel
    by_cases hlt : k < cls.length
    · obtain ⟨x, hx⟩ : ∃ x, cls[k]? = some x := ⟨_, List.getElem?_eq_getElem hlt⟩
      have hck : w.cell? ⟨cb, k, none⟩ = some (.int .i64 x) := hc.2 k _ (by simp [hx])
      have Hx := hid hx
      clear hx
      by_cases hs : s ≤ x
      · go_wp2_with (go_at_call 111; refine (classGe _ _ _ _ h).mono ?_; rintro e w' ⟨rfl, rfl⟩)
        go_ret
        exact ⟨by rw [ixGe_some hH Hx.out hs]; rfl, rfl⟩
      · go_wp2_with (go_at_call 111; refine (classGe _ _ _ _ h).mono ?_; rintro e w' ⟨rfl, rfl⟩)
        go_round
        case rel => exact ⟨k + 1, by omega, by go_num, below_succ hH Hx.out (by omega)⟩
        case measure => simp [intOf]; omega
    · go_wp2_with fail
      go_ret
      have e : k = cls.length := by omega
      subst e
      exact ⟨by rw [ixGe_none hH]; rfl, rfl⟩
end Go.Proofs.Ytifillpcphiblaa
