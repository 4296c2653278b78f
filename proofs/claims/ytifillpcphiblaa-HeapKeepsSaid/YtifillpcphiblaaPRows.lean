import Derived.Test.YtifillpcphiblaaPRing
namespace Go.Proofs.Ytifillpcphiblaa
open Go Go.Proofs Go.RowKit

/-! Plain laws: a ring's rows. -/

structure Rows where
  W : List Int
  F : List Int
  G : List Int
  B : List Int

def Rows.all (R : Rows) : List Int := R.W ++ (R.F ++ (R.G ++ R.B))

structure RI (ws : List Int) (r : RS) (R : Rows) : Prop where
  nw : r.w = R.W.length
  nf : r.f = R.F.length
  ng : r.g = R.G.length
  nb : r.b = R.B.length
  fst : ∀ x l, R.all = x :: l → r.first = x
  blk : ∀ x l, R.B ++ (R.W ++ (R.F ++ R.G)) = x :: l → r.black = x
  circ : Circ ws R.all
  cells : Cells ws.length R.all

theorem RI.tot {ws : List Int} {r : RS} {R : Rows} (h : RI ws r R) : r.tot = R.all.length := by
  simp [RS.tot, Rows.all, h.nw, h.nf, h.ng, h.nb]; omega

theorem RI.empty (ws : List Int) (a b : Int) : RI ws ⟨a, b, 0, 0, 0, 0⟩ ⟨[], [], [], []⟩ :=
  ⟨rfl, rfl, rfl, rfl, by simp [Rows.all], by simp, trivial, ⟨by simp [Rows.all], by simp [Rows.all]⟩⟩

/-- Other words may change. -/
theorem RI.congr {ws ws' : List Int} {r : RS} {R : Rows} (h : RI ws r R) (hl : ws'.length = ws.length) (hs : ∀ y ∈ R.all, gw ws' (y + 1) = gw ws (y + 1) ∧ gw ws' (y + 2) = gw ws (y + 2)) : RI ws' r R :=
  ⟨h.nw, h.nf, h.ng, h.nb, h.fst, h.blk, Circ_congr hs h.circ, by rw [hl]; exact h.cells⟩

/-- What the ring's first cell, and the cell ahead of it, are. -/
theorem RI.okFirst {ws : List Int} {r : RS} {R : Rows} (h : RI ws r R) (ht : r.tot ≠ 0) : Okc ws r.first ∧ Okc ws (gw ws (r.first + 2)) := by
  have h1 := h.tot
  cases e : R.all with
  | nil => rw [e] at h1; exact absurd h1 ht
  | cons x l =>
    have hf := h.fst x l e
    have hc := h.circ
    have hC := h.cells
    rw [e] at hc hC
    have hp := Circ_prev hc
    rw [hf]
    refine ⟨hC.okc (by simp), ?_⟩
    rw [hp]
    exact hC.okc (List.getLast_mem _)

theorem growW_len (ws : List Int) (r : RS) (c : Int) : (growW ws r c).length = ws.length := by
  unfold growW; split <;> simp [lk_len, pt_len]

theorem RI.grow {ws : List Int} {r : RS} {R : Rows} {c : Int} (h : RI ws r R) (hC : Cells ws.length (c :: R.all)) :
    RI (growW ws r c) (r.grown c) { R with W := c :: R.W } ∧ Same ws (growW ws r c) (c :: R.all) := by
  have ht := h.tot
  have hall : ({ R with W := c :: R.W } : Rows).all = c :: R.all := rfl
  have hlen := growW_len ws r c
  have key : Circ (growW ws r c) (c :: R.all) ∧ Same ws (growW ws r c) (c :: R.all) := by
    cases e : R.all with
    | nil =>
      have h0 : r.tot = 0 := by rw [ht, e]; rfl
      have kc := hC.okc (c := c) (by simp)
      unfold growW
      rw [if_pos h0]
      have k1 := kc.1
      have k2 := kc.2
      refine ⟨⟨⟨?_, ?_⟩, trivial⟩, ?_⟩
      · rw [gw_lk _ _ _ _ k1 (by omega) k1 k2 (by omega), if_neg (by omega), if_pos rfl]
      · rw [gw_lk _ _ _ _ k1 (by omega) k1 k2 (by omega), if_pos rfl]
      · exact (Same.lk ws c c kc kc).mono (by simp)
    | cons x l =>
      have h0 : r.tot ≠ 0 := by rw [ht, e]; simp
      have hf := h.fst x l e
      have hc := h.circ
      rw [e] at hc hC
      have := Circ_put hc hC
      unfold growW
      rw [if_neg h0, hf]
      exact ⟨Circ_rot _ (x :: l) [c] this.1, this.2⟩
  refine ⟨⟨?_, h.nf, h.ng, h.nb, ?_, ?_, ?_, ?_⟩, key.2⟩
  · simp [RS.grown, h.nw]
  · intro x l e
    rw [hall] at e
    cases e; rfl
  · intro x l e
    simp only [RS.grown]
    cases hB : R.B with
    | nil =>
      have : r.b = 0 := by rw [h.nb, hB]; rfl
      rw [if_pos this]
      rw [hB] at e
      simp at e
      exact e.1
    | cons b l' =>
      have : r.b ≠ 0 := by rw [h.nb, hB]; simp
      rw [if_neg this]
      have := h.blk b _ (by rw [hB]; rfl)
      rw [hB] at e
      simp at e
      rw [this]; exact e.1
  · rw [hall]; exact key.1
  · rw [hall, hlen]; exact hC

theorem RI.alloc {ws : List Int} {r : RS} {R : Rows} {c : Int} {W : List Int} (h : RI ws r R) (hW : R.W = c :: W) :
    r.first = c ∧ RI ws (r.allocd ws) ⟨W, R.F, R.G, R.B ++ [c]⟩ := by
  have e0 : R.all = c :: (W ++ (R.F ++ (R.G ++ R.B))) := by simp [Rows.all, hW]
  have hf := h.fst _ _ e0
  have e1 : (⟨W, R.F, R.G, R.B ++ [c]⟩ : Rows).all = (W ++ (R.F ++ (R.G ++ R.B))) ++ [c] := by simp [Rows.all]
  have hc := h.circ
  have hC := h.cells
  rw [e0] at hc hC
  refine ⟨hf, ⟨?_, h.nf, h.ng, ?_, ?_, ?_, ?_, ?_⟩⟩
  · simp [RS.allocd, h.nw, hW]
  · simp [RS.allocd, h.nb]
  · intro x l e
    rw [e1] at e
    have := Circ_next hc
    simp only [RS.allocd, hf]
    rw [this]
    simp [e]
  · intro x l e
    simp only [RS.allocd]
    cases hB : R.B with
    | nil =>
      rw [hB] at e
      simp at e
      have := h.blk c _ (by rw [hB, hW]; rfl)
      rw [this]; exact e.1
    | cons b l' =>
      rw [hB] at e
      simp at e
      have := h.blk b _ (by rw [hB]; rfl)
      rw [this]; exact e.1
  · rw [e1]; exact Circ_rot _ [c] _ hc
  · rw [e1]; exact hC.perm (List.perm_append_comm (l₁ := [c]))

end Go.Proofs.Ytifillpcphiblaa
