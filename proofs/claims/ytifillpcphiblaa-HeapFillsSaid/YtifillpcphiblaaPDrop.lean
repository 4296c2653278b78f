import Derived.Test.YtifillpcphiblaaMHeapAlloc
namespace Go.Proofs.Ytifillpcphiblaa
open Go Go.Proofs Go.RowKit

theorem RI.drop {ws : List Int} {r : RS} {R : Rows} (h : RI ws r R) {c : Int} {W : List Int} (hW : R.W = c :: W) :
    r.first = c ∧ RI (ct ws c) (r.dropped ws) ⟨W, R.F, R.G, R.B⟩ ∧ Same ws (ct ws c) R.all ∧ Okc ws c ∧ Okc ws (gw ws (c + 2)) ∧ Okc ws (gw ws (c + 1)) := by
  have e : R.all = [] ++ c :: (W ++ (R.F ++ (R.G ++ R.B))) := by simp [Rows.all, hW]
  obtain ⟨hc, hC⟩ := h.at e
  obtain ⟨o1, o2, o3⟩ := h.cutOk e
  simp only [List.append_nil] at hc hC
  have hf := h.fst c _ e
  obtain ⟨g1, g2⟩ := Circ_cut hc hC
  have hn := Circ_next hc
  have hlen : (ct ws c).length = ws.length := ct_len _ _
  have hCp := List.pairwise_cons.1 hC.far
  refine ⟨hf, ⟨?_, h.nf, h.ng, h.nb, ?_, ?_, g1, ?_⟩, g2.mono (by rw [e]; simp), o1, o2, o3⟩
  · simp [RS.dropped, h.nw, hW]
  · intro y l hy
    have hy' : W ++ (R.F ++ (R.G ++ R.B)) = y :: l := hy
    simp only [RS.dropped, hf]
    rw [hn]
    simp only [hy']
    rfl
  · intro y l hy
    simp only at hy
    simp only [RS.dropped, hf]
    cases hB : R.B with
    | nil =>
      have hb := h.blk c (W ++ (R.F ++ R.G)) (by rw [hB, hW]; rfl)
      rw [if_pos hb, hn]
      have hy' : W ++ (R.F ++ (R.G ++ R.B)) = y :: l := by rw [hB] at hy ⊢; simpa using hy
      simp only [hy']
      rfl
    | cons b B' =>
      have hb := h.blk b (B' ++ (R.W ++ (R.F ++ R.G))) (by rw [hB]; rfl)
      have hne : b ≠ c := by
        have hnd := hC.nodup
        rw [List.nodup_cons] at hnd
        rintro rfl
        apply hnd.1
        simp [hB]
      rw [hb, if_neg hne]
      rw [hB] at hy
      simp at hy
      exact hy.1
  · refine ⟨fun x hx => ?_, hCp.2⟩
    rw [hlen]
    exact hC.ok x (List.mem_cons_of_mem _ hx)
end Go.Proofs.Ytifillpcphiblaa
