import Derived.Test.YtifillpcphiblaaPHeap
namespace Go.Proofs.Ytifillpcphiblaa
open Go Go.Proofs Go.RowKit

/-! Plain laws: cells that come. -/

theorem mem_up {A : Rg} {q : Option Nat} {R : Rows} (hsub : ∀ x ∈ R.all, x ∈ (A q).all) {q' : Option Nat} {c : Int} (h : c ∈ ((A.up q R) q').all) : c ∈ (A q').all := by
  by_cases e : q' = q
  · subst e; rw [Rg.up_same] at h; exact hsub c h
  · rw [Rg.up_ne A e] at h; exact h

/-- Links of other rings stay. -/
theorem HI.others {s : HS} {A : Rg} {z : Int → Int} (h : HI s A z) {ws' : List Int} {q : Option Nat} (hs : Same s.ws ws' (A q).all) {q' : Option Nat} (hq : q' ≠ q) : ∀ y ∈ (A q').all, gw ws' (y + 1) = gw s.ws (y + 1) ∧ gw ws' (y + 2) = gw s.ws (y + 2) := by
  intro y hy
  have hb := h.bound hy
  have g : ∀ x ∈ (A q).all, ∀ i, (i = 1 ∨ i = 2) → y + i ≠ x + 1 ∧ y + i ≠ x + 2 := by
    intro x hx i hi
    have hbx := h.bound hx
    have := h.apart q' y q x hy hx (.inl hq)
    omega
  exact ⟨hs.eq _ (by omega) (fun x hx => g x hx 1 (.inl rfl)), hs.eq _ (by omega) (fun x hx => g x hx 2 (.inr rfl))⟩

/-- A class's ring has been worked at: no new cells. -/
theorem HI.ringK {s : HS} {A : Rg} {z : Int → Int} (h : HI s A z) {k : Nat} {r' : RS} {R' : Rows} {ws' : List Int} (u' : Int) (hs : Same s.ws ws' (A (some k)).all) (hR : RI ws' r' R') (hsub : ∀ x ∈ R'.all, x ∈ (A (some k)).all) :
    HI { s with ws := ws', u := u', rs := s.rs.set k r' } (A.up (some k) R') z := by
  have hl := hs.len
  obtain ⟨a1, a2, a3, a4, a5, a6, a7, a8, a9, a10, a11, a12, a13, a14, a15, a16⟩ := id h
  refine { ring := fun j r hr => ?_, lring := ?_, out := fun j hj => ?_, pos := fun q c hc => a4 q c (mem_up hsub hc), inn := fun j c hc => a5 j c (mem_up hsub hc), linn := fun c hc => by have := a6 c (mem_up hsub hc); simp only [hl]; exact this, apart := fun q c q' c' hc hc' => a7 q c q' c' (mem_up hsub hc) (mem_up hsub hc'), top1 := a8, top2 := a9, edge := by simp only [hl]; exact a10, len := by simp only [hl]; exact a11, nrs := by simp only [List.length_set]; exact a12, cls := a13, runs := fun x hx => by have := a14 x hx; simp only [hl]; exact this, rap := a15, rlarge := fun x hx c hc => a16 x hx c (mem_up hsub hc) }
  · by_cases e : j = k
    · subst e
      rw [Rg.up_same]
      rw [List.getElem?_set] at hr
      simp at hr
      rw [← hr.2]; exact hR
    · rw [Rg.up_ne A (by simpa using e)]
      rw [List.getElem?_set_ne (Ne.symm e)] at hr
      exact (a1 j r hr).congr hl (h.others hs (by simpa using e))
  · rw [Rg.up_ne A (by simp)]
    exact a2.congr hl (h.others hs (by simp))
  · simp only [List.length_set] at hj
    by_cases e : j = k
    · subst e
      rw [Rg.up_same]
      have := a3 j hj
      rw [List.eq_nil_iff_forall_not_mem]
      intro x hx
      have := hsub x hx
      simp [a3 j hj] at this
    · rw [Rg.up_ne A (by simpa using e)]; exact a3 j hj

/-- The ring of large ones has been worked at: no new cells. -/
theorem HI.ringL {s : HS} {A : Rg} {z : Int → Int} (h : HI s A z) {r' : RS} {R' : Rows} {ws' : List Int} (u' : Int) (hs : Same s.ws ws' (A none).all) (hR : RI ws' r' R') (hsub : ∀ x ∈ R'.all, x ∈ (A none).all) :
    HI { s with ws := ws', u := u', lg := r' } (A.up none R') z := by
  have hl := hs.len
  obtain ⟨a1, a2, a3, a4, a5, a6, a7, a8, a9, a10, a11, a12, a13, a14, a15, a16⟩ := id h
  refine { ring := fun j r hr => ?_, lring := ?_, out := fun j hj => ?_, pos := fun q c hc => a4 q c (mem_up hsub hc), inn := fun j c hc => a5 j c (mem_up hsub hc), linn := fun c hc => by have := a6 c (mem_up hsub hc); simp only [hl]; exact this, apart := fun q c q' c' hc hc' => a7 q c q' c' (mem_up hsub hc) (mem_up hsub hc'), top1 := a8, top2 := a9, edge := by simp only [hl]; exact a10, len := by simp only [hl]; exact a11, nrs := a12, cls := a13, runs := fun x hx => by have := a14 x hx; simp only [hl]; exact this, rap := a15, rlarge := fun x hx c hc => a16 x hx c (mem_up hsub hc) }
  · rw [Rg.up_ne A (by simp)]
    exact (a1 j r hr).congr hl (h.others hs (by simp))
  · rw [Rg.up_same]; exact hR
  · rw [Rg.up_ne A (by simp)]; exact a3 j hj

theorem HI.took {s : HS} {A : Rg} {z : Int → Int} (h : HI s A z) {k : Nat} {r : RS} {c : Int} {W : List Int} (hr : s.rs[k]? = some r) (hW : (A (some k)).W = c :: W) :
    r.first = c ∧ HI (s.took k r) (A.up (some k) ⟨W, (A (some k)).F, (A (some k)).G, (A (some k)).B ++ [c]⟩) z := by
  obtain ⟨h1, h2⟩ := (h.ring k r hr).alloc hW
  refine ⟨h1, h.ringK (s.u + 1) (Same.refl _ _) h2 ?_⟩
  intro x hx
  simp only [Rows.all, hW, List.mem_append, List.mem_cons, List.mem_nil_iff, or_false] at hx ⊢
  rcases hx with hx | hx | hx | hx | hx <;> simp [hx]

def Rows.addW (R : Rows) (c : Int) : Rows := { R with W := c :: R.W }
theorem Rows.addW_all (R : Rows) (c : Int) : (R.addW c).all = c :: R.all := rfl

theorem mem_add {A : Rg} {q : Option Nat} {p : Int} {q' : Option Nat} {c : Int} (h : c ∈ ((A.up q ((A q).addW p)) q').all) : (q' = q ∧ c = p) ∨ c ∈ (A q').all := by
  by_cases e : q' = q
  · subst e
    rw [Rg.up_same, Rows.addW_all] at h
    rcases List.mem_cons.1 h with h | h
    · exact .inl ⟨rfl, h⟩
    · exact .inr h
  · rw [Rg.up_ne A e] at h; exact .inr h

/-- One more cell of a class, at the top. -/
theorem HI.grown {s : HS} {A : Rg} {z : Int → Int} (h : HI s A z) {k : Nat} {r : RS} {n : Int} (hr : s.rs[k]? = some r) (hn : s.cls[k]? = some n) (hfit : n + 3 ≤ s.edge - s.top) (du : Nat) :
    HI (s.grown k n r du) (A.up (some k) ((A (some k)).addW s.top)) z ∧ (∀ q c, c ∈ (A q).all → Holds s (s.grown k n r du) z q c) ∧ (∀ q c, c ∈ (A q).all → q ≠ some k ∨ c ≠ s.top) := by
  have hlt : k < s.rs.length := (List.getElem?_eq_some_iff.1 hr).1
  have hn1 := h.cls n (List.mem_of_getElem? hn)
  have hlnk : ∀ c, ln s.cls z (some k) c = n + 3 := fun c => by simp [ln, hn]
  have ht := h.top1
  have ht2 := h.top2
  have he := h.edge
  have far : ∀ q c, c ∈ (A q).all → c + ln s.cls z q c ≤ s.top ∨ s.edge ≤ c := by
    intro q c hc
    cases q with
    | none => exact .inr (h.linn c hc).1
    | some j => exact .inl (h.inn j c hc).2
  have hC : Cells s.ws.length (s.top :: (A (some k)).all) := by
    have hc := (h.ring k r hr).cells
    refine ⟨?_, List.pairwise_cons.2 ⟨?_, hc.far⟩⟩
    · intro c hc'
      rcases List.mem_cons.1 hc' with rfl | hc'
      · omega
      · exact hc.ok c hc'
    · intro c hc'
      have := (h.inn k c hc').2
      rw [hlnk] at this
      exact .inr (by omega)
  obtain ⟨g1, g2⟩ := (h.ring k r hr).grow hC
  have hl : (growW s.ws r s.top).length = s.ws.length := growW_len _ _ _
  have hX : ∀ q c, c ∈ (A q).all → ∀ y ∈ s.top :: (A (some k)).all, y = c ∨ c + ln s.cls z q c ≤ y ∨ y + 3 ≤ c := by
    intro q c hc y hy
    rcases List.mem_cons.1 hy with rfl | hy
    · have := far q c hc; omega
    · by_cases e : q = some k ∧ c = y
      · exact .inl e.2.symm
      · have hd : q ≠ some k ∨ c ≠ y := by
          by_cases e1 : q = some k
          · exact .inr (fun e2 => e ⟨e1, e2⟩)
          · exact .inl e1
        have := h.apart q c (some k) y hc hy hd
        have := h.pos _ _ hy
        omega
  have hH : ∀ q c, c ∈ (A q).all → Holds s (s.grown k n r du) z q c := fun q c hc => h.holds g2 hc (hX q c hc)
  have hO : ∀ q', q' ≠ some k → ∀ y ∈ (A q').all, gw (growW s.ws r s.top) (y + 1) = gw s.ws (y + 1) ∧ gw (growW s.ws r s.top) (y + 2) = gw s.ws (y + 2) := by
    intro q' hq y hy
    have hb := h.bound hy
    have g : ∀ x ∈ s.top :: (A (some k)).all, ∀ i, (i = 1 ∨ i = 2) → y + i ≠ x + 1 ∧ y + i ≠ x + 2 := by
      intro x hx i hi
      rcases List.mem_cons.1 hx with rfl | hx
      · have := far q' y hy; omega
      · have hbx := h.bound hx
        have := h.apart q' y _ x hy hx (.inl hq)
        omega
    exact ⟨g2.eq _ (by omega) (fun x hx => g x hx 1 (.inl rfl)), g2.eq _ (by omega) (fun x hx => g x hx 2 (.inr rfl))⟩
  refine ⟨?_, hH, ?_⟩
  · obtain ⟨a1, a2, a3, a4, a5, a6, a7, a8, a9, a10, a11, a12, a13, a14, a15, a16⟩ := id h
    refine { ring := fun j r' hr' => ?_, lring := ?_, out := fun j hj => ?_, pos := fun q c hc => ?_, inn := fun j c hc => ?_, linn := fun c hc => ?_, apart := fun q c q' c' hc hc' hne => ?_, top1 := by simp only [HS.grown]; omega, top2 := by simp only [HS.grown]; omega, edge := by simp only [HS.grown, hl]; exact a10, len := by simp only [HS.grown, hl]; exact a11, nrs := by simp only [HS.grown, List.length_set]; exact a12, cls := a13, runs := fun x hx => by have := a14 x hx; simp only [HS.grown, hl]; exact this, rap := a15, rlarge := fun x hx c hc => ?_ }
    · by_cases e : j = k
      · subst e
        rw [Rg.up_same]
        simp only [HS.grown, List.getElem?_set] at hr'
        simp at hr'
        rw [← hr'.2]; exact g1
      · rw [Rg.up_ne A (by simpa using e)]
        simp only [HS.grown] at hr'
        rw [List.getElem?_set_ne (Ne.symm e)] at hr'
        exact (a1 j r' hr').congr hl (hO _ (by simpa using e))
    · rw [Rg.up_ne A (by simp)]
      exact a2.congr hl (hO _ (by simp))
    · simp only [HS.grown, List.length_set] at hj
      rw [Rg.up_ne A (by simp; omega)]; exact a3 j hj
    · rcases mem_add hc with ⟨rfl, rfl⟩ | hc
      · show 3 ≤ ln s.cls z _ _; rw [hlnk]; omega
      · exact a4 q c hc
    · rcases mem_add hc with ⟨e, rfl⟩ | hc
      · rw [e]
        show _ ∧ _ + ln s.cls z _ _ ≤ s.top + (n + 3)
        rw [hlnk]; omega
      · have := a5 j c hc
        show _ ∧ _ + ln s.cls z _ _ ≤ s.top + (n + 3)
        omega
    · rcases mem_add hc with ⟨e, _⟩ | hc
      · exact absurd e (by simp)
      · have := a6 c hc; simp only [HS.grown, hl]; exact this
    · show _ + ln s.cls z _ _ ≤ _ ∨ _ + ln s.cls z _ _ ≤ _
      rcases mem_add hc with ⟨rfl, rfl⟩ | hc <;> rcases mem_add hc' with ⟨rfl, rfl⟩ | hc'
      · rcases hne with hne | hne <;> exact absurd rfl hne
      · have := far q' c' hc'; rw [hlnk]; omega
      · have := far q c hc; rw [hlnk]; omega
      · exact a7 q c q' c' hc hc' hne
    · rcases mem_add hc with ⟨e, _⟩ | hc
      · exact absurd e (by simp)
      · exact a16 x hx c hc
  · intro q c hc
    by_cases e : q = some k
    · subst e
      have := (h.inn k c hc).2
      rw [hlnk] at this
      exact .inr (by omega)
    · exact .inl e

end Go.Proofs.Ytifillpcphiblaa
