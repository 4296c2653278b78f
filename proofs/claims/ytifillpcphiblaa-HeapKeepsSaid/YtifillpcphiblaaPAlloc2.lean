import Derived.Test.YtifillpcphiblaaPAlloc
namespace Go.Proofs.Ytifillpcphiblaa
open Go Go.Proofs Go.RowKit

/-! Plain laws: large cells that come; objects that are laid. -/

def cutRun (l1 : List (Int × Int)) (p m n : Int) (l2 : List (Int × Int)) : List (Int × Int) := l1 ++ (if m = n then l2 else (p + n, m - n) :: l2)
def upz (z : Int → Int) (p n : Int) : Int → Int := fun c => if c = p then n else z c

theorem mem_cutRun {l1 l2 : List (Int × Int)} {p m n : Int} {x : Int × Int} (h : x ∈ cutRun l1 p m n l2) : x ∈ l1 ∨ x ∈ l2 ∨ (m ≠ n ∧ x = (p + n, m - n)) := by
  unfold cutRun at h
  rcases List.mem_append.1 h with h | h
  · exact .inl h
  · split at h
    · exact .inr (.inl h)
    · rcases List.mem_cons.1 h with h | h
      · exact .inr (.inr ⟨‹_›, h⟩)
      · exact .inr (.inl h)

def HS.largeGrown (s : HS) (p : Int) (l' : List (Int × Int)) (u' : Int) : HS := { s with ws := growW s.ws s.lg p, u := u', lg := s.lg.grown p, x := { s.x with l := l' } }

theorem HI.largeGrown {s : HS} {A : Rg} {z : Int → Int} (h : HI s A z) {l1 l2 : List (Int × Int)} {p m n : Int} (hx : s.x.l = l1 ++ (p, m) :: l2) (hn : 3 ≤ n) (hm : n ≤ m) (u' : Int) :
    HI (s.largeGrown p (cutRun l1 p m n l2) u') (A.up none ((A none).addW p)) (upz z p n) ∧ (∀ q c, c ∈ (A q).all → Holds s (s.largeGrown p (cutRun l1 p m n l2) u') z q c ∧ ln s.cls (upz z p n) q c = ln s.cls z q c) ∧ (∀ q c, c ∈ (A q).all → q ≠ none ∨ c ≠ p) := by
  have hpm : (p, m) ∈ s.x.l := by rw [hx]; simp
  obtain ⟨_, hpe, hpl⟩ := h.runs _ hpm
  simp only at hpe hpl
  have ht := h.top1
  have ht2 := h.top2
  have he := h.edge
  have far : ∀ q c, c ∈ (A q).all → c + ln s.cls z q c ≤ p ∨ p + m ≤ c := by
    intro q c hc
    cases q with
    | none => exact h.rlarge _ hpm c hc
    | some j => have := h.inn j c hc; omega
  have hne : ∀ q c, c ∈ (A q).all → c ≠ p := by
    intro q c hc e
    have := far q c hc
    have := h.pos q c hc
    omega
  have hln : ∀ q c, c ∈ (A q).all → ln s.cls (upz z p n) q c = ln s.cls z q c := by
    intro q c hc
    cases q with
    | none => simp only [ln, upz]; rw [if_neg (hne _ c hc)]
    | some j => rfl
  have hlp : ln s.cls (upz z p n) none p = n := by simp [ln, upz]
  have hC : Cells s.ws.length (p :: (A none).all) := by
    have hc := h.lring.cells
    refine ⟨?_, List.pairwise_cons.2 ⟨?_, hc.far⟩⟩
    · intro c hc'
      rcases List.mem_cons.1 hc' with rfl | hc'
      · omega
      · exact hc.ok c hc'
    · intro c hc'
      have := far none c hc'
      have := h.pos _ c hc'
      rcases far none c hc' with g | g
      · exact .inr (by omega)
      · exact .inl (by omega)
  obtain ⟨g1, g2⟩ := h.lring.grow hC
  have hl : (growW s.ws s.lg p).length = s.ws.length := growW_len _ _ _
  have hX : ∀ q c, c ∈ (A q).all → ∀ y ∈ p :: (A none).all, y = c ∨ c + ln s.cls z q c ≤ y ∨ y + 3 ≤ c := by
    intro q c hc y hy
    rcases List.mem_cons.1 hy with rfl | hy
    · have := far q c hc; omega
    · by_cases e : q = none ∧ c = y
      · exact .inl e.2.symm
      · have hd : q ≠ none ∨ c ≠ y := by
          by_cases e1 : q = none
          · exact .inr (fun e2 => e ⟨e1, e2⟩)
          · exact .inl e1
        have := h.apart q c none y hc hy hd
        have := h.pos _ _ hy
        omega
  have hH : ∀ q c, c ∈ (A q).all → Holds s (s.largeGrown p (cutRun l1 p m n l2) u') z q c := fun q c hc => h.holds g2 hc (hX q c hc)
  have hO : ∀ q', q' ≠ none → ∀ y ∈ (A q').all, gw (growW s.ws s.lg p) (y + 1) = gw s.ws (y + 1) ∧ gw (growW s.ws s.lg p) (y + 2) = gw s.ws (y + 2) := by
    intro q' hq y hy
    have hb := h.bound hy
    have g : ∀ x ∈ p :: (A none).all, ∀ i, (i = 1 ∨ i = 2) → y + i ≠ x + 1 ∧ y + i ≠ x + 2 := by
      intro x hx i hi
      rcases List.mem_cons.1 hx with rfl | hx
      · have := far q' y hy; omega
      · have hbx := h.bound hx
        have := h.apart q' y _ x hy hx (.inl hq)
        omega
    exact ⟨g2.eq _ (by omega) (fun x hx => g x hx 1 (.inl rfl)), g2.eq _ (by omega) (fun x hx => g x hx 2 (.inr rfl))⟩
  have hrap := h.rap
  rw [hx, List.pairwise_append] at hrap
  obtain ⟨b1, b2, b3⟩ := hrap
  rw [List.pairwise_cons] at b2
  have hmem : ∀ x ∈ cutRun l1 p m n l2, (x ∈ s.x.l ∧ (x.1 + x.2 ≤ p ∨ p + m ≤ x.1)) ∨ (m ≠ n ∧ x = (p + n, m - n)) := by
    intro x hx'
    rcases mem_cutRun hx' with g | g | g
    · exact .inl ⟨by rw [hx]; simp [g], .inl (b3 x g (p, m) (by simp))⟩
    · exact .inl ⟨by rw [hx]; simp [g], .inr (b2.1 x g)⟩
    · exact .inr g
  refine ⟨?_, fun q c hc => ⟨hH q c hc, hln q c hc⟩, fun q c hc => .inr (hne q c hc)⟩
  obtain ⟨a1, a2, a3, a4, a5, a6, a7, a8, a9, a10, a11, a12, a13, a14, a15, a16⟩ := id h
  refine { ring := fun j r' hr' => ?_, lring := ?_, out := fun j hj => ?_, pos := fun q c hc => ?_, inn := fun j c hc => ?_, linn := fun c hc => ?_, apart := fun q c q' c' hc hc' hne => ?_, top1 := a8, top2 := a9, edge := by simp only [HS.largeGrown, hl]; exact a10, len := by simp only [HS.largeGrown, hl]; exact a11, nrs := a12, cls := a13, runs := fun x hx' => ?_, rap := ?_, rlarge := fun x hx' c hc => ?_ }
  · rw [Rg.up_ne A (by simp)]
    exact (a1 j r' hr').congr hl (hO _ (by simp))
  · rw [Rg.up_same]; exact g1
  · rw [Rg.up_ne A (by simp)]; exact a3 j hj
  · show 3 ≤ ln s.cls _ _ _
    rcases mem_add hc with ⟨rfl, rfl⟩ | hc
    · rw [hlp]; exact hn
    · rw [hln q c hc]; exact a4 q c hc
  · rcases mem_add hc with ⟨e, rfl⟩ | hc
    · exact absurd e (by simp)
    · exact a5 j c hc
  · rcases mem_add hc with ⟨_, rfl⟩ | hc
    · simp only [HS.largeGrown, hl, upz]; simp; omega
    · have := a6 c hc
      have h2 := hln none c hc
      simp only [ln] at h2
      simp only [HS.largeGrown, hl, h2]; exact this
  · show _ + ln s.cls _ _ _ ≤ _ ∨ _ + ln s.cls _ _ _ ≤ _
    rcases mem_add hc with ⟨e1, e2⟩ | hc1 <;> rcases mem_add hc' with ⟨e3, e4⟩ | hc2
    · rw [e1, e2, e3, e4] at hne; rcases hne with hne | hne <;> exact absurd rfl hne
    · have := far q' c' hc2; rw [e1, e2, hlp, hln _ _ hc2]; omega
    · have := far q c hc1; rw [e3, e4, hlp, hln _ _ hc1]; omega
    · rw [hln _ _ hc1, hln _ _ hc2]; exact a7 q c q' c' hc1 hc2 hne
  · rcases hmem x hx' with ⟨g, _⟩ | ⟨g, rfl⟩
    · have := a14 x g; simp only [HS.largeGrown, hl]; exact this
    · simp only [HS.largeGrown, hl]; omega
  · show List.Pairwise _ (cutRun l1 p m n l2)
    unfold cutRun
    rw [List.pairwise_append]
    refine ⟨b1, ?_, ?_⟩
    · split
      · exact b2.2
      · rw [List.pairwise_cons]
        exact ⟨fun y hy => by have := b2.1 y hy; simp only at this ⊢; omega, b2.2⟩
    · intro x hx1 y hy
      split at hy
      · exact b3 x hx1 y (List.mem_cons_of_mem _ hy)
      · rcases List.mem_cons.1 hy with rfl | hy
        · have := b3 x hx1 (p, m) (by simp); simp only at this ⊢; omega
        · exact b3 x hx1 y (List.mem_cons_of_mem _ hy)
  · have hx2 := hmem x hx'
    rcases mem_add hc with ⟨_, rfl⟩ | hc
    · simp only [upz]; simp
      rcases hx2 with ⟨_, g⟩ | ⟨g, rfl⟩
      · omega
      · simp
    · have h2 := hln none c hc
      simp only [ln] at h2
      rw [h2]
      rcases hx2 with ⟨g, _⟩ | ⟨g, rfl⟩
      · exact a16 x g c hc
      · have := far none c hc; simp only [ln] at this; simp only; omega

theorem HI.lTook {s : HS} {A : Rg} {z : Int → Int} (h : HI s A z) {c : Int} {W : List Int} (hW : (A none).W = c :: W) :
    s.lg.first = c ∧ HI { s with u := s.u + 1, lg := s.lg.allocd s.ws } (A.up none ⟨W, (A none).F, (A none).G, (A none).B ++ [c]⟩) z := by
  obtain ⟨h1, h2⟩ := h.lring.alloc hW
  refine ⟨h1, h.ringL (s.u + 1) (Same.refl _ _) h2 ?_⟩
  intro x hx
  simp only [Rows.all, hW, List.mem_append, List.mem_cons, List.mem_nil_iff, or_false] at hx ⊢
  rcases hx with hx | hx | hx | hx | hx <;> simp [hx]

theorem gw_zr (ws : List Int) (a : Int) (n : Nat) (h0 : 0 ≤ a) (h1 : a + n ≤ ws.length) (j : Int) (hj : 0 ≤ j) : gw (zr ws a n) j = if a ≤ j ∧ j < a + n then 0 else gw ws j := by
  induction n with
  | zero => simp only [zr]; rw [if_neg (by omega)]
  | succ n ih =>
    simp only [zr]
    rw [gw_sw _ _ _ _ (by omega) (by rw [zr_len]; omega) hj, ih (by omega)]
    by_cases e : j = a + n
    · rw [if_pos e, if_pos (by omega)]
    · rw [if_neg e]
      by_cases e2 : a ≤ j ∧ j < a + n
      · rw [if_pos e2, if_pos (by omega)]
      · rw [if_neg e2, if_neg (by omega)]

/-- An object is laid in a cell: what it is, and what others hold. -/
theorem HI.laid {s : HS} {A : Rg} {z : Int → Int} (h : HI s A z) {q : Option Nat} {p : Int} (hp : p ∈ (A q).all) {n : Nat} (hn : n + 3 ≤ ln s.cls z q p) (word : Int) :
    HI (s.laid p word n) A z ∧ gw (s.laid p word n).ws p = word ∧ (∀ j : Int, 0 ≤ j → j < n → gw (s.laid p word n).ws (p + 3 + j) = 0) ∧
    (∀ q' c', c' ∈ (A q').all → (q ≠ q' ∨ p ≠ c') → Holds s (s.laid p word n) z q' c') := by
  have hb := h.bound hp
  have hl1 : (sw s.ws p word).length = s.ws.length := sw_len _ _ _
  have key : ∀ j, 0 ≤ j → gw (s.laid p word n).ws j = if p + 3 ≤ j ∧ j < p + 3 + n then 0 else if j = p then word else gw s.ws j := by
    intro j hj
    show gw (zr (sw s.ws p word) (p + 3) n) j = _
    rw [gw_zr _ _ _ (by omega) (by rw [hl1]; omega) j hj, gw_sw _ _ _ _ (by omega) (by omega) hj]
  have hlk : ∀ q' c', c' ∈ (A q').all → (q ≠ q' ∨ p ≠ c') → ∀ j, 0 ≤ j → j < ln s.cls z q' c' → gw (s.laid p word n).ws (c' + j) = gw s.ws (c' + j) := by
    intro q' c' hc' hne j h0 h1
    have hb' := h.bound hc'
    have := h.apart q p q' c' hp hc' hne
    rw [key _ (by omega), if_neg (by omega), if_neg (by omega)]
  refine ⟨?_, ?_, ?_, ?_⟩
  · refine h.words _ _ (by rw [zr_len, sw_len]) (fun q' c' hc' => ?_)
    have hb' := h.bound hc'
    by_cases e : q = q' ∧ p = c'
    · obtain ⟨_, rfl⟩ := e
      exact ⟨by rw [show gw (zr (sw s.ws p word) (p + 3) n) (p + 1) = _ from key _ (by omega), if_neg (by omega), if_neg (by omega)], by rw [show gw (zr (sw s.ws p word) (p + 3) n) (p + 2) = _ from key _ (by omega), if_neg (by omega), if_neg (by omega)]⟩
    · have hd : q ≠ q' ∨ p ≠ c' := by
        by_cases e1 : q = q'
        · exact .inr (fun e2 => e ⟨e1, e2⟩)
        · exact .inl e1
      exact ⟨hlk q' c' hc' hd 1 (by omega) (by omega), hlk q' c' hc' hd 2 (by omega) (by omega)⟩
  · rw [key _ (by omega), if_neg (by omega), if_pos rfl]
  · intro j h0 h1
    rw [key _ (by omega), if_pos (by omega)]
  · intro q' c' hc' hne
    have hb' := h.bound hc'
    refine ⟨?_, fun j h1 h2 => hlk q' c' hc' hne j (by omega) h2⟩
    have := hlk q' c' hc' hne 0 (by omega) (by omega)
    simpa using this

end Go.Proofs.Ytifillpcphiblaa
