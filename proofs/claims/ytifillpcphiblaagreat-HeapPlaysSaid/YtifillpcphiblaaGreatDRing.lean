import Derived.Test.YtifillpcphiblaaGreatMDRow
import Derived.Test.YtifillpcphiblaaGreatMMHeapAlloc
namespace Go.Proofs.YtifillpcphiblaaGreat
open Go Go.Proofs Go.RowKit

/-! The document's rings (layer 5). -/

set_option maxRecDepth 100000 in
set_option maxHeartbeats 3200000 in
theorem dWithout (B : Nat) (v : Value) (l : List Int) (k : Nat) (ki : Int) (hki : ki = k) (w : World) (h : Rowi w B v l) (hk : k < l.length) (hle : l.length ≤ 70000) :
    Calls Tryz.prog 101 #[v, .int .i64 ki] w fun e w' => ∃ v', e = .returned v' ∧ Rowi w' w.heap.size v' (l.eraseIdx k) ∧ Fr [] w w' := by
  obtain ⟨A, c, rfl⟩ := h.form
  obtain ⟨g, rfl, hBg, hgl, -, hlc, hcm, hcell⟩ := h.at (by omega)
  unfold maxLen at hcm
  obtain ⟨N, hN⟩ : ∃ N, N = l.length := ⟨_, rfl⟩
  rw [← hN] at hlc hk hle ⊢
  have hE := Rowi.empty w (Nat.le_refl w.heap.size)
  have hsrc1 : Srci w (some ⟨g, 0, none⟩) k (l.take k) := (h.src).take (by omega)
  obtain ⟨A2, hA2, hsrc2⟩ : ∃ A2 : Addr, (if c = k + 1 then some (⟨g, 0, none⟩ : Addr) else some ⟨g, k + 1, none⟩) = some A2 ∧ Hid (A2.block = g ∧ Srci w (some A2) (N - (k + 1)) (l.drop (k + 1))) := by
    by_cases hc : c = k + 1
    · refine ⟨⟨g, 0, none⟩, by simp [hc], rfl, by rw [List.length_drop, hN], fun h0 => by omega⟩
    · refine ⟨⟨g, k + 1, none⟩, by simp [hc], rfl, by rw [List.length_drop, hN], fun h0 => ⟨_, rfl, fun j x hx => ?_⟩⟩
      rw [Addr.add_lit]
      rw [List.getElem?_drop] at hx
      exact hcell _ _ hx
  have HS1 := hid hsrc1
  have HN := hid hN
  have HE := hid hE
  clear hsrc1 hcell h hN hE
  have hw1 : IntKind.i64.wrap ((k : Int) + 1) = (k : Int) + 1 := by rw [IntKind.wrap_i64]; omega
  have t1 : (0 : Int) ≤ (k : Int) + 1 := by omega
  have t2 : ((k : Int) + 1).toNat = k + 1 := by omega
  have t3 : (k : Int) + 1 ≤ (N : Int) := by omega
  have t4 : (k : Int) ≤ (c : Int) := by omega
  have hkc : k ≤ c := by omega
  subst hki
  go_enter Tryz.func101, Tryz.ntmps101
  go_wp2_with fail
  have HS1a : Hid (Srci (w.alloc (.cells #[] 3)) (some ⟨g, 0, none⟩) k (l.take k)) := HS1.out.fr (S := []) ((Fr.refl _ w).alloc _) (fun ad e => by cases e; exact ⟨hgl, by simp⟩)
  have HS2a : Hid (∀ w1, Fr (Value.slice (some ⟨w.heap.size, 0, none⟩) 0 0).ownBlock.toList (w.alloc (.cells #[] 3)).drew w1 → Srci w1 (some A2) (N - (k + 1)) (l.drop (k + 1))) := fun w1 f1 =>
    hsrc2.out.2.fr (S := [w.heap.size]) (((Fr.refl _ w).alloc _).drew.trans f1) (fun ad e => by cases e; rw [hsrc2.out.1]; exact ⟨hgl, by simp; omega⟩)
  have hlt : (l.take k).length = k := by rw [List.length_take]; have := HN.out; omega
  have hsz : (w.alloc (.cells #[] 3)).heap.size = w.heap.size + 1 := by simp
  have HLT := hid hlt
  clear hlt hsz HS1 hsrc2
  go_region_law (first
    | (refine step_appi rfl (.tmp 5) (.tmp 8) rfl w.heap.size (.slice (some ⟨w.heap.size, 0, none⟩) 0 0) [] (by simp [Act.eval]) (by exact HE.out) (some ⟨g, 0, none⟩) k c (l.take k) (by simp [Act.eval]) (by exact HS1a.out) (by simp) (by simp; omega) (by simp) ?_; intro v1 w1 h1 f1 b1)
    | (refine step_appi rfl (.tmp 9) (.tmp 13) rfl w.heap.size v1 _ (by simp [Act.eval]) h1 (some A2) (N - (k + 1)) (c - (k + 1)) (l.drop (k + 1)) (by simp [Act.eval]) (HS2a.out _ (by exact f1)) (by simp) (by rw [List.nil_append, HLT.out]; omega) (by have := f1.size; simp at this; omega) ?_; intro v2 w2 h2 f2 b2))
  all_goals
    go_wp2_with fail
    go_ret
    have hlo : ∀ x ∈ v1.ownBlock.toList, w.heap.size ≤ x := fun x hx => (h1.lt x (by simpa using hx)).1
    refine ⟨v2, rfl, ?_, ?_⟩
    · rw [List.eraseIdx_eq_take_drop_succ]
      simpa using h2
    · exact ((((Fr.refl [] w).alloc _).drew.step f1 (fun x hx => .inr (by simp [Value.ownBlock] at hx; omega))).step f2 (fun x hx => .inr (hlo x hx)))

/-- The document's rings, in one block: each is its rows, and how many words there are. -/
abbrev V4 := Value × Value × Value × Value
def ringCells (W : Int) (v : V4) : List Value := [v.1, v.2.1, v.2.2.1, v.2.2.2, .int .i64 W]
structure DRow (w : World) (B : Nat) (v : V4) (R : Rows) : Prop where
  wh : Rowi w B v.1 R.W
  fr0 : Rowi w B v.2.1 R.F
  gr : Rowi w B v.2.2.1 R.G
  bl : Rowi w B v.2.2.2 R.B
theorem blk_ne' {w : World} {b b' : Nat} {cs cs' : List Value} {T T' : TypeId} (h : Blk w b cs T) (h' : Blk w b' cs' T') (hT : T ≠ T') : b ≠ b' := by
  rintro rfl
  unfold Blk at h h'
  rw [h] at h'
  simp at h'
  exact hT h'.2
structure DRs (w : World) (B rsb : Nat) (W : Int) (Rs : List Rows) : Prop where
  ex : ∃ (vs : List V4) (rest : List Value), Blk w rsb (vs.flatMap (ringCells W) ++ rest) 66 ∧ vs.length = Rs.length ∧ ∀ (i : Nat) (v : V4) (R : Rows), vs[i]? = some v → Rs[i]? = some R → DRow w B v R
  le : B ≤ w.heap.size

theorem DRow.fr {S : List Nat} {w w' : World} {B : Nat} {v : V4} {R : Rows} (h : DRow w B v R) (hf : Fr S w w') (hS : ∀ x ∈ S, x < B ∨ ∃ cs T, Blk w x cs T ∧ T ≠ 3) : DRow w' B v R := by
  have key : ∀ {v : Value} {l : List Int}, Rowi w B v l → Rowi w' B v l := fun {v l} hr => hr.fr hf (fun g hg hc => by
    rcases hS g hc with h1 | ⟨cs, T, h1, h2⟩
    · have := (hr.lt g hg).1; omega
    · exact hr.ne h1 h2 g hg rfl)
  exact ⟨key h.wh, key h.fr0, key h.gr, key h.bl⟩
theorem DRow.base {w : World} {B B' : Nat} {v : V4} {R : Rows} (h : DRow w B v R) (hB : B' ≤ B) : DRow w B' v R := ⟨h.wh.base hB, h.fr0.base hB, h.gr.base hB, h.bl.base hB⟩
theorem DRs.fr {S : List Nat} {w w' : World} {B rsb : Nat} {W : Int} {Rs : List Rows} (h : DRs w B rsb W Rs) (hf : Fr S w w') (hr : rsb ∉ S) (hS : ∀ x ∈ S, x < B ∨ ∃ cs T, Blk w x cs T ∧ T ≠ 3) : DRs w' B rsb W Rs := by
  obtain ⟨vs, rest, h1, h2, h3⟩ := h.ex
  exact ⟨⟨vs, rest, h1.fr hf hr, h2, fun i v R hv hR => (h3 i v R hv hR).fr hf hS⟩, Nat.le_trans h.le hf.size⟩

theorem ringCells_get (W : Int) : ∀ (vs : List V4) (rest : List Value) (i : Nat) (v : V4), vs[i]? = some v → ∀ j x, (ringCells W v)[j]? = some x → (vs.flatMap (ringCells W) ++ rest)[5 * i + j]? = some x := by
  intro vs
  induction vs with
  | nil => intro rest i v hv; simp at hv
  | cons v0 vs ih =>
    intro rest i v hv j x hx
    have hj : j < 5 := by have := (List.getElem?_eq_some_iff.1 hx).1; simpa [ringCells] using this
    cases i with
    | zero =>
      simp at hv
      subst hv
      simp only [List.flatMap_cons, List.append_assoc, Nat.mul_zero, Nat.zero_add]
      rw [List.getElem?_append_left (by simp [ringCells]; omega)]
      exact hx
    | succ i =>
      have := ih rest i v (by simpa using hv) j x hx
      simp only [List.flatMap_cons, List.append_assoc]
      rw [List.getElem?_append_right (by simp [ringCells]; omega), show 5 * (i + 1) + j - (ringCells W v0).length = 5 * i + j by simp [ringCells]; omega]
      exact this
theorem ringCells_set (W : Int) : ∀ (vs : List V4) (rest : List Value) (i : Nat) (v : V4), vs[i]? = some v → ∀ j (x : Value) (v' : V4), j < 5 → (ringCells W v).set j x = ringCells W v' → (vs.flatMap (ringCells W) ++ rest).set (5 * i + j) x = (vs.set i v').flatMap (ringCells W) ++ rest := by
  intro vs
  induction vs with
  | nil => intro rest i v hv; simp at hv
  | cons v0 vs ih =>
    intro rest i v hv j x v' hj hx
    cases i with
    | zero =>
      simp at hv
      subst hv
      simp only [List.flatMap_cons, List.append_assoc, Nat.mul_zero, Nat.zero_add, List.set_cons_zero]
      rw [List.set_append_left _ _ (by simp [ringCells]; omega), hx]
    | succ i =>
      have := ih rest i v (by simpa using hv) j x v' hj hx
      simp only [List.flatMap_cons, List.append_assoc, List.set_cons_succ]
      rw [List.set_append_right _ _ (by simp [ringCells]; omega), show 5 * (i + 1) + j - (ringCells W v0).length = 5 * i + j by simp [ringCells]; omega, this]

/-- What a ring's words are. -/
theorem DRs.at {w : World} {B rsb : Nat} {W : Int} {Rs : List Rows} (h : DRs w B rsb W Rs) {i : Nat} {R : Rows} (hR : Rs[i]? = some R) : ∃ v : V4, DRow w B v R ∧ (∀ j x, (ringCells W v)[j]? = some x → w.cell? ⟨rsb, 5 * i + j, none⟩ = some x) ∧ (∀ j, w.frozen? ⟨rsb, j, none⟩ = false) ∧ rsb < w.heap.size ∧
    (∀ g, v.1.ownBlock = some g → g ≠ rsb) ∧ (∀ g, v.2.1.ownBlock = some g → g ≠ rsb) ∧ (∀ g, v.2.2.1.ownBlock = some g → g ≠ rsb) ∧ (∀ g, v.2.2.2.ownBlock = some g → g ≠ rsb) := by
  obtain ⟨vs, rest, h1, h2, h3⟩ := h.ex
  have hi := (List.getElem?_eq_some_iff.1 hR).1
  obtain ⟨v, hv⟩ : ∃ v, vs[i]? = some v := ⟨_, List.getElem?_eq_getElem (by omega)⟩
  have hd := h3 i v R hv hR
  exact ⟨v, hd, fun j x hx => h1.cell (ringCells_get W vs rest i v hv j x hx), fun j => h1.frozen j, h1.lt, hd.wh.ne h1 (by decide), hd.fr0.ne h1 (by decide), hd.gr.ne h1 (by decide), hd.bl.ne h1 (by decide)⟩
/-- One row of one ring is set. -/
theorem DRs.set {w w1 : World} {B rsb : Nat} {W : Int} {Rs : List Rows} (h : DRs w B rsb W Rs) {i j : Nat} {R R' : Rows} (hR : Rs[i]? = some R) (hf : Fr [] w w1) {x : Value} (hj : j < 4)
    (hx : ∀ v : V4, DRow w1 B v R → ∃ v' : V4, (ringCells W v).set j x = ringCells W v' ∧ DRow w1 B v' R') : DRs (w1.setCell ⟨rsb, 5 * i + j, none⟩ x) B rsb W (Rs.set i R') := by
  have h1 := h.fr hf (by simp) (by simp)
  obtain ⟨vs, rest, g1, g2, g3⟩ := h1.ex
  have hi := (List.getElem?_eq_some_iff.1 hR).1
  obtain ⟨v, hv⟩ : ∃ v, vs[i]? = some v := ⟨_, List.getElem?_eq_getElem (by omega)⟩
  obtain ⟨v', e1, e2⟩ := hx v (g3 i v R hv hR)
  have hS : Fr [rsb] w1 (w1.setCell ⟨rsb, 5 * i + j, none⟩ x) := (Fr.refl _ w1).set (by simp) _
  have hrow : ∀ {v : V4} {R : Rows}, DRow w1 B v R → DRow (w1.setCell ⟨rsb, 5 * i + j, none⟩ x) B v R := fun hd => hd.fr hS (fun y hy => by
    obtain rfl := List.mem_singleton.1 hy
    exact .inr ⟨_, _, g1, by decide⟩)
  refine ⟨⟨vs.set i v', rest, ?_, by simp [g2], fun k u R2 hu hR2 => ?_⟩, by rw [show (w1.setCell ⟨rsb, 5 * i + j, none⟩ x).heap.size = w1.heap.size by simp [World.setCell]]; exact h1.le⟩
  · have := g1.set (5 * i + j) x
    rw [ringCells_set W vs rest i v hv j x v' (by omega) e1] at this
    exact this
  · by_cases e : k = i
    · subst e
      rw [List.getElem?_set_self (by omega)] at hu
      rw [List.getElem?_set_self hi] at hR2
      cases hu
      cases hR2
      exact hrow e2
    · rw [List.getElem?_set_ne (Ne.symm e)] at hu
      rw [List.getElem?_set_ne (Ne.symm e)] at hR2
      exact hrow (g3 k u R2 hu hR2)
/-- The block of another type is no row's. -/
theorem DRs.ne {w : World} {B rsb b : Nat} {W : Int} {Rs : List Rows} (h : DRs w B rsb W Rs) {cs : List Value} {T : TypeId} (hb : Blk w b cs T) (hT : T ≠ 66) : rsb ≠ b := by
  obtain ⟨vs, rest, h1, _⟩ := h.ex
  exact blk_ne' h1 hb (Ne.symm hT)
end Go.Proofs.YtifillpcphiblaaGreat
