import Derived.Test.YtifillpcphiblaaPRows
import Derived.Test.YtifillpcphiblaaHNew
namespace Go.Proofs.Ytifillpcphiblaa
open Go Go.Proofs Go.RowKit

/-! Plain laws: a heap's cells. Rings have keys: class k, or none (large). -/

abbrev Rg := Option Nat → Rows
def Rg.up (A : Rg) (q : Option Nat) (R : Rows) : Rg := fun q' => if q' = q then R else A q'
theorem Rg.up_same (A : Rg) (q : Option Nat) (R : Rows) : A.up q R q = R := by simp [Rg.up]
theorem Rg.up_ne (A : Rg) {q q' : Option Nat} (h : q' ≠ q) (R : Rows) : A.up q R q' = A q' := by simp [Rg.up, h]

/-- A cell's words. -/
def ln (cls : List Int) (z : Int → Int) : Option Nat → Int → Int
  | some k, _ => (cls[k]?).getD 0 + 3
  | none, c => z c

structure HI (s : HS) (A : Rg) (z : Int → Int) : Prop where
  ring : ∀ (k : Nat) (r : RS), s.rs[k]? = some r → RI s.ws r (A (some k))
  lring : RI s.ws s.lg (A none)
  out : ∀ k, s.rs.length ≤ k → (A (some k)).all = []
  pos : ∀ q c, c ∈ (A q).all → 3 ≤ ln s.cls z q c
  inn : ∀ k c, c ∈ (A (some k)).all → 1 ≤ c ∧ c + ln s.cls z (some k) c ≤ s.top
  linn : ∀ c, c ∈ (A none).all → s.edge ≤ c ∧ c + z c ≤ s.ws.length
  apart : ∀ q c q' c', c ∈ (A q).all → c' ∈ (A q').all → (q ≠ q' ∨ c ≠ c') → c + ln s.cls z q c ≤ c' ∨ c' + ln s.cls z q' c' ≤ c
  top1 : 1 ≤ s.top
  top2 : s.top ≤ s.edge
  edge : s.edge ≤ s.ws.length
  len : s.ws.length ≤ 65536
  nrs : s.rs.length = s.cls.length
  cls : ∀ n ∈ s.cls, 1 ≤ n ∧ n ≤ 24
  runs : ∀ x ∈ s.x.l, 1 ≤ x.2 ∧ s.edge ≤ x.1 ∧ x.1 + x.2 ≤ s.ws.length
  rap : s.x.l.Pairwise (fun a b => a.1 + a.2 ≤ b.1)
  rlarge : ∀ x ∈ s.x.l, ∀ c ∈ (A none).all, c + z c ≤ x.1 ∨ x.1 + x.2 ≤ c

/-- A cell is in the words. -/
theorem HI.bound {s : HS} {A : Rg} {z : Int → Int} (h : HI s A z) {q : Option Nat} {c : Int} (hc : c ∈ (A q).all) : 1 ≤ c ∧ 3 ≤ ln s.cls z q c ∧ c + ln s.cls z q c ≤ s.ws.length := by
  have hp := h.pos q c hc
  have h1 := h.top1
  have h2 := h.top2
  have h3 := h.edge
  cases q with
  | none => have := h.linn c hc; simp only [ln] at *; omega
  | some k => have := h.inn k c hc; omega

/-- What a cell holds: its word, and those behind its links. -/
structure Holds (s s' : HS) (z : Int → Int) (q : Option Nat) (c : Int) : Prop where
  head : gw s'.ws c = gw s.ws c
  body : ∀ j, 3 ≤ j → j < ln s.cls z q c → gw s'.ws (c + j) = gw s.ws (c + j)

theorem Holds.trans {a b d : HS} {z z' : Int → Int} {q : Option Nat} {c : Int} (h : Holds a b z q c) (k : Holds b d z' q c) (e : ln b.cls z' q c = ln a.cls z q c) : Holds a d z q c :=
  ⟨k.head.trans h.head, fun j h1 h2 => (k.body j h1 (by rw [e]; exact h2)).trans (h.body j h1 h2)⟩
theorem Holds.refl (s : HS) (z : Int → Int) (q : Option Nat) (c : Int) : Holds s s z q c := ⟨rfl, fun _ _ _ => rfl⟩

/-- Words but the rings' links are the same: cells hold what they held. -/
theorem HI.holds {s s' : HS} {A : Rg} {z : Int → Int} (h : HI s A z) {X : List Int} (hs : Same s.ws s'.ws X) {q : Option Nat} {c : Int} (hc : c ∈ (A q).all)
    (hX : ∀ y ∈ X, y = c ∨ c + ln s.cls z q c ≤ y ∨ y + 3 ≤ c) : Holds s s' z q c := by
  have hb := h.bound hc
  refine ⟨hs.eq _ (by omega) (fun y hy => ?_), fun j h1 h2 => hs.eq _ (by omega) (fun y hy => ?_)⟩
  · have := hX y hy; omega
  · have := hX y hy; omega

/-- The words a count of calls takes play no part. -/
theorem HI.of {s s' : HS} {A : Rg} {z : Int → Int} (h : HI s A z) (e1 : s'.ws = s.ws) (e2 : s'.cls = s.cls) (e3 : s'.rs = s.rs) (e4 : s'.lg = s.lg) (e5 : s'.x.l = s.x.l) (e6 : s'.top = s.top) (e7 : s'.edge = s.edge) : HI s' A z := by
  obtain ⟨a1, a2, a3, a4, a5, a6, a7, a8, a9, a10, a11, a12, a13, a14, a15, a16⟩ := h
  constructor <;> simp only [e1, e2, e3, e4, e5, e6, e7] <;> assumption
theorem HI.tick {s : HS} {A : Rg} {z : Int → Int} (h : HI s A z) (n : Int) : HI (s.tick n) A z := h.of rfl rfl rfl rfl rfl rfl rfl

/-- Words change that are no links. -/
theorem HI.words {s : HS} {A : Rg} {z : Int → Int} (h : HI s A z) (ws' : List Int) (u' : Int) (hl : ws'.length = s.ws.length) (hs : ∀ q c, c ∈ (A q).all → gw ws' (c + 1) = gw s.ws (c + 1) ∧ gw ws' (c + 2) = gw s.ws (c + 2)) : HI { s with ws := ws', u := u' } A z := by
  obtain ⟨a1, a2, a3, a4, a5, a6, a7, a8, a9, a10, a11, a12, a13, a14, a15, a16⟩ := h
  exact { ring := fun k r hr => (a1 k r hr).congr hl (fun y hy => hs _ y hy), lring := a2.congr hl (fun y hy => hs _ y hy), out := a3, pos := a4, inn := a5, linn := fun c hc => by have := a6 c hc; simp only [hl]; exact this, apart := a7, top1 := a8, top2 := a9, edge := by simp only [hl]; exact a10, len := by simp only [hl]; exact a11, nrs := a12, cls := a13, runs := fun x hx => by have := a14 x hx; simp only [hl]; exact this, rap := a15, rlarge := a16 }

/-- A word of a cell, no link, is set. -/
theorem HI.put {s : HS} {A : Rg} {z : Int → Int} (h : HI s A z) {q : Option Nat} {c j : Int} (hc : c ∈ (A q).all) (hj : j = 0 ∨ (3 ≤ j ∧ j < ln s.cls z q c)) (v : Int) (n : Int) : HI (s.put (c + j) v n) A z := by
  have hb := h.bound hc
  have hlen : c + j < s.ws.length := by omega
  refine h.words (sw s.ws (c + j) v) (s.u + n) (sw_len _ _ _) (fun q' c' hc' => ?_)
  have hb' := h.bound hc'
  have hne : c + j ≠ c' + 1 ∧ c + j ≠ c' + 2 := by
    by_cases e : q = q' ∧ c = c'
    · obtain ⟨_, rfl⟩ := e; omega
    · have hd : q ≠ q' ∨ c ≠ c' := by
        by_cases e1 : q = q'
        · exact .inr (fun e2 => e ⟨e1, e2⟩)
        · exact .inl e1
      have := h.apart q c q' c' hc hc' hd
      omega
  exact ⟨by rw [gw_sw _ _ _ _ (by omega) hlen (by omega), if_neg (by omega)], by rw [gw_sw _ _ _ _ (by omega) hlen (by omega), if_neg (by omega)]⟩

/-- ... and no other cell, nor other word, sees it. -/
theorem HI.put_other {s : HS} {A : Rg} {z : Int → Int} (h : HI s A z) {q : Option Nat} {c j : Int} (hc : c ∈ (A q).all) (hj : 0 ≤ j ∧ j < ln s.cls z q c) (v : Int) (n : Int) {q' : Option Nat} {c' : Int} (hc' : c' ∈ (A q').all) (hne : q ≠ q' ∨ c ≠ c') : Holds s (s.put (c + j) v n) z q' c' := by
  have hb := h.bound hc
  have hb' := h.bound hc'
  have ha := h.apart q c q' c' hc hc' hne
  have hlen : c + j < s.ws.length := by omega
  exact ⟨by show gw (sw s.ws (c + j) v) c' = _; rw [gw_sw _ _ _ _ (by omega) hlen (by omega), if_neg (by omega)], fun i h1 h2 => by show gw (sw s.ws (c + j) v) (c' + i) = _; rw [gw_sw _ _ _ _ (by omega) hlen (by omega), if_neg (by omega)]⟩

theorem Inc_pos {last : Int} {l : List Int} (h : Inc last l) (h0 : 0 ≤ last) : ∀ n ∈ l, 1 ≤ n ∧ n ≤ 24 := by
  induction l generalizing last with
  | nil => simp
  | cons n r ih =>
    obtain ⟨h1, h2, h3⟩ := h
    intro c hc
    rcases List.mem_cons.1 hc with rfl | hc
    · exact ⟨by omega, h2⟩
    · exact ih h3 (by omega) c hc

/-- A fresh heap. -/
theorem HI.new {W Lg : Nat} {cls : List Int} (hR : RightC W Lg cls) : HI (HS.new W Lg cls) (fun _ => ⟨[], [], [], []⟩) (fun _ => 0) := by
  have h1 := hR.w1
  have h2 := hR.w2
  have h3 := hR.l1
  have h4 := hR.l2
  have e0 : (⟨[], [], [], []⟩ : Rows).all = [] := rfl
  refine { ring := ?_, lring := RI.empty _ _ _, out := fun _ _ => rfl, pos := by simp [e0], inn := by simp [e0], linn := by simp [e0], apart := by simp [e0], top1 := by simp [HS.new], top2 := by simp only [HS.new]; omega, edge := by simp only [HS.new, List.length_replicate]; omega, len := by simp only [HS.new, List.length_replicate]; omega, nrs := by simp [HS.new], cls := ?_, runs := ?_, rap := ?_, rlarge := by simp [e0] }
  · intro k r hr
    simp only [HS.new, List.getElem?_map, Option.map_eq_some_iff] at hr
    obtain ⟨_, _, rfl⟩ := hr
    exact RI.empty _ _ _
  · exact Inc_pos hR.inc (by omega)
  · intro x hx
    simp only [HS.new] at hx ⊢
    split at hx
    · simp at hx
    · simp at hx; subst hx; simp only [List.length_replicate]; omega
  · simp only [HS.new]
    split <;> simp

end Go.Proofs.Ytifillpcphiblaa
