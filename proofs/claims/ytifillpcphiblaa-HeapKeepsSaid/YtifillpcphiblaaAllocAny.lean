import Derived.Test.YtifillpcphiblaaHCellLarge
namespace Go.Proofs.Ytifillpcphiblaa
open Go Go.Proofs Go.RowKit

theorem ints_len {n : Nat} {l : List Int} (hd : l.Nodup) (h : ∀ c ∈ l, 0 ≤ c ∧ c < n) : l.length ≤ n := by
  have : l.length ≤ ((List.range n).map (fun (i : Nat) => (i : Int))).length := by
    refine List.Nodup.length_le_of_subset hd ?_
    intro c hc
    have := h c hc
    exact List.mem_map.2 ⟨c.toNat, List.mem_range.2 (by omega), by omega⟩
  simpa using this

theorem Cells.len {n : Nat} {l : List Int} (h : Cells n l) : l ≠ [] → l.length + 2 ≤ n := by
  intro hl
  have h0 : ∃ c, c ∈ l := by
    cases l with
    | nil => exact absurd rfl hl
    | cons a l => exact ⟨a, by simp⟩
  obtain ⟨c, hc⟩ := h0
  have h1 := h.ok c hc
  have := ints_len (n := n - 2) h.nodup (fun c hc => by have := h.ok c hc; omega)
  omega

theorem HI.runs_len {s : HS} {A : Rg} {z : Int → Int} (h : HI s A z) : s.x.l.length ≤ 65536 := by
  have h1 : (s.x.l.map (·.1)).Nodup := by
    rw [List.Nodup, List.pairwise_map]
    refine List.Pairwise.imp_of_mem ?_ h.rap
    intro a b ha _ hab e
    have := (h.runs a ha).1
    omega
  have := ints_len (n := s.ws.length) h1 (fun c hc => by
    obtain ⟨x, hx, rfl⟩ := List.mem_map.1 hc
    have := h.runs x hx
    have := h.top1
    have := h.top2
    omega)
  have := h.len
  simp at *
  omega

theorem HI.tot {s : HS} {A : Rg} {z : Int → Int} (h : HI s A z) {r : RS} {q : Option Nat} (hr : RI s.ws r (A q)) : r.tot + 1 ≤ 65536 := by
  have h1 := hr.tot
  have h2 := h.len
  by_cases e : (A q).all = []
  · rw [h1, e]; decide
  · have := hr.cells.len e; omega

/-- What an allocation does. -/
structure Alc (s s' : HS) (A A' : Rg) (z z' : Int → Int) (q : Option Nat) (p word : Int) (n : Nat) : Prop where
  hi : HI s' A' z'
  row : ∃ W, A' = A.up q ⟨W, (A q).F, (A q).G, (A q).B ++ [p]⟩ ∧ ((A q).W = p :: W ∨ ((A q).W = W ∧ p ∉ (A q).all ∧ (q ≠ none → W = [])))
  room : n + 3 ≤ ln s.cls z' q p
  lns : ∀ q' c, c ∈ (A q').all → ln s.cls z' q' c = ln s.cls z q' c
  head : gw s'.ws p = word
  body : ∀ j : Int, 0 ≤ j → j < n → gw s'.ws (p + 3 + j) = 0
  holds : ∀ q' c, c ∈ (A q').all → (q' ≠ q ∨ c ≠ p) → Holds s s' z q' c
  cls : s'.cls = s.cls
  parity : s'.parity = s.parity
  edge : s'.edge = s.edge
  len : s'.ws.length = s.ws.length
  ring : q = if ixGe s.cls n = -1 then none else some (ixGe s.cls n).toNat

theorem Alc.mem {s s' : HS} {A A' : Rg} {z z' : Int → Int} {q : Option Nat} {p word : Int} {n : Nat} (h : Alc s s' A A' z z' q p word n) : p ∈ (A' q).all := by
  obtain ⟨W, rfl, _⟩ := h.row
  rw [Rg.up_same]
  simp [Rows.all]
theorem Alc.old {s s' : HS} {A A' : Rg} {z z' : Int → Int} {q : Option Nat} {p word : Int} {n : Nat} (h : Alc s s' A A' z z' q p word n) {q' : Option Nat} {c : Int} (hc : c ∈ (A q').all) : c ∈ (A' q').all := by
  obtain ⟨W, rfl, hW⟩ := h.row
  by_cases e : q' = q
  · subst e
    rw [Rg.up_same]
    rcases hW with hW | ⟨hW, _, _⟩ <;> simp [Rows.all, hW] at hc ⊢
    · rcases hc with hc | hc | hc | hc | hc <;> simp [hc]
    · rcases hc with hc | hc | hc | hc <;> simp [hc]
  · rw [Rg.up_ne A e]; exact hc

def AllocPost (L : HL) (s : HS) (A : Rg) (z : Int → Int) (word : Int) (n : Nat) (w : World) (e : Ending) (w' : World) : Prop :=
  Fr L.fp w w' ∧ ((e = .returned (.tuple #[.int .i64 0, .int .i64 2]) ∧ HRep w' L s) ∨
    ∃ q p s' A' z', e = .returned (.tuple #[.int .i64 p, .int .i64 0]) ∧ HRep w' L s' ∧ Alc s s' A A' z z' q p word n)

theorem up_up (A : Rg) (q : Option Nat) (R R' : Rows) : (A.up q R).up q R' = A.up q R' := by
  funext q'; unfold Rg.up; split <;> rfl

end Go.Proofs.Ytifillpcphiblaa
