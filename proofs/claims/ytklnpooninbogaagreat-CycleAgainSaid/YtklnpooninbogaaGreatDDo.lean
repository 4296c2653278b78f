
import Derived.Test.YtklnpooninbogaaGreatDRing
import Derived.Deep.DeepCutAuto
namespace Go.Proofs.YtklnpooninbogaaGreat
open Go Go.Proofs Go.RowKit
def ROff (rsb : Nat) (w w' : World) : Prop := rsb < w.heap.size → ∀ i x, w'.cell? ⟨rsb, i, none⟩ = some x → w.cell? ⟨rsb, i, none⟩ = some x ∨ ∀ g, x.ownBlock = some g → w.heap.size ≤ g
theorem ROff.fr {S : List Nat} {rsb : Nat} {w w' : World} (hf : Fr S w w') (h : rsb ∉ S) : ROff rsb w w' := fun hl i x hx => .inl (by rw [← cell_fr hf h hl i]; exact hx)
theorem ROff.trans {rsb : Nat} {a b c : World} (h : ROff rsb a b) (k : ROff rsb b c) (hs : a.heap.size ≤ b.heap.size) : ROff rsb a c := fun hl i x hx => by
  rcases k (Nat.lt_of_lt_of_le hl hs) i x hx with h1 | h1
  · exact h hl i x h1
  · exact .inr (fun g hg => Nat.le_trans hs (h1 g hg))
theorem ROff.set {rsb o : Nat} {w w1 : World} {x u : Value} (h : ROff rsb w w1) (hu : w1.cell? ⟨rsb, o, none⟩ = some u) (hx : ∀ g, x.ownBlock = some g → w.heap.size ≤ g) : ROff rsb w (w1.setCell ⟨rsb, o, none⟩ x) := by
  intro hl i y hy
  by_cases e : i = o
  · subst e
    rw [World.cell?_setCell_same w1 _ _ hu] at hy
    cases hy
    exact .inr hx
  · have hne : (⟨rsb, o, none⟩ : Addr) ≠ ⟨rsb, i, none⟩ := by intro hc; injection hc with _ h2 _; exact e h2.symm
    rw [World.cell?_setCell_other (h := hne)] at hy
    exact h hl i y hy
def FrR (rsb : Nat) (w w' : World) : Prop := Fr [rsb] w w' ∧ ROff rsb w w'
theorem FrR.of {rsb : Nat} {w w' : World} (h : Fr [] w w') : FrR rsb w w' := ⟨h.here (by simp), ROff.fr h (by simp)⟩
theorem FrR.trans {rsb : Nat} {a b c : World} (h : FrR rsb a b) (k : FrR rsb b c) : FrR rsb a c := ⟨h.1.trans k.1, h.2.trans k.2 h.1.size⟩
end Go.Proofs.YtklnpooninbogaaGreat
