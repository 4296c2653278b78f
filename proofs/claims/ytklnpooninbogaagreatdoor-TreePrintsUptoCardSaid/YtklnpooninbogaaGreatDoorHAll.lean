import Derived.RangeFuncNested
import Derived.RangeFuncBound
import Derived.RangeFuncCalls
import Derived.RangeFuncLeaves
import Derived.Shelf.Abstract
import Derived.Shelf.RegionOpen
import Derived.WalkKit
import Derived.OwnWalkIn
import Derived.TacticsInMore
import Derived.LoopNIn
import Derived.LoopIn
import Derived.Test.YtklnpooninbogaaGreatDoorMHeapAlloc
namespace Go.Proofs.YtklnpooninbogaaGreatDoor
open Go Go.Proofs Go.RowKit Go.Shelf

attribute [local go_sem] Oper.semAt_some

/-- A ring of the heap. -/
abbrev RB (L : HL) := { x : Nat // x ∈ L.rbs ++ [L.lb] }
def att (L : HL) : List (RB L) := (L.rbs ++ [L.lb]).attach
theorem att_len (L : HL) : (att L).length = L.rbs.length + 1 := by simp [att]
theorem att_get (L : HL) (k : Nat) (h : k < (att L).length) : ((att L)[k]).1 = (L.rbs ++ [L.lb])[k]'(by simpa [att] using h) := by simp only [att, List.getElem_attach]

def KpA (L : HL) (pb : Nat) (A B : World) : Prop := ∀ b ∈ [pb, L.hb, L.rsb], B.heap[b]? = A.heap[b]?
theorem KpA.cell {L : HL} {pb : Nat} {A B : World} (h : KpA L pb A B) {b : Nat} (hb : b ∈ [pb, L.hb, L.rsb]) (i : Nat) : B.cell? ⟨b, i, none⟩ = A.cell? ⟨b, i, none⟩ := World.cell?_of_block (w := A) (h b hb)
theorem KpA.refl (L : HL) (pb : Nat) (A : World) : KpA L pb A A := fun _ _ => rfl
theorem KpA.trans {L : HL} {pb : Nat} {A B C : World} (h : KpA L pb A B) (k : KpA L pb B C) : KpA L pb A C := fun b hb => (k b hb).trans (h b hb)

structure RO (L : HL) (m pb : Nat) (W : World) : Prop where
  p : W.cell? ⟨pb, 0, none⟩ = some (.pointer (some ⟨L.hb, 0, none⟩))
  r : W.cell? ⟨L.hb, 2, none⟩ = some (.slice (some ⟨L.rsb, 0, none⟩) m L.rcap)
  l : W.cell? ⟨L.hb, 3, none⟩ = some (.pointer (some ⟨L.lb, 0, none⟩))
  e : ∀ k rb, L.rbs[k]? = some rb → W.cell? ⟨L.rsb, k, none⟩ = some (.pointer (some ⟨rb, 0, none⟩))
theorem RO.kp {L : HL} {m pb : Nat} {A B : World} (h : RO L m pb A) (k : KpA L pb A B) : RO L m pb B :=
  ⟨(k.cell (by simp) 0).trans h.p, (k.cell (by simp) 2).trans h.r, (k.cell (by simp) 3).trans h.l, fun j rb hj => (k.cell (by simp) j).trans (h.e j rb hj)⟩

end Go.Proofs.YtklnpooninbogaaGreatDoor
