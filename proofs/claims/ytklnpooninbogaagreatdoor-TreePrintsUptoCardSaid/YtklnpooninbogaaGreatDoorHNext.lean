import Derived.Test.YtklnpooninbogaaGreatDoorHAll
import Derived.Test.YtklnpooninbogaaGreatDoorMHeapAlloc
import Derived.RangeFuncFrom
import Derived.RangeFuncBox
namespace Go.Proofs.YtklnpooninbogaaGreatDoor
open Go Go.Proofs Go.RowKit Go.Shelf

attribute [local go_sem] Oper.semAt_some

theorem Fr.others {S : List Nat} {W W' : World} (h : Fr S W W') (hS : ∀ b ∈ S, ∀ o, W.heap[b]? = some o → o.isCells = true) : KeepsOthers W W' :=
  ⟨h.size, fun k o hk ho => by
    refine (h.block k (Array.getElem?_eq_some_iff.1 hk).1 ?_).trans hk
    intro hc
    rw [hS k hc o hk] at ho; cases ho⟩

theorem Blk.cells {w : World} {b : Nat} {cs : List Value} {T : TypeId} (h : Blk w b cs T) : ∀ o, w.heap[b]? = some o → o.isCells = true := by
  intro o ho
  unfold Blk at h
  rw [h] at ho
  cases ho; rfl

/-- What HRep says abides the turn of blocks that came since. -/
theorem ownFrom_hrep {β : Type} (B : Nat) (L : HL) (s : β → HS) (hB : ∀ b ∈ L.all, b < B) : OwnFrom B (fun (x : β) W => HRep W L (s x)) := by
  intro x W W' row hs hg hr
  refine hs.fr (Fr.of_grownBy (S := row.toList) hg (fun k e => .inl (by simp [e]))) ?_
  intro b hb hc
  have := (hr b (by simpa using hb)).1
  have := hB b hc
  omega
theorem ownFrom_fr {β : Type} (B : Nat) (S : List Nat) (w : World) (hB : w.heap.size ≤ B) : OwnFrom B (fun (_ : β) W => Fr S w W) := by
  intro x W W' row hs hg hr
  refine hs.step (Fr.of_grownBy (S := row.toList) hg (fun k e => .inl (by simp [e]))) ?_
  intro b hb
  have := (hr b (by simpa using hb)).1
  exact .inr (by omega)

/-- The ring that lies at x. -/
def RingAt (L : HL) (s : HS) (x : Nat) (r : RS) : Prop := (∃ k : Nat, L.rbs[k]? = some x ∧ s.rs[k]? = some r) ∨ (x = L.lb ∧ s.lg = r)
theorem ringAt_some {w : World} {L : HL} {s : HS} (h : HRep w L s) (x : RB L) : ∃ r, RingAt L s x.1 r ∧ RRep w x.1 L.ab r := by
  obtain ⟨x, hx⟩ := x
  show ∃ r, RingAt L s x r ∧ RRep w x L.ab r
  rcases List.mem_append.1 hx with hx | hx
  · obtain ⟨k, hk, e⟩ := List.getElem_of_mem hx
    have h1 : k < s.cls.length := by rw [← h.n1]; exact hk
    obtain ⟨rb, r, e1, e2, e3, e4⟩ := h.at h1
    have e5 : x = rb := e.symm.trans (List.getElem?_eq_some_iff.1 e1).2
    subst e5
    exact ⟨r, .inl ⟨k, e1, e2⟩, e4⟩
  · have e : x = L.lb := by simpa using hx
    subst e
    exact ⟨s.lg, .inr ⟨rfl, rfl⟩, h.lr⟩
end Go.Proofs.YtklnpooninbogaaGreatDoor
