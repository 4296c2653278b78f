
import Derived.Test.YtklnpooninbogaaGreatMMHNew
import Derived.Test.YtklnpooninbogaaGreatMMXDel
import Derived.RegionTactic
import Derived.OwnWalk
import Derived.Deep.QuietTactic
import Derived.BigQuiet
namespace Go.Proofs.YtklnpooninbogaaGreat
open Go Go.Proofs Go.RowKit
end Go.Proofs.YtklnpooninbogaaGreat
namespace Go.Proofs.YtklnpooninbogaaGreat
open Go Go.Proofs Go.RowKit
def FrT (T : TypeId) (B : Nat) (w w' : World) : Prop := ∃ S, Fr S w w' ∧ ∀ b ∈ S, B ≤ b ∧ (b < w.heap.size → ∃ cs, Blk w b cs T)
theorem FrT.of {T : TypeId} {B : Nat} {w w' : World} (h : Fr [] w w') : FrT T B w w' := ⟨[], h, by simp⟩
theorem FrT.blk {T T' : TypeId} {B b : Nat} {w w' : World} {cs : List Value} (h : FrT T B w w') (hb : Blk w b cs T') (hT : T' ≠ T) : Blk w' b cs T' := by
  obtain ⟨S, hF, hS⟩ := h
  refine hb.fr hF (fun hc => ?_)
  obtain ⟨_, h'⟩ := hS b hc
  obtain ⟨cs', h'⟩ := h' hb.lt
  exact blk_ne hb h' hT rfl
end Go.Proofs.YtklnpooninbogaaGreat
