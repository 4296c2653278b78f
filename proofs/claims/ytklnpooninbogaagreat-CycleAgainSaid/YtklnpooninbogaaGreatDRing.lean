
import Derived.Test.YtklnpooninbogaaGreatMDRow
import Derived.Test.YtklnpooninbogaaGreatMMHeapAlloc
namespace Go.Proofs.YtklnpooninbogaaGreat
open Go Go.Proofs Go.RowKit
abbrev V4 := Value × Value × Value × Value
structure DRow (w : World) (B : Nat) (v : V4) (R : Rows) : Prop where
  wh : Rowi w B v.1 R.W
  fr0 : Rowi w B v.2.1 R.F
  gr : Rowi w B v.2.2.1 R.G
  bl : Rowi w B v.2.2.2 R.B
theorem DRow.fr {S : List Nat} {w w' : World} {B : Nat} {v : V4} {R : Rows} (h : DRow w B v R) (hf : Fr S w w') (hS : ∀ x ∈ S, x < B ∨ ∃ cs T, Blk w x cs T ∧ T ≠ 3) : DRow w' B v R := by
  have key : ∀ {v : Value} {l : List Int}, Rowi w B v l → Rowi w' B v l := fun {v l} hr => hr.fr hf (fun g hg hc => by
    rcases hS g hc with h1 | ⟨cs, T, h1, h2⟩
    · have := (hr.lt g hg).1; omega
    · exact hr.ne h1 h2 g hg rfl)
  exact ⟨key h.wh, key h.fr0, key h.gr, key h.bl⟩
theorem DRow.base {w : World} {B B' : Nat} {v : V4} {R : Rows} (h : DRow w B v R) (hB : B' ≤ B) : DRow w B' v R := ⟨h.wh.base hB, h.fr0.base hB, h.gr.base hB, h.bl.base hB⟩
end Go.Proofs.YtklnpooninbogaaGreat
