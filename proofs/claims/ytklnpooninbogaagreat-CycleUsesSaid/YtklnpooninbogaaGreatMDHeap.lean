
import Derived.Test.YtklnpooninbogaaGreatDDo
import Derived.Test.YtklnpooninbogaaGreatMDRoom
import Derived.Test.YtklnpooninbogaaGreatIM
import Derived.Test.YtklnpooninbogaaGreatMMXDel
import Derived.Test.YtklnpooninbogaaGreatMMHNew
import Derived.Deep.QuietTactic
import Derived.BigQuiet
namespace Go.Proofs.YtklnpooninbogaaGreat
open Go Go.Proofs Go.RowKit
theorem slForm {w : World} {sv : Value} {l : List Int} (h : SlArg w sv l) : ∃ p cap, sv = .slice p l.length cap := by
  rcases h with ⟨e1, e2⟩ | ⟨p, cap, e1, e2⟩ | ⟨b, o, cap, e, _⟩
  · exact ⟨none, 0, by rw [e1, e2]; rfl⟩
  · exact ⟨some p, cap, by rw [e1, e2]; rfl⟩
  · exact ⟨_, cap, e⟩
theorem slRead {w : World} {p : Option Addr} {cap : Nat} {l : List Int} (h : SlArg w (.slice p l.length cap) l) (hl : 0 < l.length) : ∃ b o, p = some ⟨b, o, none⟩ ∧ RdAt w b o (l.map (.int .i64)) := by
  rcases h with ⟨_, e2⟩ | ⟨_, _, _, e2⟩ | ⟨b, o, cap', e, hr, _⟩
  · rw [e2] at hl; simp at hl
  · rw [e2] at hl; simp at hl
  · cases e; exact ⟨b, o, rfl, hr⟩
end Go.Proofs.YtklnpooninbogaaGreat
