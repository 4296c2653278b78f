/-
  DERIVED. GIVEN WITH THE SEED: THE CARDS: each row of YtklnpooninbogaaGreatDoorRows.lean that lists a variable, with what it lists TIED to the program's text (the seventh form; the later family's looks); each row that meets fmt, with fmt's text TOLD by the authors' own Lean function (tested against real Go, not proved from fmt's source: count such statements apart). THE CARD IS WHAT COUNTS. Prove the row's statement (the work); the ties are given (YtklnpooninbogaaGreatDoorTie.lean); close each card by the builder's one call (the guide's Derived/Test/ToyasCard.lean, 'card_holds'). Laid BY PROGRAM, IN A SANDBOX (cutbox-door.mjs). By AI agents, Wed Nov 11 2026. No macro, syntax, notation, axiom, sorry.
-/
import Derived.Test.YtklnpooninbogaaGreatDoorRows
import GoSem.ClaimSeven
namespace Go.Proofs.YtklnpooninbogaaGreatDoor
namespace Rows

/-- THE TIED CARD OF 'treadwheellaw20.TreeBounds'. -/
def treeBoundsCard : Claim7 := { stood := { row := treeBoundsRow, standIns := [], harness := (true, "3fb7b335e7d6499a967321a4061337e85e9725d3a3a9101858b1f04a9783651a"), looks := false }, kinds := [], alts := [], laidByText := true, laidKinds := [.data, .data, .data, .data], laidTests := true, laidLooks := .later }
def TreeBoundsCardSaid : Prop := Claim7.holds Tryz.pinned (.plain (OpenSpec.ofChange treeBoundsSpec)) treeBoundsCard

/-- THE TIED CARD OF 'treadwheellaw20.TreeNumbers'. -/
def treeNumbersCard : Claim7 := { stood := { row := treeNumbersRow, standIns := [], harness := (true, "3fb7b335e7d6499a967321a4061337e85e9725d3a3a9101858b1f04a9783651a"), looks := false }, kinds := [], alts := [], laidByText := true, laidKinds := [.data, .data, .data, .data], laidTests := true, laidLooks := .later }
def TreeNumbersCardSaid : Prop := Claim7.holds Tryz.pinned (.plain (OpenSpec.ofChange treeNumbersSpec)) treeNumbersCard

/-- THE TIED CARD OF 'treadwheellaw20.TreePrints'. -/
def treePrintsCard : Claim7 := { stood := { row := treePrintsRow, standIns := [], harness := (true, "3fb7b335e7d6499a967321a4061337e85e9725d3a3a9101858b1f04a9783651a"), looks := false }, kinds := [], alts := [], laidByText := true, laidKinds := [.data, .data, .data, .data], laidTests := true, laidLooks := .later }
def TreePrintsCardSaid : Prop := Claim7.holds Tryz.pinned (.plain (OpenSpec.ofChange treePrintsSpec)) treePrintsCard

/-- THE SECOND FORM's CARD OF 'treadwheellaw20.TreeBounds'. -/
def treeBoundsUptoCard : Claim7 := { stood := { row := treeBoundsUptoRow, standIns := [], harness := (true, "3fb7b335e7d6499a967321a4061337e85e9725d3a3a9101858b1f04a9783651a"), looks := false }, kinds := [], alts := [], laidByText := true, laidKinds := [.data, .data, .data, .data], laidTests := true, laidLooks := .later }
def TreeBoundsUptoCardSaid : Prop := Claim7.holds Tryz.pinned (.plain (OpenSpec.upto treeBoundsSpec)) treeBoundsUptoCard

/-- THE SECOND FORM's CARD OF 'treadwheellaw20.TreeNumbers'. -/
def treeNumbersUptoCard : Claim7 := { stood := { row := treeNumbersUptoRow, standIns := [], harness := (true, "3fb7b335e7d6499a967321a4061337e85e9725d3a3a9101858b1f04a9783651a"), looks := false }, kinds := [], alts := [], laidByText := true, laidKinds := [.data, .data, .data, .data], laidTests := true, laidLooks := .later }
def TreeNumbersUptoCardSaid : Prop := Claim7.holds Tryz.pinned (.plain (OpenSpec.upto treeNumbersSpec)) treeNumbersUptoCard

/-- THE SECOND FORM's CARD OF 'treadwheellaw20.TreePrints'. -/
def treePrintsUptoCard : Claim7 := { stood := { row := treePrintsUptoRow, standIns := [], harness := (true, "3fb7b335e7d6499a967321a4061337e85e9725d3a3a9101858b1f04a9783651a"), looks := false }, kinds := [], alts := [], laidByText := true, laidKinds := [.data, .data, .data, .data], laidTests := true, laidLooks := .later }
def TreePrintsUptoCardSaid : Prop := Claim7.holds Tryz.pinned (.plain (OpenSpec.upto treePrintsSpec)) treePrintsUptoCard
end Rows
end Go.Proofs.YtklnpooninbogaaGreatDoor
