/-
  No cell of these rows narrows 'for every input' (looked for: loops, veiled, ifaces, maps, wideKeys, modest, calm, conditions, laid).
  DERIVED. THE GIVEN ROWS OF THIS SEAT. 5 by the template 'for every input the law returns true; each argument reads behind the call as it read before'; 0 by the template 'total and deterministic' (their statements: YtklnpooninbogaaGreatTotals.lean).
  GIVEN WITH THE SEED: the statements are not yours to turn. If you find one false, say at which input.
  Laid BY PROGRAM, IN A SANDBOX (cutbox-rows.mjs): the forced cells as the released guide's own fill.sh prints them over the translation 461700739111f495… (all of the seat's roots in one cut). By AI agents, Wed Nov 11 2026. No macro, syntax, notation, axiom, sorry.
-/
import Derived.Test.YtklnpooninbogaaGreatChecked
import GoSem.Claim
import GoSem.ClaimJoined
import GoSem.ClaimMapViews
import Derived.JoinedTies
import Derived.KernelRfl
namespace Go.Proofs.YtklnpooninbogaaGreat
/- THE CELL 'sum', in the pinned program and in every row, IS THE sha256 OF THE DUMP (.gsa) THAT YtklnpooninbogaaGreatProg.lean LOADS. Nothing in Lean hashes anything: it is a label: what it is worth is what the hold of that sum in a sandbox is worth. -/
noncomputable def Tryz.pinned : Pinned := { name := "ytklnpooninbogaagreat", sum := "461700739111f495d225449b1ba3b2b3f9cfdee99a0164afd79ac868a2cdec42", checked := Tryz.checked }
namespace Rows
def none {H : Type} : Left H := { results := [], args := [] }

/-- 'treadwheellaw18.CycleUses': WHATEVER THE INPUT: true; the input reads as it did. -/
def cycleUsesSpec : ChangeSpec := { name := "cycleUses", fn := fun _ => fun
  | [d1, d2, d3] => { results := [.lit (.bool true)], args := [d1, d2, d3] }
  | _ => none }
def cycleUsesRow : OpenClaim := { program := "ytklnpooninbogaagreat", sum := "461700739111f495d225449b1ba3b2b3f9cfdee99a0164afd79ac868a2cdec42", func := "treadwheel/treadwheellaw18.CycleUses", spec := "cycleUses", inPlace := ["sync/atomic.AddInt64", "slices.overlaps[[2]int]", "sync/atomic.LoadInt64"], unfollowed := true, recurses := true, apart := false }
def CycleUsesSaid : Prop := cycleUsesRow.holds Tryz.pinned (OpenSpec.ofChange cycleUsesSpec)

/-- ITS FALSE NEIGHBOUR: 'it returns false'. Refute it at one input. -/
def cycleUsesWrong : ChangeSpec := { name := "cycleUses", fn := fun _ => fun
  | [d1, d2, d3] => { results := [.lit (.bool false)], args := [d1, d2, d3] }
  | _ => none }
def CycleUsesWrongFalsely : Prop := cycleUsesRow.holds Tryz.pinned (OpenSpec.ofChange cycleUsesWrong)

/-- 'treadwheellaw18.CycleNew': WHATEVER THE INPUT: true; the input reads as it did. -/
def cycleNewSpec : ChangeSpec := { name := "cycleNew", fn := fun _ => fun
  | [d1, d2, d3, d4] => { results := [.lit (.bool true)], args := [d1, d2, d3, d4] }
  | _ => none }
def cycleNewRow : OpenClaim := { program := "ytklnpooninbogaagreat", sum := "461700739111f495d225449b1ba3b2b3f9cfdee99a0164afd79ac868a2cdec42", func := "treadwheel/treadwheellaw18.CycleNew", spec := "cycleNew", inPlace := ["sync/atomic.AddInt64", "slices.overlaps[[2]int]"], unfollowed := true, recurses := true, apart := false }
def CycleNewSaid : Prop := cycleNewRow.holds Tryz.pinned (OpenSpec.ofChange cycleNewSpec)

/-- ITS FALSE NEIGHBOUR: 'it returns false'. Refute it at one input. -/
def cycleNewWrong : ChangeSpec := { name := "cycleNew", fn := fun _ => fun
  | [d1, d2, d3, d4] => { results := [.lit (.bool false)], args := [d1, d2, d3, d4] }
  | _ => none }
def CycleNewWrongFalsely : Prop := cycleNewRow.holds Tryz.pinned (OpenSpec.ofChange cycleNewWrong)

/-- 'treadwheellaw18.CycleExact': WHATEVER THE INPUT: true; the input reads as it did. -/
def cycleExactSpec : ChangeSpec := { name := "cycleExact", fn := fun _ => fun
  | [d1, d2, d3, d4] => { results := [.lit (.bool true)], args := [d1, d2, d3, d4] }
  | _ => none }
def cycleExactRow : OpenClaim := { program := "ytklnpooninbogaagreat", sum := "461700739111f495d225449b1ba3b2b3f9cfdee99a0164afd79ac868a2cdec42", func := "treadwheel/treadwheellaw18.CycleExact", spec := "cycleExact", inPlace := ["sync/atomic.AddInt64", "slices.overlaps[[2]int]"], unfollowed := true, recurses := true, apart := false }
def CycleExactSaid : Prop := cycleExactRow.holds Tryz.pinned (OpenSpec.ofChange cycleExactSpec)

/-- ITS FALSE NEIGHBOUR: 'it returns false'. Refute it at one input. -/
def cycleExactWrong : ChangeSpec := { name := "cycleExact", fn := fun _ => fun
  | [d1, d2, d3, d4] => { results := [.lit (.bool false)], args := [d1, d2, d3, d4] }
  | _ => none }
def CycleExactWrongFalsely : Prop := cycleExactRow.holds Tryz.pinned (OpenSpec.ofChange cycleExactWrong)

/-- 'treadwheellaw18.CycleAgain': WHATEVER THE INPUT: true; the input reads as it did. -/
def cycleAgainSpec : ChangeSpec := { name := "cycleAgain", fn := fun _ => fun
  | [d1, d2, d3] => { results := [.lit (.bool true)], args := [d1, d2, d3] }
  | _ => none }
def cycleAgainRow : OpenClaim := { program := "ytklnpooninbogaagreat", sum := "461700739111f495d225449b1ba3b2b3f9cfdee99a0164afd79ac868a2cdec42", func := "treadwheel/treadwheellaw18.CycleAgain", spec := "cycleAgain", inPlace := ["sync/atomic.AddInt64", "slices.overlaps[[2]int]"], unfollowed := true, recurses := true, apart := false }
def CycleAgainSaid : Prop := cycleAgainRow.holds Tryz.pinned (OpenSpec.ofChange cycleAgainSpec)

/-- ITS FALSE NEIGHBOUR: 'it returns false'. Refute it at one input. -/
def cycleAgainWrong : ChangeSpec := { name := "cycleAgain", fn := fun _ => fun
  | [d1, d2, d3] => { results := [.lit (.bool false)], args := [d1, d2, d3] }
  | _ => none }
def CycleAgainWrongFalsely : Prop := cycleAgainRow.holds Tryz.pinned (OpenSpec.ofChange cycleAgainWrong)

/-- 'treadwheellaw18.CycleSafe': WHATEVER THE INPUT: true; the input reads as it did. -/
def cycleSafeSpec : ChangeSpec := { name := "cycleSafe", fn := fun _ => fun
  | [d1, d2, d3] => { results := [.lit (.bool true)], args := [d1, d2, d3] }
  | _ => none }
def cycleSafeRow : OpenClaim := { program := "ytklnpooninbogaagreat", sum := "461700739111f495d225449b1ba3b2b3f9cfdee99a0164afd79ac868a2cdec42", func := "treadwheel/treadwheellaw18.CycleSafe", spec := "cycleSafe", inPlace := ["sync/atomic.AddInt64", "slices.overlaps[[2]int]"], unfollowed := true, recurses := true, apart := false }
def CycleSafeSaid : Prop := cycleSafeRow.holds Tryz.pinned (OpenSpec.ofChange cycleSafeSpec)

/-- ITS FALSE NEIGHBOUR: 'it returns false'. Refute it at one input. -/
def cycleSafeWrong : ChangeSpec := { name := "cycleSafe", fn := fun _ => fun
  | [d1, d2, d3] => { results := [.lit (.bool false)], args := [d1, d2, d3] }
  | _ => none }
def CycleSafeWrongFalsely : Prop := cycleSafeRow.holds Tryz.pinned (OpenSpec.ofChange cycleSafeWrong)

/- THE SECOND FORM. 'bulk': how many values and letters a reading holds, each counted each time it is reached (what is shared counts as often as it is met; a slice's spare places count too). A statement '..UptoSaid' is the law's where the arguments, and the package variables that the reading takes, are together of bulk at most 1048576: NARROWER than '..Said'. Prove '..Said' where nothing that the law and all that it calls make is longer than what came in: it says more and counts as full. Else prove '..UptoSaid'. A law counts once. -/
mutual
def uptoBulk {H : Type} : DataW H → Nat
  | .lit (.string bytes) => bytes.length + 1
  | .lit _ => 1
  | .nil => 1
  | .ptr d => uptoBulk d + 1
  | .slice elems spare => uptoBulkAll elems + uptoBulkAll spare + 1
  | .agg parts => uptoBulkAll parts + 1
  | .iface _ d => uptoBulk d + 1
  | .map entries => uptoBulkEntries entries + 1
  | .held _ => 1
def uptoBulkAll {H : Type} : List (DataW H) → Nat
  | [] => 0
  | d :: r => uptoBulk d + uptoBulkAll r
def uptoBulkEntries {H : Type} : List (Lit × DataW H) → Nat
  | [] => 0
  | x :: r => uptoBulkEntry x + uptoBulkEntries r
def uptoBulkEntry {H : Type} : Lit × DataW H → Nat
  | (.string bytes, d) => bytes.length + uptoBulk d + 1
  | (_, d) => uptoBulk d + 1
 end
def uptoSmall : (H : Type) → List (DataW H) → Bool := fun _ ds => decide (uptoBulkAll ds ≤ 1048576)
def OpenSpec.upto (s : _root_.Go.ChangeSpec) : _root_.Go.OpenSpec := { _root_.Go.OpenSpec.ofChange s with cond := some uptoSmall }

/-- 'treadwheellaw18.CycleUses', WHERE WHAT IT READS IS OF BULK AT MOST 1048576: true; the input reads as it did. -/
def cycleUsesUptoRow : OpenClaim := { program := "ytklnpooninbogaagreat", sum := "461700739111f495d225449b1ba3b2b3f9cfdee99a0164afd79ac868a2cdec42", func := "treadwheel/treadwheellaw18.CycleUses", spec := "cycleUses", inPlace := ["sync/atomic.AddInt64", "slices.overlaps[[2]int]", "sync/atomic.LoadInt64"], unfollowed := true, recurses := true, apart := false, narrowed := true }
def CycleUsesUptoSaid : Prop := cycleUsesUptoRow.holds Tryz.pinned (OpenSpec.upto cycleUsesSpec)

/-- 'treadwheellaw18.CycleNew', WHERE WHAT IT READS IS OF BULK AT MOST 1048576: true; the input reads as it did. -/
def cycleNewUptoRow : OpenClaim := { program := "ytklnpooninbogaagreat", sum := "461700739111f495d225449b1ba3b2b3f9cfdee99a0164afd79ac868a2cdec42", func := "treadwheel/treadwheellaw18.CycleNew", spec := "cycleNew", inPlace := ["sync/atomic.AddInt64", "slices.overlaps[[2]int]"], unfollowed := true, recurses := true, apart := false, narrowed := true }
def CycleNewUptoSaid : Prop := cycleNewUptoRow.holds Tryz.pinned (OpenSpec.upto cycleNewSpec)

/-- 'treadwheellaw18.CycleExact', WHERE WHAT IT READS IS OF BULK AT MOST 1048576: true; the input reads as it did. -/
def cycleExactUptoRow : OpenClaim := { program := "ytklnpooninbogaagreat", sum := "461700739111f495d225449b1ba3b2b3f9cfdee99a0164afd79ac868a2cdec42", func := "treadwheel/treadwheellaw18.CycleExact", spec := "cycleExact", inPlace := ["sync/atomic.AddInt64", "slices.overlaps[[2]int]"], unfollowed := true, recurses := true, apart := false, narrowed := true }
def CycleExactUptoSaid : Prop := cycleExactUptoRow.holds Tryz.pinned (OpenSpec.upto cycleExactSpec)

/-- 'treadwheellaw18.CycleAgain', WHERE WHAT IT READS IS OF BULK AT MOST 1048576: true; the input reads as it did. -/
def cycleAgainUptoRow : OpenClaim := { program := "ytklnpooninbogaagreat", sum := "461700739111f495d225449b1ba3b2b3f9cfdee99a0164afd79ac868a2cdec42", func := "treadwheel/treadwheellaw18.CycleAgain", spec := "cycleAgain", inPlace := ["sync/atomic.AddInt64", "slices.overlaps[[2]int]"], unfollowed := true, recurses := true, apart := false, narrowed := true }
def CycleAgainUptoSaid : Prop := cycleAgainUptoRow.holds Tryz.pinned (OpenSpec.upto cycleAgainSpec)

/-- 'treadwheellaw18.CycleSafe', WHERE WHAT IT READS IS OF BULK AT MOST 1048576: true; the input reads as it did. -/
def cycleSafeUptoRow : OpenClaim := { program := "ytklnpooninbogaagreat", sum := "461700739111f495d225449b1ba3b2b3f9cfdee99a0164afd79ac868a2cdec42", func := "treadwheel/treadwheellaw18.CycleSafe", spec := "cycleSafe", inPlace := ["sync/atomic.AddInt64", "slices.overlaps[[2]int]"], unfollowed := true, recurses := true, apart := false, narrowed := true }
def CycleSafeUptoSaid : Prop := cycleSafeUptoRow.holds Tryz.pinned (OpenSpec.upto cycleSafeSpec)

end Rows
end Go.Proofs.YtklnpooninbogaaGreat
