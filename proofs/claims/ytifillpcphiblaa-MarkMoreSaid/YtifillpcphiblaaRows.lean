/-
  No cell of these rows narrows 'for every input' (looked for: loops, veiled, ifaces, maps, wideKeys, modest, calm, conditions, laid).
  DERIVED. THE GIVEN ROWS OF THIS SEAT. 13 by the template 'for every input the law returns true; each argument reads behind the call as it read before'; 0 by the template 'total and deterministic' (their statements: YtifillpcphiblaaTotals.lean).
  GIVEN WITH THE SEED: the statements are not yours to turn. If you find one false, say at which input.
  Laid BY PROGRAM, IN A SANDBOX (cutbox-rows.mjs): the forced cells as the released guide's own fill.sh prints them over the translation 93d26010f4836811… (all of the seat's roots in one cut). By AI agents, Wed Nov 11 2026. No macro, syntax, notation, axiom, sorry.
-/
import Derived.Test.YtifillpcphiblaaChecked
import GoSem.Claim
import GoSem.ClaimJoined
import GoSem.ClaimMapViews
import Derived.JoinedTies
import Derived.KernelRfl
namespace Go.Proofs.Ytifillpcphiblaa
/- THE CELL 'sum', in the pinned program and in every row, IS THE sha256 OF THE DUMP (.gsa) THAT YtifillpcphiblaaProg.lean LOADS. Nothing in Lean hashes anything: it is a label: what it is worth is what the hold of that sum in a sandbox is worth. -/
noncomputable def Try.pinned : Pinned := { name := "ytifillpcphiblaa", sum := "93d26010f48368118589b245bd502c32a1ceddb21036f257777a5baab4796a14", checked := Try.checked }
namespace Rows
def none {H : Type} : Left H := { results := [], args := [] }

/-- 'treadwheellaw06.HeapRounds': WHATEVER THE INPUT: true; the input reads as it did. -/
def heapRoundsSpec : ChangeSpec := { name := "heapRounds", fn := fun _ => fun
  | [d1, d2] => { results := [.lit (.bool true)], args := [d1, d2] }
  | _ => none }
def heapRoundsRow : OpenClaim := { program := "ytifillpcphiblaa", sum := "93d26010f48368118589b245bd502c32a1ceddb21036f257777a5baab4796a14", func := "treadwheel/treadwheellaw06.HeapRounds", spec := "heapRounds", inPlace := ["sync/atomic.AddInt64"], unfollowed := true, recurses := true, apart := false }
def HeapRoundsSaid : Prop := heapRoundsRow.holds Try.pinned (OpenSpec.ofChange heapRoundsSpec)

/-- ITS FALSE NEIGHBOUR: 'it returns false'. Refute it at one input. -/
def heapRoundsWrong : ChangeSpec := { name := "heapRounds", fn := fun _ => fun
  | [d1, d2] => { results := [.lit (.bool false)], args := [d1, d2] }
  | _ => none }
def HeapRoundsWrongFalsely : Prop := heapRoundsRow.holds Try.pinned (OpenSpec.ofChange heapRoundsWrong)

/-- 'treadwheellaw06.HeapKeeps': WHATEVER THE INPUT: true; the input reads as it did. -/
def heapKeepsSpec : ChangeSpec := { name := "heapKeeps", fn := fun _ => fun
  | [d1, d2, d3, d4, d5, d6] => { results := [.lit (.bool true)], args := [d1, d2, d3, d4, d5, d6] }
  | _ => none }
def heapKeepsRow : OpenClaim := { program := "ytifillpcphiblaa", sum := "93d26010f48368118589b245bd502c32a1ceddb21036f257777a5baab4796a14", func := "treadwheel/treadwheellaw06.HeapKeeps", spec := "heapKeeps", inPlace := ["sync/atomic.AddInt64"], unfollowed := true, recurses := true, apart := false }
def HeapKeepsSaid : Prop := heapKeepsRow.holds Try.pinned (OpenSpec.ofChange heapKeepsSpec)

/-- ITS FALSE NEIGHBOUR: 'it returns false'. Refute it at one input. -/
def heapKeepsWrong : ChangeSpec := { name := "heapKeeps", fn := fun _ => fun
  | [d1, d2, d3, d4, d5, d6] => { results := [.lit (.bool false)], args := [d1, d2, d3, d4, d5, d6] }
  | _ => none }
def HeapKeepsWrongFalsely : Prop := heapKeepsRow.holds Try.pinned (OpenSpec.ofChange heapKeepsWrong)

/-- 'treadwheellaw06.HeapCollects': WHATEVER THE INPUT: true; the input reads as it did. -/
def heapCollectsSpec : ChangeSpec := { name := "heapCollects", fn := fun _ => fun
  | [d1, d2, d3] => { results := [.lit (.bool true)], args := [d1, d2, d3] }
  | _ => none }
def heapCollectsRow : OpenClaim := { program := "ytifillpcphiblaa", sum := "93d26010f48368118589b245bd502c32a1ceddb21036f257777a5baab4796a14", func := "treadwheel/treadwheellaw06.HeapCollects", spec := "heapCollects", inPlace := ["sync/atomic.AddInt64"], unfollowed := true, recurses := true, apart := false }
def HeapCollectsSaid : Prop := heapCollectsRow.holds Try.pinned (OpenSpec.ofChange heapCollectsSpec)

/-- ITS FALSE NEIGHBOUR: 'it returns false'. Refute it at one input. -/
def heapCollectsWrong : ChangeSpec := { name := "heapCollects", fn := fun _ => fun
  | [d1, d2, d3] => { results := [.lit (.bool false)], args := [d1, d2, d3] }
  | _ => none }
def HeapCollectsWrongFalsely : Prop := heapCollectsRow.holds Try.pinned (OpenSpec.ofChange heapCollectsWrong)

/-- 'treadwheellaw17.WeakBuries': WHATEVER THE INPUT: true; the input reads as it did. -/
def weakBuriesSpec : ChangeSpec := { name := "weakBuries", fn := fun _ => fun
  | [d1, d2] => { results := [.lit (.bool true)], args := [d1, d2] }
  | _ => none }
def weakBuriesRow : OpenClaim := { program := "ytifillpcphiblaa", sum := "93d26010f48368118589b245bd502c32a1ceddb21036f257777a5baab4796a14", func := "treadwheel/treadwheellaw17.WeakBuries", spec := "weakBuries", inPlace := ["sync/atomic.AddInt64"], unfollowed := true, recurses := true, apart := false }
def WeakBuriesSaid : Prop := weakBuriesRow.holds Try.pinned (OpenSpec.ofChange weakBuriesSpec)

/-- ITS FALSE NEIGHBOUR: 'it returns false'. Refute it at one input. -/
def weakBuriesWrong : ChangeSpec := { name := "weakBuries", fn := fun _ => fun
  | [d1, d2] => { results := [.lit (.bool false)], args := [d1, d2] }
  | _ => none }
def WeakBuriesWrongFalsely : Prop := weakBuriesRow.holds Try.pinned (OpenSpec.ofChange weakBuriesWrong)

/-- 'treadwheellaw17.WeakKeeps': WHATEVER THE INPUT: true; the input reads as it did. -/
def weakKeepsSpec : ChangeSpec := { name := "weakKeeps", fn := fun _ => fun
  | [d1, d2] => { results := [.lit (.bool true)], args := [d1, d2] }
  | _ => none }
def weakKeepsRow : OpenClaim := { program := "ytifillpcphiblaa", sum := "93d26010f48368118589b245bd502c32a1ceddb21036f257777a5baab4796a14", func := "treadwheel/treadwheellaw17.WeakKeeps", spec := "weakKeeps", inPlace := ["sync/atomic.AddInt64"], unfollowed := true, recurses := true, apart := false }
def WeakKeepsSaid : Prop := weakKeepsRow.holds Try.pinned (OpenSpec.ofChange weakKeepsSpec)

/-- ITS FALSE NEIGHBOUR: 'it returns false'. Refute it at one input. -/
def weakKeepsWrong : ChangeSpec := { name := "weakKeeps", fn := fun _ => fun
  | [d1, d2] => { results := [.lit (.bool false)], args := [d1, d2] }
  | _ => none }
def WeakKeepsWrongFalsely : Prop := weakKeepsRow.holds Try.pinned (OpenSpec.ofChange weakKeepsWrong)

/-- 'treadwheellaw17.WeakLate': WHATEVER THE INPUT: true; the input reads as it did. -/
def weakLateSpec : ChangeSpec := { name := "weakLate", fn := fun _ => fun
  | [d1, d2, d3] => { results := [.lit (.bool true)], args := [d1, d2, d3] }
  | _ => none }
def weakLateRow : OpenClaim := { program := "ytifillpcphiblaa", sum := "93d26010f48368118589b245bd502c32a1ceddb21036f257777a5baab4796a14", func := "treadwheel/treadwheellaw17.WeakLate", spec := "weakLate", inPlace := ["sync/atomic.AddInt64"], unfollowed := true, recurses := true, apart := false }
def WeakLateSaid : Prop := weakLateRow.holds Try.pinned (OpenSpec.ofChange weakLateSpec)

/-- ITS FALSE NEIGHBOUR: 'it returns false'. Refute it at one input. -/
def weakLateWrong : ChangeSpec := { name := "weakLate", fn := fun _ => fun
  | [d1, d2, d3] => { results := [.lit (.bool false)], args := [d1, d2, d3] }
  | _ => none }
def WeakLateWrongFalsely : Prop := weakLateRow.holds Try.pinned (OpenSpec.ofChange weakLateWrong)

/-- 'treadwheellaw17.WeakPlays': WHATEVER THE INPUT: true; the input reads as it did. -/
def weakPlaysSpec : ChangeSpec := { name := "weakPlays", fn := fun _ => fun
  | [d] => { results := [.lit (.bool true)], args := [d] }
  | _ => none }
def weakPlaysRow : OpenClaim := { program := "ytifillpcphiblaa", sum := "93d26010f48368118589b245bd502c32a1ceddb21036f257777a5baab4796a14", func := "treadwheel/treadwheellaw17.WeakPlays", spec := "weakPlays", inPlace := ["sync/atomic.AddInt64"], unfollowed := true, recurses := true, apart := false }
def WeakPlaysSaid : Prop := weakPlaysRow.holds Try.pinned (OpenSpec.ofChange weakPlaysSpec)

/-- ITS FALSE NEIGHBOUR: 'it returns false'. Refute it at one input. -/
def weakPlaysWrong : ChangeSpec := { name := "weakPlays", fn := fun _ => fun
  | [d] => { results := [.lit (.bool false)], args := [d] }
  | _ => none }
def WeakPlaysWrongFalsely : Prop := weakPlaysRow.holds Try.pinned (OpenSpec.ofChange weakPlaysWrong)

/-- 'treadwheellaw17.WeakUses': WHATEVER THE INPUT: true; the input reads as it did. -/
def weakUsesSpec : ChangeSpec := { name := "weakUses", fn := fun _ => fun
  | [d1, d2, d3] => { results := [.lit (.bool true)], args := [d1, d2, d3] }
  | _ => none }
def weakUsesRow : OpenClaim := { program := "ytifillpcphiblaa", sum := "93d26010f48368118589b245bd502c32a1ceddb21036f257777a5baab4796a14", func := "treadwheel/treadwheellaw17.WeakUses", spec := "weakUses", inPlace := ["sync/atomic.AddInt64", "sync/atomic.LoadInt64"], unfollowed := true, recurses := true, apart := false }
def WeakUsesSaid : Prop := weakUsesRow.holds Try.pinned (OpenSpec.ofChange weakUsesSpec)

/-- ITS FALSE NEIGHBOUR: 'it returns false'. Refute it at one input. -/
def weakUsesWrong : ChangeSpec := { name := "weakUses", fn := fun _ => fun
  | [d1, d2, d3] => { results := [.lit (.bool false)], args := [d1, d2, d3] }
  | _ => none }
def WeakUsesWrongFalsely : Prop := weakUsesRow.holds Try.pinned (OpenSpec.ofChange weakUsesWrong)

/-- 'treadwheellaw06.HeapFills': WHATEVER THE INPUT: true; the input reads as it did. -/
def heapFillsSpec : ChangeSpec := { name := "heapFills", fn := fun _ => fun
  | [d1, d2] => { results := [.lit (.bool true)], args := [d1, d2] }
  | _ => none }
def heapFillsRow : OpenClaim := { program := "ytifillpcphiblaa", sum := "93d26010f48368118589b245bd502c32a1ceddb21036f257777a5baab4796a14", func := "treadwheel/treadwheellaw06.HeapFills", spec := "heapFills", inPlace := ["sync/atomic.AddInt64", "slices.overlaps[[2]int]"], unfollowed := true, recurses := true, apart := false }
def HeapFillsSaid : Prop := heapFillsRow.holds Try.pinned (OpenSpec.ofChange heapFillsSpec)

/-- ITS FALSE NEIGHBOUR: 'it returns false'. Refute it at one input. -/
def heapFillsWrong : ChangeSpec := { name := "heapFills", fn := fun _ => fun
  | [d1, d2] => { results := [.lit (.bool false)], args := [d1, d2] }
  | _ => none }
def HeapFillsWrongFalsely : Prop := heapFillsRow.holds Try.pinned (OpenSpec.ofChange heapFillsWrong)

/-- 'treadwheellaw16.MarkReaches': WHATEVER THE INPUT: true; the input reads as it did. -/
def markReachesSpec : ChangeSpec := { name := "markReaches", fn := fun _ => fun
  | [d1, d2, d3, d4] => { results := [.lit (.bool true)], args := [d1, d2, d3, d4] }
  | _ => none }
def markReachesRow : OpenClaim := { program := "ytifillpcphiblaa", sum := "93d26010f48368118589b245bd502c32a1ceddb21036f257777a5baab4796a14", func := "treadwheel/treadwheellaw16.MarkReaches", spec := "markReaches", inPlace := ["sync/atomic.AddInt64"], unfollowed := true, recurses := true, apart := false }
def MarkReachesSaid : Prop := markReachesRow.holds Try.pinned (OpenSpec.ofChange markReachesSpec)

/-- ITS FALSE NEIGHBOUR: 'it returns false'. Refute it at one input. -/
def markReachesWrong : ChangeSpec := { name := "markReaches", fn := fun _ => fun
  | [d1, d2, d3, d4] => { results := [.lit (.bool false)], args := [d1, d2, d3, d4] }
  | _ => none }
def MarkReachesWrongFalsely : Prop := markReachesRow.holds Try.pinned (OpenSpec.ofChange markReachesWrong)

/-- 'treadwheellaw16.MarkMore': WHATEVER THE INPUT: true; the input reads as it did. -/
def markMoreSpec : ChangeSpec := { name := "markMore", fn := fun _ => fun
  | [d1, d2, d3, d4] => { results := [.lit (.bool true)], args := [d1, d2, d3, d4] }
  | _ => none }
def markMoreRow : OpenClaim := { program := "ytifillpcphiblaa", sum := "93d26010f48368118589b245bd502c32a1ceddb21036f257777a5baab4796a14", func := "treadwheel/treadwheellaw16.MarkMore", spec := "markMore", inPlace := ["sync/atomic.AddInt64"], unfollowed := true, recurses := true, apart := false }
def MarkMoreSaid : Prop := markMoreRow.holds Try.pinned (OpenSpec.ofChange markMoreSpec)

/-- ITS FALSE NEIGHBOUR: 'it returns false'. Refute it at one input. -/
def markMoreWrong : ChangeSpec := { name := "markMore", fn := fun _ => fun
  | [d1, d2, d3, d4] => { results := [.lit (.bool false)], args := [d1, d2, d3, d4] }
  | _ => none }
def MarkMoreWrongFalsely : Prop := markMoreRow.holds Try.pinned (OpenSpec.ofChange markMoreWrong)

/-- 'treadwheellaw16.MarkOnce': WHATEVER THE INPUT: true; the input reads as it did. -/
def markOnceSpec : ChangeSpec := { name := "markOnce", fn := fun _ => fun
  | [d1, d2, d3] => { results := [.lit (.bool true)], args := [d1, d2, d3] }
  | _ => none }
def markOnceRow : OpenClaim := { program := "ytifillpcphiblaa", sum := "93d26010f48368118589b245bd502c32a1ceddb21036f257777a5baab4796a14", func := "treadwheel/treadwheellaw16.MarkOnce", spec := "markOnce", inPlace := ["sync/atomic.AddInt64"], unfollowed := true, recurses := true, apart := false }
def MarkOnceSaid : Prop := markOnceRow.holds Try.pinned (OpenSpec.ofChange markOnceSpec)

/-- ITS FALSE NEIGHBOUR: 'it returns false'. Refute it at one input. -/
def markOnceWrong : ChangeSpec := { name := "markOnce", fn := fun _ => fun
  | [d1, d2, d3] => { results := [.lit (.bool false)], args := [d1, d2, d3] }
  | _ => none }
def MarkOnceWrongFalsely : Prop := markOnceRow.holds Try.pinned (OpenSpec.ofChange markOnceWrong)

/-- 'treadwheellaw16.MarkKeeps': WHATEVER THE INPUT: true; the input reads as it did. -/
def markKeepsSpec : ChangeSpec := { name := "markKeeps", fn := fun _ => fun
  | [d1, d2, d3, d4, d5] => { results := [.lit (.bool true)], args := [d1, d2, d3, d4, d5] }
  | _ => none }
def markKeepsRow : OpenClaim := { program := "ytifillpcphiblaa", sum := "93d26010f48368118589b245bd502c32a1ceddb21036f257777a5baab4796a14", func := "treadwheel/treadwheellaw16.MarkKeeps", spec := "markKeeps", inPlace := ["sync/atomic.AddInt64"], unfollowed := true, recurses := true, apart := false }
def MarkKeepsSaid : Prop := markKeepsRow.holds Try.pinned (OpenSpec.ofChange markKeepsSpec)

/-- ITS FALSE NEIGHBOUR: 'it returns false'. Refute it at one input. -/
def markKeepsWrong : ChangeSpec := { name := "markKeeps", fn := fun _ => fun
  | [d1, d2, d3, d4, d5] => { results := [.lit (.bool false)], args := [d1, d2, d3, d4, d5] }
  | _ => none }
def MarkKeepsWrongFalsely : Prop := markKeepsRow.holds Try.pinned (OpenSpec.ofChange markKeepsWrong)

/- THE SECOND FORM. 'bulk': how many values and letters a reading holds, each counted each time it is reached (what is shared counts as often as it is met; a slice's spare places count too). A statement '..UptoSaid' is the law's where the arguments, and the package variables that the reading takes, are together of bulk at most 1048576: NARROWER than '..Said'. Prove '..Said' where nothing that the law and all that it calls make is longer than what came in: it says more and counts as full. Else prove '..UptoSaid'. A law counts once. -/
mutual
def uptoBulk {H : Type} : DataW H → Nat
  | .lit (.string bytes) => bytes.length + 1
  | .lit _ => 1
  | .nil => 1
  | .ptr d => uptoBulk d + 1
  | .slice elems spare => uptoBulkAll elems + uptoBulkAll spare + 1
  | .agg parts => uptoBulkAll parts + 1
  | .iface _ d => uptoBulk d + 1
  | .map entries => uptoBulkEntries entries + 1
  | .held _ => 1
def uptoBulkAll {H : Type} : List (DataW H) → Nat
  | [] => 0
  | d :: r => uptoBulk d + uptoBulkAll r
def uptoBulkEntries {H : Type} : List (Lit × DataW H) → Nat
  | [] => 0
  | x :: r => uptoBulkEntry x + uptoBulkEntries r
def uptoBulkEntry {H : Type} : Lit × DataW H → Nat
  | (.string bytes, d) => bytes.length + uptoBulk d + 1
  | (_, d) => uptoBulk d + 1
 end
def uptoSmall : (H : Type) → List (DataW H) → Bool := fun _ ds => decide (uptoBulkAll ds ≤ 1048576)
def OpenSpec.upto (s : _root_.Go.ChangeSpec) : _root_.Go.OpenSpec := { _root_.Go.OpenSpec.ofChange s with cond := some uptoSmall }

/-- 'treadwheellaw06.HeapRounds', WHERE WHAT IT READS IS OF BULK AT MOST 1048576: true; the input reads as it did. -/
def heapRoundsUptoRow : OpenClaim := { program := "ytifillpcphiblaa", sum := "93d26010f48368118589b245bd502c32a1ceddb21036f257777a5baab4796a14", func := "treadwheel/treadwheellaw06.HeapRounds", spec := "heapRounds", inPlace := ["sync/atomic.AddInt64"], unfollowed := true, recurses := true, apart := false, narrowed := true }
def HeapRoundsUptoSaid : Prop := heapRoundsUptoRow.holds Try.pinned (OpenSpec.upto heapRoundsSpec)

/-- 'treadwheellaw06.HeapKeeps', WHERE WHAT IT READS IS OF BULK AT MOST 1048576: true; the input reads as it did. -/
def heapKeepsUptoRow : OpenClaim := { program := "ytifillpcphiblaa", sum := "93d26010f48368118589b245bd502c32a1ceddb21036f257777a5baab4796a14", func := "treadwheel/treadwheellaw06.HeapKeeps", spec := "heapKeeps", inPlace := ["sync/atomic.AddInt64"], unfollowed := true, recurses := true, apart := false, narrowed := true }
def HeapKeepsUptoSaid : Prop := heapKeepsUptoRow.holds Try.pinned (OpenSpec.upto heapKeepsSpec)

/-- 'treadwheellaw06.HeapCollects', WHERE WHAT IT READS IS OF BULK AT MOST 1048576: true; the input reads as it did. -/
def heapCollectsUptoRow : OpenClaim := { program := "ytifillpcphiblaa", sum := "93d26010f48368118589b245bd502c32a1ceddb21036f257777a5baab4796a14", func := "treadwheel/treadwheellaw06.HeapCollects", spec := "heapCollects", inPlace := ["sync/atomic.AddInt64"], unfollowed := true, recurses := true, apart := false, narrowed := true }
def HeapCollectsUptoSaid : Prop := heapCollectsUptoRow.holds Try.pinned (OpenSpec.upto heapCollectsSpec)

/-- 'treadwheellaw17.WeakBuries', WHERE WHAT IT READS IS OF BULK AT MOST 1048576: true; the input reads as it did. -/
def weakBuriesUptoRow : OpenClaim := { program := "ytifillpcphiblaa", sum := "93d26010f48368118589b245bd502c32a1ceddb21036f257777a5baab4796a14", func := "treadwheel/treadwheellaw17.WeakBuries", spec := "weakBuries", inPlace := ["sync/atomic.AddInt64"], unfollowed := true, recurses := true, apart := false, narrowed := true }
def WeakBuriesUptoSaid : Prop := weakBuriesUptoRow.holds Try.pinned (OpenSpec.upto weakBuriesSpec)

/-- 'treadwheellaw17.WeakKeeps', WHERE WHAT IT READS IS OF BULK AT MOST 1048576: true; the input reads as it did. -/
def weakKeepsUptoRow : OpenClaim := { program := "ytifillpcphiblaa", sum := "93d26010f48368118589b245bd502c32a1ceddb21036f257777a5baab4796a14", func := "treadwheel/treadwheellaw17.WeakKeeps", spec := "weakKeeps", inPlace := ["sync/atomic.AddInt64"], unfollowed := true, recurses := true, apart := false, narrowed := true }
def WeakKeepsUptoSaid : Prop := weakKeepsUptoRow.holds Try.pinned (OpenSpec.upto weakKeepsSpec)

/-- 'treadwheellaw17.WeakLate', WHERE WHAT IT READS IS OF BULK AT MOST 1048576: true; the input reads as it did. -/
def weakLateUptoRow : OpenClaim := { program := "ytifillpcphiblaa", sum := "93d26010f48368118589b245bd502c32a1ceddb21036f257777a5baab4796a14", func := "treadwheel/treadwheellaw17.WeakLate", spec := "weakLate", inPlace := ["sync/atomic.AddInt64"], unfollowed := true, recurses := true, apart := false, narrowed := true }
def WeakLateUptoSaid : Prop := weakLateUptoRow.holds Try.pinned (OpenSpec.upto weakLateSpec)

/-- 'treadwheellaw17.WeakPlays', WHERE WHAT IT READS IS OF BULK AT MOST 1048576: true; the input reads as it did. -/
def weakPlaysUptoRow : OpenClaim := { program := "ytifillpcphiblaa", sum := "93d26010f48368118589b245bd502c32a1ceddb21036f257777a5baab4796a14", func := "treadwheel/treadwheellaw17.WeakPlays", spec := "weakPlays", inPlace := ["sync/atomic.AddInt64"], unfollowed := true, recurses := true, apart := false, narrowed := true }
def WeakPlaysUptoSaid : Prop := weakPlaysUptoRow.holds Try.pinned (OpenSpec.upto weakPlaysSpec)

/-- 'treadwheellaw17.WeakUses', WHERE WHAT IT READS IS OF BULK AT MOST 1048576: true; the input reads as it did. -/
def weakUsesUptoRow : OpenClaim := { program := "ytifillpcphiblaa", sum := "93d26010f48368118589b245bd502c32a1ceddb21036f257777a5baab4796a14", func := "treadwheel/treadwheellaw17.WeakUses", spec := "weakUses", inPlace := ["sync/atomic.AddInt64", "sync/atomic.LoadInt64"], unfollowed := true, recurses := true, apart := false, narrowed := true }
def WeakUsesUptoSaid : Prop := weakUsesUptoRow.holds Try.pinned (OpenSpec.upto weakUsesSpec)

/-- 'treadwheellaw06.HeapFills', WHERE WHAT IT READS IS OF BULK AT MOST 1048576: true; the input reads as it did. -/
def heapFillsUptoRow : OpenClaim := { program := "ytifillpcphiblaa", sum := "93d26010f48368118589b245bd502c32a1ceddb21036f257777a5baab4796a14", func := "treadwheel/treadwheellaw06.HeapFills", spec := "heapFills", inPlace := ["sync/atomic.AddInt64", "slices.overlaps[[2]int]"], unfollowed := true, recurses := true, apart := false, narrowed := true }
def HeapFillsUptoSaid : Prop := heapFillsUptoRow.holds Try.pinned (OpenSpec.upto heapFillsSpec)

/-- 'treadwheellaw16.MarkReaches', WHERE WHAT IT READS IS OF BULK AT MOST 1048576: true; the input reads as it did. -/
def markReachesUptoRow : OpenClaim := { program := "ytifillpcphiblaa", sum := "93d26010f48368118589b245bd502c32a1ceddb21036f257777a5baab4796a14", func := "treadwheel/treadwheellaw16.MarkReaches", spec := "markReaches", inPlace := ["sync/atomic.AddInt64"], unfollowed := true, recurses := true, apart := false, narrowed := true }
def MarkReachesUptoSaid : Prop := markReachesUptoRow.holds Try.pinned (OpenSpec.upto markReachesSpec)

/-- 'treadwheellaw16.MarkMore', WHERE WHAT IT READS IS OF BULK AT MOST 1048576: true; the input reads as it did. -/
def markMoreUptoRow : OpenClaim := { program := "ytifillpcphiblaa", sum := "93d26010f48368118589b245bd502c32a1ceddb21036f257777a5baab4796a14", func := "treadwheel/treadwheellaw16.MarkMore", spec := "markMore", inPlace := ["sync/atomic.AddInt64"], unfollowed := true, recurses := true, apart := false, narrowed := true }
def MarkMoreUptoSaid : Prop := markMoreUptoRow.holds Try.pinned (OpenSpec.upto markMoreSpec)

/-- 'treadwheellaw16.MarkOnce', WHERE WHAT IT READS IS OF BULK AT MOST 1048576: true; the input reads as it did. -/
def markOnceUptoRow : OpenClaim := { program := "ytifillpcphiblaa", sum := "93d26010f48368118589b245bd502c32a1ceddb21036f257777a5baab4796a14", func := "treadwheel/treadwheellaw16.MarkOnce", spec := "markOnce", inPlace := ["sync/atomic.AddInt64"], unfollowed := true, recurses := true, apart := false, narrowed := true }
def MarkOnceUptoSaid : Prop := markOnceUptoRow.holds Try.pinned (OpenSpec.upto markOnceSpec)

/-- 'treadwheellaw16.MarkKeeps', WHERE WHAT IT READS IS OF BULK AT MOST 1048576: true; the input reads as it did. -/
def markKeepsUptoRow : OpenClaim := { program := "ytifillpcphiblaa", sum := "93d26010f48368118589b245bd502c32a1ceddb21036f257777a5baab4796a14", func := "treadwheel/treadwheellaw16.MarkKeeps", spec := "markKeeps", inPlace := ["sync/atomic.AddInt64"], unfollowed := true, recurses := true, apart := false, narrowed := true }
def MarkKeepsUptoSaid : Prop := markKeepsUptoRow.holds Try.pinned (OpenSpec.upto markKeepsSpec)

end Rows
end Go.Proofs.Ytifillpcphiblaa
