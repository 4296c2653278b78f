import Derived.Test.YtifillpcphiblaaWTake2
namespace Go.Proofs.Ytifillpcphiblaa
open Go Go.Proofs Go.RowKit

/-- A table that is new. -/
def TS.new : TS := { row := 0, first := 0, last := 0, walk := 0, ahead := 0, walking := false }

theorem tNew (hb bx : Nat) (w : World) :
    Calls Try.prog 89 #[.pointer (some ⟨hb, 0, none⟩), .func (.func 90) #[] #[.pointer (some ⟨bx, 0, none⟩)]] w fun e w' => e = .returned (.pointer (some ⟨w.heap.size, 0, none⟩)) ∧ TRep w' w.heap.size hb (shv bx) TS.new ∧ Fr [] w w' ∧ w'.heap.size = w.heap.size + 1 := by
  go_enter Try.func89, Try.ntmps89
  go_wp2_with fail
  go_ret
  refine ⟨rfl, ?_, (Fr.refl _ w).alloc _, by simp⟩
  exact Blk.new w (TS.new.cells hb (shv bx)) 151

theorem tRoots (tb hb : Nat) (sh : Value) (t : TS) (w : World) (hT : TRep w tb hb sh t) :
    Calls Try.prog 98 #[.pointer (some ⟨tb, 0, none⟩)] w fun e w' => ∃ g, e = .returned (.slice (some ⟨g, 0, none⟩) 2 2) ∧ w.heap.size ≤ g ∧ Blk w' g [.int .i64 t.row, .int .i64 t.first] 2 ∧ Fr [] w w' := by
  obtain ⟨-, -, c2, c3, -, -, -, -⟩ := hT.reads
  go_enter Try.func98, Try.ntmps98
  go_wp2_with fail
  go_region
  go_wp2_with fail
  go_ret
  exact ⟨w.heap.size, rfl, Nat.le_refl _, (Blk.new w [.int .i64 t.row, .int .i64 t.first] 2).drew, ((Fr.refl _ w).alloc _).drew⟩
end Go.Proofs.Ytifillpcphiblaa
