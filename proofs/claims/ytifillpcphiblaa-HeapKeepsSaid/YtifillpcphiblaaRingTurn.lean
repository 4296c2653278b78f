import Derived.Test.YtifillpcphiblaaRing
import Derived.RegionTactic
import Derived.ChangeAlike
namespace Go.Proofs.Ytifillpcphiblaa
open Go Go.Proofs Go.RowKit

set_option maxHeartbeats 800000 in
theorem rTurn03 (rb ab : Nat) (r : RS) (w : World) (hR : RRep w rb ab r) (h1 : 1 ≤ r.w) :
    Calls Try.prog 125 #[.pointer (some ⟨rb, 0, none⟩), .int .i64 0, .int .i64 3] w fun e w' => e = .returned (.tuple #[]) ∧ RRep w' rb ab { r with w := r.w - 1, b := r.b + 1 } ∧ Fr [rb] w w' := by
  obtain ⟨c0, c1, c2, c3, c4, c5, c6⟩ := hR.reads
  obtain ⟨z1, z2, z3, z4, z5, z6⟩ := hR.free
  have hle := hR.le
  unfold RS.tot at hle
  go_enter Try.func125, Try.ntmps125
  go_wp2_with fail
  go_region
  go_wp2_with fail
  go_region
  go_end0
  refine ⟨rfl, ⟨?_, ?_⟩, ?_⟩
  · have := ((hR.s.set 3 (.int .i64 ((r.w : Int) - 1))).set 6 (.int .i64 ((r.b : Int) + 1))).drew.drew
    have e : (((r.w - 1 : Nat)) : Int) = (r.w : Int) - 1 := by omega
    simpa [RS.cells, e] using this
  · simp only [RS.tot]; omega
  · exact ((((Fr.refl _ w).set (by simp) _).set (by simp) _).drew).drew

set_option maxHeartbeats 800000 in
theorem rTurn12 (rb ab : Nat) (r : RS) (w : World) (hR : RRep w rb ab r) (h1 : 1 ≤ r.f) :
    Calls Try.prog 125 #[.pointer (some ⟨rb, 0, none⟩), .int .i64 1, .int .i64 2] w fun e w' => e = .returned (.tuple #[]) ∧ RRep w' rb ab { r with f := r.f - 1, g := r.g + 1 } ∧ Fr [rb] w w' := by
  obtain ⟨c0, c1, c2, c3, c4, c5, c6⟩ := hR.reads
  obtain ⟨z1, z2, z3, z4, z5, z6⟩ := hR.free
  have hle := hR.le
  unfold RS.tot at hle
  go_enter Try.func125, Try.ntmps125
  go_wp2_with fail
  go_region
  go_wp2_with fail
  go_region
  go_end0
  refine ⟨rfl, ⟨?_, ?_⟩, ?_⟩
  · have := ((hR.s.set 4 (.int .i64 ((r.f : Int) - 1))).set 5 (.int .i64 ((r.g : Int) + 1))).drew.drew
    have e : (((r.f - 1 : Nat)) : Int) = (r.f : Int) - 1 := by omega
    simpa [RS.cells, e] using this
  · simp only [RS.tot]; omega
  · exact ((((Fr.refl _ w).set (by simp) _).set (by simp) _).drew).drew

set_option maxHeartbeats 800000 in
theorem rTurn23 (rb ab : Nat) (r : RS) (w : World) (hR : RRep w rb ab r) (h1 : 1 ≤ r.g) :
    Calls Try.prog 125 #[.pointer (some ⟨rb, 0, none⟩), .int .i64 2, .int .i64 3] w fun e w' => e = .returned (.tuple #[]) ∧ RRep w' rb ab { r with g := r.g - 1, b := r.b + 1 } ∧ Fr [rb] w w' := by
  obtain ⟨c0, c1, c2, c3, c4, c5, c6⟩ := hR.reads
  obtain ⟨z1, z2, z3, z4, z5, z6⟩ := hR.free
  have hle := hR.le
  unfold RS.tot at hle
  go_enter Try.func125, Try.ntmps125
  go_wp2_with fail
  go_region
  go_wp2_with fail
  go_region
  go_end0
  refine ⟨rfl, ⟨?_, ?_⟩, ?_⟩
  · have := ((hR.s.set 5 (.int .i64 ((r.g : Int) - 1))).set 6 (.int .i64 ((r.b : Int) + 1))).drew.drew
    have e : (((r.g - 1 : Nat)) : Int) = (r.g : Int) - 1 := by omega
    simpa [RS.cells, e] using this
  · simp only [RS.tot]; omega
  · exact ((((Fr.refl _ w).set (by simp) _).set (by simp) _).drew).drew
end Go.Proofs.Ytifillpcphiblaa
