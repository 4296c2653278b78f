import Derived.Test.YtifillpcphiblaaRingShade
namespace Go.Proofs.Ytifillpcphiblaa
open Go Go.Proofs Go.RowKit

set_option maxHeartbeats 800000 in
theorem rBegin (rb ab : Nat) (r : RS) (w : World) (hR : RRep w rb ab r) (h1 : r.f = 0) (h2 : r.g = 0) :
    Calls Try.prog 80 #[.pointer (some ⟨rb, 0, none⟩)] w fun e w' => e = .returned (.int .i64 0) ∧ RRep w' rb ab { r with black := r.first, f := r.b, b := 0 } ∧ Fr [rb] w w' := by
  obtain ⟨c0, c1, c2, c3, c4, c5, c6⟩ := hR.reads
  obtain ⟨z1, z2, z3, z4, z5, z6⟩ := hR.free
  have hle := hR.le
  unfold RS.tot at hle
  rw [h1] at c4
  rw [h2] at c5
  have H1 := hid h1
  have H2 := hid h2
  clear h1 h2
  go_enter Try.func80, Try.ntmps80
  go_wp2_with fail
  go_quiet (fail)
  go_wp2_with fail
  go_region
  go_wp2_with fail
  go_ret
  refine ⟨rfl, ⟨?_, ?_⟩, ?_⟩
  · have := ((((hR.s.drewN nq).drew.set 4 (.int .i64 r.b)).set 6 (.int .i64 0)).set 2 (.int .i64 r.first))
    simpa [RS.cells, H2.out] using this
  · simp only [RS.tot]; omega
  · exact (((((Fr.refl _ w).drewN nq).drew).set (by simp) _).set (by simp) _).set (by simp) _

set_option maxHeartbeats 800000 in
theorem rEnd (rb ab : Nat) (r : RS) (w : World) (hR : RRep w rb ab r) (h2 : r.g = 0) :
    Calls Try.prog 87 #[.pointer (some ⟨rb, 0, none⟩)] w fun e w' => e = .returned (.int .i64 0) ∧ RRep w' rb ab { r with w := r.w + r.f, f := 0 } ∧ Fr [rb] w w' := by
  obtain ⟨c0, c1, c2, c3, c4, c5, c6⟩ := hR.reads
  obtain ⟨z1, z2, z3, z4, z5, z6⟩ := hR.free
  have hle := hR.le
  unfold RS.tot at hle
  rw [h2] at c5
  have H2 := hid h2
  clear h2
  go_enter Try.func87, Try.ntmps87
  go_wp2_with fail
  go_region
  go_wp2_with fail
  go_ret
  refine ⟨rfl, ⟨?_, ?_⟩, ?_⟩
  · have := (((hR.s.set 3 (.int .i64 ((r.w : Int) + r.f))).set 4 (.int .i64 0))).drew
    simpa [RS.cells, H2.out] using this
  · simp only [RS.tot]; omega
  · exact (((Fr.refl _ w).set (by simp) _).set (by simp) _).drew

theorem rCounts (rb ab : Nat) (r : RS) (w : World) (hR : RRep w rb ab r) :
    Calls Try.prog 121 #[.pointer (some ⟨rb, 0, none⟩)] w fun e w' => e = .returned (.agg #[.int .i64 r.w, .int .i64 r.f, .int .i64 r.g, .int .i64 r.b]) ∧ Fr [] w w' := by
  obtain ⟨c0, c1, c2, c3, c4, c5, c6⟩ := hR.reads
  have l := hR.s.lt
  go_enter Try.func121, Try.ntmps121
  go_wp2_with fail
  exact bodyPost_ret (v := .agg #[.int .i64 r.w, .int .i64 r.f, .int .i64 r.g, .int .i64 r.b]) (by simp [results, Try.results121, go_sem]) rfl ⟨rfl, (Fr.refl _ w).alloc _⟩

theorem rDropNone (rb ab : Nat) (r : RS) (w : World) (hR : RRep w rb ab r) (h : r.w = 0) :
    Calls Try.prog 101 #[.pointer (some ⟨rb, 0, none⟩)] w fun e w' => e = .returned (.tuple #[.int .i64 0, .int .i64 2]) ∧ w = w' := by
  obtain ⟨-, -, -, c3, -, -, -⟩ := hR.reads
  rw [h] at c3
  clear h
  go_enter Try.func101, Try.ntmps101
  go_wp2_with fail
  go_ret2
  exact ⟨rfl, rfl⟩

def RS.dropped (ws : List Int) (r : RS) : RS := { r with first := gw ws (r.first + 1), black := if r.black = r.first then gw ws (r.first + 1) else r.black, w := r.w - 1 }

set_option maxHeartbeats 1600000 in
theorem rDrop (rb ab wb : Nat) (r : RS) (ws : List Int) (u : Int) (w : World) (hR : RRep w rb ab r) (hA : ARep w ab wb ws u) (h : 1 ≤ r.w) (hc : Okc ws r.first) (hp : Okc ws (gw ws (r.first + 2))) (hq : Okc ws (gw ws (r.first + 1))) (n1 : rb ≠ ab) (n2 : rb ≠ wb) :
    Calls Try.prog 101 #[.pointer (some ⟨rb, 0, none⟩)] w fun e w' => e = .returned (.tuple #[.int .i64 r.first, .int .i64 0]) ∧ ARep w' ab wb (ct ws r.first) (u + 4) ∧ RRep w' rb ab (r.dropped ws) ∧ Fr [ab, wb, rb] w w' := by
  obtain ⟨-, c1, -, c3, -, -, -⟩ := hR.reads
  have hle := hR.le
  have h' : ¬ (r.w : Int) = 0 := by omega
  have hw : r.w ≤ 65536 := by unfold RS.tot at hle; omega
  have Hw := hid h
  by_cases hb : r.black = r.first
  all_goals
    have Hb := hid hb
    have f1 : (r.black ≤ r.first ∧ r.first ≤ r.black) ∨ ¬ r.black = r.first := by omega
    clear hb
    go_enter Try.func101, Try.ntmps101
    go_wp2_with fail
    refine (rCut rb ab wb r ws u r.first _ hR hA hc hp hq n1 n2).mono ?_
    rintro e w2 ⟨rfl, hA2, hF2⟩
    have hR2 := hR.fr hF2 (by simp [n1, n2])
    have hF : Fr [ab, wb, rb] w w2 := hF2.here (by simp)
    obtain ⟨d0, d1, d2, d3, d4, d5, d6⟩ := hR2.reads
    obtain ⟨z1, z2, z3, z4, z5, z6⟩ := hR2.free
    clear c1 c3
  · have f2 : r.black ≤ r.first ∧ r.first ≤ r.black := by have := Hb.out; omega
    clear f1
    go_wp2_with fail
    go_region
    go_wp2_with fail
    go_ret2
    refine ⟨rfl, ?_, ⟨?_, ?_⟩, ?_⟩
    · exact (((hA2.other (Ne.symm n1) (Ne.symm n2) _).other (Ne.symm n1) (Ne.symm n2) _).other (Ne.symm n1) (Ne.symm n2) _).drew
    · have := ((((hR2.s.set 1 (.int .i64 (gw ws (r.first + 1)))).set 2 (.int .i64 (gw ws (r.first + 1))))).set 3 (.int .i64 ((r.w : Int) - 1))).drew
      have e : ((r.w - 1 : Nat) : Int) = (r.w : Int) - 1 := by have := Hw.out; omega
      simpa [RS.cells, RS.dropped, Hb.out, e] using this
    · simp only [RS.tot, RS.dropped] at *; omega
    · exact (((hF.set (by simp) _).set (by simp) _).set (by simp) _).drew
  · have f2 : ¬ r.black = r.first := Hb.out
    clear f1
    go_wp2_with fail
    go_region
    go_wp2_with fail
    go_ret2
    refine ⟨rfl, ?_, ⟨?_, ?_⟩, ?_⟩
    · exact ((hA2.other (Ne.symm n1) (Ne.symm n2) _).other (Ne.symm n1) (Ne.symm n2) _).drew
    · have := ((hR2.s.set 1 (.int .i64 (gw ws (r.first + 1)))).set 3 (.int .i64 ((r.w : Int) - 1))).drew
      have e : ((r.w - 1 : Nat) : Int) = (r.w : Int) - 1 := by have := Hw.out; omega
      simpa [RS.cells, RS.dropped, Hb.out, e] using this
    · simp only [RS.tot, RS.dropped] at *; omega
    · exact ((hF.set (by simp) _).set (by simp) _).drew

theorem rNew (ab : Nat) (w : World) :
    Calls Try.prog 66 #[.pointer (some ⟨ab, 0, none⟩)] w fun e w' => e = .returned (.pointer (some ⟨w.heap.size, 0, none⟩)) ∧ RRep w' w.heap.size ab ⟨0, 0, 0, 0, 0, 0⟩ ∧ Fr [] w w' ∧ w'.heap.size = w.heap.size + 1 := by
  go_enter Try.func66, Try.ntmps66
  go_wp2_with fail
  go_ret
  exact ⟨rfl, ⟨Blk.new w _ _, by simp [RS.tot]⟩, (Fr.refl _ w).alloc _, by simp⟩
end Go.Proofs.Ytifillpcphiblaa
