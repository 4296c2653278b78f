import Derived.Test.YtklnpooninbogaaGreatDoorRing
import Derived.RegionTactic
import Derived.ChangeAlike
namespace Go.Proofs.YtklnpooninbogaaGreatDoor
open Go Go.Proofs Go.RowKit

set_option maxHeartbeats 800000 in
theorem rTurn03 (rb ab : Nat) (r : RS) (w : World) (hR : RRep w rb ab r) (h1 : 1 ≤ r.w) :
    Calls Tryz.prog 66 #[.pointer (some ⟨rb, 0, none⟩), .int .i64 0, .int .i64 3] w fun e w' => e = .returned (.tuple #[]) ∧ RRep w' rb ab { r with w := r.w - 1, b := r.b + 1 } ∧ Fr [rb] w w' := by
  obtain ⟨c0, c1, c2, c3, c4, c5, c6⟩ := hR.reads
  obtain ⟨z1, z2, z3, z4, z5, z6⟩ := hR.free
  have hle := hR.le
  unfold RS.tot at hle
  go_enter Tryz.func66, Tryz.ntmps66
  go_wp2_with fail
  go_region
  go_wp2_with fail
  go_region
  go_end0
  refine ⟨rfl, ⟨?_, ?_⟩, ?_⟩
  · have := ((hR.s.set 3 (.int .i64 ((r.w : Int) - 1))).set 6 (.int .i64 ((r.b : Int) + 1))).drew.drew
    have e : (((r.w - 1 : Nat)) : Int) = (r.w : Int) - 1 := by omega
    simpa [RS.cells, e] using this
  · simp only [RS.tot]; omega
  · exact ((((Fr.refl _ w).set (by simp) _).set (by simp) _).drew).drew

set_option maxHeartbeats 800000 in
theorem rTurn12 (rb ab : Nat) (r : RS) (w : World) (hR : RRep w rb ab r) (h1 : 1 ≤ r.f) :
    Calls Tryz.prog 66 #[.pointer (some ⟨rb, 0, none⟩), .int .i64 1, .int .i64 2] w fun e w' => e = .returned (.tuple #[]) ∧ RRep w' rb ab { r with f := r.f - 1, g := r.g + 1 } ∧ Fr [rb] w w' := by
  obtain ⟨c0, c1, c2, c3, c4, c5, c6⟩ := hR.reads
  obtain ⟨z1, z2, z3, z4, z5, z6⟩ := hR.free
  have hle := hR.le
  unfold RS.tot at hle
  go_enter Tryz.func66, Tryz.ntmps66
  go_wp2_with fail
  go_region
  go_wp2_with fail
  go_region
  go_end0
  refine ⟨rfl, ⟨?_, ?_⟩, ?_⟩
  · have := ((hR.s.set 4 (.int .i64 ((r.f : Int) - 1))).set 5 (.int .i64 ((r.g : Int) + 1))).drew.drew
    have e : (((r.f - 1 : Nat)) : Int) = (r.f : Int) - 1 := by omega
    simpa [RS.cells, e] using this
  · simp only [RS.tot]; omega
  · exact ((((Fr.refl _ w).set (by simp) _).set (by simp) _).drew).drew

set_option maxHeartbeats 800000 in
theorem rTurn23 (rb ab : Nat) (r : RS) (w : World) (hR : RRep w rb ab r) (h1 : 1 ≤ r.g) :
    Calls Tryz.prog 66 #[.pointer (some ⟨rb, 0, none⟩), .int .i64 2, .int .i64 3] w fun e w' => e = .returned (.tuple #[]) ∧ RRep w' rb ab { r with g := r.g - 1, b := r.b + 1 } ∧ Fr [rb] w w' := by
  obtain ⟨c0, c1, c2, c3, c4, c5, c6⟩ := hR.reads
  obtain ⟨z1, z2, z3, z4, z5, z6⟩ := hR.free
  have hle := hR.le
  unfold RS.tot at hle
  go_enter Tryz.func66, Tryz.ntmps66
  go_wp2_with fail
  go_region
  go_wp2_with fail
  go_region
  go_end0
  refine ⟨rfl, ⟨?_, ?_⟩, ?_⟩
  · have := ((hR.s.set 5 (.int .i64 ((r.g : Int) - 1))).set 6 (.int .i64 ((r.b : Int) + 1))).drew.drew
    have e : (((r.g - 1 : Nat)) : Int) = (r.g : Int) - 1 := by omega
    simpa [RS.cells, e] using this
  · simp only [RS.tot]; omega
  · exact ((((Fr.refl _ w).set (by simp) _).set (by simp) _).drew).drew
end Go.Proofs.YtklnpooninbogaaGreatDoor

namespace Go.Proofs.YtklnpooninbogaaGreatDoor
open Go Go.Proofs Go.RowKit

theorem aLen (ab wb : Nat) (ws : List Int) (u : Int) (w : World) (hA : ARep w ab wb ws u) :
    Calls Tryz.prog 61 #[.pointer (some ⟨ab, 0, none⟩)] w fun e w' => e = .returned (.int .i64 ws.length) ∧ w = w' := by
  have c0 := hA.s.cell (i := 0) rfl
  go_enter Tryz.func61, Tryz.ntmps61
  go_wp2_with fail
  go_ret
  exact ⟨rfl, rfl⟩

def RS.grown (r : RS) (c : Int) : RS := { r with first := c, black := if r.b = 0 then c else r.black, w := r.w + 1 }
def growW (ws : List Int) (r : RS) (c : Int) : List Int := if r.tot = 0 then lk ws c c else pt ws c r.first

set_option maxHeartbeats 800000 in
theorem rGrow (rb ab wb : Nat) (r : RS) (ws : List Int) (u : Int) (c : Int) (w : World) (hR : RRep w rb ab r) (hA : ARep w ab wb ws u) (h1 : 1 ≤ c) (h2 : c + 3 ≤ ws.length) (hf : r.tot ≠ 0 → Okc ws r.first ∧ Okc ws (gw ws (r.first + 2))) (ht : r.tot + 1 ≤ 65536) (n1 : rb ≠ ab) (n2 : rb ≠ wb) :
    Calls Tryz.prog 40 #[.pointer (some ⟨rb, 0, none⟩), .int .i64 c] w fun e w' => e = .returned (.int .i64 0) ∧ (∃ k : Nat, k ≤ 5 ∧ ARep w' ab wb (growW ws r c) (u + k)) ∧ RRep w' rb ab (r.grown c) ∧ Fr [ab, wb, rb] w w' := by
  obtain ⟨c0, -, -, -, -, -, -⟩ := hR.reads
  have hle := hA.le
  have hok : Okc ws c := ⟨by omega, by omega⟩
  have hg1 : ¬ (c < 1) := by omega
  have hg2 : ¬ ((ws.length : Int) - 3 < c) := by omega
  by_cases h0 : r.tot = 0
  · have hz : r.w = 0 ∧ r.b = 0 := by unfold RS.tot at h0; omega
    have Hz := hid hz
    have H0 := hid h0
    clear hz hf
    have h0' : ((r.tot : Nat) : Int) = 0 := by omega
    clear h0
    go_enter Tryz.func40, Tryz.ntmps40
    go_wp2_with (go_at_call 61; refine (aLen ab wb ws u _ hA).mono ?_; rintro e w1 ⟨rfl, rfl⟩)
    refine (rAll rb ab r _ hR).mono ?_
    rintro e w1 ⟨rfl, n, rfl⟩
    go_wp2_with fail
    refine (rLink rb ab wb r ws u c c _ (hR.drewN n) (hA.drewN n) hok hok n1 n2).mono ?_
    rintro e w2 ⟨rfl, hA2, hF2⟩
    have hR2 := (hR.drewN n).fr hF2 (by simp [n1, n2])
    obtain ⟨d0, d1, d2, d3, d4, d5, d6⟩ := hR2.reads
    obtain ⟨z1, z2, z3, z4, z5, z6⟩ := hR2.free
    have hrw : r.w ≤ 65536 := by have := Hz.out; omega
    have hF : Fr [ab, wb, rb] w w2 := ((Fr.refl _ w).drewN n).trans (hF2.here (by simp))
    go_wp2_with fail
    go_region
    go_wp2_with fail
    go_ret
    refine ⟨rfl, ⟨2, by omega, ?_⟩, ⟨?_, ?_⟩, ?_⟩
    · rw [growW, if_pos H0.out]
      exact (((hA2.other (Ne.symm n1) (Ne.symm n2) _).other (Ne.symm n1) (Ne.symm n2) _).other (Ne.symm n1) (Ne.symm n2) _).drew
    · have := (((hR2.s.set 1 (.int .i64 c)).set 2 (.int .i64 c)).set 3 (.int .i64 ((r.w : Int) + 1))).drew
      simpa [RS.cells, RS.grown, Hz.out.2] using this
    · simp only [RS.tot, RS.grown] at *; omega
    · exact (((hF.set (by simp) _).set (by simp) _).set (by simp) _).drew
  · have h0' : ¬ ((r.tot : Nat) : Int) = 0 := by omega
    obtain ⟨hf1, hf2⟩ := hf h0
    have H0 := hid h0
    clear hf h0
    have hrw : r.w ≤ 65535 := by unfold RS.tot at ht; omega
    have hrb : r.b ≤ 65536 := by unfold RS.tot at ht; omega
    have Ht := hid ht
    clear ht
    obtain ⟨-, c1, -, -, -, -, -⟩ := hR.reads
    by_cases hb : r.b = 0
    · have hb' : (r.b : Int) = 0 := by omega
      have Hb := hid hb
      clear hb
      go_enter Tryz.func40, Tryz.ntmps40
      go_wp2_with (go_at_call 61; refine (aLen ab wb ws u _ hA).mono ?_; rintro e w1 ⟨rfl, rfl⟩)
      refine (rAll rb ab r _ hR).mono ?_
      rintro e w1 ⟨rfl, n, rfl⟩
      go_wp2_with fail
      refine (rPut rb ab wb r ws u c r.first _ (hR.drewN n) (hA.drewN n) hok hf1 hf2 n1 n2).mono ?_
      rintro e w2 ⟨rfl, hA2, hF2⟩
      have hR2 := (hR.drewN n).fr hF2 (by simp [n1, n2])
      have hF : Fr [ab, wb, rb] w w2 := ((Fr.refl _ w).drewN n).trans (hF2.here (by simp))
      obtain ⟨d0, d1, d2, d3, d4, d5, d6⟩ := hR2.reads
      obtain ⟨z1, z2, z3, z4, z5, z6⟩ := hR2.free
      clear c0 c1
      rw [hb'] at d6
      clear hb'
      go_wp2_with fail
      go_region
      go_wp2_with fail
      go_ret
      refine ⟨rfl, ⟨5, by omega, ?_⟩, ⟨?_, ?_⟩, ?_⟩
      · rw [growW, if_neg H0.out]
        exact (((hA2.other (Ne.symm n1) (Ne.symm n2) _).other (Ne.symm n1) (Ne.symm n2) _).other (Ne.symm n1) (Ne.symm n2) _).drew
      · have := (((hR2.s.set 1 (.int .i64 c)).set 2 (.int .i64 c)).set 3 (.int .i64 ((r.w : Int) + 1))).drew
        simpa [RS.cells, RS.grown, Hb.out] using this
      · have := Ht.out; simp only [RS.tot, RS.grown] at *; omega
      · exact (((hF.set (by simp) _).set (by simp) _).set (by simp) _).drew
    · have hb' : ¬ (r.b : Int) = 0 := by omega
      have Hb := hid hb
      clear hb
      go_enter Tryz.func40, Tryz.ntmps40
      go_wp2_with (go_at_call 61; refine (aLen ab wb ws u _ hA).mono ?_; rintro e w1 ⟨rfl, rfl⟩)
      refine (rAll rb ab r _ hR).mono ?_
      rintro e w1 ⟨rfl, n, rfl⟩
      go_wp2_with fail
      refine (rPut rb ab wb r ws u c r.first _ (hR.drewN n) (hA.drewN n) hok hf1 hf2 n1 n2).mono ?_
      rintro e w2 ⟨rfl, hA2, hF2⟩
      have hR2 := (hR.drewN n).fr hF2 (by simp [n1, n2])
      have hF : Fr [ab, wb, rb] w w2 := ((Fr.refl _ w).drewN n).trans (hF2.here (by simp))
      obtain ⟨d0, d1, d2, d3, d4, d5, d6⟩ := hR2.reads
      obtain ⟨z1, z2, z3, z4, z5, z6⟩ := hR2.free
      clear c0 c1
      go_wp2_with fail
      go_region
      go_wp2_with fail
      go_ret
      refine ⟨rfl, ⟨5, by omega, ?_⟩, ⟨?_, ?_⟩, ?_⟩
      · rw [growW, if_neg H0.out]
        exact ((hA2.other (Ne.symm n1) (Ne.symm n2) _).other (Ne.symm n1) (Ne.symm n2) _).drew
      · have := ((hR2.s.set 1 (.int .i64 c)).set 3 (.int .i64 ((r.w : Int) + 1))).drew
        simpa [RS.cells, RS.grown, Hb.out] using this
      · have := Ht.out; simp only [RS.tot, RS.grown] at *; omega
      · exact ((hF.set (by simp) _).set (by simp) _).drew

set_option maxHeartbeats 800000 in
theorem rAllocFull (rb ab : Nat) (r : RS) (w : World) (hR : RRep w rb ab r) (h : r.w = 0) :
    Calls Tryz.prog 41 #[.pointer (some ⟨rb, 0, none⟩)] w fun e w' => e = .returned (.tuple #[.int .i64 0, .int .i64 2]) ∧ w = w' := by
  obtain ⟨-, -, -, c3, -, -, -⟩ := hR.reads
  rw [h] at c3
  clear h
  go_enter Tryz.func41, Tryz.ntmps41
  go_wp2_with fail
  go_ret2
  exact ⟨rfl, rfl⟩

set_option maxHeartbeats 800000 in
theorem rAlloc (rb ab wb : Nat) (r : RS) (ws : List Int) (u : Int) (w : World) (hR : RRep w rb ab r) (hA : ARep w ab wb ws u) (h : 1 ≤ r.w) (hf : Okc ws r.first) (n1 : rb ≠ ab) (n2 : rb ≠ wb) :
    Calls Tryz.prog 41 #[.pointer (some ⟨rb, 0, none⟩)] w fun e w' => e = .returned (.tuple #[.int .i64 r.first, .int .i64 0]) ∧ ARep w' ab wb ws (u + 1) ∧ RRep w' rb ab { r with first := gw ws (r.first + 1), w := r.w - 1, b := r.b + 1 } ∧ Fr [ab, rb] w w' := by
  obtain ⟨-, c1, -, c3, -, -, -⟩ := hR.reads
  have h' : ¬ (r.w : Int) = 0 := by omega
  go_enter Tryz.func41, Tryz.ntmps41
  go_wp2_with fail
  refine (rNext rb ab wb r ws u r.first _ hR hA hf).mono ?_
  rintro e w1 ⟨rfl, hA1, hF1⟩
  have hR1 := hR.fr hF1 (by simp [n1])
  have hF : Fr [ab, rb] w w1 := hF1.here (by simp)
  have z1 := hR1.s.frozen 1
  have d1 := hR1.reads.2.1
  clear c1 c3
  go_wp2_with fail
  have hR2 : RRep (w1.setCell ⟨rb, 1, none⟩ (.int .i64 (gw ws (r.first + 1)))) rb ab { r with first := gw ws (r.first + 1) } := ⟨by have := hR1.s.set 1 (.int .i64 (gw ws (r.first + 1))); simpa [RS.cells] using this, hR.le⟩
  refine (rTurn03 rb ab { r with first := gw ws (r.first + 1) } _ hR2 h).mono ?_
  rintro e w2 ⟨rfl, hR3, hF3⟩
  clear z1 d1
  go_wp2_with fail
  go_ret2
  exact ⟨rfl, (hA1.other (Ne.symm n1) (Ne.symm n2) _).fr hF3 (by simp [Ne.symm n1]) (by simp [Ne.symm n2]), hR3, (hF.set (by simp) _).trans (hF3.here (by simp))⟩

end Go.Proofs.YtklnpooninbogaaGreatDoor

namespace Go.Proofs.YtklnpooninbogaaGreatDoor
open Go Go.Proofs Go.RowKit

/-- The ring's row behind 'cut': where it begins. -/
def shF (ws : List Int) (r : RS) (c : Int) : Int := if r.first = c then gw ws (c + 1) else r.first
def shB (ws : List Int) (r : RS) (c : Int) : Int := if r.black = c then gw ws (c + 1) else r.black
def shW (ws : List Int) (r : RS) (c : Int) : List Int := if 1 < r.tot then pt (ct ws c) c (shB ws r c) else ws
def RS.shaded (ws : List Int) (r : RS) (c : Int) : RS :=
  if 1 < r.tot then { r with first := if r.tot - r.b = 1 then c else shF ws r c, black := shB ws r c, f := r.f - 1, g := r.g + 1 } else { r with f := r.f - 1, g := r.g + 1 }

theorem ct_len (ws : List Int) (c : Int) : (ct ws c).length = ws.length := lk_len _ _ _
theorem pt_len (ws : List Int) (c a : Int) : (pt ws c a).length = ws.length := by simp [pt, lk_len]

end Go.Proofs.YtklnpooninbogaaGreatDoor

namespace Go.Proofs.YtklnpooninbogaaGreatDoor
open Go Go.Proofs Go.RowKit

def RS.dropped (ws : List Int) (r : RS) : RS := { r with first := gw ws (r.first + 1), black := if r.black = r.first then gw ws (r.first + 1) else r.black, w := r.w - 1 }

theorem rNew (ab : Nat) (w : World) :
    Calls Tryz.prog 21 #[.pointer (some ⟨ab, 0, none⟩)] w fun e w' => e = .returned (.pointer (some ⟨w.heap.size, 0, none⟩)) ∧ RRep w' w.heap.size ab ⟨0, 0, 0, 0, 0, 0⟩ ∧ Fr [] w w' ∧ w'.heap.size = w.heap.size + 1 := by
  go_enter Tryz.func21, Tryz.ntmps21
  go_wp2_with fail
  go_ret
  exact ⟨rfl, ⟨Blk.new w _ _, by simp [RS.tot]⟩, (Fr.refl _ w).alloc _, by simp⟩
end Go.Proofs.YtklnpooninbogaaGreatDoor
