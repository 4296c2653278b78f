
import Derived.Test.YtklnpooninbogaaGreatMRing
import Derived.RegionTactic
import Derived.ChangeAlike
namespace Go.Proofs.YtklnpooninbogaaGreat
open Go Go.Proofs Go.RowKit
set_option maxHeartbeats 800000 in
theorem rTurn03 (rb ab : Nat) (r : RS) (w : World) (hR : RRep w rb ab r) (h1 : 1 ≤ r.w) :
    Calls Tryz.prog 137 #[.pointer (some ⟨rb, 0, none⟩), .int .i64 0, .int .i64 3] w fun e w' => e = .returned (.tuple #[]) ∧ RRep w' rb ab { r with w := r.w - 1, b := r.b + 1 } ∧ Fr [rb] w w' := by
  obtain ⟨c0, c1, c2, c3, c4, c5, c6⟩ := hR.reads
  obtain ⟨z1, z2, z3, z4, z5, z6⟩ := hR.free
  have hle := hR.le
  unfold RS.tot at hle
  go_enter Tryz.func137, Tryz.ntmps137
  go_wp2_with fail
  go_region
  go_wp2_with fail
  go_region
  go_end0
  refine ⟨rfl, ⟨?_, ?_⟩, ?_⟩
  · have := ((hR.s.set 3 (.int .i64 ((r.w : Int) - 1))).set 6 (.int .i64 ((r.b : Int) + 1))).drew.drew
    have e : (((r.w - 1 : Nat)) : Int) = (r.w : Int) - 1 := by omega
    simpa [RS.cells, e] using this
  · simp only [RS.tot]; omega
  · exact ((((Fr.refl _ w).set (by simp) _).set (by simp) _).drew).drew
set_option maxHeartbeats 800000 in
theorem rTurn12 (rb ab : Nat) (r : RS) (w : World) (hR : RRep w rb ab r) (h1 : 1 ≤ r.f) :
    Calls Tryz.prog 137 #[.pointer (some ⟨rb, 0, none⟩), .int .i64 1, .int .i64 2] w fun e w' => e = .returned (.tuple #[]) ∧ RRep w' rb ab { r with f := r.f - 1, g := r.g + 1 } ∧ Fr [rb] w w' := by
  obtain ⟨c0, c1, c2, c3, c4, c5, c6⟩ := hR.reads
  obtain ⟨z1, z2, z3, z4, z5, z6⟩ := hR.free
  have hle := hR.le
  unfold RS.tot at hle
  go_enter Tryz.func137, Tryz.ntmps137
  go_wp2_with fail
  go_region
  go_wp2_with fail
  go_region
  go_end0
  refine ⟨rfl, ⟨?_, ?_⟩, ?_⟩
  · have := ((hR.s.set 4 (.int .i64 ((r.f : Int) - 1))).set 5 (.int .i64 ((r.g : Int) + 1))).drew.drew
    have e : (((r.f - 1 : Nat)) : Int) = (r.f : Int) - 1 := by omega
    simpa [RS.cells, e] using this
  · simp only [RS.tot]; omega
  · exact ((((Fr.refl _ w).set (by simp) _).set (by simp) _).drew).drew
set_option maxHeartbeats 800000 in
theorem rTurn23 (rb ab : Nat) (r : RS) (w : World) (hR : RRep w rb ab r) (h1 : 1 ≤ r.g) :
    Calls Tryz.prog 137 #[.pointer (some ⟨rb, 0, none⟩), .int .i64 2, .int .i64 3] w fun e w' => e = .returned (.tuple #[]) ∧ RRep w' rb ab { r with g := r.g - 1, b := r.b + 1 } ∧ Fr [rb] w w' := by
  obtain ⟨c0, c1, c2, c3, c4, c5, c6⟩ := hR.reads
  obtain ⟨z1, z2, z3, z4, z5, z6⟩ := hR.free
  have hle := hR.le
  unfold RS.tot at hle
  go_enter Tryz.func137, Tryz.ntmps137
  go_wp2_with fail
  go_region
  go_wp2_with fail
  go_region
  go_end0
  refine ⟨rfl, ⟨?_, ?_⟩, ?_⟩
  · have := ((hR.s.set 5 (.int .i64 ((r.g : Int) - 1))).set 6 (.int .i64 ((r.b : Int) + 1))).drew.drew
    have e : (((r.g - 1 : Nat)) : Int) = (r.g : Int) - 1 := by omega
    simpa [RS.cells, e] using this
  · simp only [RS.tot]; omega
  · exact ((((Fr.refl _ w).set (by simp) _).set (by simp) _).drew).drew
theorem aLen (ab wb : Nat) (ws : List Int) (u : Int) (w : World) (hA : ARep w ab wb ws u) :
    Calls Tryz.prog 132 #[.pointer (some ⟨ab, 0, none⟩)] w fun e w' => e = .returned (.int .i64 ws.length) ∧ w = w' := by
  have c0 := hA.s.cell (i := 0) rfl
  go_enter Tryz.func132, Tryz.ntmps132
  go_wp2_with fail
  go_ret
  exact ⟨rfl, rfl⟩
def RS.grown (r : RS) (c : Int) : RS := { r with first := c, black := if r.b = 0 then c else r.black, w := r.w + 1 }
def growW (ws : List Int) (r : RS) (c : Int) : List Int := if r.tot = 0 then lk ws c c else pt ws c r.first
set_option maxHeartbeats 800000 in
theorem rGrow (rb ab wb : Nat) (r : RS) (ws : List Int) (u : Int) (c : Int) (w : World) (hR : RRep w rb ab r) (hA : ARep w ab wb ws u) (h1 : 1 ≤ c) (h2 : c + 3 ≤ ws.length) (hf : r.tot ≠ 0 → Okc ws r.first ∧ Okc ws (gw ws (r.first + 2))) (ht : r.tot + 1 ≤ 65536) (n1 : rb ≠ ab) (n2 : rb ≠ wb) :
    Calls Tryz.prog 99 #[.pointer (some ⟨rb, 0, none⟩), .int .i64 c] w fun e w' => e = .returned (.int .i64 0) ∧ (∃ k : Nat, k ≤ 5 ∧ ARep w' ab wb (growW ws r c) (u + k)) ∧ RRep w' rb ab (r.grown c) ∧ Fr [ab, wb, rb] w w' := by
  obtain ⟨c0, -, -, -, -, -, -⟩ := hR.reads
  have hle := hA.le
  have hok : Okc ws c := ⟨by omega, by omega⟩
  have hg1 : ¬ (c < 1) := by omega
  have hg2 : ¬ ((ws.length : Int) - 3 < c) := by omega
  by_cases h0 : r.tot = 0
  · have hz : r.w = 0 ∧ r.b = 0 := by unfold RS.tot at h0; omega
    have Hz := hid hz
    have H0 := hid h0
    clear hz hf
    have h0' : ((r.tot : Nat) : Int) = 0 := by omega
    clear h0
    go_enter Tryz.func99, Tryz.ntmps99
    go_wp2_with (go_at_call 132; refine (aLen ab wb ws u _ hA).mono ?_; rintro e w1 ⟨rfl, rfl⟩)
    refine (rAll rb ab r _ hR).mono ?_
    rintro e w1 ⟨rfl, n, rfl⟩
    go_wp2_with fail
    refine (rLink rb ab wb r ws u c c _ (hR.drewN n) (hA.drewN n) hok hok n1 n2).mono ?_
    rintro e w2 ⟨rfl, hA2, hF2⟩
    have hR2 := (hR.drewN n).fr hF2 (by simp [n1, n2])
    obtain ⟨d0, d1, d2, d3, d4, d5, d6⟩ := hR2.reads
    obtain ⟨z1, z2, z3, z4, z5, z6⟩ := hR2.free
    have hrw : r.w ≤ 65536 := by have := Hz.out; omega
    have hF : Fr [ab, wb, rb] w w2 := ((Fr.refl _ w).drewN n).trans (hF2.here (by simp))
    go_wp2_with fail
    go_region
    go_wp2_with fail
    go_ret
    refine ⟨rfl, ⟨2, by omega, ?_⟩, ⟨?_, ?_⟩, ?_⟩
    · rw [growW, if_pos H0.out]
      exact (((hA2.other (Ne.symm n1) (Ne.symm n2) _).other (Ne.symm n1) (Ne.symm n2) _).other (Ne.symm n1) (Ne.symm n2) _).drew
    · have := (((hR2.s.set 1 (.int .i64 c)).set 2 (.int .i64 c)).set 3 (.int .i64 ((r.w : Int) + 1))).drew
      simpa [RS.cells, RS.grown, Hz.out.2] using this
    · simp only [RS.tot, RS.grown] at *; omega
    · exact (((hF.set (by simp) _).set (by simp) _).set (by simp) _).drew
  · have h0' : ¬ ((r.tot : Nat) : Int) = 0 := by omega
    obtain ⟨hf1, hf2⟩ := hf h0
    have H0 := hid h0
    clear hf h0
    have hrw : r.w ≤ 65535 := by unfold RS.tot at ht; omega
    have hrb : r.b ≤ 65536 := by unfold RS.tot at ht; omega
    have Ht := hid ht
    clear ht
    obtain ⟨-, c1, -, -, -, -, -⟩ := hR.reads
    by_cases hb : r.b = 0
    · have hb' : (r.b : Int) = 0 := by omega
      have Hb := hid hb
      clear hb
      go_enter Tryz.func99, Tryz.ntmps99
      go_wp2_with (go_at_call 132; refine (aLen ab wb ws u _ hA).mono ?_; rintro e w1 ⟨rfl, rfl⟩)
      refine (rAll rb ab r _ hR).mono ?_
      rintro e w1 ⟨rfl, n, rfl⟩
      go_wp2_with fail
      refine (rPut rb ab wb r ws u c r.first _ (hR.drewN n) (hA.drewN n) hok hf1 hf2 n1 n2).mono ?_
      rintro e w2 ⟨rfl, hA2, hF2⟩
      have hR2 := (hR.drewN n).fr hF2 (by simp [n1, n2])
      have hF : Fr [ab, wb, rb] w w2 := ((Fr.refl _ w).drewN n).trans (hF2.here (by simp))
      obtain ⟨d0, d1, d2, d3, d4, d5, d6⟩ := hR2.reads
      obtain ⟨z1, z2, z3, z4, z5, z6⟩ := hR2.free
      clear c0 c1
      rw [hb'] at d6
      clear hb'
      go_wp2_with fail
      go_region
      go_wp2_with fail
      go_ret
      refine ⟨rfl, ⟨5, by omega, ?_⟩, ⟨?_, ?_⟩, ?_⟩
      · rw [growW, if_neg H0.out]
        exact (((hA2.other (Ne.symm n1) (Ne.symm n2) _).other (Ne.symm n1) (Ne.symm n2) _).other (Ne.symm n1) (Ne.symm n2) _).drew
      · have := (((hR2.s.set 1 (.int .i64 c)).set 2 (.int .i64 c)).set 3 (.int .i64 ((r.w : Int) + 1))).drew
        simpa [RS.cells, RS.grown, Hb.out] using this
      · have := Ht.out; simp only [RS.tot, RS.grown] at *; omega
      · exact (((hF.set (by simp) _).set (by simp) _).set (by simp) _).drew
    · have hb' : ¬ (r.b : Int) = 0 := by omega
      have Hb := hid hb
      clear hb
      go_enter Tryz.func99, Tryz.ntmps99
      go_wp2_with (go_at_call 132; refine (aLen ab wb ws u _ hA).mono ?_; rintro e w1 ⟨rfl, rfl⟩)
      refine (rAll rb ab r _ hR).mono ?_
      rintro e w1 ⟨rfl, n, rfl⟩
      go_wp2_with fail
      refine (rPut rb ab wb r ws u c r.first _ (hR.drewN n) (hA.drewN n) hok hf1 hf2 n1 n2).mono ?_
      rintro e w2 ⟨rfl, hA2, hF2⟩
      have hR2 := (hR.drewN n).fr hF2 (by simp [n1, n2])
      have hF : Fr [ab, wb, rb] w w2 := ((Fr.refl _ w).drewN n).trans (hF2.here (by simp))
      obtain ⟨d0, d1, d2, d3, d4, d5, d6⟩ := hR2.reads
      obtain ⟨z1, z2, z3, z4, z5, z6⟩ := hR2.free
      clear c0 c1
      go_wp2_with fail
      go_region
      go_wp2_with fail
      go_ret
      refine ⟨rfl, ⟨5, by omega, ?_⟩, ⟨?_, ?_⟩, ?_⟩
      · rw [growW, if_neg H0.out]
        exact ((hA2.other (Ne.symm n1) (Ne.symm n2) _).other (Ne.symm n1) (Ne.symm n2) _).drew
      · have := ((hR2.s.set 1 (.int .i64 c)).set 3 (.int .i64 ((r.w : Int) + 1))).drew
        simpa [RS.cells, RS.grown, Hb.out] using this
      · have := Ht.out; simp only [RS.tot, RS.grown] at *; omega
      · exact ((hF.set (by simp) _).set (by simp) _).drew
set_option maxHeartbeats 800000 in
theorem rAllocFull (rb ab : Nat) (r : RS) (w : World) (hR : RRep w rb ab r) (h : r.w = 0) :
    Calls Tryz.prog 100 #[.pointer (some ⟨rb, 0, none⟩)] w fun e w' => e = .returned (.tuple #[.int .i64 0, .int .i64 2]) ∧ w = w' := by
  obtain ⟨-, -, -, c3, -, -, -⟩ := hR.reads
  rw [h] at c3
  clear h
  go_enter Tryz.func100, Tryz.ntmps100
  go_wp2_with fail
  go_ret2
  exact ⟨rfl, rfl⟩
set_option maxHeartbeats 800000 in
theorem rAlloc (rb ab wb : Nat) (r : RS) (ws : List Int) (u : Int) (w : World) (hR : RRep w rb ab r) (hA : ARep w ab wb ws u) (h : 1 ≤ r.w) (hf : Okc ws r.first) (n1 : rb ≠ ab) (n2 : rb ≠ wb) :
    Calls Tryz.prog 100 #[.pointer (some ⟨rb, 0, none⟩)] w fun e w' => e = .returned (.tuple #[.int .i64 r.first, .int .i64 0]) ∧ ARep w' ab wb ws (u + 1) ∧ RRep w' rb ab { r with first := gw ws (r.first + 1), w := r.w - 1, b := r.b + 1 } ∧ Fr [ab, rb] w w' := by
  obtain ⟨-, c1, -, c3, -, -, -⟩ := hR.reads
  have h' : ¬ (r.w : Int) = 0 := by omega
  go_enter Tryz.func100, Tryz.ntmps100
  go_wp2_with fail
  refine (rNext rb ab wb r ws u r.first _ hR hA hf).mono ?_
  rintro e w1 ⟨rfl, hA1, hF1⟩
  have hR1 := hR.fr hF1 (by simp [n1])
  have hF : Fr [ab, rb] w w1 := hF1.here (by simp)
  have z1 := hR1.s.frozen 1
  have d1 := hR1.reads.2.1
  clear c1 c3
  go_wp2_with fail
  have hR2 : RRep (w1.setCell ⟨rb, 1, none⟩ (.int .i64 (gw ws (r.first + 1)))) rb ab { r with first := gw ws (r.first + 1) } := ⟨by have := hR1.s.set 1 (.int .i64 (gw ws (r.first + 1))); simpa [RS.cells] using this, hR.le⟩
  refine (rTurn03 rb ab { r with first := gw ws (r.first + 1) } _ hR2 h).mono ?_
  rintro e w2 ⟨rfl, hR3, hF3⟩
  clear z1 d1
  go_wp2_with fail
  go_ret2
  exact ⟨rfl, (hA1.other (Ne.symm n1) (Ne.symm n2) _).fr hF3 (by simp [Ne.symm n1]) (by simp [Ne.symm n2]), hR3, (hF.set (by simp) _).trans (hF3.here (by simp))⟩
set_option maxHeartbeats 800000 in
theorem rNextNone (rb ab : Nat) (r : RS) (w : World) (hR : RRep w rb ab r) (h : r.g = 0) :
    Calls Tryz.prog 171 #[.pointer (some ⟨rb, 0, none⟩)] w fun e w' => e = .returned (.tuple #[.int .i64 0, .bool false]) ∧ w = w' := by
  obtain ⟨-, -, -, -, -, c5, -⟩ := hR.reads
  rw [h] at c5
  clear h
  go_enter Tryz.func171, Tryz.ntmps171
  go_wp2_with fail
  go_ret2
  exact ⟨rfl, rfl⟩
set_option maxHeartbeats 800000 in
theorem rNextGrey (rb ab wb : Nat) (r : RS) (ws : List Int) (u : Int) (w : World) (hR : RRep w rb ab r) (hA : ARep w ab wb ws u) (h : 1 ≤ r.g) (hb : Okc ws r.black) :
    Calls Tryz.prog 171 #[.pointer (some ⟨rb, 0, none⟩)] w fun e w' => e = .returned (.tuple #[.int .i64 (gw ws (r.black + 2)), .bool true]) ∧ ARep w' ab wb ws (u + 1) ∧ Fr [ab] w w' := by
  obtain ⟨-, -, c2, -, -, c5, -⟩ := hR.reads
  have h' : ¬ (r.g : Int) = 0 := by omega
  go_enter Tryz.func171, Tryz.ntmps171
  go_wp2_with fail
  refine (rPrev rb ab wb r ws u r.black _ hR hA hb).mono ?_
  rintro e w1 ⟨rfl, hA1, hF1⟩
  go_wp2_with fail
  go_ret2
  exact ⟨rfl, hA1, hF1⟩
set_option maxHeartbeats 800000 in
theorem rDone (rb ab wb : Nat) (r : RS) (ws : List Int) (u : Int) (w : World) (hR : RRep w rb ab r) (hA : ARep w ab wb ws u) (h : 1 ≤ r.g) (hb : Okc ws r.black) (n1 : rb ≠ ab) (n2 : rb ≠ wb) :
    Calls Tryz.prog 172 #[.pointer (some ⟨rb, 0, none⟩)] w fun e w' => e = .returned (.int .i64 0) ∧ ARep w' ab wb ws (u + 1) ∧ RRep w' rb ab { r with black := gw ws (r.black + 2), g := r.g - 1, b := r.b + 1 } ∧ Fr [ab, rb] w w' := by
  go_enter Tryz.func172, Tryz.ntmps172
  go_wp2_with fail
  refine (rNextGrey rb ab wb r ws u _ hR hA h hb).mono ?_
  rintro e w1 ⟨rfl, hA1, hF1⟩
  have hR1 := hR.fr hF1 (by simp [n1])
  have hF : Fr [ab, rb] w w1 := hF1.here (by simp)
  have z2 := hR1.s.frozen 2
  have d2 := hR1.reads.2.2.1
  go_wp2_with fail
  have hR2 : RRep (w1.setCell ⟨rb, 2, none⟩ (.int .i64 (gw ws (r.black + 2)))) rb ab { r with black := gw ws (r.black + 2) } := ⟨by have := hR1.s.set 2 (.int .i64 (gw ws (r.black + 2))); simpa [RS.cells] using this, hR.le⟩
  refine (rTurn23 rb ab { r with black := gw ws (r.black + 2) } _ hR2 h).mono ?_
  rintro e w2 ⟨rfl, hR3, hF3⟩
  clear z2 d2
  go_wp2_with fail
  go_ret
  exact ⟨rfl, (hA1.other (Ne.symm n1) (Ne.symm n2) _).fr hF3 (by simp [Ne.symm n1]) (by simp [Ne.symm n2]), hR3, (hF.set (by simp) _).trans (hF3.here (by simp))⟩
def shF (ws : List Int) (r : RS) (c : Int) : Int := if r.first = c then gw ws (c + 1) else r.first
def shB (ws : List Int) (r : RS) (c : Int) : Int := if r.black = c then gw ws (c + 1) else r.black
def shW (ws : List Int) (r : RS) (c : Int) : List Int := if 1 < r.tot then pt (ct ws c) c (shB ws r c) else ws
def RS.shaded (ws : List Int) (r : RS) (c : Int) : RS :=
  if 1 < r.tot then { r with first := if r.tot - r.b = 1 then c else shF ws r c, black := shB ws r c, f := r.f - 1, g := r.g + 1 } else { r with f := r.f - 1, g := r.g + 1 }
theorem ct_len (ws : List Int) (c : Int) : (ct ws c).length = ws.length := lk_len _ _ _
theorem pt_len (ws : List Int) (c a : Int) : (pt ws c a).length = ws.length := by simp [pt, lk_len]
set_option maxHeartbeats 1600000 in
theorem rShadeOne (rb ab : Nat) (r : RS) (c : Int) (w : World) (hR : RRep w rb ab r) (h : 1 ≤ r.f) (ht : ¬ 1 < r.tot) :
    Calls Tryz.prog 159 #[.pointer (some ⟨rb, 0, none⟩), .int .i64 c] w fun e w' => e = .returned (.int .i64 0) ∧ RRep w' rb ab { r with f := r.f - 1, g := r.g + 1 } ∧ Fr [rb] w w' := by
  obtain ⟨-, -, -, -, c4, -, -⟩ := hR.reads
  have h' : ¬ (r.f : Int) = 0 := by omega
  go_enter Tryz.func159, Tryz.ntmps159
  go_wp2_with fail
  refine (rAll rb ab r _ hR).mono ?_
  rintro e w1 ⟨rfl, n, rfl⟩
  go_wp2_with fail
  refine (rTurn12 rb ab r _ (hR.drewN n) h).mono ?_
  rintro e w2 ⟨rfl, hR3, hF3⟩
  go_wp2_with fail
  go_ret
  exact ⟨rfl, hR3, ((Fr.refl _ w).drewN n).trans hF3⟩
set_option maxHeartbeats 3200000 in
theorem rShade1 (rb ab wb : Nat) (r : RS) (ws : List Int) (u : Int) (c : Int) (w : World) (hR : RRep w rb ab r) (hA : ARep w ab wb ws u) (h : 1 ≤ r.f) (ht : 1 < r.tot) (hc : Okc ws c) (hp : Okc ws (gw ws (c + 2))) (hq : Okc ws (gw ws (c + 1)))
    (hb : Okc ws (shB ws r c)) (hb2 : Okc ws (gw (ct ws c) (shB ws r c + 2))) (n1 : rb ≠ ab) (n2 : rb ≠ wb) (e1 : r.first = c) (e2 : r.black = c) (e3 : r.tot - r.b = 1) :
    Calls Tryz.prog 159 #[.pointer (some ⟨rb, 0, none⟩), .int .i64 c] w fun e w' => e = .returned (.int .i64 0) ∧ (ARep w' ab wb (pt (ct ws c) c (shB ws r c)) (u + 9)) ∧ RRep w' rb ab (r.shaded ws c) ∧ Fr [ab, wb, rb] w w' := by
  obtain ⟨-, -, -, -, c4, -, -⟩ := hR.reads
  have h' : ¬ (r.f : Int) = 0 := by omega
  have Hf := hid h
  have hsb : shB ws r c = gw ws (c + 1) := by unfold shB; simp [e2]
  have hsf : shF ws r c = gw ws (c + 1) := by unfold shF; simp [e1]
  have hfin : r.shaded ws c = { r with first := c, black := gw ws (c + 1), f := r.f - 1, g := r.g + 1 } := by
    rw [RS.shaded, if_pos ht, hsb, hsf]; simp [e3]
  have Hfin := hid hfin
  rw [hsb] at hb hb2 ⊢
  clear hsb hsf hfin
  have f1 : r.first ≤ c ∧ c ≤ r.first := by omega
  have f2 : r.black ≤ c ∧ c ≤ r.black := by omega
  have f3 : (r.tot : Int) - r.b ≤ 1 ∧ 1 ≤ (r.tot : Int) - r.b := by have := hR.le; unfold RS.tot at *; omega
  have hbt : (r.b : Int) ≤ 65536 ∧ (r.tot : Int) ≤ 65536 := by have := hR.le; unfold RS.tot at *; omega
  clear e1 e2 e3
  go_enter Tryz.func159, Tryz.ntmps159
  go_wp2_with fail
  refine (rAll rb ab r _ hR).mono ?_
  rintro e w1 ⟨rfl, n, rfl⟩
  go_wp2_with fail
  refine (rCut rb ab wb r ws u c _ (hR.drewN n) (hA.drewN n) hc hp hq n1 n2).mono ?_
  rintro e w2 ⟨rfl, hA2, hF2⟩
  clear c4
  have hR2 := (hR.drewN n).fr hF2 (by simp [n1, n2])
  have hF : Fr [ab, wb, rb] w w2 := ((Fr.refl _ w).drewN n).trans (hF2.here (by simp))
  obtain ⟨d0, d1, d2, d3, d4, d5, d6⟩ := hR2.reads
  obtain ⟨z1, z2, z3, z4, z5, z6⟩ := hR2.free
  go_wp2_with fail
  have hR3 : RRep ((w2.setCell ⟨rb, 1, none⟩ (.int .i64 (gw ws (c + 1)))).setCell ⟨rb, 2, none⟩ (.int .i64 (gw ws (c + 1)))) rb ab { r with first := gw ws (c + 1), black := gw ws (c + 1) } := ⟨by have := ((hR2.s.set 1 (.int .i64 (gw ws (c + 1)))).set 2 (.int .i64 (gw ws (c + 1)))); simpa [RS.cells] using this, hR.le⟩
  have hF3 : Fr [ab, wb, rb] w ((w2.setCell ⟨rb, 1, none⟩ (.int .i64 (gw ws (c + 1)))).setCell ⟨rb, 2, none⟩ (.int .i64 (gw ws (c + 1)))) := ((hF.set (by simp) _).set (by simp) _)
  have hA3 : ARep ((w2.setCell ⟨rb, 1, none⟩ (.int .i64 (gw ws (c + 1)))).setCell ⟨rb, 2, none⟩ (.int .i64 (gw ws (c + 1)))) ab wb (ct ws c) (u + 4) := ((hA2.u (by omega)).other (Ne.symm n1) (Ne.symm n2) _).other (Ne.symm n1) (Ne.symm n2) _
  refine (rPut rb ab wb { r with first := gw ws (c + 1), black := gw ws (c + 1) } _ _ c _ _ hR3 hA3 (by unfold Okc at *; rw [ct_len]; exact hc) (by unfold Okc at *; rw [ct_len]; exact hb) (by unfold Okc at *; rw [ct_len]; exact hb2) n1 n2).mono ?_
  rintro e w4 ⟨rfl, hA4, hF4⟩
  have hR4 := hR3.fr hF4 (by simp [n1, n2])
  have hF5 := hF3.trans (hF4.here (T := [ab, wb, rb]) (by simp))
  clear d0 d1 d2 d3 d4 d5 d6 z1 z2 z3 z4 z5 z6
  obtain ⟨d0, d1, d2, d3, d4, d5, d6⟩ := hR4.reads
  have z1 := hR4.s.frozen 1
  go_wp2_with fail
  go_quiet ((go_at_call 133; refine Calls.quiet_of (rAll' rb ab _ r.tot (by rfl) _ (hR4.drewN _))))
  go_wp2_with fail
  have hR6 : RRep ((w4.drewN nq).setCell ⟨rb, 1, none⟩ (.int .i64 c)) rb ab { r with first := c, black := gw ws (c + 1) } := ⟨by have := (hR4.s.drewN nq).set 1 (.int .i64 c); simpa [RS.cells] using this, hR.le⟩
  refine (rTurn12 rb ab { r with first := c, black := gw ws (c + 1) } _ hR6 Hf.out).mono ?_
  rintro e w6 ⟨rfl, hR7, hF7⟩
  clear d0 d1 d2 d3 d4 d5 d6 z1
  go_wp2_with fail
  go_ret
  refine ⟨rfl, (((hA4.drewN nq).other (Ne.symm n1) (Ne.symm n2) _).fr hF7 (by simp [Ne.symm n1]) (by simp [Ne.symm n2])).u (by omega), ?_, ((hF5.drewN nq).set (by simp) _).trans (hF7.here (by simp))⟩
  rw [Hfin.out]; exact hR7
set_option maxHeartbeats 3200000 in
theorem rShade2 (rb ab wb : Nat) (r : RS) (ws : List Int) (u : Int) (c : Int) (w : World) (hR : RRep w rb ab r) (hA : ARep w ab wb ws u) (h : 1 ≤ r.f) (ht : 1 < r.tot) (hc : Okc ws c) (hp : Okc ws (gw ws (c + 2))) (hq : Okc ws (gw ws (c + 1)))
    (hb : Okc ws (shB ws r c)) (hb2 : Okc ws (gw (ct ws c) (shB ws r c + 2))) (n1 : rb ≠ ab) (n2 : rb ≠ wb) (e1 : r.first = c) (e2 : r.black = c) (e3 : r.tot - r.b ≠ 1) :
    Calls Tryz.prog 159 #[.pointer (some ⟨rb, 0, none⟩), .int .i64 c] w fun e w' => e = .returned (.int .i64 0) ∧ (ARep w' ab wb (pt (ct ws c) c (shB ws r c)) (u + 9)) ∧ RRep w' rb ab (r.shaded ws c) ∧ Fr [ab, wb, rb] w w' := by
  obtain ⟨-, -, -, -, c4, -, -⟩ := hR.reads
  have h' : ¬ (r.f : Int) = 0 := by omega
  have Hf := hid h
  have hsb : shB ws r c = gw ws (c + 1) := by unfold shB; simp [e2]
  have hsf : shF ws r c = gw ws (c + 1) := by unfold shF; simp [e1]
  have hfin : r.shaded ws c = { r with first := gw ws (c + 1), black := gw ws (c + 1), f := r.f - 1, g := r.g + 1 } := by
    rw [RS.shaded, if_pos ht, hsb, hsf]; simp [e3]
  have Hfin := hid hfin
  rw [hsb] at hb hb2 ⊢
  clear hsb hsf hfin
  have f1 : r.first ≤ c ∧ c ≤ r.first := by omega
  have f2 : r.black ≤ c ∧ c ≤ r.black := by omega
  have f3 : ¬ (r.tot : Int) - r.b = 1 := by have := hR.le; unfold RS.tot at *; omega
  have hbt : (r.b : Int) ≤ 65536 ∧ (r.tot : Int) ≤ 65536 := by have := hR.le; unfold RS.tot at *; omega
  clear e1 e2 e3
  go_enter Tryz.func159, Tryz.ntmps159
  go_wp2_with fail
  refine (rAll rb ab r _ hR).mono ?_
  rintro e w1 ⟨rfl, n, rfl⟩
  go_wp2_with fail
  refine (rCut rb ab wb r ws u c _ (hR.drewN n) (hA.drewN n) hc hp hq n1 n2).mono ?_
  rintro e w2 ⟨rfl, hA2, hF2⟩
  clear c4
  have hR2 := (hR.drewN n).fr hF2 (by simp [n1, n2])
  have hF : Fr [ab, wb, rb] w w2 := ((Fr.refl _ w).drewN n).trans (hF2.here (by simp))
  obtain ⟨d0, d1, d2, d3, d4, d5, d6⟩ := hR2.reads
  obtain ⟨z1, z2, z3, z4, z5, z6⟩ := hR2.free
  go_wp2_with fail
  have hR3 : RRep ((w2.setCell ⟨rb, 1, none⟩ (.int .i64 (gw ws (c + 1)))).setCell ⟨rb, 2, none⟩ (.int .i64 (gw ws (c + 1)))) rb ab { r with first := gw ws (c + 1), black := gw ws (c + 1) } := ⟨by have := ((hR2.s.set 1 (.int .i64 (gw ws (c + 1)))).set 2 (.int .i64 (gw ws (c + 1)))); simpa [RS.cells] using this, hR.le⟩
  have hF3 : Fr [ab, wb, rb] w ((w2.setCell ⟨rb, 1, none⟩ (.int .i64 (gw ws (c + 1)))).setCell ⟨rb, 2, none⟩ (.int .i64 (gw ws (c + 1)))) := ((hF.set (by simp) _).set (by simp) _)
  have hA3 : ARep ((w2.setCell ⟨rb, 1, none⟩ (.int .i64 (gw ws (c + 1)))).setCell ⟨rb, 2, none⟩ (.int .i64 (gw ws (c + 1)))) ab wb (ct ws c) (u + 4) := ((hA2.u (by omega)).other (Ne.symm n1) (Ne.symm n2) _).other (Ne.symm n1) (Ne.symm n2) _
  refine (rPut rb ab wb { r with first := gw ws (c + 1), black := gw ws (c + 1) } _ _ c _ _ hR3 hA3 (by unfold Okc at *; rw [ct_len]; exact hc) (by unfold Okc at *; rw [ct_len]; exact hb) (by unfold Okc at *; rw [ct_len]; exact hb2) n1 n2).mono ?_
  rintro e w4 ⟨rfl, hA4, hF4⟩
  have hR4 := hR3.fr hF4 (by simp [n1, n2])
  have hF5 := hF3.trans (hF4.here (T := [ab, wb, rb]) (by simp))
  clear d0 d1 d2 d3 d4 d5 d6 z1 z2 z3 z4 z5 z6
  obtain ⟨d0, d1, d2, d3, d4, d5, d6⟩ := hR4.reads
  have z1 := hR4.s.frozen 1
  go_wp2_with fail
  go_quiet ((go_at_call 133; refine Calls.quiet_of (rAll' rb ab _ r.tot (by rfl) _ (hR4.drewN _))))
  go_wp2_with fail
  refine (rTurn12 rb ab { r with first := gw ws (c + 1), black := gw ws (c + 1) } _ (hR4.drewN nq) Hf.out).mono ?_
  rintro e w6 ⟨rfl, hR7, hF7⟩
  clear d0 d1 d2 d3 d4 d5 d6 z1
  go_wp2_with fail
  go_ret
  refine ⟨rfl, ((hA4.drewN nq).fr hF7 (by simp [Ne.symm n1]) (by simp [Ne.symm n2])).u (by omega), ?_, (hF5.drewN nq).trans (hF7.here (by simp))⟩
  rw [Hfin.out]; exact hR7
set_option maxHeartbeats 3200000 in
theorem rShade3 (rb ab wb : Nat) (r : RS) (ws : List Int) (u : Int) (c : Int) (w : World) (hR : RRep w rb ab r) (hA : ARep w ab wb ws u) (h : 1 ≤ r.f) (ht : 1 < r.tot) (hc : Okc ws c) (hp : Okc ws (gw ws (c + 2))) (hq : Okc ws (gw ws (c + 1)))
    (hb : Okc ws (shB ws r c)) (hb2 : Okc ws (gw (ct ws c) (shB ws r c + 2))) (n1 : rb ≠ ab) (n2 : rb ≠ wb) (e1 : r.first = c) (e2 : r.black ≠ c) (e3 : r.tot - r.b = 1) :
    Calls Tryz.prog 159 #[.pointer (some ⟨rb, 0, none⟩), .int .i64 c] w fun e w' => e = .returned (.int .i64 0) ∧ (ARep w' ab wb (pt (ct ws c) c (shB ws r c)) (u + 9)) ∧ RRep w' rb ab (r.shaded ws c) ∧ Fr [ab, wb, rb] w w' := by
  obtain ⟨-, -, -, -, c4, -, -⟩ := hR.reads
  have h' : ¬ (r.f : Int) = 0 := by omega
  have Hf := hid h
  have hsb : shB ws r c = r.black := by unfold shB; simp [e2]
  have hsf : shF ws r c = gw ws (c + 1) := by unfold shF; simp [e1]
  have hfin : r.shaded ws c = { r with first := c, black := r.black, f := r.f - 1, g := r.g + 1 } := by
    rw [RS.shaded, if_pos ht, hsb, hsf]; simp [e3]
  have Hfin := hid hfin
  rw [hsb] at hb hb2 ⊢
  clear hsb hsf hfin
  have f1 : r.first ≤ c ∧ c ≤ r.first := by omega
  have f2 : ¬ r.black = c := by omega
  have f3 : (r.tot : Int) - r.b ≤ 1 ∧ 1 ≤ (r.tot : Int) - r.b := by have := hR.le; unfold RS.tot at *; omega
  have hbt : (r.b : Int) ≤ 65536 ∧ (r.tot : Int) ≤ 65536 := by have := hR.le; unfold RS.tot at *; omega
  clear e1 e2 e3
  go_enter Tryz.func159, Tryz.ntmps159
  go_wp2_with fail
  refine (rAll rb ab r _ hR).mono ?_
  rintro e w1 ⟨rfl, n, rfl⟩
  go_wp2_with fail
  refine (rCut rb ab wb r ws u c _ (hR.drewN n) (hA.drewN n) hc hp hq n1 n2).mono ?_
  rintro e w2 ⟨rfl, hA2, hF2⟩
  clear c4
  have hR2 := (hR.drewN n).fr hF2 (by simp [n1, n2])
  have hF : Fr [ab, wb, rb] w w2 := ((Fr.refl _ w).drewN n).trans (hF2.here (by simp))
  obtain ⟨d0, d1, d2, d3, d4, d5, d6⟩ := hR2.reads
  obtain ⟨z1, z2, z3, z4, z5, z6⟩ := hR2.free
  go_wp2_with fail
  have hR3 : RRep (w2.setCell ⟨rb, 1, none⟩ (.int .i64 (gw ws (c + 1)))) rb ab { r with first := gw ws (c + 1), black := r.black } := ⟨by have := (hR2.s.set 1 (.int .i64 (gw ws (c + 1)))); simpa [RS.cells] using this, hR.le⟩
  have hF3 : Fr [ab, wb, rb] w (w2.setCell ⟨rb, 1, none⟩ (.int .i64 (gw ws (c + 1)))) := (hF.set (by simp) _)
  have hA3 : ARep (w2.setCell ⟨rb, 1, none⟩ (.int .i64 (gw ws (c + 1)))) ab wb (ct ws c) (u + 4) := (hA2.u (by omega)).other (Ne.symm n1) (Ne.symm n2) _
  refine (rPut rb ab wb { r with first := gw ws (c + 1), black := r.black } _ _ c _ _ hR3 hA3 (by unfold Okc at *; rw [ct_len]; exact hc) (by unfold Okc at *; rw [ct_len]; exact hb) (by unfold Okc at *; rw [ct_len]; exact hb2) n1 n2).mono ?_
  rintro e w4 ⟨rfl, hA4, hF4⟩
  have hR4 := hR3.fr hF4 (by simp [n1, n2])
  have hF5 := hF3.trans (hF4.here (T := [ab, wb, rb]) (by simp))
  clear d0 d1 d2 d3 d4 d5 d6 z1 z2 z3 z4 z5 z6
  obtain ⟨d0, d1, d2, d3, d4, d5, d6⟩ := hR4.reads
  have z1 := hR4.s.frozen 1
  go_wp2_with fail
  go_quiet ((go_at_call 133; refine Calls.quiet_of (rAll' rb ab _ r.tot (by rfl) _ (hR4.drewN _))))
  go_wp2_with fail
  have hR6 : RRep ((w4.drewN nq).setCell ⟨rb, 1, none⟩ (.int .i64 c)) rb ab { r with first := c, black := r.black } := ⟨by have := (hR4.s.drewN nq).set 1 (.int .i64 c); simpa [RS.cells] using this, hR.le⟩
  refine (rTurn12 rb ab { r with first := c, black := r.black } _ hR6 Hf.out).mono ?_
  rintro e w6 ⟨rfl, hR7, hF7⟩
  clear d0 d1 d2 d3 d4 d5 d6 z1
  go_wp2_with fail
  go_ret
  refine ⟨rfl, (((hA4.drewN nq).other (Ne.symm n1) (Ne.symm n2) _).fr hF7 (by simp [Ne.symm n1]) (by simp [Ne.symm n2])).u (by omega), ?_, ((hF5.drewN nq).set (by simp) _).trans (hF7.here (by simp))⟩
  rw [Hfin.out]; exact hR7
set_option maxHeartbeats 3200000 in
theorem rShade4 (rb ab wb : Nat) (r : RS) (ws : List Int) (u : Int) (c : Int) (w : World) (hR : RRep w rb ab r) (hA : ARep w ab wb ws u) (h : 1 ≤ r.f) (ht : 1 < r.tot) (hc : Okc ws c) (hp : Okc ws (gw ws (c + 2))) (hq : Okc ws (gw ws (c + 1)))
    (hb : Okc ws (shB ws r c)) (hb2 : Okc ws (gw (ct ws c) (shB ws r c + 2))) (n1 : rb ≠ ab) (n2 : rb ≠ wb) (e1 : r.first = c) (e2 : r.black ≠ c) (e3 : r.tot - r.b ≠ 1) :
    Calls Tryz.prog 159 #[.pointer (some ⟨rb, 0, none⟩), .int .i64 c] w fun e w' => e = .returned (.int .i64 0) ∧ (ARep w' ab wb (pt (ct ws c) c (shB ws r c)) (u + 9)) ∧ RRep w' rb ab (r.shaded ws c) ∧ Fr [ab, wb, rb] w w' := by
  obtain ⟨-, -, -, -, c4, -, -⟩ := hR.reads
  have h' : ¬ (r.f : Int) = 0 := by omega
  have Hf := hid h
  have hsb : shB ws r c = r.black := by unfold shB; simp [e2]
  have hsf : shF ws r c = gw ws (c + 1) := by unfold shF; simp [e1]
  have hfin : r.shaded ws c = { r with first := gw ws (c + 1), black := r.black, f := r.f - 1, g := r.g + 1 } := by
    rw [RS.shaded, if_pos ht, hsb, hsf]; simp [e3]
  have Hfin := hid hfin
  rw [hsb] at hb hb2 ⊢
  clear hsb hsf hfin
  have f1 : r.first ≤ c ∧ c ≤ r.first := by omega
  have f2 : ¬ r.black = c := by omega
  have f3 : ¬ (r.tot : Int) - r.b = 1 := by have := hR.le; unfold RS.tot at *; omega
  have hbt : (r.b : Int) ≤ 65536 ∧ (r.tot : Int) ≤ 65536 := by have := hR.le; unfold RS.tot at *; omega
  clear e1 e2 e3
  go_enter Tryz.func159, Tryz.ntmps159
  go_wp2_with fail
  refine (rAll rb ab r _ hR).mono ?_
  rintro e w1 ⟨rfl, n, rfl⟩
  go_wp2_with fail
  refine (rCut rb ab wb r ws u c _ (hR.drewN n) (hA.drewN n) hc hp hq n1 n2).mono ?_
  rintro e w2 ⟨rfl, hA2, hF2⟩
  clear c4
  have hR2 := (hR.drewN n).fr hF2 (by simp [n1, n2])
  have hF : Fr [ab, wb, rb] w w2 := ((Fr.refl _ w).drewN n).trans (hF2.here (by simp))
  obtain ⟨d0, d1, d2, d3, d4, d5, d6⟩ := hR2.reads
  obtain ⟨z1, z2, z3, z4, z5, z6⟩ := hR2.free
  go_wp2_with fail
  have hR3 : RRep (w2.setCell ⟨rb, 1, none⟩ (.int .i64 (gw ws (c + 1)))) rb ab { r with first := gw ws (c + 1), black := r.black } := ⟨by have := (hR2.s.set 1 (.int .i64 (gw ws (c + 1)))); simpa [RS.cells] using this, hR.le⟩
  have hF3 : Fr [ab, wb, rb] w (w2.setCell ⟨rb, 1, none⟩ (.int .i64 (gw ws (c + 1)))) := (hF.set (by simp) _)
  have hA3 : ARep (w2.setCell ⟨rb, 1, none⟩ (.int .i64 (gw ws (c + 1)))) ab wb (ct ws c) (u + 4) := (hA2.u (by omega)).other (Ne.symm n1) (Ne.symm n2) _
  refine (rPut rb ab wb { r with first := gw ws (c + 1), black := r.black } _ _ c _ _ hR3 hA3 (by unfold Okc at *; rw [ct_len]; exact hc) (by unfold Okc at *; rw [ct_len]; exact hb) (by unfold Okc at *; rw [ct_len]; exact hb2) n1 n2).mono ?_
  rintro e w4 ⟨rfl, hA4, hF4⟩
  have hR4 := hR3.fr hF4 (by simp [n1, n2])
  have hF5 := hF3.trans (hF4.here (T := [ab, wb, rb]) (by simp))
  clear d0 d1 d2 d3 d4 d5 d6 z1 z2 z3 z4 z5 z6
  obtain ⟨d0, d1, d2, d3, d4, d5, d6⟩ := hR4.reads
  have z1 := hR4.s.frozen 1
  go_wp2_with fail
  go_quiet ((go_at_call 133; refine Calls.quiet_of (rAll' rb ab _ r.tot (by rfl) _ (hR4.drewN _))))
  go_wp2_with fail
  refine (rTurn12 rb ab { r with first := gw ws (c + 1), black := r.black } _ (hR4.drewN nq) Hf.out).mono ?_
  rintro e w6 ⟨rfl, hR7, hF7⟩
  clear d0 d1 d2 d3 d4 d5 d6 z1
  go_wp2_with fail
  go_ret
  refine ⟨rfl, ((hA4.drewN nq).fr hF7 (by simp [Ne.symm n1]) (by simp [Ne.symm n2])).u (by omega), ?_, (hF5.drewN nq).trans (hF7.here (by simp))⟩
  rw [Hfin.out]; exact hR7
set_option maxHeartbeats 3200000 in
theorem rShade5 (rb ab wb : Nat) (r : RS) (ws : List Int) (u : Int) (c : Int) (w : World) (hR : RRep w rb ab r) (hA : ARep w ab wb ws u) (h : 1 ≤ r.f) (ht : 1 < r.tot) (hc : Okc ws c) (hp : Okc ws (gw ws (c + 2))) (hq : Okc ws (gw ws (c + 1)))
    (hb : Okc ws (shB ws r c)) (hb2 : Okc ws (gw (ct ws c) (shB ws r c + 2))) (n1 : rb ≠ ab) (n2 : rb ≠ wb) (e1 : r.first ≠ c) (e2 : r.black = c) (e3 : r.tot - r.b = 1) :
    Calls Tryz.prog 159 #[.pointer (some ⟨rb, 0, none⟩), .int .i64 c] w fun e w' => e = .returned (.int .i64 0) ∧ (ARep w' ab wb (pt (ct ws c) c (shB ws r c)) (u + 9)) ∧ RRep w' rb ab (r.shaded ws c) ∧ Fr [ab, wb, rb] w w' := by
  obtain ⟨-, -, -, -, c4, -, -⟩ := hR.reads
  have h' : ¬ (r.f : Int) = 0 := by omega
  have Hf := hid h
  have hsb : shB ws r c = gw ws (c + 1) := by unfold shB; simp [e2]
  have hsf : shF ws r c = r.first := by unfold shF; simp [e1]
  have hfin : r.shaded ws c = { r with first := c, black := gw ws (c + 1), f := r.f - 1, g := r.g + 1 } := by
    rw [RS.shaded, if_pos ht, hsb, hsf]; simp [e3]
  have Hfin := hid hfin
  rw [hsb] at hb hb2 ⊢
  clear hsb hsf hfin
  have f1 : ¬ r.first = c := by omega
  have f2 : r.black ≤ c ∧ c ≤ r.black := by omega
  have f3 : (r.tot : Int) - r.b ≤ 1 ∧ 1 ≤ (r.tot : Int) - r.b := by have := hR.le; unfold RS.tot at *; omega
  have hbt : (r.b : Int) ≤ 65536 ∧ (r.tot : Int) ≤ 65536 := by have := hR.le; unfold RS.tot at *; omega
  clear e1 e2 e3
  go_enter Tryz.func159, Tryz.ntmps159
  go_wp2_with fail
  refine (rAll rb ab r _ hR).mono ?_
  rintro e w1 ⟨rfl, n, rfl⟩
  go_wp2_with fail
  refine (rCut rb ab wb r ws u c _ (hR.drewN n) (hA.drewN n) hc hp hq n1 n2).mono ?_
  rintro e w2 ⟨rfl, hA2, hF2⟩
  clear c4
  have hR2 := (hR.drewN n).fr hF2 (by simp [n1, n2])
  have hF : Fr [ab, wb, rb] w w2 := ((Fr.refl _ w).drewN n).trans (hF2.here (by simp))
  obtain ⟨d0, d1, d2, d3, d4, d5, d6⟩ := hR2.reads
  obtain ⟨z1, z2, z3, z4, z5, z6⟩ := hR2.free
  go_wp2_with fail
  have hR3 : RRep (w2.setCell ⟨rb, 2, none⟩ (.int .i64 (gw ws (c + 1)))) rb ab { r with first := r.first, black := gw ws (c + 1) } := ⟨by have := (hR2.s.set 2 (.int .i64 (gw ws (c + 1)))); simpa [RS.cells] using this, hR.le⟩
  have hF3 : Fr [ab, wb, rb] w (w2.setCell ⟨rb, 2, none⟩ (.int .i64 (gw ws (c + 1)))) := (hF.set (by simp) _)
  have hA3 : ARep (w2.setCell ⟨rb, 2, none⟩ (.int .i64 (gw ws (c + 1)))) ab wb (ct ws c) (u + 4) := (hA2.u (by omega)).other (Ne.symm n1) (Ne.symm n2) _
  refine (rPut rb ab wb { r with first := r.first, black := gw ws (c + 1) } _ _ c _ _ hR3 hA3 (by unfold Okc at *; rw [ct_len]; exact hc) (by unfold Okc at *; rw [ct_len]; exact hb) (by unfold Okc at *; rw [ct_len]; exact hb2) n1 n2).mono ?_
  rintro e w4 ⟨rfl, hA4, hF4⟩
  have hR4 := hR3.fr hF4 (by simp [n1, n2])
  have hF5 := hF3.trans (hF4.here (T := [ab, wb, rb]) (by simp))
  clear d0 d1 d2 d3 d4 d5 d6 z1 z2 z3 z4 z5 z6
  obtain ⟨d0, d1, d2, d3, d4, d5, d6⟩ := hR4.reads
  have z1 := hR4.s.frozen 1
  go_wp2_with fail
  go_quiet ((go_at_call 133; refine Calls.quiet_of (rAll' rb ab _ r.tot (by rfl) _ (hR4.drewN _))))
  go_wp2_with fail
  have hR6 : RRep ((w4.drewN nq).setCell ⟨rb, 1, none⟩ (.int .i64 c)) rb ab { r with first := c, black := gw ws (c + 1) } := ⟨by have := (hR4.s.drewN nq).set 1 (.int .i64 c); simpa [RS.cells] using this, hR.le⟩
  refine (rTurn12 rb ab { r with first := c, black := gw ws (c + 1) } _ hR6 Hf.out).mono ?_
  rintro e w6 ⟨rfl, hR7, hF7⟩
  clear d0 d1 d2 d3 d4 d5 d6 z1
  go_wp2_with fail
  go_ret
  refine ⟨rfl, (((hA4.drewN nq).other (Ne.symm n1) (Ne.symm n2) _).fr hF7 (by simp [Ne.symm n1]) (by simp [Ne.symm n2])).u (by omega), ?_, ((hF5.drewN nq).set (by simp) _).trans (hF7.here (by simp))⟩
  rw [Hfin.out]; exact hR7
set_option maxHeartbeats 3200000 in
theorem rShade6 (rb ab wb : Nat) (r : RS) (ws : List Int) (u : Int) (c : Int) (w : World) (hR : RRep w rb ab r) (hA : ARep w ab wb ws u) (h : 1 ≤ r.f) (ht : 1 < r.tot) (hc : Okc ws c) (hp : Okc ws (gw ws (c + 2))) (hq : Okc ws (gw ws (c + 1)))
    (hb : Okc ws (shB ws r c)) (hb2 : Okc ws (gw (ct ws c) (shB ws r c + 2))) (n1 : rb ≠ ab) (n2 : rb ≠ wb) (e1 : r.first ≠ c) (e2 : r.black = c) (e3 : r.tot - r.b ≠ 1) :
    Calls Tryz.prog 159 #[.pointer (some ⟨rb, 0, none⟩), .int .i64 c] w fun e w' => e = .returned (.int .i64 0) ∧ (ARep w' ab wb (pt (ct ws c) c (shB ws r c)) (u + 9)) ∧ RRep w' rb ab (r.shaded ws c) ∧ Fr [ab, wb, rb] w w' := by
  obtain ⟨-, -, -, -, c4, -, -⟩ := hR.reads
  have h' : ¬ (r.f : Int) = 0 := by omega
  have Hf := hid h
  have hsb : shB ws r c = gw ws (c + 1) := by unfold shB; simp [e2]
  have hsf : shF ws r c = r.first := by unfold shF; simp [e1]
  have hfin : r.shaded ws c = { r with first := r.first, black := gw ws (c + 1), f := r.f - 1, g := r.g + 1 } := by
    rw [RS.shaded, if_pos ht, hsb, hsf]; simp [e3]
  have Hfin := hid hfin
  rw [hsb] at hb hb2 ⊢
  clear hsb hsf hfin
  have f1 : ¬ r.first = c := by omega
  have f2 : r.black ≤ c ∧ c ≤ r.black := by omega
  have f3 : ¬ (r.tot : Int) - r.b = 1 := by have := hR.le; unfold RS.tot at *; omega
  have hbt : (r.b : Int) ≤ 65536 ∧ (r.tot : Int) ≤ 65536 := by have := hR.le; unfold RS.tot at *; omega
  clear e1 e2 e3
  go_enter Tryz.func159, Tryz.ntmps159
  go_wp2_with fail
  refine (rAll rb ab r _ hR).mono ?_
  rintro e w1 ⟨rfl, n, rfl⟩
  go_wp2_with fail
  refine (rCut rb ab wb r ws u c _ (hR.drewN n) (hA.drewN n) hc hp hq n1 n2).mono ?_
  rintro e w2 ⟨rfl, hA2, hF2⟩
  clear c4
  have hR2 := (hR.drewN n).fr hF2 (by simp [n1, n2])
  have hF : Fr [ab, wb, rb] w w2 := ((Fr.refl _ w).drewN n).trans (hF2.here (by simp))
  obtain ⟨d0, d1, d2, d3, d4, d5, d6⟩ := hR2.reads
  obtain ⟨z1, z2, z3, z4, z5, z6⟩ := hR2.free
  go_wp2_with fail
  have hR3 : RRep (w2.setCell ⟨rb, 2, none⟩ (.int .i64 (gw ws (c + 1)))) rb ab { r with first := r.first, black := gw ws (c + 1) } := ⟨by have := (hR2.s.set 2 (.int .i64 (gw ws (c + 1)))); simpa [RS.cells] using this, hR.le⟩
  have hF3 : Fr [ab, wb, rb] w (w2.setCell ⟨rb, 2, none⟩ (.int .i64 (gw ws (c + 1)))) := (hF.set (by simp) _)
  have hA3 : ARep (w2.setCell ⟨rb, 2, none⟩ (.int .i64 (gw ws (c + 1)))) ab wb (ct ws c) (u + 4) := (hA2.u (by omega)).other (Ne.symm n1) (Ne.symm n2) _
  refine (rPut rb ab wb { r with first := r.first, black := gw ws (c + 1) } _ _ c _ _ hR3 hA3 (by unfold Okc at *; rw [ct_len]; exact hc) (by unfold Okc at *; rw [ct_len]; exact hb) (by unfold Okc at *; rw [ct_len]; exact hb2) n1 n2).mono ?_
  rintro e w4 ⟨rfl, hA4, hF4⟩
  have hR4 := hR3.fr hF4 (by simp [n1, n2])
  have hF5 := hF3.trans (hF4.here (T := [ab, wb, rb]) (by simp))
  clear d0 d1 d2 d3 d4 d5 d6 z1 z2 z3 z4 z5 z6
  obtain ⟨d0, d1, d2, d3, d4, d5, d6⟩ := hR4.reads
  have z1 := hR4.s.frozen 1
  go_wp2_with fail
  go_quiet ((go_at_call 133; refine Calls.quiet_of (rAll' rb ab _ r.tot (by rfl) _ (hR4.drewN _))))
  go_wp2_with fail
  refine (rTurn12 rb ab { r with first := r.first, black := gw ws (c + 1) } _ (hR4.drewN nq) Hf.out).mono ?_
  rintro e w6 ⟨rfl, hR7, hF7⟩
  clear d0 d1 d2 d3 d4 d5 d6 z1
  go_wp2_with fail
  go_ret
  refine ⟨rfl, ((hA4.drewN nq).fr hF7 (by simp [Ne.symm n1]) (by simp [Ne.symm n2])).u (by omega), ?_, (hF5.drewN nq).trans (hF7.here (by simp))⟩
  rw [Hfin.out]; exact hR7
set_option maxHeartbeats 3200000 in
theorem rShade7 (rb ab wb : Nat) (r : RS) (ws : List Int) (u : Int) (c : Int) (w : World) (hR : RRep w rb ab r) (hA : ARep w ab wb ws u) (h : 1 ≤ r.f) (ht : 1 < r.tot) (hc : Okc ws c) (hp : Okc ws (gw ws (c + 2))) (hq : Okc ws (gw ws (c + 1)))
    (hb : Okc ws (shB ws r c)) (hb2 : Okc ws (gw (ct ws c) (shB ws r c + 2))) (n1 : rb ≠ ab) (n2 : rb ≠ wb) (e1 : r.first ≠ c) (e2 : r.black ≠ c) (e3 : r.tot - r.b = 1) :
    Calls Tryz.prog 159 #[.pointer (some ⟨rb, 0, none⟩), .int .i64 c] w fun e w' => e = .returned (.int .i64 0) ∧ (ARep w' ab wb (pt (ct ws c) c (shB ws r c)) (u + 9)) ∧ RRep w' rb ab (r.shaded ws c) ∧ Fr [ab, wb, rb] w w' := by
  obtain ⟨-, -, -, -, c4, -, -⟩ := hR.reads
  have h' : ¬ (r.f : Int) = 0 := by omega
  have Hf := hid h
  have hsb : shB ws r c = r.black := by unfold shB; simp [e2]
  have hsf : shF ws r c = r.first := by unfold shF; simp [e1]
  have hfin : r.shaded ws c = { r with first := c, black := r.black, f := r.f - 1, g := r.g + 1 } := by
    rw [RS.shaded, if_pos ht, hsb, hsf]; simp [e3]
  have Hfin := hid hfin
  rw [hsb] at hb hb2 ⊢
  clear hsb hsf hfin
  have f1 : ¬ r.first = c := by omega
  have f2 : ¬ r.black = c := by omega
  have f3 : (r.tot : Int) - r.b ≤ 1 ∧ 1 ≤ (r.tot : Int) - r.b := by have := hR.le; unfold RS.tot at *; omega
  have hbt : (r.b : Int) ≤ 65536 ∧ (r.tot : Int) ≤ 65536 := by have := hR.le; unfold RS.tot at *; omega
  clear e1 e2 e3
  go_enter Tryz.func159, Tryz.ntmps159
  go_wp2_with fail
  refine (rAll rb ab r _ hR).mono ?_
  rintro e w1 ⟨rfl, n, rfl⟩
  go_wp2_with fail
  refine (rCut rb ab wb r ws u c _ (hR.drewN n) (hA.drewN n) hc hp hq n1 n2).mono ?_
  rintro e w2 ⟨rfl, hA2, hF2⟩
  clear c4
  have hR2 := (hR.drewN n).fr hF2 (by simp [n1, n2])
  have hF : Fr [ab, wb, rb] w w2 := ((Fr.refl _ w).drewN n).trans (hF2.here (by simp))
  obtain ⟨d0, d1, d2, d3, d4, d5, d6⟩ := hR2.reads
  obtain ⟨z1, z2, z3, z4, z5, z6⟩ := hR2.free
  go_wp2_with fail
  have hR3 : RRep w2 rb ab { r with first := r.first, black := r.black } := ⟨by have := hR2.s; simpa [RS.cells] using this, hR.le⟩
  have hF3 : Fr [ab, wb, rb] w w2 := hF
  have hA3 : ARep w2 ab wb (ct ws c) (u + 4) := hA2.u (by omega)
  refine (rPut rb ab wb { r with first := r.first, black := r.black } _ _ c _ _ hR3 hA3 (by unfold Okc at *; rw [ct_len]; exact hc) (by unfold Okc at *; rw [ct_len]; exact hb) (by unfold Okc at *; rw [ct_len]; exact hb2) n1 n2).mono ?_
  rintro e w4 ⟨rfl, hA4, hF4⟩
  have hR4 := hR3.fr hF4 (by simp [n1, n2])
  have hF5 := hF3.trans (hF4.here (T := [ab, wb, rb]) (by simp))
  clear d0 d1 d2 d3 d4 d5 d6 z1 z2 z3 z4 z5 z6
  obtain ⟨d0, d1, d2, d3, d4, d5, d6⟩ := hR4.reads
  have z1 := hR4.s.frozen 1
  go_wp2_with fail
  go_quiet ((go_at_call 133; refine Calls.quiet_of (rAll' rb ab _ r.tot (by rfl) _ (hR4.drewN _))))
  go_wp2_with fail
  have hR6 : RRep ((w4.drewN nq).setCell ⟨rb, 1, none⟩ (.int .i64 c)) rb ab { r with first := c, black := r.black } := ⟨by have := (hR4.s.drewN nq).set 1 (.int .i64 c); simpa [RS.cells] using this, hR.le⟩
  refine (rTurn12 rb ab { r with first := c, black := r.black } _ hR6 Hf.out).mono ?_
  rintro e w6 ⟨rfl, hR7, hF7⟩
  clear d0 d1 d2 d3 d4 d5 d6 z1
  go_wp2_with fail
  go_ret
  refine ⟨rfl, (((hA4.drewN nq).other (Ne.symm n1) (Ne.symm n2) _).fr hF7 (by simp [Ne.symm n1]) (by simp [Ne.symm n2])).u (by omega), ?_, ((hF5.drewN nq).set (by simp) _).trans (hF7.here (by simp))⟩
  rw [Hfin.out]; exact hR7
set_option maxHeartbeats 3200000 in
theorem rShade8 (rb ab wb : Nat) (r : RS) (ws : List Int) (u : Int) (c : Int) (w : World) (hR : RRep w rb ab r) (hA : ARep w ab wb ws u) (h : 1 ≤ r.f) (ht : 1 < r.tot) (hc : Okc ws c) (hp : Okc ws (gw ws (c + 2))) (hq : Okc ws (gw ws (c + 1)))
    (hb : Okc ws (shB ws r c)) (hb2 : Okc ws (gw (ct ws c) (shB ws r c + 2))) (n1 : rb ≠ ab) (n2 : rb ≠ wb) (e1 : r.first ≠ c) (e2 : r.black ≠ c) (e3 : r.tot - r.b ≠ 1) :
    Calls Tryz.prog 159 #[.pointer (some ⟨rb, 0, none⟩), .int .i64 c] w fun e w' => e = .returned (.int .i64 0) ∧ (ARep w' ab wb (pt (ct ws c) c (shB ws r c)) (u + 9)) ∧ RRep w' rb ab (r.shaded ws c) ∧ Fr [ab, wb, rb] w w' := by
  obtain ⟨-, -, -, -, c4, -, -⟩ := hR.reads
  have h' : ¬ (r.f : Int) = 0 := by omega
  have Hf := hid h
  have hsb : shB ws r c = r.black := by unfold shB; simp [e2]
  have hsf : shF ws r c = r.first := by unfold shF; simp [e1]
  have hfin : r.shaded ws c = { r with first := r.first, black := r.black, f := r.f - 1, g := r.g + 1 } := by
    rw [RS.shaded, if_pos ht, hsb, hsf]; simp [e3]
  have Hfin := hid hfin
  rw [hsb] at hb hb2 ⊢
  clear hsb hsf hfin
  have f1 : ¬ r.first = c := by omega
  have f2 : ¬ r.black = c := by omega
  have f3 : ¬ (r.tot : Int) - r.b = 1 := by have := hR.le; unfold RS.tot at *; omega
  have hbt : (r.b : Int) ≤ 65536 ∧ (r.tot : Int) ≤ 65536 := by have := hR.le; unfold RS.tot at *; omega
  clear e1 e2 e3
  go_enter Tryz.func159, Tryz.ntmps159
  go_wp2_with fail
  refine (rAll rb ab r _ hR).mono ?_
  rintro e w1 ⟨rfl, n, rfl⟩
  go_wp2_with fail
  refine (rCut rb ab wb r ws u c _ (hR.drewN n) (hA.drewN n) hc hp hq n1 n2).mono ?_
  rintro e w2 ⟨rfl, hA2, hF2⟩
  clear c4
  have hR2 := (hR.drewN n).fr hF2 (by simp [n1, n2])
  have hF : Fr [ab, wb, rb] w w2 := ((Fr.refl _ w).drewN n).trans (hF2.here (by simp))
  obtain ⟨d0, d1, d2, d3, d4, d5, d6⟩ := hR2.reads
  obtain ⟨z1, z2, z3, z4, z5, z6⟩ := hR2.free
  go_wp2_with fail
  have hR3 : RRep w2 rb ab { r with first := r.first, black := r.black } := ⟨by have := hR2.s; simpa [RS.cells] using this, hR.le⟩
  have hF3 : Fr [ab, wb, rb] w w2 := hF
  have hA3 : ARep w2 ab wb (ct ws c) (u + 4) := hA2.u (by omega)
  refine (rPut rb ab wb { r with first := r.first, black := r.black } _ _ c _ _ hR3 hA3 (by unfold Okc at *; rw [ct_len]; exact hc) (by unfold Okc at *; rw [ct_len]; exact hb) (by unfold Okc at *; rw [ct_len]; exact hb2) n1 n2).mono ?_
  rintro e w4 ⟨rfl, hA4, hF4⟩
  have hR4 := hR3.fr hF4 (by simp [n1, n2])
  have hF5 := hF3.trans (hF4.here (T := [ab, wb, rb]) (by simp))
  clear d0 d1 d2 d3 d4 d5 d6 z1 z2 z3 z4 z5 z6
  obtain ⟨d0, d1, d2, d3, d4, d5, d6⟩ := hR4.reads
  have z1 := hR4.s.frozen 1
  go_wp2_with fail
  go_quiet ((go_at_call 133; refine Calls.quiet_of (rAll' rb ab _ r.tot (by rfl) _ (hR4.drewN _))))
  go_wp2_with fail
  refine (rTurn12 rb ab { r with first := r.first, black := r.black } _ (hR4.drewN nq) Hf.out).mono ?_
  rintro e w6 ⟨rfl, hR7, hF7⟩
  clear d0 d1 d2 d3 d4 d5 d6 z1
  go_wp2_with fail
  go_ret
  refine ⟨rfl, ((hA4.drewN nq).fr hF7 (by simp [Ne.symm n1]) (by simp [Ne.symm n2])).u (by omega), ?_, (hF5.drewN nq).trans (hF7.here (by simp))⟩
  rw [Hfin.out]; exact hR7
theorem rShade (rb ab wb : Nat) (r : RS) (ws : List Int) (u : Int) (c : Int) (w : World) (hR : RRep w rb ab r) (hA : ARep w ab wb ws u) (h : 1 ≤ r.f)
    (hk : 1 < r.tot → Okc ws c ∧ Okc ws (gw ws (c + 2)) ∧ Okc ws (gw ws (c + 1)) ∧ Okc ws (shB ws r c) ∧ Okc ws (gw (ct ws c) (shB ws r c + 2))) (n1 : rb ≠ ab) (n2 : rb ≠ wb) :
    Calls Tryz.prog 159 #[.pointer (some ⟨rb, 0, none⟩), .int .i64 c] w fun e w' => e = .returned (.int .i64 0) ∧ (∃ k : Nat, k ≤ 9 ∧ ARep w' ab wb (shW ws r c) (u + k)) ∧ RRep w' rb ab (r.shaded ws c) ∧ Fr [ab, wb, rb] w w' := by
  by_cases ht : 1 < r.tot
  · obtain ⟨hc, hp, hq, hb, hb2⟩ := hk ht
    have fin : ∀ e w', (e = Ending.returned (.int .i64 0) ∧ (ARep w' ab wb (pt (ct ws c) c (shB ws r c)) (u + 9)) ∧ RRep w' rb ab (r.shaded ws c) ∧ Fr [ab, wb, rb] w w') →
        (e = Ending.returned (.int .i64 0) ∧ (∃ k : Nat, k ≤ 9 ∧ ARep w' ab wb (shW ws r c) (u + k)) ∧ RRep w' rb ab (r.shaded ws c) ∧ Fr [ab, wb, rb] w w') := by
      rintro e w' ⟨rfl, a1, a2, a3⟩
      exact ⟨rfl, ⟨9, by omega, by rw [shW, if_pos ht]; exact a1⟩, a2, a3⟩
    by_cases e1 : r.first = c <;> by_cases e2 : r.black = c <;> by_cases e3 : r.tot - r.b = 1
    · exact (rShade1 rb ab wb r ws u c w hR hA h ht hc hp hq hb hb2 n1 n2 e1 e2 e3).mono fin
    · exact (rShade2 rb ab wb r ws u c w hR hA h ht hc hp hq hb hb2 n1 n2 e1 e2 e3).mono fin
    · exact (rShade3 rb ab wb r ws u c w hR hA h ht hc hp hq hb hb2 n1 n2 e1 e2 e3).mono fin
    · exact (rShade4 rb ab wb r ws u c w hR hA h ht hc hp hq hb hb2 n1 n2 e1 e2 e3).mono fin
    · exact (rShade5 rb ab wb r ws u c w hR hA h ht hc hp hq hb hb2 n1 n2 e1 e2 e3).mono fin
    · exact (rShade6 rb ab wb r ws u c w hR hA h ht hc hp hq hb hb2 n1 n2 e1 e2 e3).mono fin
    · exact (rShade7 rb ab wb r ws u c w hR hA h ht hc hp hq hb hb2 n1 n2 e1 e2 e3).mono fin
    · exact (rShade8 rb ab wb r ws u c w hR hA h ht hc hp hq hb hb2 n1 n2 e1 e2 e3).mono fin
  · refine (rShadeOne rb ab r c w hR h ht).mono ?_
    rintro e w' ⟨rfl, a2, a3⟩
    exact ⟨rfl, ⟨0, by omega, by rw [shW, if_neg ht]; exact (hA.fr a3 (by simp [Ne.symm n1]) (by simp [Ne.symm n2])).u (by omega)⟩, by rw [RS.shaded, if_neg ht]; exact a2, a3.here (by simp)⟩
set_option maxHeartbeats 800000 in
theorem rBegin (rb ab : Nat) (r : RS) (w : World) (hR : RRep w rb ab r) (h1 : r.f = 0) (h2 : r.g = 0) :
    Calls Tryz.prog 92 #[.pointer (some ⟨rb, 0, none⟩)] w fun e w' => e = .returned (.int .i64 0) ∧ RRep w' rb ab { r with black := r.first, f := r.b, b := 0 } ∧ Fr [rb] w w' := by
  obtain ⟨c0, c1, c2, c3, c4, c5, c6⟩ := hR.reads
  obtain ⟨z1, z2, z3, z4, z5, z6⟩ := hR.free
  have hle := hR.le
  unfold RS.tot at hle
  rw [h1] at c4
  rw [h2] at c5
  have H1 := hid h1
  have H2 := hid h2
  clear h1 h2
  go_enter Tryz.func92, Tryz.ntmps92
  go_wp2_with fail
  go_quiet (fail)
  go_wp2_with fail
  go_region
  go_wp2_with fail
  go_ret
  refine ⟨rfl, ⟨?_, ?_⟩, ?_⟩
  · have := ((((hR.s.drewN nq).drew.set 4 (.int .i64 r.b)).set 6 (.int .i64 0)).set 2 (.int .i64 r.first))
    simpa [RS.cells, H2.out] using this
  · simp only [RS.tot]; omega
  · exact (((((Fr.refl _ w).drewN nq).drew).set (by simp) _).set (by simp) _).set (by simp) _
set_option maxHeartbeats 800000 in
theorem rEnd (rb ab : Nat) (r : RS) (w : World) (hR : RRep w rb ab r) (h2 : r.g = 0) :
    Calls Tryz.prog 154 #[.pointer (some ⟨rb, 0, none⟩)] w fun e w' => e = .returned (.int .i64 0) ∧ RRep w' rb ab { r with w := r.w + r.f, f := 0 } ∧ Fr [rb] w w' := by
  obtain ⟨c0, c1, c2, c3, c4, c5, c6⟩ := hR.reads
  obtain ⟨z1, z2, z3, z4, z5, z6⟩ := hR.free
  have hle := hR.le
  unfold RS.tot at hle
  rw [h2] at c5
  have H2 := hid h2
  clear h2
  go_enter Tryz.func154, Tryz.ntmps154
  go_wp2_with fail
  go_region
  go_wp2_with fail
  go_ret
  refine ⟨rfl, ⟨?_, ?_⟩, ?_⟩
  · have := (((hR.s.set 3 (.int .i64 ((r.w : Int) + r.f))).set 4 (.int .i64 0))).drew
    simpa [RS.cells, H2.out] using this
  · simp only [RS.tot]; omega
  · exact (((Fr.refl _ w).set (by simp) _).set (by simp) _).drew
theorem rCounts (rb ab : Nat) (r : RS) (w : World) (hR : RRep w rb ab r) :
    Calls Tryz.prog 125 #[.pointer (some ⟨rb, 0, none⟩)] w fun e w' => e = .returned (.agg #[.int .i64 r.w, .int .i64 r.f, .int .i64 r.g, .int .i64 r.b]) ∧ Fr [] w w' := by
  obtain ⟨c0, c1, c2, c3, c4, c5, c6⟩ := hR.reads
  have l := hR.s.lt
  go_enter Tryz.func125, Tryz.ntmps125
  go_wp2_with fail
  exact bodyPost_ret (v := .agg #[.int .i64 r.w, .int .i64 r.f, .int .i64 r.g, .int .i64 r.b]) (by simp [results, Tryz.results125, go_sem]) rfl ⟨rfl, (Fr.refl _ w).alloc _⟩
theorem rDropNone (rb ab : Nat) (r : RS) (w : World) (hR : RRep w rb ab r) (h : r.w = 0) :
    Calls Tryz.prog 114 #[.pointer (some ⟨rb, 0, none⟩)] w fun e w' => e = .returned (.tuple #[.int .i64 0, .int .i64 2]) ∧ w = w' := by
  obtain ⟨-, -, -, c3, -, -, -⟩ := hR.reads
  rw [h] at c3
  clear h
  go_enter Tryz.func114, Tryz.ntmps114
  go_wp2_with fail
  go_ret2
  exact ⟨rfl, rfl⟩
def RS.dropped (ws : List Int) (r : RS) : RS := { r with first := gw ws (r.first + 1), black := if r.black = r.first then gw ws (r.first + 1) else r.black, w := r.w - 1 }
set_option maxHeartbeats 1600000 in
theorem rDrop (rb ab wb : Nat) (r : RS) (ws : List Int) (u : Int) (w : World) (hR : RRep w rb ab r) (hA : ARep w ab wb ws u) (h : 1 ≤ r.w) (hc : Okc ws r.first) (hp : Okc ws (gw ws (r.first + 2))) (hq : Okc ws (gw ws (r.first + 1))) (n1 : rb ≠ ab) (n2 : rb ≠ wb) :
    Calls Tryz.prog 114 #[.pointer (some ⟨rb, 0, none⟩)] w fun e w' => e = .returned (.tuple #[.int .i64 r.first, .int .i64 0]) ∧ ARep w' ab wb (ct ws r.first) (u + 4) ∧ RRep w' rb ab (r.dropped ws) ∧ Fr [ab, wb, rb] w w' := by
  obtain ⟨-, c1, -, c3, -, -, -⟩ := hR.reads
  have hle := hR.le
  have h' : ¬ (r.w : Int) = 0 := by omega
  have hw : r.w ≤ 65536 := by unfold RS.tot at hle; omega
  have Hw := hid h
  by_cases hb : r.black = r.first
  all_goals
    have Hb := hid hb
    have f1 : (r.black ≤ r.first ∧ r.first ≤ r.black) ∨ ¬ r.black = r.first := by omega
    clear hb
    go_enter Tryz.func114, Tryz.ntmps114
    go_wp2_with fail
    refine (rCut rb ab wb r ws u r.first _ hR hA hc hp hq n1 n2).mono ?_
    rintro e w2 ⟨rfl, hA2, hF2⟩
    have hR2 := hR.fr hF2 (by simp [n1, n2])
    have hF : Fr [ab, wb, rb] w w2 := hF2.here (by simp)
    obtain ⟨d0, d1, d2, d3, d4, d5, d6⟩ := hR2.reads
    obtain ⟨z1, z2, z3, z4, z5, z6⟩ := hR2.free
    clear c1 c3
  · have f2 : r.black ≤ r.first ∧ r.first ≤ r.black := by have := Hb.out; omega
    clear f1
    go_wp2_with fail
    go_region
    go_wp2_with fail
    go_ret2
    refine ⟨rfl, ?_, ⟨?_, ?_⟩, ?_⟩
    · exact (((hA2.other (Ne.symm n1) (Ne.symm n2) _).other (Ne.symm n1) (Ne.symm n2) _).other (Ne.symm n1) (Ne.symm n2) _).drew
    · have := ((((hR2.s.set 1 (.int .i64 (gw ws (r.first + 1)))).set 2 (.int .i64 (gw ws (r.first + 1))))).set 3 (.int .i64 ((r.w : Int) - 1))).drew
      have e : ((r.w - 1 : Nat) : Int) = (r.w : Int) - 1 := by have := Hw.out; omega
      simpa [RS.cells, RS.dropped, Hb.out, e] using this
    · simp only [RS.tot, RS.dropped] at *; omega
    · exact (((hF.set (by simp) _).set (by simp) _).set (by simp) _).drew
  · have f2 : ¬ r.black = r.first := Hb.out
    clear f1
    go_wp2_with fail
    go_region
    go_wp2_with fail
    go_ret2
    refine ⟨rfl, ?_, ⟨?_, ?_⟩, ?_⟩
    · exact ((hA2.other (Ne.symm n1) (Ne.symm n2) _).other (Ne.symm n1) (Ne.symm n2) _).drew
    · have := ((hR2.s.set 1 (.int .i64 (gw ws (r.first + 1)))).set 3 (.int .i64 ((r.w : Int) - 1))).drew
      have e : ((r.w - 1 : Nat) : Int) = (r.w : Int) - 1 := by have := Hw.out; omega
      simpa [RS.cells, RS.dropped, Hb.out, e] using this
    · simp only [RS.tot, RS.dropped] at *; omega
    · exact ((hF.set (by simp) _).set (by simp) _).drew
theorem rNew (ab : Nat) (w : World) :
    Calls Tryz.prog 66 #[.pointer (some ⟨ab, 0, none⟩)] w fun e w' => e = .returned (.pointer (some ⟨w.heap.size, 0, none⟩)) ∧ RRep w' w.heap.size ab ⟨0, 0, 0, 0, 0, 0⟩ ∧ Fr [] w w' ∧ w'.heap.size = w.heap.size + 1 := by
  go_enter Tryz.func66, Tryz.ntmps66
  go_wp2_with fail
  go_ret
  exact ⟨rfl, ⟨Blk.new w _ _, by simp [RS.tot]⟩, (Fr.refl _ w).alloc _, by simp⟩
end Go.Proofs.YtklnpooninbogaaGreat
