import Derived.Test.YtifillpcphiblaaRingOps
namespace Go.Proofs.Ytifillpcphiblaa
open Go Go.Proofs Go.RowKit

/-- The ring's row behind 'cut': where it begins. -/
def shF (ws : List Int) (r : RS) (c : Int) : Int := if r.first = c then gw ws (c + 1) else r.first
def shB (ws : List Int) (r : RS) (c : Int) : Int := if r.black = c then gw ws (c + 1) else r.black
def shW (ws : List Int) (r : RS) (c : Int) : List Int := if 1 < r.tot then pt (ct ws c) c (shB ws r c) else ws
def RS.shaded (ws : List Int) (r : RS) (c : Int) : RS :=
  if 1 < r.tot then { r with first := if r.tot - r.b = 1 then c else shF ws r c, black := shB ws r c, f := r.f - 1, g := r.g + 1 } else { r with f := r.f - 1, g := r.g + 1 }

set_option maxHeartbeats 800000 in
theorem rShadeNone (rb ab : Nat) (r : RS) (c : Int) (w : World) (hR : RRep w rb ab r) (h : r.f = 0) :
    Calls Try.prog 83 #[.pointer (some ⟨rb, 0, none⟩), .int .i64 c] w fun e w' => e = .returned (.int .i64 20) ∧ w = w' := by
  obtain ⟨-, -, -, -, c4, -, -⟩ := hR.reads
  rw [h] at c4
  clear h
  go_enter Try.func83, Try.ntmps83
  go_wp2_with fail
  go_ret
  exact ⟨rfl, rfl⟩

theorem ct_len (ws : List Int) (c : Int) : (ct ws c).length = ws.length := lk_len _ _ _
theorem pt_len (ws : List Int) (c a : Int) : (pt ws c a).length = ws.length := by simp [pt, lk_len]

set_option maxHeartbeats 1600000 in
theorem rShadeOne (rb ab : Nat) (r : RS) (c : Int) (w : World) (hR : RRep w rb ab r) (h : 1 ≤ r.f) (ht : ¬ 1 < r.tot) :
    Calls Try.prog 83 #[.pointer (some ⟨rb, 0, none⟩), .int .i64 c] w fun e w' => e = .returned (.int .i64 0) ∧ RRep w' rb ab { r with f := r.f - 1, g := r.g + 1 } ∧ Fr [rb] w w' := by
  obtain ⟨-, -, -, -, c4, -, -⟩ := hR.reads
  have h' : ¬ (r.f : Int) = 0 := by omega
  go_enter Try.func83, Try.ntmps83
  go_wp2_with fail
  refine (rAll rb ab r _ hR).mono ?_
  rintro e w1 ⟨rfl, n, rfl⟩
  go_wp2_with fail
  refine (rTurn12 rb ab r _ (hR.drewN n) h).mono ?_
  rintro e w2 ⟨rfl, hR3, hF3⟩
  go_wp2_with fail
  go_ret
  exact ⟨rfl, hR3, ((Fr.refl _ w).drewN n).trans hF3⟩

set_option maxHeartbeats 3200000 in
theorem rShade1 (rb ab wb : Nat) (r : RS) (ws : List Int) (u : Int) (c : Int) (w : World) (hR : RRep w rb ab r) (hA : ARep w ab wb ws u) (h : 1 ≤ r.f) (ht : 1 < r.tot) (hc : Okc ws c) (hp : Okc ws (gw ws (c + 2))) (hq : Okc ws (gw ws (c + 1)))
    (hb : Okc ws (shB ws r c)) (hb2 : Okc ws (gw (ct ws c) (shB ws r c + 2))) (n1 : rb ≠ ab) (n2 : rb ≠ wb) (e1 : r.first = c) (e2 : r.black = c) (e3 : r.tot - r.b = 1) :
    Calls Try.prog 83 #[.pointer (some ⟨rb, 0, none⟩), .int .i64 c] w fun e w' => e = .returned (.int .i64 0) ∧ (ARep w' ab wb (pt (ct ws c) c (shB ws r c)) (u + 9)) ∧ RRep w' rb ab (r.shaded ws c) ∧ Fr [ab, wb, rb] w w' := by
  obtain ⟨-, -, -, -, c4, -, -⟩ := hR.reads
  have h' : ¬ (r.f : Int) = 0 := by omega
  have Hf := hid h
  have hsb : shB ws r c = gw ws (c + 1) := by unfold shB; simp [e2]
  have hsf : shF ws r c = gw ws (c + 1) := by unfold shF; simp [e1]
  have hfin : r.shaded ws c = { r with first := c, black := gw ws (c + 1), f := r.f - 1, g := r.g + 1 } := by
    rw [RS.shaded, if_pos ht, hsb, hsf]; simp [e3]
  have Hfin := hid hfin
  rw [hsb] at hb hb2 ⊢
  clear hsb hsf hfin
  have f1 : r.first ≤ c ∧ c ≤ r.first := by omega
  have f2 : r.black ≤ c ∧ c ≤ r.black := by omega
  have f3 : (r.tot : Int) - r.b ≤ 1 ∧ 1 ≤ (r.tot : Int) - r.b := by have := hR.le; unfold RS.tot at *; omega
  have hbt : (r.b : Int) ≤ 65536 ∧ (r.tot : Int) ≤ 65536 := by have := hR.le; unfold RS.tot at *; omega
  clear e1 e2 e3
  go_enter Try.func83, Try.ntmps83
  go_wp2_with fail
  refine (rAll rb ab r _ hR).mono ?_
  rintro e w1 ⟨rfl, n, rfl⟩
  go_wp2_with fail
  refine (rCut rb ab wb r ws u c _ (hR.drewN n) (hA.drewN n) hc hp hq n1 n2).mono ?_
  rintro e w2 ⟨rfl, hA2, hF2⟩
  clear c4
  have hR2 := (hR.drewN n).fr hF2 (by simp [n1, n2])
  have hF : Fr [ab, wb, rb] w w2 := ((Fr.refl _ w).drewN n).trans (hF2.here (by simp))
  obtain ⟨d0, d1, d2, d3, d4, d5, d6⟩ := hR2.reads
  obtain ⟨z1, z2, z3, z4, z5, z6⟩ := hR2.free
  go_wp2_with fail
  have hR3 : RRep ((w2.setCell ⟨rb, 1, none⟩ (.int .i64 (gw ws (c + 1)))).setCell ⟨rb, 2, none⟩ (.int .i64 (gw ws (c + 1)))) rb ab { r with first := gw ws (c + 1), black := gw ws (c + 1) } := ⟨by have := ((hR2.s.set 1 (.int .i64 (gw ws (c + 1)))).set 2 (.int .i64 (gw ws (c + 1)))); simpa [RS.cells] using this, hR.le⟩
  have hF3 : Fr [ab, wb, rb] w ((w2.setCell ⟨rb, 1, none⟩ (.int .i64 (gw ws (c + 1)))).setCell ⟨rb, 2, none⟩ (.int .i64 (gw ws (c + 1)))) := ((hF.set (by simp) _).set (by simp) _)
  have hA3 : ARep ((w2.setCell ⟨rb, 1, none⟩ (.int .i64 (gw ws (c + 1)))).setCell ⟨rb, 2, none⟩ (.int .i64 (gw ws (c + 1)))) ab wb (ct ws c) (u + 4) := ((hA2.u (by omega)).other (Ne.symm n1) (Ne.symm n2) _).other (Ne.symm n1) (Ne.symm n2) _
  refine (rPut rb ab wb { r with first := gw ws (c + 1), black := gw ws (c + 1) } _ _ c _ _ hR3 hA3 (by unfold Okc at *; rw [ct_len]; exact hc) (by unfold Okc at *; rw [ct_len]; exact hb) (by unfold Okc at *; rw [ct_len]; exact hb2) n1 n2).mono ?_
  rintro e w4 ⟨rfl, hA4, hF4⟩
  have hR4 := hR3.fr hF4 (by simp [n1, n2])
  have hF5 := hF3.trans (hF4.here (T := [ab, wb, rb]) (by simp))
  clear d0 d1 d2 d3 d4 d5 d6 z1 z2 z3 z4 z5 z6
  obtain ⟨d0, d1, d2, d3, d4, d5, d6⟩ := hR4.reads
  have z1 := hR4.s.frozen 1
  go_wp2_with fail
  go_quiet ((go_at_call 122; refine Calls.quiet_of (rAll' rb ab _ r.tot (by rfl) _ (hR4.drewN _))))
  go_wp2_with fail
  have hR6 : RRep ((w4.drewN nq).setCell ⟨rb, 1, none⟩ (.int .i64 c)) rb ab { r with first := c, black := gw ws (c + 1) } := ⟨by have := (hR4.s.drewN nq).set 1 (.int .i64 c); simpa [RS.cells] using this, hR.le⟩
  refine (rTurn12 rb ab { r with first := c, black := gw ws (c + 1) } _ hR6 Hf.out).mono ?_
  rintro e w6 ⟨rfl, hR7, hF7⟩
  clear d0 d1 d2 d3 d4 d5 d6 z1
  go_wp2_with fail
  go_ret
  refine ⟨rfl, (((hA4.drewN nq).other (Ne.symm n1) (Ne.symm n2) _).fr hF7 (by simp [Ne.symm n1]) (by simp [Ne.symm n2])).u (by omega), ?_, ((hF5.drewN nq).set (by simp) _).trans (hF7.here (by simp))⟩
  rw [Hfin.out]; exact hR7

set_option maxHeartbeats 3200000 in
theorem rShade2 (rb ab wb : Nat) (r : RS) (ws : List Int) (u : Int) (c : Int) (w : World) (hR : RRep w rb ab r) (hA : ARep w ab wb ws u) (h : 1 ≤ r.f) (ht : 1 < r.tot) (hc : Okc ws c) (hp : Okc ws (gw ws (c + 2))) (hq : Okc ws (gw ws (c + 1)))
    (hb : Okc ws (shB ws r c)) (hb2 : Okc ws (gw (ct ws c) (shB ws r c + 2))) (n1 : rb ≠ ab) (n2 : rb ≠ wb) (e1 : r.first = c) (e2 : r.black = c) (e3 : r.tot - r.b ≠ 1) :
    Calls Try.prog 83 #[.pointer (some ⟨rb, 0, none⟩), .int .i64 c] w fun e w' => e = .returned (.int .i64 0) ∧ (ARep w' ab wb (pt (ct ws c) c (shB ws r c)) (u + 9)) ∧ RRep w' rb ab (r.shaded ws c) ∧ Fr [ab, wb, rb] w w' := by
  obtain ⟨-, -, -, -, c4, -, -⟩ := hR.reads
  have h' : ¬ (r.f : Int) = 0 := by omega
  have Hf := hid h
  have hsb : shB ws r c = gw ws (c + 1) := by unfold shB; simp [e2]
  have hsf : shF ws r c = gw ws (c + 1) := by unfold shF; simp [e1]
  have hfin : r.shaded ws c = { r with first := gw ws (c + 1), black := gw ws (c + 1), f := r.f - 1, g := r.g + 1 } := by
    rw [RS.shaded, if_pos ht, hsb, hsf]; simp [e3]
  have Hfin := hid hfin
  rw [hsb] at hb hb2 ⊢
  clear hsb hsf hfin
  have f1 : r.first ≤ c ∧ c ≤ r.first := by omega
  have f2 : r.black ≤ c ∧ c ≤ r.black := by omega
  have f3 : ¬ (r.tot : Int) - r.b = 1 := by have := hR.le; unfold RS.tot at *; omega
  have hbt : (r.b : Int) ≤ 65536 ∧ (r.tot : Int) ≤ 65536 := by have := hR.le; unfold RS.tot at *; omega
  clear e1 e2 e3
  go_enter Try.func83, Try.ntmps83
  go_wp2_with fail
  refine (rAll rb ab r _ hR).mono ?_
  rintro e w1 ⟨rfl, n, rfl⟩
  go_wp2_with fail
  refine (rCut rb ab wb r ws u c _ (hR.drewN n) (hA.drewN n) hc hp hq n1 n2).mono ?_
  rintro e w2 ⟨rfl, hA2, hF2⟩
  clear c4
  have hR2 := (hR.drewN n).fr hF2 (by simp [n1, n2])
  have hF : Fr [ab, wb, rb] w w2 := ((Fr.refl _ w).drewN n).trans (hF2.here (by simp))
  obtain ⟨d0, d1, d2, d3, d4, d5, d6⟩ := hR2.reads
  obtain ⟨z1, z2, z3, z4, z5, z6⟩ := hR2.free
  go_wp2_with fail
  have hR3 : RRep ((w2.setCell ⟨rb, 1, none⟩ (.int .i64 (gw ws (c + 1)))).setCell ⟨rb, 2, none⟩ (.int .i64 (gw ws (c + 1)))) rb ab { r with first := gw ws (c + 1), black := gw ws (c + 1) } := ⟨by have := ((hR2.s.set 1 (.int .i64 (gw ws (c + 1)))).set 2 (.int .i64 (gw ws (c + 1)))); simpa [RS.cells] using this, hR.le⟩
  have hF3 : Fr [ab, wb, rb] w ((w2.setCell ⟨rb, 1, none⟩ (.int .i64 (gw ws (c + 1)))).setCell ⟨rb, 2, none⟩ (.int .i64 (gw ws (c + 1)))) := ((hF.set (by simp) _).set (by simp) _)
  have hA3 : ARep ((w2.setCell ⟨rb, 1, none⟩ (.int .i64 (gw ws (c + 1)))).setCell ⟨rb, 2, none⟩ (.int .i64 (gw ws (c + 1)))) ab wb (ct ws c) (u + 4) := ((hA2.u (by omega)).other (Ne.symm n1) (Ne.symm n2) _).other (Ne.symm n1) (Ne.symm n2) _
  refine (rPut rb ab wb { r with first := gw ws (c + 1), black := gw ws (c + 1) } _ _ c _ _ hR3 hA3 (by unfold Okc at *; rw [ct_len]; exact hc) (by unfold Okc at *; rw [ct_len]; exact hb) (by unfold Okc at *; rw [ct_len]; exact hb2) n1 n2).mono ?_
  rintro e w4 ⟨rfl, hA4, hF4⟩
  have hR4 := hR3.fr hF4 (by simp [n1, n2])
  have hF5 := hF3.trans (hF4.here (T := [ab, wb, rb]) (by simp))
  clear d0 d1 d2 d3 d4 d5 d6 z1 z2 z3 z4 z5 z6
  obtain ⟨d0, d1, d2, d3, d4, d5, d6⟩ := hR4.reads
  have z1 := hR4.s.frozen 1
  go_wp2_with fail
  go_quiet ((go_at_call 122; refine Calls.quiet_of (rAll' rb ab _ r.tot (by rfl) _ (hR4.drewN _))))
  go_wp2_with fail
  refine (rTurn12 rb ab { r with first := gw ws (c + 1), black := gw ws (c + 1) } _ (hR4.drewN nq) Hf.out).mono ?_
  rintro e w6 ⟨rfl, hR7, hF7⟩
  clear d0 d1 d2 d3 d4 d5 d6 z1
  go_wp2_with fail
  go_ret
  refine ⟨rfl, ((hA4.drewN nq).fr hF7 (by simp [Ne.symm n1]) (by simp [Ne.symm n2])).u (by omega), ?_, (hF5.drewN nq).trans (hF7.here (by simp))⟩
  rw [Hfin.out]; exact hR7

set_option maxHeartbeats 3200000 in
theorem rShade3 (rb ab wb : Nat) (r : RS) (ws : List Int) (u : Int) (c : Int) (w : World) (hR : RRep w rb ab r) (hA : ARep w ab wb ws u) (h : 1 ≤ r.f) (ht : 1 < r.tot) (hc : Okc ws c) (hp : Okc ws (gw ws (c + 2))) (hq : Okc ws (gw ws (c + 1)))
    (hb : Okc ws (shB ws r c)) (hb2 : Okc ws (gw (ct ws c) (shB ws r c + 2))) (n1 : rb ≠ ab) (n2 : rb ≠ wb) (e1 : r.first = c) (e2 : r.black ≠ c) (e3 : r.tot - r.b = 1) :
    Calls Try.prog 83 #[.pointer (some ⟨rb, 0, none⟩), .int .i64 c] w fun e w' => e = .returned (.int .i64 0) ∧ (ARep w' ab wb (pt (ct ws c) c (shB ws r c)) (u + 9)) ∧ RRep w' rb ab (r.shaded ws c) ∧ Fr [ab, wb, rb] w w' := by
  obtain ⟨-, -, -, -, c4, -, -⟩ := hR.reads
  have h' : ¬ (r.f : Int) = 0 := by omega
  have Hf := hid h
  have hsb : shB ws r c = r.black := by unfold shB; simp [e2]
  have hsf : shF ws r c = gw ws (c + 1) := by unfold shF; simp [e1]
  have hfin : r.shaded ws c = { r with first := c, black := r.black, f := r.f - 1, g := r.g + 1 } := by
    rw [RS.shaded, if_pos ht, hsb, hsf]; simp [e3]
  have Hfin := hid hfin
  rw [hsb] at hb hb2 ⊢
  clear hsb hsf hfin
  have f1 : r.first ≤ c ∧ c ≤ r.first := by omega
  have f2 : ¬ r.black = c := by omega
  have f3 : (r.tot : Int) - r.b ≤ 1 ∧ 1 ≤ (r.tot : Int) - r.b := by have := hR.le; unfold RS.tot at *; omega
  have hbt : (r.b : Int) ≤ 65536 ∧ (r.tot : Int) ≤ 65536 := by have := hR.le; unfold RS.tot at *; omega
  clear e1 e2 e3
  go_enter Try.func83, Try.ntmps83
  go_wp2_with fail
  refine (rAll rb ab r _ hR).mono ?_
  rintro e w1 ⟨rfl, n, rfl⟩
  go_wp2_with fail
  refine (rCut rb ab wb r ws u c _ (hR.drewN n) (hA.drewN n) hc hp hq n1 n2).mono ?_
  rintro e w2 ⟨rfl, hA2, hF2⟩
  clear c4
  have hR2 := (hR.drewN n).fr hF2 (by simp [n1, n2])
  have hF : Fr [ab, wb, rb] w w2 := ((Fr.refl _ w).drewN n).trans (hF2.here (by simp))
  obtain ⟨d0, d1, d2, d3, d4, d5, d6⟩ := hR2.reads
  obtain ⟨z1, z2, z3, z4, z5, z6⟩ := hR2.free
  go_wp2_with fail
  have hR3 : RRep (w2.setCell ⟨rb, 1, none⟩ (.int .i64 (gw ws (c + 1)))) rb ab { r with first := gw ws (c + 1), black := r.black } := ⟨by have := (hR2.s.set 1 (.int .i64 (gw ws (c + 1)))); simpa [RS.cells] using this, hR.le⟩
  have hF3 : Fr [ab, wb, rb] w (w2.setCell ⟨rb, 1, none⟩ (.int .i64 (gw ws (c + 1)))) := (hF.set (by simp) _)
  have hA3 : ARep (w2.setCell ⟨rb, 1, none⟩ (.int .i64 (gw ws (c + 1)))) ab wb (ct ws c) (u + 4) := (hA2.u (by omega)).other (Ne.symm n1) (Ne.symm n2) _
  refine (rPut rb ab wb { r with first := gw ws (c + 1), black := r.black } _ _ c _ _ hR3 hA3 (by unfold Okc at *; rw [ct_len]; exact hc) (by unfold Okc at *; rw [ct_len]; exact hb) (by unfold Okc at *; rw [ct_len]; exact hb2) n1 n2).mono ?_
  rintro e w4 ⟨rfl, hA4, hF4⟩
  have hR4 := hR3.fr hF4 (by simp [n1, n2])
  have hF5 := hF3.trans (hF4.here (T := [ab, wb, rb]) (by simp))
  clear d0 d1 d2 d3 d4 d5 d6 z1 z2 z3 z4 z5 z6
  obtain ⟨d0, d1, d2, d3, d4, d5, d6⟩ := hR4.reads
  have z1 := hR4.s.frozen 1
  go_wp2_with fail
  go_quiet ((go_at_call 122; refine Calls.quiet_of (rAll' rb ab _ r.tot (by rfl) _ (hR4.drewN _))))
  go_wp2_with fail
  have hR6 : RRep ((w4.drewN nq).setCell ⟨rb, 1, none⟩ (.int .i64 c)) rb ab { r with first := c, black := r.black } := ⟨by have := (hR4.s.drewN nq).set 1 (.int .i64 c); simpa [RS.cells] using this, hR.le⟩
  refine (rTurn12 rb ab { r with first := c, black := r.black } _ hR6 Hf.out).mono ?_
  rintro e w6 ⟨rfl, hR7, hF7⟩
  clear d0 d1 d2 d3 d4 d5 d6 z1
  go_wp2_with fail
  go_ret
  refine ⟨rfl, (((hA4.drewN nq).other (Ne.symm n1) (Ne.symm n2) _).fr hF7 (by simp [Ne.symm n1]) (by simp [Ne.symm n2])).u (by omega), ?_, ((hF5.drewN nq).set (by simp) _).trans (hF7.here (by simp))⟩
  rw [Hfin.out]; exact hR7

set_option maxHeartbeats 3200000 in
theorem rShade4 (rb ab wb : Nat) (r : RS) (ws : List Int) (u : Int) (c : Int) (w : World) (hR : RRep w rb ab r) (hA : ARep w ab wb ws u) (h : 1 ≤ r.f) (ht : 1 < r.tot) (hc : Okc ws c) (hp : Okc ws (gw ws (c + 2))) (hq : Okc ws (gw ws (c + 1)))
    (hb : Okc ws (shB ws r c)) (hb2 : Okc ws (gw (ct ws c) (shB ws r c + 2))) (n1 : rb ≠ ab) (n2 : rb ≠ wb) (e1 : r.first = c) (e2 : r.black ≠ c) (e3 : r.tot - r.b ≠ 1) :
    Calls Try.prog 83 #[.pointer (some ⟨rb, 0, none⟩), .int .i64 c] w fun e w' => e = .returned (.int .i64 0) ∧ (ARep w' ab wb (pt (ct ws c) c (shB ws r c)) (u + 9)) ∧ RRep w' rb ab (r.shaded ws c) ∧ Fr [ab, wb, rb] w w' := by
  obtain ⟨-, -, -, -, c4, -, -⟩ := hR.reads
  have h' : ¬ (r.f : Int) = 0 := by omega
  have Hf := hid h
  have hsb : shB ws r c = r.black := by unfold shB; simp [e2]
  have hsf : shF ws r c = gw ws (c + 1) := by unfold shF; simp [e1]
  have hfin : r.shaded ws c = { r with first := gw ws (c + 1), black := r.black, f := r.f - 1, g := r.g + 1 } := by
    rw [RS.shaded, if_pos ht, hsb, hsf]; simp [e3]
  have Hfin := hid hfin
  rw [hsb] at hb hb2 ⊢
  clear hsb hsf hfin
  have f1 : r.first ≤ c ∧ c ≤ r.first := by omega
  have f2 : ¬ r.black = c := by omega
  have f3 : ¬ (r.tot : Int) - r.b = 1 := by have := hR.le; unfold RS.tot at *; omega
  have hbt : (r.b : Int) ≤ 65536 ∧ (r.tot : Int) ≤ 65536 := by have := hR.le; unfold RS.tot at *; omega
  clear e1 e2 e3
  go_enter Try.func83, Try.ntmps83
  go_wp2_with fail
  refine (rAll rb ab r _ hR).mono ?_
  rintro e w1 ⟨rfl, n, rfl⟩
  go_wp2_with fail
  refine (rCut rb ab wb r ws u c _ (hR.drewN n) (hA.drewN n) hc hp hq n1 n2).mono ?_
  rintro e w2 ⟨rfl, hA2, hF2⟩
  clear c4
  have hR2 := (hR.drewN n).fr hF2 (by simp [n1, n2])
  have hF : Fr [ab, wb, rb] w w2 := ((Fr.refl _ w).drewN n).trans (hF2.here (by simp))
  obtain ⟨d0, d1, d2, d3, d4, d5, d6⟩ := hR2.reads
  obtain ⟨z1, z2, z3, z4, z5, z6⟩ := hR2.free
  go_wp2_with fail
  have hR3 : RRep (w2.setCell ⟨rb, 1, none⟩ (.int .i64 (gw ws (c + 1)))) rb ab { r with first := gw ws (c + 1), black := r.black } := ⟨by have := (hR2.s.set 1 (.int .i64 (gw ws (c + 1)))); simpa [RS.cells] using this, hR.le⟩
  have hF3 : Fr [ab, wb, rb] w (w2.setCell ⟨rb, 1, none⟩ (.int .i64 (gw ws (c + 1)))) := (hF.set (by simp) _)
  have hA3 : ARep (w2.setCell ⟨rb, 1, none⟩ (.int .i64 (gw ws (c + 1)))) ab wb (ct ws c) (u + 4) := (hA2.u (by omega)).other (Ne.symm n1) (Ne.symm n2) _
  refine (rPut rb ab wb { r with first := gw ws (c + 1), black := r.black } _ _ c _ _ hR3 hA3 (by unfold Okc at *; rw [ct_len]; exact hc) (by unfold Okc at *; rw [ct_len]; exact hb) (by unfold Okc at *; rw [ct_len]; exact hb2) n1 n2).mono ?_
  rintro e w4 ⟨rfl, hA4, hF4⟩
  have hR4 := hR3.fr hF4 (by simp [n1, n2])
  have hF5 := hF3.trans (hF4.here (T := [ab, wb, rb]) (by simp))
  clear d0 d1 d2 d3 d4 d5 d6 z1 z2 z3 z4 z5 z6
  obtain ⟨d0, d1, d2, d3, d4, d5, d6⟩ := hR4.reads
  have z1 := hR4.s.frozen 1
  go_wp2_with fail
  go_quiet ((go_at_call 122; refine Calls.quiet_of (rAll' rb ab _ r.tot (by rfl) _ (hR4.drewN _))))
  go_wp2_with fail
  refine (rTurn12 rb ab { r with first := gw ws (c + 1), black := r.black } _ (hR4.drewN nq) Hf.out).mono ?_
  rintro e w6 ⟨rfl, hR7, hF7⟩
  clear d0 d1 d2 d3 d4 d5 d6 z1
  go_wp2_with fail
  go_ret
  refine ⟨rfl, ((hA4.drewN nq).fr hF7 (by simp [Ne.symm n1]) (by simp [Ne.symm n2])).u (by omega), ?_, (hF5.drewN nq).trans (hF7.here (by simp))⟩
  rw [Hfin.out]; exact hR7

set_option maxHeartbeats 3200000 in
theorem rShade5 (rb ab wb : Nat) (r : RS) (ws : List Int) (u : Int) (c : Int) (w : World) (hR : RRep w rb ab r) (hA : ARep w ab wb ws u) (h : 1 ≤ r.f) (ht : 1 < r.tot) (hc : Okc ws c) (hp : Okc ws (gw ws (c + 2))) (hq : Okc ws (gw ws (c + 1)))
    (hb : Okc ws (shB ws r c)) (hb2 : Okc ws (gw (ct ws c) (shB ws r c + 2))) (n1 : rb ≠ ab) (n2 : rb ≠ wb) (e1 : r.first ≠ c) (e2 : r.black = c) (e3 : r.tot - r.b = 1) :
    Calls Try.prog 83 #[.pointer (some ⟨rb, 0, none⟩), .int .i64 c] w fun e w' => e = .returned (.int .i64 0) ∧ (ARep w' ab wb (pt (ct ws c) c (shB ws r c)) (u + 9)) ∧ RRep w' rb ab (r.shaded ws c) ∧ Fr [ab, wb, rb] w w' := by
  obtain ⟨-, -, -, -, c4, -, -⟩ := hR.reads
  have h' : ¬ (r.f : Int) = 0 := by omega
  have Hf := hid h
  have hsb : shB ws r c = gw ws (c + 1) := by unfold shB; simp [e2]
  have hsf : shF ws r c = r.first := by unfold shF; simp [e1]
  have hfin : r.shaded ws c = { r with first := c, black := gw ws (c + 1), f := r.f - 1, g := r.g + 1 } := by
    rw [RS.shaded, if_pos ht, hsb, hsf]; simp [e3]
  have Hfin := hid hfin
  rw [hsb] at hb hb2 ⊢
  clear hsb hsf hfin
  have f1 : ¬ r.first = c := by omega
  have f2 : r.black ≤ c ∧ c ≤ r.black := by omega
  have f3 : (r.tot : Int) - r.b ≤ 1 ∧ 1 ≤ (r.tot : Int) - r.b := by have := hR.le; unfold RS.tot at *; omega
  have hbt : (r.b : Int) ≤ 65536 ∧ (r.tot : Int) ≤ 65536 := by have := hR.le; unfold RS.tot at *; omega
  clear e1 e2 e3
  go_enter Try.func83, Try.ntmps83
  go_wp2_with fail
  refine (rAll rb ab r _ hR).mono ?_
  rintro e w1 ⟨rfl, n, rfl⟩
  go_wp2_with fail
  refine (rCut rb ab wb r ws u c _ (hR.drewN n) (hA.drewN n) hc hp hq n1 n2).mono ?_
  rintro e w2 ⟨rfl, hA2, hF2⟩
  clear c4
  have hR2 := (hR.drewN n).fr hF2 (by simp [n1, n2])
  have hF : Fr [ab, wb, rb] w w2 := ((Fr.refl _ w).drewN n).trans (hF2.here (by simp))
  obtain ⟨d0, d1, d2, d3, d4, d5, d6⟩ := hR2.reads
  obtain ⟨z1, z2, z3, z4, z5, z6⟩ := hR2.free
  go_wp2_with fail
  have hR3 : RRep (w2.setCell ⟨rb, 2, none⟩ (.int .i64 (gw ws (c + 1)))) rb ab { r with first := r.first, black := gw ws (c + 1) } := ⟨by have := (hR2.s.set 2 (.int .i64 (gw ws (c + 1)))); simpa [RS.cells] using this, hR.le⟩
  have hF3 : Fr [ab, wb, rb] w (w2.setCell ⟨rb, 2, none⟩ (.int .i64 (gw ws (c + 1)))) := (hF.set (by simp) _)
  have hA3 : ARep (w2.setCell ⟨rb, 2, none⟩ (.int .i64 (gw ws (c + 1)))) ab wb (ct ws c) (u + 4) := (hA2.u (by omega)).other (Ne.symm n1) (Ne.symm n2) _
  refine (rPut rb ab wb { r with first := r.first, black := gw ws (c + 1) } _ _ c _ _ hR3 hA3 (by unfold Okc at *; rw [ct_len]; exact hc) (by unfold Okc at *; rw [ct_len]; exact hb) (by unfold Okc at *; rw [ct_len]; exact hb2) n1 n2).mono ?_
  rintro e w4 ⟨rfl, hA4, hF4⟩
  have hR4 := hR3.fr hF4 (by simp [n1, n2])
  have hF5 := hF3.trans (hF4.here (T := [ab, wb, rb]) (by simp))
  clear d0 d1 d2 d3 d4 d5 d6 z1 z2 z3 z4 z5 z6
  obtain ⟨d0, d1, d2, d3, d4, d5, d6⟩ := hR4.reads
  have z1 := hR4.s.frozen 1
  go_wp2_with fail
  go_quiet ((go_at_call 122; refine Calls.quiet_of (rAll' rb ab _ r.tot (by rfl) _ (hR4.drewN _))))
  go_wp2_with fail
  have hR6 : RRep ((w4.drewN nq).setCell ⟨rb, 1, none⟩ (.int .i64 c)) rb ab { r with first := c, black := gw ws (c + 1) } := ⟨by have := (hR4.s.drewN nq).set 1 (.int .i64 c); simpa [RS.cells] using this, hR.le⟩
  refine (rTurn12 rb ab { r with first := c, black := gw ws (c + 1) } _ hR6 Hf.out).mono ?_
  rintro e w6 ⟨rfl, hR7, hF7⟩
  clear d0 d1 d2 d3 d4 d5 d6 z1
  go_wp2_with fail
  go_ret
  refine ⟨rfl, (((hA4.drewN nq).other (Ne.symm n1) (Ne.symm n2) _).fr hF7 (by simp [Ne.symm n1]) (by simp [Ne.symm n2])).u (by omega), ?_, ((hF5.drewN nq).set (by simp) _).trans (hF7.here (by simp))⟩
  rw [Hfin.out]; exact hR7

set_option maxHeartbeats 3200000 in
theorem rShade6 (rb ab wb : Nat) (r : RS) (ws : List Int) (u : Int) (c : Int) (w : World) (hR : RRep w rb ab r) (hA : ARep w ab wb ws u) (h : 1 ≤ r.f) (ht : 1 < r.tot) (hc : Okc ws c) (hp : Okc ws (gw ws (c + 2))) (hq : Okc ws (gw ws (c + 1)))
    (hb : Okc ws (shB ws r c)) (hb2 : Okc ws (gw (ct ws c) (shB ws r c + 2))) (n1 : rb ≠ ab) (n2 : rb ≠ wb) (e1 : r.first ≠ c) (e2 : r.black = c) (e3 : r.tot - r.b ≠ 1) :
    Calls Try.prog 83 #[.pointer (some ⟨rb, 0, none⟩), .int .i64 c] w fun e w' => e = .returned (.int .i64 0) ∧ (ARep w' ab wb (pt (ct ws c) c (shB ws r c)) (u + 9)) ∧ RRep w' rb ab (r.shaded ws c) ∧ Fr [ab, wb, rb] w w' := by
  obtain ⟨-, -, -, -, c4, -, -⟩ := hR.reads
  have h' : ¬ (r.f : Int) = 0 := by omega
  have Hf := hid h
  have hsb : shB ws r c = gw ws (c + 1) := by unfold shB; simp [e2]
  have hsf : shF ws r c = r.first := by unfold shF; simp [e1]
  have hfin : r.shaded ws c = { r with first := r.first, black := gw ws (c + 1), f := r.f - 1, g := r.g + 1 } := by
    rw [RS.shaded, if_pos ht, hsb, hsf]; simp [e3]
  have Hfin := hid hfin
  rw [hsb] at hb hb2 ⊢
  clear hsb hsf hfin
  have f1 : ¬ r.first = c := by omega
  have f2 : r.black ≤ c ∧ c ≤ r.black := by omega
  have f3 : ¬ (r.tot : Int) - r.b = 1 := by have := hR.le; unfold RS.tot at *; omega
  have hbt : (r.b : Int) ≤ 65536 ∧ (r.tot : Int) ≤ 65536 := by have := hR.le; unfold RS.tot at *; omega
  clear e1 e2 e3
  go_enter Try.func83, Try.ntmps83
  go_wp2_with fail
  refine (rAll rb ab r _ hR).mono ?_
  rintro e w1 ⟨rfl, n, rfl⟩
  go_wp2_with fail
  refine (rCut rb ab wb r ws u c _ (hR.drewN n) (hA.drewN n) hc hp hq n1 n2).mono ?_
  rintro e w2 ⟨rfl, hA2, hF2⟩
  clear c4
  have hR2 := (hR.drewN n).fr hF2 (by simp [n1, n2])
  have hF : Fr [ab, wb, rb] w w2 := ((Fr.refl _ w).drewN n).trans (hF2.here (by simp))
  obtain ⟨d0, d1, d2, d3, d4, d5, d6⟩ := hR2.reads
  obtain ⟨z1, z2, z3, z4, z5, z6⟩ := hR2.free
  go_wp2_with fail
  have hR3 : RRep (w2.setCell ⟨rb, 2, none⟩ (.int .i64 (gw ws (c + 1)))) rb ab { r with first := r.first, black := gw ws (c + 1) } := ⟨by have := (hR2.s.set 2 (.int .i64 (gw ws (c + 1)))); simpa [RS.cells] using this, hR.le⟩
  have hF3 : Fr [ab, wb, rb] w (w2.setCell ⟨rb, 2, none⟩ (.int .i64 (gw ws (c + 1)))) := (hF.set (by simp) _)
  have hA3 : ARep (w2.setCell ⟨rb, 2, none⟩ (.int .i64 (gw ws (c + 1)))) ab wb (ct ws c) (u + 4) := (hA2.u (by omega)).other (Ne.symm n1) (Ne.symm n2) _
  refine (rPut rb ab wb { r with first := r.first, black := gw ws (c + 1) } _ _ c _ _ hR3 hA3 (by unfold Okc at *; rw [ct_len]; exact hc) (by unfold Okc at *; rw [ct_len]; exact hb) (by unfold Okc at *; rw [ct_len]; exact hb2) n1 n2).mono ?_
  rintro e w4 ⟨rfl, hA4, hF4⟩
  have hR4 := hR3.fr hF4 (by simp [n1, n2])
  have hF5 := hF3.trans (hF4.here (T := [ab, wb, rb]) (by simp))
  clear d0 d1 d2 d3 d4 d5 d6 z1 z2 z3 z4 z5 z6
  obtain ⟨d0, d1, d2, d3, d4, d5, d6⟩ := hR4.reads
  have z1 := hR4.s.frozen 1
  go_wp2_with fail
  go_quiet ((go_at_call 122; refine Calls.quiet_of (rAll' rb ab _ r.tot (by rfl) _ (hR4.drewN _))))
  go_wp2_with fail
  refine (rTurn12 rb ab { r with first := r.first, black := gw ws (c + 1) } _ (hR4.drewN nq) Hf.out).mono ?_
  rintro e w6 ⟨rfl, hR7, hF7⟩
  clear d0 d1 d2 d3 d4 d5 d6 z1
  go_wp2_with fail
  go_ret
  refine ⟨rfl, ((hA4.drewN nq).fr hF7 (by simp [Ne.symm n1]) (by simp [Ne.symm n2])).u (by omega), ?_, (hF5.drewN nq).trans (hF7.here (by simp))⟩
  rw [Hfin.out]; exact hR7

set_option maxHeartbeats 3200000 in
theorem rShade7 (rb ab wb : Nat) (r : RS) (ws : List Int) (u : Int) (c : Int) (w : World) (hR : RRep w rb ab r) (hA : ARep w ab wb ws u) (h : 1 ≤ r.f) (ht : 1 < r.tot) (hc : Okc ws c) (hp : Okc ws (gw ws (c + 2))) (hq : Okc ws (gw ws (c + 1)))
    (hb : Okc ws (shB ws r c)) (hb2 : Okc ws (gw (ct ws c) (shB ws r c + 2))) (n1 : rb ≠ ab) (n2 : rb ≠ wb) (e1 : r.first ≠ c) (e2 : r.black ≠ c) (e3 : r.tot - r.b = 1) :
    Calls Try.prog 83 #[.pointer (some ⟨rb, 0, none⟩), .int .i64 c] w fun e w' => e = .returned (.int .i64 0) ∧ (ARep w' ab wb (pt (ct ws c) c (shB ws r c)) (u + 9)) ∧ RRep w' rb ab (r.shaded ws c) ∧ Fr [ab, wb, rb] w w' := by
  obtain ⟨-, -, -, -, c4, -, -⟩ := hR.reads
  have h' : ¬ (r.f : Int) = 0 := by omega
  have Hf := hid h
  have hsb : shB ws r c = r.black := by unfold shB; simp [e2]
  have hsf : shF ws r c = r.first := by unfold shF; simp [e1]
  have hfin : r.shaded ws c = { r with first := c, black := r.black, f := r.f - 1, g := r.g + 1 } := by
    rw [RS.shaded, if_pos ht, hsb, hsf]; simp [e3]
  have Hfin := hid hfin
  rw [hsb] at hb hb2 ⊢
  clear hsb hsf hfin
  have f1 : ¬ r.first = c := by omega
  have f2 : ¬ r.black = c := by omega
  have f3 : (r.tot : Int) - r.b ≤ 1 ∧ 1 ≤ (r.tot : Int) - r.b := by have := hR.le; unfold RS.tot at *; omega
  have hbt : (r.b : Int) ≤ 65536 ∧ (r.tot : Int) ≤ 65536 := by have := hR.le; unfold RS.tot at *; omega
  clear e1 e2 e3
  go_enter Try.func83, Try.ntmps83
  go_wp2_with fail
  refine (rAll rb ab r _ hR).mono ?_
  rintro e w1 ⟨rfl, n, rfl⟩
  go_wp2_with fail
  refine (rCut rb ab wb r ws u c _ (hR.drewN n) (hA.drewN n) hc hp hq n1 n2).mono ?_
  rintro e w2 ⟨rfl, hA2, hF2⟩
  clear c4
  have hR2 := (hR.drewN n).fr hF2 (by simp [n1, n2])
  have hF : Fr [ab, wb, rb] w w2 := ((Fr.refl _ w).drewN n).trans (hF2.here (by simp))
  obtain ⟨d0, d1, d2, d3, d4, d5, d6⟩ := hR2.reads
  obtain ⟨z1, z2, z3, z4, z5, z6⟩ := hR2.free
  go_wp2_with fail
  have hR3 : RRep w2 rb ab { r with first := r.first, black := r.black } := ⟨by have := hR2.s; simpa [RS.cells] using this, hR.le⟩
  have hF3 : Fr [ab, wb, rb] w w2 := hF
  have hA3 : ARep w2 ab wb (ct ws c) (u + 4) := hA2.u (by omega)
  refine (rPut rb ab wb { r with first := r.first, black := r.black } _ _ c _ _ hR3 hA3 (by unfold Okc at *; rw [ct_len]; exact hc) (by unfold Okc at *; rw [ct_len]; exact hb) (by unfold Okc at *; rw [ct_len]; exact hb2) n1 n2).mono ?_
  rintro e w4 ⟨rfl, hA4, hF4⟩
  have hR4 := hR3.fr hF4 (by simp [n1, n2])
  have hF5 := hF3.trans (hF4.here (T := [ab, wb, rb]) (by simp))
  clear d0 d1 d2 d3 d4 d5 d6 z1 z2 z3 z4 z5 z6
  obtain ⟨d0, d1, d2, d3, d4, d5, d6⟩ := hR4.reads
  have z1 := hR4.s.frozen 1
  go_wp2_with fail
  go_quiet ((go_at_call 122; refine Calls.quiet_of (rAll' rb ab _ r.tot (by rfl) _ (hR4.drewN _))))
  go_wp2_with fail
  have hR6 : RRep ((w4.drewN nq).setCell ⟨rb, 1, none⟩ (.int .i64 c)) rb ab { r with first := c, black := r.black } := ⟨by have := (hR4.s.drewN nq).set 1 (.int .i64 c); simpa [RS.cells] using this, hR.le⟩
  refine (rTurn12 rb ab { r with first := c, black := r.black } _ hR6 Hf.out).mono ?_
  rintro e w6 ⟨rfl, hR7, hF7⟩
  clear d0 d1 d2 d3 d4 d5 d6 z1
  go_wp2_with fail
  go_ret
  refine ⟨rfl, (((hA4.drewN nq).other (Ne.symm n1) (Ne.symm n2) _).fr hF7 (by simp [Ne.symm n1]) (by simp [Ne.symm n2])).u (by omega), ?_, ((hF5.drewN nq).set (by simp) _).trans (hF7.here (by simp))⟩
  rw [Hfin.out]; exact hR7

set_option maxHeartbeats 3200000 in
theorem rShade8 (rb ab wb : Nat) (r : RS) (ws : List Int) (u : Int) (c : Int) (w : World) (hR : RRep w rb ab r) (hA : ARep w ab wb ws u) (h : 1 ≤ r.f) (ht : 1 < r.tot) (hc : Okc ws c) (hp : Okc ws (gw ws (c + 2))) (hq : Okc ws (gw ws (c + 1)))
    (hb : Okc ws (shB ws r c)) (hb2 : Okc ws (gw (ct ws c) (shB ws r c + 2))) (n1 : rb ≠ ab) (n2 : rb ≠ wb) (e1 : r.first ≠ c) (e2 : r.black ≠ c) (e3 : r.tot - r.b ≠ 1) :
    Calls Try.prog 83 #[.pointer (some ⟨rb, 0, none⟩), .int .i64 c] w fun e w' => e = .returned (.int .i64 0) ∧ (ARep w' ab wb (pt (ct ws c) c (shB ws r c)) (u + 9)) ∧ RRep w' rb ab (r.shaded ws c) ∧ Fr [ab, wb, rb] w w' := by
  obtain ⟨-, -, -, -, c4, -, -⟩ := hR.reads
  have h' : ¬ (r.f : Int) = 0 := by omega
  have Hf := hid h
  have hsb : shB ws r c = r.black := by unfold shB; simp [e2]
  have hsf : shF ws r c = r.first := by unfold shF; simp [e1]
  have hfin : r.shaded ws c = { r with first := r.first, black := r.black, f := r.f - 1, g := r.g + 1 } := by
    rw [RS.shaded, if_pos ht, hsb, hsf]; simp [e3]
  have Hfin := hid hfin
  rw [hsb] at hb hb2 ⊢
  clear hsb hsf hfin
  have f1 : ¬ r.first = c := by omega
  have f2 : ¬ r.black = c := by omega
  have f3 : ¬ (r.tot : Int) - r.b = 1 := by have := hR.le; unfold RS.tot at *; omega
  have hbt : (r.b : Int) ≤ 65536 ∧ (r.tot : Int) ≤ 65536 := by have := hR.le; unfold RS.tot at *; omega
  clear e1 e2 e3
  go_enter Try.func83, Try.ntmps83
  go_wp2_with fail
  refine (rAll rb ab r _ hR).mono ?_
  rintro e w1 ⟨rfl, n, rfl⟩
  go_wp2_with fail
  refine (rCut rb ab wb r ws u c _ (hR.drewN n) (hA.drewN n) hc hp hq n1 n2).mono ?_
  rintro e w2 ⟨rfl, hA2, hF2⟩
  clear c4
  have hR2 := (hR.drewN n).fr hF2 (by simp [n1, n2])
  have hF : Fr [ab, wb, rb] w w2 := ((Fr.refl _ w).drewN n).trans (hF2.here (by simp))
  obtain ⟨d0, d1, d2, d3, d4, d5, d6⟩ := hR2.reads
  obtain ⟨z1, z2, z3, z4, z5, z6⟩ := hR2.free
  go_wp2_with fail
  have hR3 : RRep w2 rb ab { r with first := r.first, black := r.black } := ⟨by have := hR2.s; simpa [RS.cells] using this, hR.le⟩
  have hF3 : Fr [ab, wb, rb] w w2 := hF
  have hA3 : ARep w2 ab wb (ct ws c) (u + 4) := hA2.u (by omega)
  refine (rPut rb ab wb { r with first := r.first, black := r.black } _ _ c _ _ hR3 hA3 (by unfold Okc at *; rw [ct_len]; exact hc) (by unfold Okc at *; rw [ct_len]; exact hb) (by unfold Okc at *; rw [ct_len]; exact hb2) n1 n2).mono ?_
  rintro e w4 ⟨rfl, hA4, hF4⟩
  have hR4 := hR3.fr hF4 (by simp [n1, n2])
  have hF5 := hF3.trans (hF4.here (T := [ab, wb, rb]) (by simp))
  clear d0 d1 d2 d3 d4 d5 d6 z1 z2 z3 z4 z5 z6
  obtain ⟨d0, d1, d2, d3, d4, d5, d6⟩ := hR4.reads
  have z1 := hR4.s.frozen 1
  go_wp2_with fail
  go_quiet ((go_at_call 122; refine Calls.quiet_of (rAll' rb ab _ r.tot (by rfl) _ (hR4.drewN _))))
  go_wp2_with fail
  refine (rTurn12 rb ab { r with first := r.first, black := r.black } _ (hR4.drewN nq) Hf.out).mono ?_
  rintro e w6 ⟨rfl, hR7, hF7⟩
  clear d0 d1 d2 d3 d4 d5 d6 z1
  go_wp2_with fail
  go_ret
  refine ⟨rfl, ((hA4.drewN nq).fr hF7 (by simp [Ne.symm n1]) (by simp [Ne.symm n2])).u (by omega), ?_, (hF5.drewN nq).trans (hF7.here (by simp))⟩
  rw [Hfin.out]; exact hR7

theorem rShade (rb ab wb : Nat) (r : RS) (ws : List Int) (u : Int) (c : Int) (w : World) (hR : RRep w rb ab r) (hA : ARep w ab wb ws u) (h : 1 ≤ r.f)
    (hk : 1 < r.tot → Okc ws c ∧ Okc ws (gw ws (c + 2)) ∧ Okc ws (gw ws (c + 1)) ∧ Okc ws (shB ws r c) ∧ Okc ws (gw (ct ws c) (shB ws r c + 2))) (n1 : rb ≠ ab) (n2 : rb ≠ wb) :
    Calls Try.prog 83 #[.pointer (some ⟨rb, 0, none⟩), .int .i64 c] w fun e w' => e = .returned (.int .i64 0) ∧ (∃ k : Nat, k ≤ 9 ∧ ARep w' ab wb (shW ws r c) (u + k)) ∧ RRep w' rb ab (r.shaded ws c) ∧ Fr [ab, wb, rb] w w' := by
  by_cases ht : 1 < r.tot
  · obtain ⟨hc, hp, hq, hb, hb2⟩ := hk ht
    have fin : ∀ e w', (e = Ending.returned (.int .i64 0) ∧ (ARep w' ab wb (pt (ct ws c) c (shB ws r c)) (u + 9)) ∧ RRep w' rb ab (r.shaded ws c) ∧ Fr [ab, wb, rb] w w') →
        (e = Ending.returned (.int .i64 0) ∧ (∃ k : Nat, k ≤ 9 ∧ ARep w' ab wb (shW ws r c) (u + k)) ∧ RRep w' rb ab (r.shaded ws c) ∧ Fr [ab, wb, rb] w w') := by
      rintro e w' ⟨rfl, a1, a2, a3⟩
      exact ⟨rfl, ⟨9, by omega, by rw [shW, if_pos ht]; exact a1⟩, a2, a3⟩
    by_cases e1 : r.first = c <;> by_cases e2 : r.black = c <;> by_cases e3 : r.tot - r.b = 1
    · exact (rShade1 rb ab wb r ws u c w hR hA h ht hc hp hq hb hb2 n1 n2 e1 e2 e3).mono fin
    · exact (rShade2 rb ab wb r ws u c w hR hA h ht hc hp hq hb hb2 n1 n2 e1 e2 e3).mono fin
    · exact (rShade3 rb ab wb r ws u c w hR hA h ht hc hp hq hb hb2 n1 n2 e1 e2 e3).mono fin
    · exact (rShade4 rb ab wb r ws u c w hR hA h ht hc hp hq hb hb2 n1 n2 e1 e2 e3).mono fin
    · exact (rShade5 rb ab wb r ws u c w hR hA h ht hc hp hq hb hb2 n1 n2 e1 e2 e3).mono fin
    · exact (rShade6 rb ab wb r ws u c w hR hA h ht hc hp hq hb hb2 n1 n2 e1 e2 e3).mono fin
    · exact (rShade7 rb ab wb r ws u c w hR hA h ht hc hp hq hb hb2 n1 n2 e1 e2 e3).mono fin
    · exact (rShade8 rb ab wb r ws u c w hR hA h ht hc hp hq hb hb2 n1 n2 e1 e2 e3).mono fin
  · refine (rShadeOne rb ab r c w hR h ht).mono ?_
    rintro e w' ⟨rfl, a2, a3⟩
    exact ⟨rfl, ⟨0, by omega, by rw [shW, if_neg ht]; exact (hA.fr a3 (by simp [Ne.symm n1]) (by simp [Ne.symm n2])).u (by omega)⟩, by rw [RS.shaded, if_neg ht]; exact a2, a3.here (by simp)⟩
end Go.Proofs.Ytifillpcphiblaa
