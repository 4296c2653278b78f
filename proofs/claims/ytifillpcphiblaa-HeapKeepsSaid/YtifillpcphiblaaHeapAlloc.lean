import Derived.Test.YtifillpcphiblaaHeapTurn
import Derived.StillTailTactics
namespace Go.Proofs.Ytifillpcphiblaa
open Go Go.Proofs Go.RowKit

theorem ixGe_range (cls : List Int) (n : Int) : -1 ≤ ixGe cls n ∧ ixGe cls n < cls.length := by
  rcases ixGe_cases cls n with h | ⟨k, hk, h, _⟩ <;> rw [h] <;> omega

set_option maxHeartbeats 800000 in
theorem hRingSmall (L : HL) (s : HS) (p z : Int) (k rb : Nat) (w : World) (hH : HRep w L s) (hp : p < s.edge) (hk : ixGe s.cls z = k) (hr : L.rbs[k]? = some rb) :
    Calls Try.prog 82 #[.pointer (some ⟨L.hb, 0, none⟩), .int .i64 p, .int .i64 z] w fun e w' => e = .returned (.pointer (some ⟨rb, 0, none⟩)) ∧ HRep w' L s ∧ Fr [] w w' := by
  have hlt : k < s.cls.length := by rw [← hH.n1]; exact (List.getElem?_eq_some_iff.1 hr).1
  have hm := hH.n3
  have Hk := hid hk
  clear hk
  go_enter Try.func82, Try.ntmps82
  go_wp2_with fail
  refine (hClass L s z _ hH).mono ?_
  rintro e w1 ⟨rfl, hH1, hF1⟩
  obtain ⟨rb', r', hr', -, hc, -⟩ := hH1.at hlt
  rw [hr] at hr'; cases hr'
  obtain ⟨-, -, c2, -, -, -, c6, -⟩ := hH1.reads
  rw [Hk.out]
  go_wp2_with fail
  go_ret
  exact ⟨rfl, hH1, hF1⟩

set_option maxHeartbeats 800000 in
theorem hRingLarge (L : HL) (s : HS) (p z : Int) (w : World) (hH : HRep w L s) (h : s.edge ≤ p ∨ ixGe s.cls z = -1) :
    Calls Try.prog 82 #[.pointer (some ⟨L.hb, 0, none⟩), .int .i64 p, .int .i64 z] w fun e w' => e = .returned (.pointer (some ⟨L.lb, 0, none⟩)) ∧ HRep w' L s ∧ Fr [] w w' := by
  by_cases hp : s.edge ≤ p
  · have hp' : ¬ p < s.edge := by omega
    clear h hp
    go_enter Try.func82, Try.ntmps82
    go_wp2_with fail
    refine (hClass L s z _ hH).mono ?_
    rintro e w1 ⟨rfl, hH1, hF1⟩
    obtain ⟨-, -, c2, c3, -, -, c6, -⟩ := hH1.reads
    go_wp2_with fail
    go_ret
    exact ⟨rfl, hH1, hF1⟩
  · have Hk := hid (h.resolve_left hp)
    have hp' : p < s.edge := by omega
    clear h hp
    go_enter Try.func82, Try.ntmps82
    go_wp2_with fail
    refine (hClass L s z _ hH).mono ?_
    rintro e w1 ⟨rfl, hH1, hF1⟩
    obtain ⟨-, -, c2, c3, -, -, c6, -⟩ := hH1.reads
    rw [Hk.out]
    go_wp2_with fail
    go_ret
    exact ⟨rfl, hH1, hF1⟩

/-- One more cell of class k, at the top. -/
def HS.grown (s : HS) (k : Nat) (c : Int) (r : RS) (du : Nat) : HS := { s with ws := growW s.ws r s.top, u := s.u + du, rs := s.rs.set k (r.grown s.top), top := s.top + (c + 3) }

set_option maxRecDepth 100000 in
set_option maxHeartbeats 1600000 in
theorem hGrow (L : HL) (s : HS) (k : Nat) (c : Int) (r : RS) (w : World) (hH : HRep w L s) (hc : s.cls[k]? = some c) (hr : s.rs[k]? = some r) (hc0 : 1 ≤ c) (hc1 : c ≤ 24) (hfit : c + 3 ≤ s.edge - s.top) (ht : 1 ≤ s.top) (he : s.edge ≤ s.ws.length)
    (hf : r.tot ≠ 0 → Okc s.ws r.first ∧ Okc s.ws (gw s.ws (r.first + 2))) (htot : r.tot + 1 ≤ 65536) :
    Calls Try.prog 117 #[.pointer (some ⟨L.hb, 0, none⟩), .int .i64 k] w fun e w' => e = .returned (.bool true) ∧ (∃ du : Nat, du ≤ 5 ∧ HRep w' L (s.grown k c r du)) ∧ Fr L.fp w w' := by
  have hlt : k < s.cls.length := (List.getElem?_eq_some_iff.1 hc).1
  have hm := hH.n3
  obtain ⟨rb, r', hrb, hr', hcell, hR⟩ := hH.at hlt
  rw [hr] at hr'; cases hr'
  obtain ⟨t0, t1, t2, t3, t4, t5, t6, t7⟩ := hH.rapart (List.mem_of_getElem? hrb)
  obtain ⟨c0, c1, c2, c3, c4, c5, c6, c7⟩ := hH.reads
  have hck : w.cell? ⟨L.cb, k, none⟩ = some (.int .i64 c) := hH.c.2 k _ (by simp [hc])
  have he2 := hH.e
  have ht2 := hH.t
  have n1 : ¬ s.edge - s.top < c + 3 := by omega
  have hne := hH.apart
  have hfit' := hfit
  go_enter Try.func117, Try.ntmps117
  go_wp2_with fail
  go_quiet (fail)
  go_wp2_with fail
  refine wp_region_still_tail 11 (by kernel_rfl) (by kernel_rfl) ?_
  simp only [List.take_succ_cons, List.take_zero, List.drop_succ_cons, List.drop_zero]
  change wpStill _ _ ((w.drewN nq).drew) (fun a' => wpList _ _ _ _ a' ((w.drewN nq).drew)) _ _
  repeat still_step
  refine wpStill_nil ?_
  go_wp2_with fail
  refine (rGrow rb L.ab L.wb r s.ws s.u s.top _ ((hR.drewN nq).drew) ((hH.a.drewN nq).drew) ht (by omega) hf htot t1 t2).mono ?_
  rintro e w1 ⟨rfl, ⟨du, hdu, hA1⟩, hR1, hF1⟩
  have hH1 := ((hH.drewN nq).drew).ring hrb hF1 (by simp) hA1 hR1
  have hF2 : Fr L.fp w w1 := (((Fr.refl _ w).drewN nq).drew).trans (hF1.here (by simp [HL.fp, List.mem_of_getElem? hrb]))
  clear c0 c1 c2 c3 c4 c5 c6 c7 hcell hck hA1 hR1 hF1
  obtain ⟨-, -, -, -, -, c5, -, -⟩ := hH1.reads
  have y5 := hH1.h.frozen 5
  go_wp2_with fail
  go_ret
  refine ⟨rfl, ⟨du, hdu, ?_⟩, hF2.set (by simp [HL.fp]) _⟩
  exact hH1.setTop (s.top + (c + 3)) (by omega)

set_option maxHeartbeats 1600000 in
theorem hGrowNo (L : HL) (s : HS) (k : Nat) (c : Int) (w : World) (hH : HRep w L s) (hc : s.cls[k]? = some c) (hc0 : 1 ≤ c) (hc1 : c ≤ 24) (hfit : s.edge - s.top < c + 3) :
    Calls Try.prog 117 #[.pointer (some ⟨L.hb, 0, none⟩), .int .i64 k] w fun e w' => e = .returned (.bool false) ∧ HRep w' L s ∧ Fr [] w w' := by
  have hlt : k < s.cls.length := (List.getElem?_eq_some_iff.1 hc).1
  have hm := hH.n3
  obtain ⟨c0, c1, c2, c3, c4, c5, c6, c7⟩ := hH.reads
  have hck : w.cell? ⟨L.cb, k, none⟩ = some (.int .i64 c) := hH.c.2 k _ (by simp [hc])
  have he2 := hH.e
  have ht2 := hH.t
  have hfit' := hfit
  go_enter Try.func117, Try.ntmps117
  go_wp2_with fail
  go_quiet (fail)
  go_wp2_with fail
  go_ret
  exact ⟨rfl, hH.drewN nq, (Fr.refl _ w).drewN nq⟩

def RS.allocd (ws : List Int) (r : RS) : RS := { r with first := gw ws (r.first + 1), w := r.w - 1, b := r.b + 1 }

/-- An object's cell off the white row of class k. -/
def HS.took (s : HS) (k : Nat) (r : RS) : HS := { s with u := s.u + 1, rs := s.rs.set k (r.allocd s.ws) }

set_option maxHeartbeats 1600000 in
theorem hCellWhite (L : HL) (s : HS) (z : Int) (k : Nat) (r : RS) (w : World) (hH : HRep w L s) (hk : ixGe s.cls z = k) (hr : s.rs[k]? = some r) (hw : 1 ≤ r.w) (hf : Okc s.ws r.first) :
    Calls Try.prog 72 #[.pointer (some ⟨L.hb, 0, none⟩), .int .i64 z] w fun e w' => e = .returned (.tuple #[.int .i64 r.first, .int .i64 0]) ∧ HRep w' L (s.took k r) ∧ Fr L.fp w w' := by
  have hlt : k < s.cls.length := by rw [← hH.n2]; exact (List.getElem?_eq_some_iff.1 hr).1
  have hm := hH.n3
  have Hk := hid hk
  clear hk
  go_enter Try.func72, Try.ntmps72
  go_wp2_with fail
  refine (hClass L s z _ hH).mono ?_
  rintro e w1 ⟨rfl, hH1, hF1⟩
  obtain ⟨rb, r', hrb, hr', hcell, hR⟩ := hH1.at hlt
  rw [hr] at hr'; cases hr'
  obtain ⟨t0, t1, t2, t3, t4, t5, t6, t7⟩ := hH1.rapart (List.mem_of_getElem? hrb)
  obtain ⟨-, -, c2, -, -, -, -, -⟩ := hH1.reads
  rw [Hk.out]
  go_wp2_with fail
  refine (rAlloc rb L.ab L.wb r s.ws s.u _ hR hH1.a hw hf t1 t2).mono ?_
  rintro e w2 ⟨rfl, hA2, hR2, hF2⟩
  clear c2 hcell
  have hH2 := hH1.ring hrb hF2 (by simp) hA2 hR2
  go_wp2_with fail
  go_ret2
  exact ⟨rfl, hH2, (hF1.here (by simp)).trans (hF2.here (by simp [HL.fp, List.mem_of_getElem? hrb]))⟩

set_option maxHeartbeats 1600000 in
theorem hCellFull (L : HL) (s : HS) (z : Int) (k : Nat) (r : RS) (c : Int) (w : World) (hH : HRep w L s) (hk : ixGe s.cls z = k) (hr : s.rs[k]? = some r) (hc : s.cls[k]? = some c) (hw : r.w = 0) (hc0 : 1 ≤ c) (hc1 : c ≤ 24) (hfit : s.edge - s.top < c + 3) :
    Calls Try.prog 72 #[.pointer (some ⟨L.hb, 0, none⟩), .int .i64 z] w fun e w' => e = .returned (.tuple #[.int .i64 0, .int .i64 2]) ∧ HRep w' L s ∧ Fr L.fp w w' := by
  have hlt : k < s.cls.length := by rw [← hH.n2]; exact (List.getElem?_eq_some_iff.1 hr).1
  have hm := hH.n3
  have Hk := hid hk
  have Hw := hid hw
  clear hk hw
  go_enter Try.func72, Try.ntmps72
  go_wp2_with fail
  refine (hClass L s z _ hH).mono ?_
  rintro e w1 ⟨rfl, hH1, hF1⟩
  obtain ⟨rb, r', hrb, hr', hcell, hR⟩ := hH1.at hlt
  rw [hr] at hr'; cases hr'
  obtain ⟨-, -, c2, -, -, -, -, -⟩ := hH1.reads
  rw [Hk.out]
  go_wp2_with fail
  refine (rAllocFull rb L.ab r _ hR Hw.out).mono ?_
  rintro e w2 ⟨rfl, rfl⟩
  go_wp2_with fail
  refine (hGrowNo L s k c _ hH1 hc hc0 hc1 hfit).mono ?_
  rintro e w3 ⟨rfl, hH3, hF3⟩
  go_wp2_with fail
  go_ret2
  exact ⟨rfl, hH3, (hF1.trans hF3).here (by simp)⟩

set_option maxHeartbeats 1600000 in
theorem hCellGrow (L : HL) (s : HS) (z : Int) (k : Nat) (r : RS) (c : Int) (w : World) (hH : HRep w L s) (hk : ixGe s.cls z = k) (hr : s.rs[k]? = some r) (hc : s.cls[k]? = some c) (hw : r.w = 0) (hc0 : 1 ≤ c) (hc1 : c ≤ 24) (hfit : c + 3 ≤ s.edge - s.top) (ht : 1 ≤ s.top) (he : s.edge ≤ s.ws.length)
    (hf : r.tot ≠ 0 → Okc s.ws r.first ∧ Okc s.ws (gw s.ws (r.first + 2))) (htot : r.tot + 1 ≤ 65536) :
    Calls Try.prog 72 #[.pointer (some ⟨L.hb, 0, none⟩), .int .i64 z] w fun e w' => e = .returned (.tuple #[.int .i64 s.top, .int .i64 0]) ∧ (∃ du : Nat, du ≤ 5 ∧ HRep w' L ((s.grown k c r du).took k (r.grown s.top))) ∧ Fr L.fp w w' := by
  have hlt : k < s.cls.length := by rw [← hH.n2]; exact (List.getElem?_eq_some_iff.1 hr).1
  have hm := hH.n3
  have Hk := hid hk
  have Hw := hid hw
  clear hk hw
  have hlen : k < s.rs.length := by rw [hH.n2]; exact hlt
  go_enter Try.func72, Try.ntmps72
  go_wp2_with fail
  refine (hClass L s z _ hH).mono ?_
  rintro e w1 ⟨rfl, hH1, hF1⟩
  obtain ⟨rb, r', hrb, hr', hcell, hR⟩ := hH1.at hlt
  rw [hr] at hr'; cases hr'
  obtain ⟨-, -, c2, -, -, -, -, -⟩ := hH1.reads
  rw [Hk.out]
  go_wp2_with fail
  refine (rAllocFull rb L.ab r _ hR Hw.out).mono ?_
  rintro e w2 ⟨rfl, rfl⟩
  go_wp2_with fail
  refine (hGrow L s k c r _ hH1 hc hr hc0 hc1 hfit ht he hf htot).mono ?_
  rintro e w3 ⟨rfl, ⟨du, hdu, hH3⟩, hF3⟩
  clear c2 hcell
  have hlt3 : k < (s.grown k c r du).cls.length := hlt
  obtain ⟨rb2, r2, hrb2, hr2, hcell, hR2⟩ := hH3.at hlt3
  have er : r2 = r.grown s.top := by
    have : (s.grown k c r du).rs[k]? = some (r.grown s.top) := by simp [HS.grown, hlen]
    rw [this] at hr2; cases hr2; rfl
  subst er
  obtain ⟨t0, t1, t2, t3, t4, t5, t6, t7⟩ := hH3.rapart (List.mem_of_getElem? hrb2)
  obtain ⟨-, -, c2, -, -, -, -, -⟩ := hH3.reads
  have c2' : w3.cell? ⟨L.hb, 2, none⟩ = some (.slice (some ⟨L.rsb, 0, none⟩) s.cls.length L.rcap) := c2
  have htop := hH.t
  have hwl : (s.grown k c r du).ws.length = s.ws.length := by simp only [HS.grown, growW]; split <;> simp [lk_len, pt]
  clear c2
  go_wp2_with fail
  refine (rAlloc rb2 L.ab L.wb (r.grown s.top) _ _ _ hR2 hH3.a (by simp [RS.grown]) ⟨by show 0 ≤ s.top; omega, by rw [hwl]; show s.top + 2 < _; omega⟩ t1 t2).mono ?_
  rintro e w4 ⟨rfl, hA4, hR4, hF4⟩
  clear c2' hcell
  have hH4 := hH3.ring hrb2 hF4 (by simp) hA4 hR4
  go_wp2_with fail
  go_ret2
  exact ⟨rfl, ⟨du, hdu, hH4⟩, ((hF1.here (by simp)).trans hF3).trans (hF4.here (by simp [HL.fp, List.mem_of_getElem? hrb2]))⟩
end Go.Proofs.Ytifillpcphiblaa
