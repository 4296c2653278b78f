
import Derived.Test.YtklnpooninbogaaGreatMCell
import Derived.StillTailTactics
import Derived.Test.YtklnpooninbogaaGreatMRingTurn
namespace Go.Proofs.YtklnpooninbogaaGreat
open Go Go.Proofs Go.RowKit
set_option maxHeartbeats 800000 in
theorem hRingSmall (L : HL) (s : HS) (p z : Int) (k rb : Nat) (w : World) (hH : HRep w L s) (hp : p < s.edge) (hk : ixGe s.cls z = k) (hr : L.rbs[k]? = some rb) :
    Calls Tryz.prog 158 #[.pointer (some ⟨L.hb, 0, none⟩), .int .i64 p, .int .i64 z] w fun e w' => e = .returned (.pointer (some ⟨rb, 0, none⟩)) ∧ HRep w' L s ∧ Fr [] w w' := by
  have hlt : k < s.cls.length := by rw [← hH.n1]; exact (List.getElem?_eq_some_iff.1 hr).1
  have hm := hH.n3
  have Hk := hid hk
  clear hk
  go_enter Tryz.func158, Tryz.ntmps158
  go_wp2_with fail
  refine (hClass L s z _ hH).mono ?_
  rintro e w1 ⟨rfl, hH1, hF1⟩
  obtain ⟨rb', r', hr', -, hc, -⟩ := hH1.at hlt
  rw [hr] at hr'; cases hr'
  obtain ⟨-, -, c2, -, -, -, c6, -⟩ := hH1.reads
  rw [Hk.out]
  go_wp2_with fail
  go_ret
  exact ⟨rfl, hH1, hF1⟩
set_option maxHeartbeats 800000 in
theorem hRingLarge (L : HL) (s : HS) (p z : Int) (w : World) (hH : HRep w L s) (h : s.edge ≤ p ∨ ixGe s.cls z = -1) :
    Calls Tryz.prog 158 #[.pointer (some ⟨L.hb, 0, none⟩), .int .i64 p, .int .i64 z] w fun e w' => e = .returned (.pointer (some ⟨L.lb, 0, none⟩)) ∧ HRep w' L s ∧ Fr [] w w' := by
  by_cases hp : s.edge ≤ p
  · have hp' : ¬ p < s.edge := by omega
    clear h hp
    go_enter Tryz.func158, Tryz.ntmps158
    go_wp2_with fail
    refine (hClass L s z _ hH).mono ?_
    rintro e w1 ⟨rfl, hH1, hF1⟩
    obtain ⟨-, -, c2, c3, -, -, c6, -⟩ := hH1.reads
    go_wp2_with fail
    go_ret
    exact ⟨rfl, hH1, hF1⟩
  · have Hk := hid (h.resolve_left hp)
    have hp' : p < s.edge := by omega
    clear h hp
    go_enter Tryz.func158, Tryz.ntmps158
    go_wp2_with fail
    refine (hClass L s z _ hH).mono ?_
    rintro e w1 ⟨rfl, hH1, hF1⟩
    obtain ⟨-, -, c2, c3, -, -, c6, -⟩ := hH1.reads
    rw [Hk.out]
    go_wp2_with fail
    go_ret
    exact ⟨rfl, hH1, hF1⟩
def HS.grown (s : HS) (k : Nat) (c : Int) (r : RS) (du : Nat) : HS := { s with ws := growW s.ws r s.top, u := s.u + du, rs := s.rs.set k (r.grown s.top), top := s.top + (c + 3) }
set_option maxRecDepth 100000 in
set_option maxHeartbeats 1600000 in
theorem hGrow (L : HL) (s : HS) (k : Nat) (c : Int) (r : RS) (w : World) (hH : HRep w L s) (hc : s.cls[k]? = some c) (hr : s.rs[k]? = some r) (hc0 : 1 ≤ c) (hc1 : c ≤ 24) (hfit : c + 3 ≤ s.edge - s.top) (ht : 1 ≤ s.top) (he : s.edge ≤ s.ws.length)
    (hf : r.tot ≠ 0 → Okc s.ws r.first ∧ Okc s.ws (gw s.ws (r.first + 2))) (htot : r.tot + 1 ≤ 65536) :
    Calls Tryz.prog 101 #[.pointer (some ⟨L.hb, 0, none⟩), .int .i64 k] w fun e w' => e = .returned (.bool true) ∧ (∃ du : Nat, du ≤ 5 ∧ HRep w' L (s.grown k c r du)) ∧ Fr L.fp w w' := by
  have hlt : k < s.cls.length := (List.getElem?_eq_some_iff.1 hc).1
  have hm := hH.n3
  obtain ⟨rb, r', hrb, hr', hcell, hR⟩ := hH.at hlt
  rw [hr] at hr'; cases hr'
  obtain ⟨t0, t1, t2, t3, t4, t5, t6, t7⟩ := hH.rapart (List.mem_of_getElem? hrb)
  obtain ⟨c0, c1, c2, c3, c4, c5, c6, c7⟩ := hH.reads
  have hck : w.cell? ⟨L.cb, k, none⟩ = some (.int .i64 c) := hH.c.2 k _ (by simp [hc])
  have he2 := hH.e
  have ht2 := hH.t
  have n1 : ¬ s.edge - s.top < c + 3 := by omega
  have hne := hH.apart
  have hfit' := hfit
  go_enter Tryz.func101, Tryz.ntmps101
  go_wp2_with fail
  go_quiet (fail)
  go_wp2_with fail
  refine wp_region_still_tail 11 (by kernel_rfl) (by kernel_rfl) ?_
  simp only [List.take_succ_cons, List.take_zero, List.drop_succ_cons, List.drop_zero]
  change wpStill _ _ ((w.drewN nq).drew) (fun a' => wpList _ _ _ _ a' ((w.drewN nq).drew)) _ _
  repeat still_step
  refine wpStill_nil ?_
  go_wp2_with fail
  refine (rGrow rb L.ab L.wb r s.ws s.u s.top _ ((hR.drewN nq).drew) ((hH.a.drewN nq).drew) ht (by omega) hf htot t1 t2).mono ?_
  rintro e w1 ⟨rfl, ⟨du, hdu, hA1⟩, hR1, hF1⟩
  have hH1 := ((hH.drewN nq).drew).ring hrb hF1 (by simp) hA1 hR1
  have hF2 : Fr L.fp w w1 := (((Fr.refl _ w).drewN nq).drew).trans (hF1.here (by simp [HL.fp, List.mem_of_getElem? hrb]))
  clear c0 c1 c2 c3 c4 c5 c6 c7 hcell hck hA1 hR1 hF1
  obtain ⟨-, -, -, -, -, c5, -, -⟩ := hH1.reads
  have y5 := hH1.h.frozen 5
  go_wp2_with fail
  go_ret
  refine ⟨rfl, ⟨du, hdu, ?_⟩, hF2.set (by simp [HL.fp]) _⟩
  exact hH1.setTop (s.top + (c + 3)) (by omega)
set_option maxHeartbeats 1600000 in
theorem hGrowNo (L : HL) (s : HS) (k : Nat) (c : Int) (w : World) (hH : HRep w L s) (hc : s.cls[k]? = some c) (hc0 : 1 ≤ c) (hc1 : c ≤ 24) (hfit : s.edge - s.top < c + 3) :
    Calls Tryz.prog 101 #[.pointer (some ⟨L.hb, 0, none⟩), .int .i64 k] w fun e w' => e = .returned (.bool false) ∧ HRep w' L s ∧ Fr [] w w' := by
  have hlt : k < s.cls.length := (List.getElem?_eq_some_iff.1 hc).1
  have hm := hH.n3
  obtain ⟨c0, c1, c2, c3, c4, c5, c6, c7⟩ := hH.reads
  have hck : w.cell? ⟨L.cb, k, none⟩ = some (.int .i64 c) := hH.c.2 k _ (by simp [hc])
  have he2 := hH.e
  have ht2 := hH.t
  have hfit' := hfit
  go_enter Tryz.func101, Tryz.ntmps101
  go_wp2_with fail
  go_quiet (fail)
  go_wp2_with fail
  go_ret
  exact ⟨rfl, hH.drewN nq, (Fr.refl _ w).drewN nq⟩
def RS.allocd (ws : List Int) (r : RS) : RS := { r with first := gw ws (r.first + 1), w := r.w - 1, b := r.b + 1 }
def HS.took (s : HS) (k : Nat) (r : RS) : HS := { s with u := s.u + 1, rs := s.rs.set k (r.allocd s.ws) }
set_option maxHeartbeats 1600000 in
theorem hCellWhite (L : HL) (s : HS) (z : Int) (k : Nat) (r : RS) (w : World) (hH : HRep w L s) (hk : ixGe s.cls z = k) (hr : s.rs[k]? = some r) (hw : 1 ≤ r.w) (hf : Okc s.ws r.first) :
    Calls Tryz.prog 50 #[.pointer (some ⟨L.hb, 0, none⟩), .int .i64 z] w fun e w' => e = .returned (.tuple #[.int .i64 r.first, .int .i64 0]) ∧ HRep w' L (s.took k r) ∧ Fr L.fp w w' := by
  have hlt : k < s.cls.length := by rw [← hH.n2]; exact (List.getElem?_eq_some_iff.1 hr).1
  have hm := hH.n3
  have Hk := hid hk
  clear hk
  go_enter Tryz.func50, Tryz.ntmps50
  go_wp2_with fail
  refine (hClass L s z _ hH).mono ?_
  rintro e w1 ⟨rfl, hH1, hF1⟩
  obtain ⟨rb, r', hrb, hr', hcell, hR⟩ := hH1.at hlt
  rw [hr] at hr'; cases hr'
  obtain ⟨t0, t1, t2, t3, t4, t5, t6, t7⟩ := hH1.rapart (List.mem_of_getElem? hrb)
  obtain ⟨-, -, c2, -, -, -, -, -⟩ := hH1.reads
  rw [Hk.out]
  go_wp2_with fail
  refine (rAlloc rb L.ab L.wb r s.ws s.u _ hR hH1.a hw hf t1 t2).mono ?_
  rintro e w2 ⟨rfl, hA2, hR2, hF2⟩
  clear c2 hcell
  have hH2 := hH1.ring hrb hF2 (by simp) hA2 hR2
  go_wp2_with fail
  go_ret2
  exact ⟨rfl, hH2, (hF1.here (by simp)).trans (hF2.here (by simp [HL.fp, List.mem_of_getElem? hrb]))⟩
set_option maxHeartbeats 1600000 in
theorem hCellFull (L : HL) (s : HS) (z : Int) (k : Nat) (r : RS) (c : Int) (w : World) (hH : HRep w L s) (hk : ixGe s.cls z = k) (hr : s.rs[k]? = some r) (hc : s.cls[k]? = some c) (hw : r.w = 0) (hc0 : 1 ≤ c) (hc1 : c ≤ 24) (hfit : s.edge - s.top < c + 3) :
    Calls Tryz.prog 50 #[.pointer (some ⟨L.hb, 0, none⟩), .int .i64 z] w fun e w' => e = .returned (.tuple #[.int .i64 0, .int .i64 2]) ∧ HRep w' L s ∧ Fr L.fp w w' := by
  have hlt : k < s.cls.length := by rw [← hH.n2]; exact (List.getElem?_eq_some_iff.1 hr).1
  have hm := hH.n3
  have Hk := hid hk
  have Hw := hid hw
  clear hk hw
  go_enter Tryz.func50, Tryz.ntmps50
  go_wp2_with fail
  refine (hClass L s z _ hH).mono ?_
  rintro e w1 ⟨rfl, hH1, hF1⟩
  obtain ⟨rb, r', hrb, hr', hcell, hR⟩ := hH1.at hlt
  rw [hr] at hr'; cases hr'
  obtain ⟨-, -, c2, -, -, -, -, -⟩ := hH1.reads
  rw [Hk.out]
  go_wp2_with fail
  refine (rAllocFull rb L.ab r _ hR Hw.out).mono ?_
  rintro e w2 ⟨rfl, rfl⟩
  go_wp2_with fail
  refine (hGrowNo L s k c _ hH1 hc hc0 hc1 hfit).mono ?_
  rintro e w3 ⟨rfl, hH3, hF3⟩
  go_wp2_with fail
  go_ret2
  exact ⟨rfl, hH3, (hF1.trans hF3).here (by simp)⟩
set_option maxHeartbeats 1600000 in
theorem hCellGrow (L : HL) (s : HS) (z : Int) (k : Nat) (r : RS) (c : Int) (w : World) (hH : HRep w L s) (hk : ixGe s.cls z = k) (hr : s.rs[k]? = some r) (hc : s.cls[k]? = some c) (hw : r.w = 0) (hc0 : 1 ≤ c) (hc1 : c ≤ 24) (hfit : c + 3 ≤ s.edge - s.top) (ht : 1 ≤ s.top) (he : s.edge ≤ s.ws.length)
    (hf : r.tot ≠ 0 → Okc s.ws r.first ∧ Okc s.ws (gw s.ws (r.first + 2))) (htot : r.tot + 1 ≤ 65536) :
    Calls Tryz.prog 50 #[.pointer (some ⟨L.hb, 0, none⟩), .int .i64 z] w fun e w' => e = .returned (.tuple #[.int .i64 s.top, .int .i64 0]) ∧ (∃ du : Nat, du ≤ 5 ∧ HRep w' L ((s.grown k c r du).took k (r.grown s.top))) ∧ Fr L.fp w w' := by
  have hlt : k < s.cls.length := by rw [← hH.n2]; exact (List.getElem?_eq_some_iff.1 hr).1
  have hm := hH.n3
  have Hk := hid hk
  have Hw := hid hw
  clear hk hw
  have hlen : k < s.rs.length := by rw [hH.n2]; exact hlt
  go_enter Tryz.func50, Tryz.ntmps50
  go_wp2_with fail
  refine (hClass L s z _ hH).mono ?_
  rintro e w1 ⟨rfl, hH1, hF1⟩
  obtain ⟨rb, r', hrb, hr', hcell, hR⟩ := hH1.at hlt
  rw [hr] at hr'; cases hr'
  obtain ⟨-, -, c2, -, -, -, -, -⟩ := hH1.reads
  rw [Hk.out]
  go_wp2_with fail
  refine (rAllocFull rb L.ab r _ hR Hw.out).mono ?_
  rintro e w2 ⟨rfl, rfl⟩
  go_wp2_with fail
  refine (hGrow L s k c r _ hH1 hc hr hc0 hc1 hfit ht he hf htot).mono ?_
  rintro e w3 ⟨rfl, ⟨du, hdu, hH3⟩, hF3⟩
  clear c2 hcell
  have hlt3 : k < (s.grown k c r du).cls.length := hlt
  obtain ⟨rb2, r2, hrb2, hr2, hcell, hR2⟩ := hH3.at hlt3
  have er : r2 = r.grown s.top := by
    have : (s.grown k c r du).rs[k]? = some (r.grown s.top) := by simp [HS.grown, hlen]
    rw [this] at hr2; cases hr2; rfl
  subst er
  obtain ⟨t0, t1, t2, t3, t4, t5, t6, t7⟩ := hH3.rapart (List.mem_of_getElem? hrb2)
  obtain ⟨-, -, c2, -, -, -, -, -⟩ := hH3.reads
  have c2' : w3.cell? ⟨L.hb, 2, none⟩ = some (.slice (some ⟨L.rsb, 0, none⟩) s.cls.length L.rcap) := c2
  have htop := hH.t
  have hwl : (s.grown k c r du).ws.length = s.ws.length := by simp only [HS.grown, growW]; split <;> simp [lk_len, pt]
  clear c2
  go_wp2_with fail
  refine (rAlloc rb2 L.ab L.wb (r.grown s.top) _ _ _ hR2 hH3.a (by simp [RS.grown]) ⟨by show 0 ≤ s.top; omega, by rw [hwl]; show s.top + 2 < _; omega⟩ t1 t2).mono ?_
  rintro e w4 ⟨rfl, hA4, hR4, hF4⟩
  clear c2' hcell
  have hH4 := hH3.ring hrb2 hF4 (by simp) hA4 hR4
  go_wp2_with fail
  go_ret2
  exact ⟨rfl, ⟨du, hdu, hH4⟩, ((hF1.here (by simp)).trans hF3).trans (hF4.here (by simp [HL.fp, List.mem_of_getElem? hrb2]))⟩
set_option maxRecDepth 100000 in
set_option maxHeartbeats 1600000 in
theorem hShadeNo (L : HL) (s : HS) (p : Int) (k z a : Int) (w : World) (hH : HRep w L s) (p0 : 0 ≤ p) (p1 : p < s.ws.length) (hp : gw s.ws p = packed k z a s.parity) (hd : Hd k z a s.parity) :
    Calls Tryz.prog 126 #[.pointer (some ⟨L.hb, 0, none⟩), .int .i64 p] w fun e w' => e = .returned (.tuple #[.bool false, .int .i64 0]) ∧ HRep w' L (s.tick 1) ∧ Fr [L.ab] w w' := by
  have hn := new_apart hH
  have hH0 := hH.alloc (.cells #[.pointer (some ⟨L.hb, 0, none⟩)] 30)
  have B0 := Blk.new w [.pointer (some ⟨L.hb, 0, none⟩)] 30
  have q0 := B0.cell (i := 0) rfl
  have hF0 : Fr [L.ab] w (w.alloc (.cells #[.pointer (some ⟨L.hb, 0, none⟩)] 30)) := (Fr.refl _ w).alloc _
  have hn' : w.heap.size ∉ [L.ab] := by
    intro hc
    refine hn ?_
    simp only [HL.all, List.mem_cons]
    exact .inr (.inr (fpab L _ hc))
  clear hn
  go_enter Tryz.func126, Tryz.ntmps126
  go_wp2_with fail
  refine (hCell L s p k z a s.parity _ hH0 p0 p1 hp hd).mono ?_
  rintro e w1 ⟨rfl, hH1, hF1⟩
  have B1 := B0.fr hF1 hn'
  have B1' := B1.alloc (.cells #[.int .i64 k, .int .i64 z, .int .i64 a, .int .i64 s.parity] 60)
  have C1 := Blk.new w1 [.int .i64 k, .int .i64 z, .int .i64 a, .int .i64 s.parity] 60
  have hH1' := hH1.alloc (.cells #[.int .i64 k, .int .i64 z, .int .i64 a, .int .i64 s.parity] 60)
  obtain ⟨-, -, -, -, -, -, -, c7⟩ := hH1'.reads
  have d3 := C1.cell (i := 3) rfl
  have q1 := B1'.cell (i := 0) rfl
  have c7' : (w1.alloc (.cells #[.int .i64 k, .int .i64 z, .int .i64 a, .int .i64 s.parity] 60)).cell? ⟨L.hb, 7, none⟩ = some (.int .i64 s.parity) := c7
  have hF1' := (hF0.trans hF1).alloc (.cells #[.int .i64 k, .int .i64 z, .int .i64 a, .int .i64 s.parity] 60)
  clear q0 hF0 hF1 hH0 hH1 B0 B1 c7
  go_wp2_with fail
  go_quiet (fail)
  go_wp2_with fail
  go_ret2
  exact ⟨rfl, hH1'.drewN nq, hF1'.drewN nq⟩
set_option maxRecDepth 100000 in
set_option maxHeartbeats 3200000 in
theorem hShadeSmall (L : HL) (s : HS) (p : Int) (k z a m : Int) (j rb : Nat) (r : RS) (hj : ixGe s.cls z = j) (hpe : p < s.edge) (hrb : L.rbs[j]? = some rb) (hr : s.rs[j]? = some r) (w : World) (hH : HRep w L s) (p0 : 0 ≤ p) (p1 : p < s.ws.length) (hp : gw s.ws p = packed k z a m) (hd : Hd k z a m) (hd' : Hd k z a s.parity) (hm : ¬ m = s.parity)
    (hf : 1 ≤ r.f) (hk : 1 < r.tot → Okc (sw s.ws p (packed k z a s.parity)) p ∧ Okc (sw s.ws p (packed k z a s.parity)) (gw (sw s.ws p (packed k z a s.parity)) (p + 2)) ∧ Okc (sw s.ws p (packed k z a s.parity)) (gw (sw s.ws p (packed k z a s.parity)) (p + 1)) ∧ Okc (sw s.ws p (packed k z a s.parity)) (shB (sw s.ws p (packed k z a s.parity)) r p) ∧ Okc (sw s.ws p (packed k z a s.parity)) (gw (ct (sw s.ws p (packed k z a s.parity)) p) (shB (sw s.ws p (packed k z a s.parity)) r p + 2))) :
    Calls Tryz.prog 126 #[.pointer (some ⟨L.hb, 0, none⟩), .int .i64 p] w fun e w' => e = .returned (.tuple #[.bool true, .int .i64 0]) ∧ (∃ u' : Int, (s.u ≤ u' ∧ u' ≤ s.u + 14) ∧ HRep w' L { s with ws := shW (sw s.ws p (packed k z a s.parity)) r p, u := u', rs := s.rs.set j (r.shaded (sw s.ws p (packed k z a s.parity)) p) }) ∧ Fr L.fp w w' := by
  have hn := new_apart hH
  have hH0 := hH.alloc (.cells #[.pointer (some ⟨L.hb, 0, none⟩)] 30)
  have B0 := Blk.new w [.pointer (some ⟨L.hb, 0, none⟩)] 30
  have q0 := B0.cell (i := 0) rfl
  have hF0 : Fr L.fp w (w.alloc (.cells #[.pointer (some ⟨L.hb, 0, none⟩)] 30)) := (Fr.refl _ w).alloc _
  have hmf : ∀ (fn : Fn) (first cap : Array Value) (w : World), (Instr.makeFunc fn first cap).run Tryz.prog w = .ok (.func fn first cap) w := fun _ _ _ _ => rfl
  have hall : ∀ x ∈ L.fp, x ∈ L.all := fun x hx => by simp only [HL.all, List.mem_cons]; exact .inr (.inr hx)
  have hn' : w.heap.size ∉ [L.ab] := fun hc => hn (hall _ (fpab L _ hc))
  have hn2 : w.heap.size ∉ [L.ab, L.wb] := fun hc => hn (hall _ (fpaw L _ hc))
  have HP := hid hp
  have HK := hid hk
  clear hp hk
  go_enter Tryz.func126, Tryz.ntmps126
  go_wp2_with fail
  refine (hCell L s p k z a m _ hH0 p0 p1 HP.out hd).mono ?_
  rintro e w1 ⟨rfl, hH1, hF1⟩
  have B1 := B0.fr hF1 hn'
  have B1' := B1.alloc (.cells #[.int .i64 k, .int .i64 z, .int .i64 a, .int .i64 m] 60)
  have C1 := Blk.new w1 [.int .i64 k, .int .i64 z, .int .i64 a, .int .i64 m] 60
  have hH1' := hH1.alloc (.cells #[.int .i64 k, .int .i64 z, .int .i64 a, .int .i64 m] 60)
  have hnc := new_apart hH1
  have hnc2 : w1.heap.size ∉ [L.ab, L.wb] := fun hc => hnc (hall _ (fpaw L _ hc))
  obtain ⟨-, -, -, -, -, -, -, c7⟩ := hH1'.reads
  have d3 := C1.cell (i := 3) rfl
  have q1 := B1'.cell (i := 0) rfl
  have c7' : (w1.alloc (.cells #[.int .i64 k, .int .i64 z, .int .i64 a, .int .i64 m] 60)).cell? ⟨L.hb, 7, none⟩ = some (.int .i64 s.parity) := c7
  have hF1' := (hF0.trans (hF1.here (fpab L))).alloc (.cells #[.int .i64 k, .int .i64 z, .int .i64 a, .int .i64 m] 60)
  clear q0 hF0 hF1 hH0 hH1 B0 B1 c7 hnc
  go_wp2_with fail
  go_quiet (fail)
  have B2 := B1'.drewN nq
  have C2 := C1.drewN nq
  have q2 := B2.cell (i := 0) rfl
  have hH2 := hH1'.drewN nq
  have hF2' := hF1'.drewN nq
  clear q1 d3 c7' B1' C1 hH1' hF1'
  go_wp2_with fail
  refine (hTurnShade L (s.tick 1) p k z a m w.heap.size _ hH2 p0 p1 HP.out hd hd' q2 B2.lt hn).mono ?_
  rintro e w3 ⟨rfl, hH3, hF3⟩
  have B3 := B2.fr hF3 hn2
  have C3 := C2.fr hF3 hnc2
  have hF3' := hF2'.trans (hF3.here (fpaw L))
  have q3 := B3.cell (i := 0) rfl
  have d3 := C3.cell (i := 1) rfl
  clear q2 B2 C2 hH2 hF2' hF3
  go_wp2_with fail
  refine (hRingSmall L _ p z j rb _ hH3 hpe hj hrb).mono ?_
  rintro e w4 ⟨rfl, hH4, hF4⟩
  have hF4' := hF3'.trans (hF4.here (by simp))
  clear q3 d3 hF4 hF3' hH3
  obtain ⟨t0, n1, n2, t3, t4, t5, t6, t7⟩ := hH4.rapart (List.mem_of_getElem? hrb)
  have hR4 := hH4.rr j rb r hrb hr
  go_wp2_with fail
  refine (rShade rb L.ab L.wb r _ _ p _ hR4 hH4.a hf (fun h => HK.out h) n1 n2).mono ?_
  rintro e w5 ⟨rfl, ⟨du, hdu, hA5⟩, hR5, hF5⟩
  have hH5 := hH4.ring hrb hF5 (by simp) hA5 hR5
  have hF5' := hF4'.trans (hF5.here (by simp [HL.fp, List.mem_of_getElem? hrb]))
  go_wp2_with fail
  go_ret2
  exact ⟨rfl, ⟨_, by simp only [HS.tick, HS.put]; omega, hH5⟩, hF5'⟩
set_option maxRecDepth 100000 in
set_option maxHeartbeats 3200000 in
theorem hShadeLarge (L : HL) (s : HS) (p : Int) (k z a m : Int) (r : RS) (hj : s.edge ≤ p ∨ ixGe s.cls z = -1) (hr : s.lg = r) (w : World) (hH : HRep w L s) (p0 : 0 ≤ p) (p1 : p < s.ws.length) (hp : gw s.ws p = packed k z a m) (hd : Hd k z a m) (hd' : Hd k z a s.parity) (hm : ¬ m = s.parity)
    (hf : 1 ≤ r.f) (hk : 1 < r.tot → Okc (sw s.ws p (packed k z a s.parity)) p ∧ Okc (sw s.ws p (packed k z a s.parity)) (gw (sw s.ws p (packed k z a s.parity)) (p + 2)) ∧ Okc (sw s.ws p (packed k z a s.parity)) (gw (sw s.ws p (packed k z a s.parity)) (p + 1)) ∧ Okc (sw s.ws p (packed k z a s.parity)) (shB (sw s.ws p (packed k z a s.parity)) r p) ∧ Okc (sw s.ws p (packed k z a s.parity)) (gw (ct (sw s.ws p (packed k z a s.parity)) p) (shB (sw s.ws p (packed k z a s.parity)) r p + 2))) :
    Calls Tryz.prog 126 #[.pointer (some ⟨L.hb, 0, none⟩), .int .i64 p] w fun e w' => e = .returned (.tuple #[.bool true, .int .i64 0]) ∧ (∃ u' : Int, (s.u ≤ u' ∧ u' ≤ s.u + 14) ∧ HRep w' L { s with ws := shW (sw s.ws p (packed k z a s.parity)) r p, u := u', lg := r.shaded (sw s.ws p (packed k z a s.parity)) p }) ∧ Fr L.fp w w' := by
  have hn := new_apart hH
  have hH0 := hH.alloc (.cells #[.pointer (some ⟨L.hb, 0, none⟩)] 30)
  have B0 := Blk.new w [.pointer (some ⟨L.hb, 0, none⟩)] 30
  have q0 := B0.cell (i := 0) rfl
  have hF0 : Fr L.fp w (w.alloc (.cells #[.pointer (some ⟨L.hb, 0, none⟩)] 30)) := (Fr.refl _ w).alloc _
  have hmf : ∀ (fn : Fn) (first cap : Array Value) (w : World), (Instr.makeFunc fn first cap).run Tryz.prog w = .ok (.func fn first cap) w := fun _ _ _ _ => rfl
  have hall : ∀ x ∈ L.fp, x ∈ L.all := fun x hx => by simp only [HL.all, List.mem_cons]; exact .inr (.inr hx)
  have hn' : w.heap.size ∉ [L.ab] := fun hc => hn (hall _ (fpab L _ hc))
  have hn2 : w.heap.size ∉ [L.ab, L.wb] := fun hc => hn (hall _ (fpaw L _ hc))
  have HP := hid hp
  have HK := hid hk
  clear hp hk
  go_enter Tryz.func126, Tryz.ntmps126
  go_wp2_with fail
  refine (hCell L s p k z a m _ hH0 p0 p1 HP.out hd).mono ?_
  rintro e w1 ⟨rfl, hH1, hF1⟩
  have B1 := B0.fr hF1 hn'
  have B1' := B1.alloc (.cells #[.int .i64 k, .int .i64 z, .int .i64 a, .int .i64 m] 60)
  have C1 := Blk.new w1 [.int .i64 k, .int .i64 z, .int .i64 a, .int .i64 m] 60
  have hH1' := hH1.alloc (.cells #[.int .i64 k, .int .i64 z, .int .i64 a, .int .i64 m] 60)
  have hnc := new_apart hH1
  have hnc2 : w1.heap.size ∉ [L.ab, L.wb] := fun hc => hnc (hall _ (fpaw L _ hc))
  obtain ⟨-, -, -, -, -, -, -, c7⟩ := hH1'.reads
  have d3 := C1.cell (i := 3) rfl
  have q1 := B1'.cell (i := 0) rfl
  have c7' : (w1.alloc (.cells #[.int .i64 k, .int .i64 z, .int .i64 a, .int .i64 m] 60)).cell? ⟨L.hb, 7, none⟩ = some (.int .i64 s.parity) := c7
  have hF1' := (hF0.trans (hF1.here (fpab L))).alloc (.cells #[.int .i64 k, .int .i64 z, .int .i64 a, .int .i64 m] 60)
  clear q0 hF0 hF1 hH0 hH1 B0 B1 c7 hnc
  go_wp2_with fail
  go_quiet (fail)
  have B2 := B1'.drewN nq
  have C2 := C1.drewN nq
  have q2 := B2.cell (i := 0) rfl
  have hH2 := hH1'.drewN nq
  have hF2' := hF1'.drewN nq
  clear q1 d3 c7' B1' C1 hH1' hF1'
  go_wp2_with fail
  refine (hTurnShade L (s.tick 1) p k z a m w.heap.size _ hH2 p0 p1 HP.out hd hd' q2 B2.lt hn).mono ?_
  rintro e w3 ⟨rfl, hH3, hF3⟩
  have B3 := B2.fr hF3 hn2
  have C3 := C2.fr hF3 hnc2
  have hF3' := hF2'.trans (hF3.here (fpaw L))
  have q3 := B3.cell (i := 0) rfl
  have d3 := C3.cell (i := 1) rfl
  clear q2 B2 C2 hH2 hF2' hF3
  go_wp2_with fail
  refine (hRingLarge L _ p z _ hH3 hj).mono ?_
  rintro e w4 ⟨rfl, hH4, hF4⟩
  have hF4' := hF3'.trans (hF4.here (by simp))
  clear q3 d3 hF4 hF3' hH3
  obtain ⟨⟨-, -, -, -, -, -⟩, ⟨-, q2, -, -, -⟩, ⟨r1, -, -, -⟩, -, -, -⟩ := hH4.apart
  have n1 := Ne.symm q2
  have n2 := Ne.symm r1
  have hR4 : RRep w4 L.lb L.ab r := hr ▸ hH4.lr
  go_wp2_with fail
  refine (rShade L.lb L.ab L.wb r _ _ p _ hR4 hH4.a hf (fun h => HK.out h) n1 n2).mono ?_
  rintro e w5 ⟨rfl, ⟨du, hdu, hA5⟩, hR5, hF5⟩
  have hH5 := hH4.large hF5 (by simp) hA5 hR5
  have hF5' := hF4'.trans (hF5.here (by simp [HL.fp]))
  go_wp2_with fail
  go_ret2
  exact ⟨rfl, ⟨_, by simp only [HS.tick, HS.put]; omega, hH5⟩, hF5'⟩
set_option maxHeartbeats 1600000 in
theorem hDoneSmall (L : HL) (s : HS) (p : Int) (k z a m : Int) (j rb : Nat) (r : RS) (w : World) (hH : HRep w L s) (p0 : 0 ≤ p) (p1 : p < s.ws.length) (hp : gw s.ws p = packed k z a m) (hd : Hd k z a m) (hj : ixGe s.cls z = j) (hpe : p < s.edge) (hrb : L.rbs[j]? = some rb) (hr : s.rs[j]? = some r) (hg : 1 ≤ r.g) (hb : Okc s.ws r.black) :
    Calls Tryz.prog 167 #[.pointer (some ⟨L.hb, 0, none⟩), .int .i64 p] w fun e w' => e = .returned (.int .i64 0) ∧ (∃ u' : Int, (s.u ≤ u' ∧ u' ≤ s.u + 14) ∧ HRep w' L { s with u := u', rs := s.rs.set j { r with black := gw s.ws (r.black + 2), g := r.g - 1, b := r.b + 1 } }) ∧ Fr L.fp w w' := by
  go_enter Tryz.func167, Tryz.ntmps167
  go_wp2_with fail
  refine (hCell L s p k z a m _ hH p0 p1 hp hd).mono ?_
  rintro e w1 ⟨rfl, hH1, hF1⟩
  have C1 := Blk.new w1 [.int .i64 k, .int .i64 z, .int .i64 a, .int .i64 m] 60
  have hH1' := hH1.alloc (.cells #[.int .i64 k, .int .i64 z, .int .i64 a, .int .i64 m] 60)
  have hF1' := (hF1.here (fpab L)).alloc (.cells #[.int .i64 k, .int .i64 z, .int .i64 a, .int .i64 m] 60)
  have d1 := C1.cell (i := 1) rfl
  clear hp hF1 hH1
  go_wp2_with fail
  refine (hRingSmall L _ p z j rb _ hH1' hpe hj hrb).mono ?_
  rintro e w4 ⟨rfl, hH4, hF4⟩
  obtain ⟨t0, n1, n2, t3, t4, t5, t6, t7⟩ := hH4.rapart (List.mem_of_getElem? hrb)
  have hR4 := hH4.rr j rb r hrb hr
  clear d1
  go_wp2_with fail
  refine (rDone rb L.ab L.wb r _ _ _ hR4 hH4.a hg hb n1 n2).mono ?_
  rintro e w5 ⟨rfl, hA5, hR5, hF5⟩
  have hH5 := hH4.ring hrb hF5 (by simp) hA5 hR5
  have hF5' := (hF1'.trans (hF4.here (by simp))).trans (hF5.here (by simp [HL.fp, List.mem_of_getElem? hrb]))
  go_wp2_with fail
  go_ret
  exact ⟨rfl, ⟨_, by simp only [HS.tick, HS.put]; omega, hH5⟩, hF5'⟩
set_option maxHeartbeats 1600000 in
theorem hDoneLarge (L : HL) (s : HS) (p : Int) (k z a m : Int) (w : World) (hH : HRep w L s) (p0 : 0 ≤ p) (p1 : p < s.ws.length) (hp : gw s.ws p = packed k z a m) (hd : Hd k z a m) (hj : s.edge ≤ p ∨ ixGe s.cls z = -1) (hg : 1 ≤ s.lg.g) (hb : Okc s.ws s.lg.black) :
    Calls Tryz.prog 167 #[.pointer (some ⟨L.hb, 0, none⟩), .int .i64 p] w fun e w' => e = .returned (.int .i64 0) ∧ (∃ u' : Int, (s.u ≤ u' ∧ u' ≤ s.u + 14) ∧ HRep w' L { s with u := u', lg := { s.lg with black := gw s.ws (s.lg.black + 2), g := s.lg.g - 1, b := s.lg.b + 1 } }) ∧ Fr L.fp w w' := by
  go_enter Tryz.func167, Tryz.ntmps167
  go_wp2_with fail
  refine (hCell L s p k z a m _ hH p0 p1 hp hd).mono ?_
  rintro e w1 ⟨rfl, hH1, hF1⟩
  have C1 := Blk.new w1 [.int .i64 k, .int .i64 z, .int .i64 a, .int .i64 m] 60
  have hH1' := hH1.alloc (.cells #[.int .i64 k, .int .i64 z, .int .i64 a, .int .i64 m] 60)
  have hF1' := (hF1.here (fpab L)).alloc (.cells #[.int .i64 k, .int .i64 z, .int .i64 a, .int .i64 m] 60)
  have d1 := C1.cell (i := 1) rfl
  clear hp hF1 hH1
  go_wp2_with fail
  refine (hRingLarge L _ p z _ hH1' hj).mono ?_
  rintro e w4 ⟨rfl, hH4, hF4⟩
  obtain ⟨⟨-, -, -, -, -, -⟩, ⟨-, q2, -, -, -⟩, ⟨r1, -, -, -⟩, -, -, -⟩ := hH4.apart
  clear d1
  go_wp2_with fail
  refine (rDone L.lb L.ab L.wb _ _ _ _ hH4.lr hH4.a hg hb (Ne.symm q2) (Ne.symm r1)).mono ?_
  rintro e w5 ⟨rfl, hA5, hR5, hF5⟩
  have hH5 := hH4.large hF5 (by simp) hA5 hR5
  have hF5' := (hF1'.trans (hF4.here (by simp))).trans (hF5.here (by simp [HL.fp]))
  go_wp2_with fail
  go_ret
  exact ⟨rfl, ⟨_, by simp only [HS.tick, HS.put]; omega, hH5⟩, hF5'⟩
def zr (ws : List Int) (a : Int) : Nat → List Int
  | 0 => ws
  | n + 1 => sw (zr ws a n) (a + n) 0
theorem zr_len (ws : List Int) (a : Int) (n : Nat) : (zr ws a n).length = ws.length := by
  induction n with
  | zero => rfl
  | succ n ih => simp [zr, sw_len, ih]
def HS.laid (s : HS) (p word : Int) (n : Nat) : HS := { s with ws := zr (sw s.ws p word) (p + 3) n, u := s.u + 1 + n }
def Places (L : HL) (s : HS) (z p : Int) (S : HS → Prop) : Prop := ∀ w, HRep w L s → Calls Tryz.prog 50 #[.pointer (some ⟨L.hb, 0, none⟩), .int .i64 z] w fun e w' => e = .returned (.tuple #[.int .i64 p, .int .i64 0]) ∧ (∃ s', S s' ∧ HRep w' L s') ∧ Fr L.fp w w'
set_option maxHeartbeats 1600000 in
theorem hAllocFull (L : HL) (s : HS) (k a z : Int) (w : World) (hH : HRep w L s) (hd : Hd k z a s.parity)
    (hc : ∀ w, HRep w L s → Calls Tryz.prog 50 #[.pointer (some ⟨L.hb, 0, none⟩), .int .i64 z] w fun e w' => e = .returned (.tuple #[.int .i64 0, .int .i64 2]) ∧ HRep w' L s ∧ Fr L.fp w w') :
    Calls Tryz.prog 16 #[.pointer (some ⟨L.hb, 0, none⟩), .int .i64 k, .int .i64 a, .int .i64 z] w fun e w' => e = .returned (.tuple #[.int .i64 0, .int .i64 2]) ∧ HRep w' L s ∧ Fr L.fp w w' := by
  obtain ⟨c0, -, -, -, -, -, -, c7⟩ := hH.reads
  have Hc := hid hc
  clear hc
  go_enter Tryz.func16, Tryz.ntmps16
  go_wp2_with fail
  refine (cPack k z a s.parity _ hd.k0 hd.k1 hd.m0 hd.m1 hd.s0 hd.s1 hd.a0 hd.a1).mono ?_
  rintro e w1 ⟨rfl, hF1⟩
  have hH1 := hH.fr hF1 (by simp)
  go_wp2_with fail
  refine (Hc.out _ hH1).mono ?_
  rintro e w2 ⟨rfl, hH2, hF2⟩
  go_wp2_with fail
  go_ret2
  exact ⟨rfl, hH2, (hF1.here (by simp)).trans hF2⟩
set_option maxHeartbeats 1600000 in
theorem hAlloc (L : HL) (s : HS) (k a : Int) (n : Nat) (p : Int) (S : HS → Prop) (w : World) (hH : HRep w L s) (hd : Hd k n a s.parity) (hc : Places L s n p S)
    (hS : ∀ s', S s' → s'.ws.length = s.ws.length) (p0 : 0 ≤ p) (p1 : p + 3 + n ≤ s.ws.length) :
    Calls Tryz.prog 16 #[.pointer (some ⟨L.hb, 0, none⟩), .int .i64 k, .int .i64 a, .int .i64 n] w fun e w' => e = .returned (.tuple #[.int .i64 p, .int .i64 0]) ∧ (∃ s', S s' ∧ HRep w' L (s'.laid p (packed k n a s.parity) n)) ∧ Fr L.fp w w' := by
  obtain ⟨c0, -, -, -, -, -, -, c7⟩ := hH.reads
  have hle := hH.a.le
  have Hd0 := hid hd
  clear hd
  have hn : n < 32 := by have := Hd0.out.s1; omega
  go_enter Tryz.func16, Tryz.ntmps16
  go_wp2_with fail
  refine (cPack k n a s.parity _ Hd0.out.k0 Hd0.out.k1 Hd0.out.m0 Hd0.out.m1 Hd0.out.s0 Hd0.out.s1 Hd0.out.a0 Hd0.out.a1).mono ?_
  rintro e w1 ⟨rfl, hF1⟩
  have hH1 := hH.fr hF1 (by simp)
  clear c0 c7
  go_wp2_with fail
  refine (hc _ hH1).mono ?_
  rintro e w2 ⟨rfl, ⟨s', hs', hH2⟩, hF2⟩
  have hl := hS s' hs'
  have Hl := hid hl
  clear hl hS
  have hF3 : Fr L.fp w w2 := (hF1.here (by simp)).trans hF2
  clear hF1 hF2 hH1
  obtain ⟨c0, -, -, -, -, -, -, -⟩ := hH2.reads
  go_wp2_with fail
  refine (aStore L.ab L.wb s'.ws s'.u p _ _ p0 (by have := Hl.out; omega) hH2.a).mono ?_
  rintro e w3 ⟨rfl, hA3, hF4⟩
  have hH3 := hH2.arena hF4 (by simp) hA3
  have hF5 : Fr L.fp w w3 := hF3.trans (hF4.here (fpaw L))
  clear c0 hA3 hF4 hF3 hH2
  go_wp2_with fail
  go_loopw [46] (fun i wr => ∃ j : Nat, j ≤ n ∧ i = .int .i64 j ∧ HRep wr L (s'.laid p (packed k n a s.parity) j) ∧ Fr L.fp w wr) (fun i _ => n - (intOf i).toNat)
  case atStart => exact ⟨0, Nat.zero_le _, rfl, hH3.cast (by simp [HS.laid, zr]), hF5⟩
  case round =>
    obtain ⟨j, hj, rfl, hHr, hFr⟩ := hrel
    clear hH3 hF5
    by_cases hlt : j < n
    · obtain ⟨c0, -, -, -, -, -, -, -⟩ := hHr.reads
      go_wp2_with fail
      refine (aStore L.ab L.wb _ _ (p + 3 + j) 0 _ (by omega) (by simp only [HS.laid, zr_len, sw_len]; have := Hl.out; omega) hHr.a).mono ?_
      rintro e w4 ⟨rfl, hA4, hF4⟩
      have hH4 := hHr.arena hF4 (by simp) hA4
      clear c0
      go_wp2_with fail
      go_roundw
      case rel => exact ⟨j + 1, by omega, by go_num, hH4.cast (by simp [HS.laid, zr, Int.add_assoc]), hFr.trans (hF4.here (fpaw L))⟩
      case measure => simp [intOf]; omega
    · have e : j = n := by omega
      subst e
      go_wp2_with fail
      go_ret2
      exact ⟨rfl, ⟨s', hs', hHr⟩, hFr⟩
def RdAt (w : World) (b o : Nat) (vs : List Value) : Prop := b < w.heap.size ∧ ∀ i v, vs[i]? = some v → w.cell? ⟨b, o + i, none⟩ = some v
theorem RdAt.fr {S : List Nat} {w w' : World} {b o : Nat} {vs : List Value} (h : RdAt w b o vs) (hf : Fr S w w') (hb : b ∉ S) : RdAt w' b o vs :=
  ⟨Nat.lt_of_lt_of_le h.1 hf.size, fun i v hv => (cell_fr hf hb h.1 (o + i)).trans (h.2 i v hv)⟩
theorem info_int : (Tryz.prog.info? 3).map (fun i => (i.zero, i.size, i.bytes)) = some (some (.int .i64 0), 1, 8) := by kernel_rfl
theorem ownsRow_rd {w : World} {base : Nat} {e : TypeId} {v : Value} {n : Nat} {xs : List Value} (h : w.ownsRow base e 1 v n xs) (hn : 1 ≤ n) : ∃ g cap, v = .slice (some ⟨g, 0, none⟩) n cap ∧ base ≤ g ∧ Rd w g xs := by
  obtain ⟨hl, h | ⟨g, cap, cur, hv, hg, hh, hc, -, hcs, ht⟩⟩ := h
  · omega
  · refine ⟨g, cap, hv, hg, (Array.getElem?_eq_some_iff.1 hh).1, fun i u hu => ?_⟩
    rw [← ht] at hu
    have : cur[i]? = some u := by
      rw [List.getElem?_take] at hu
      split at hu
      · simpa using hu
      · cases hu
    simp [World.cell?, hh, this]
theorem Fr.of_grownBy {w w' : World} {row : Option Nat} (h : w.grownBy w' row) {S : List Nat} (hS : ∀ k, row = some k → k ∈ S ∨ w.heap.size ≤ k) : Fr S w w' :=
  ⟨h.os, h.tape, h.output, h.size, fun k hk hn => h.block k hk (fun e => (hS k e.symm).elim hn (fun h => by omega))⟩
set_option maxHeartbeats 800000 in
set_option maxRecDepth 20000 in
theorem sClone (b o cap : Nat) (vs : List Int) (w : World) (h1 : 1 ≤ vs.length) (h2 : vs.length ≤ 100) (hr : RdAt w b o (vs.map (.int .i64))) :
    Calls Tryz.prog 65 #[.slice (some ⟨b, o, none⟩) vs.length cap] w fun e w' => ∃ g cap', e = .returned (.slice (some ⟨g, 0, none⟩) vs.length cap') ∧ Rd w' g (vs.map (.int .i64)) ∧ Fr [] w w' ∧ w.heap.size ≤ g := by
  have HI := hid (info_parts info_int)
  have l1 := hr.1
  have hnil : ∀ w, (binOp .eql 22 (.slice (some ⟨b, o, none⟩) vs.length cap) (.slice none 0 0)).run Tryz.prog w = .ok (.bool false) w := fun _ => by kernel_rfl
  have hown : (w.alloc (.cells #[] 3)).ownsRow w.heap.size 3 1 (.slice (some ⟨w.heap.size, 0, none⟩) 0 0) 0 [] :=
    ⟨rfl, .inr ⟨w.heap.size, 0, #[], rfl, Nat.le_refl _, heap_alloc_new w _, Nat.le_refl _, Nat.zero_le _, rfl, rfl⟩⟩
  have hnews : ∀ j u, (vs.map (Value.int .i64))[j]? = some u → (w.alloc (.cells #[] 3)).cell? (Addr.add ⟨b, o, none⟩ j) = some u := by
    intro j u hu
    have := hr.2 j u hu
    unfold Addr.add
    split
    · rename_i e; subst e
      rw [World.cell?_alloc_past _ _ _ l1]; exact this
    · rw [World.cell?_alloc_past _ _ _ l1]; exact this
  go_enter Tryz.func65, Tryz.ntmps65
  obtain ⟨i0, hi, hz0, hz1, hz2⟩ := HI.out
  have h1' := hid hi
  have h2' := hid hz0
  have h3' := hid hz1
  have h4' := hid hz2
  have h5' := hid hnews
  have h6' := hid hown
  clear hi hz0 hz1 hz2 hown hnews HI
  go_wp2_with (at_builtin; refine wpList_append_own _ rfl _ _ 22 rfl w.heap.size 3 i0 (.int .i64 0) 1 8 Tryz.underlying22 h1'.out h2'.out h3'.out h4'.out rfl (by decide) _ 0 [] rfl h6'.out ⟨b, o, none⟩ vs.length cap (vs.map (.int .i64)) rfl ?c0 h5'.out ?c1 ?c2 ?c3 ?c4 ?c5)
  case c0 => simp
  case c2 => simp only [maxLen]; omega
  case c3 => omega
  case c4 => simp
  case c1 => intro u hu; simp only [List.mem_map] at hu; obtain ⟨x, _, rfl⟩ := hu; rfl
  case c5 =>
    intro v' w1 hown' hgrow hniliff
    have hF : Fr [] w w1 := ((Fr.refl _ w).alloc _).step (Fr.of_grownBy (S := [w.heap.size]) hgrow (by intro k hk; simp [Value.ownBlock] at hk; subst hk; simp)) (by simp)
    obtain ⟨g, cap', hv, hg, hrd⟩ := ownsRow_rd hown' h1
    subst hv
    clear hown' hgrow hniliff h1' h2' h3' h4' h5' h6'
    go_wp2_with fail
    go_ret
    exact ⟨g, cap', rfl, hrd, hF, hg⟩
theorem gw_sw (ws : List Int) (i j v : Int) (hi : 0 ≤ i) (hl : i < ws.length) (hj : 0 ≤ j) : gw (sw ws i v) j = if j = i then v else gw ws j := by
  unfold gw sw
  by_cases h : j = i
  · subst h
    have : j.toNat < ws.length := by omega
    rw [if_pos rfl]; simp [this]
  · rw [if_neg h]
    have : i.toNat ≠ j.toNat := by omega
    simp [List.getElem?_set_ne this]
def Far (a b : Int) : Prop := a + 3 ≤ b ∨ b + 3 ≤ a
theorem Far.symm {a b : Int} (h : Far a b) : Far b a := Or.symm h
structure Same (ws ws' : List Int) (A : List Int) : Prop where
  len : ws'.length = ws.length
  eq : ∀ j, 0 ≤ j → (∀ y ∈ A, j ≠ y + 1 ∧ j ≠ y + 2) → gw ws' j = gw ws j
theorem Same.refl (ws : List Int) (A : List Int) : Same ws ws A := ⟨rfl, fun _ _ _ => rfl⟩
theorem Same.trans {a b c : List Int} {A : List Int} (h : Same a b A) (k : Same b c A) : Same a c A := ⟨k.len.trans h.len, fun j hj hA => (k.eq j hj hA).trans (h.eq j hj hA)⟩
theorem Same.mono {a b : List Int} {A A' : List Int} (h : Same a b A) (hA : ∀ x ∈ A, x ∈ A') : Same a b A' := ⟨h.len, fun j hj hh => h.eq j hj (fun y hy => hh y (hA y hy))⟩
theorem gw_lk (ws : List Int) (c d j : Int) (hc : 0 ≤ c) (hcl : c + 1 < ws.length) (hd : 0 ≤ d) (hdl : d + 2 < ws.length) (hj : 0 ≤ j) : gw (lk ws c d) j = if j = d + 2 then c else if j = c + 1 then d else gw ws j := by
  unfold lk
  rw [gw_sw _ _ _ _ (by omega) (by rw [sw_len]; exact hdl) hj, gw_sw _ _ _ _ (by omega) hcl hj]
theorem Same.lk (ws : List Int) (c d : Int) (hc : Okc ws c) (hd : Okc ws d) : Same ws (lk ws c d) [c, d] := by
  refine ⟨lk_len _ _ _, fun j hj hA => ?_⟩
  have h1 := hA c (by simp)
  have h2 := hA d (by simp)
  rw [gw_lk _ _ _ _ hc.1 (by have := hc.2; omega) hd.1 hd.2 hj, if_neg h2.2, if_neg h1.1]
def Lkd (ws : List Int) (a b : Int) : Prop := gw ws (a + 1) = b ∧ gw ws (b + 2) = a
def Path (ws : List Int) : List Int → Prop
  | a :: b :: r => Lkd ws a b ∧ Path ws (b :: r)
  | _ => True
def Circ (ws : List Int) : List Int → Prop
  | [] => True
  | a :: r => Path ws (a :: (r ++ [a]))
theorem Path_append (ws : List Int) (u : List Int) (x : Int) (v : List Int) : Path ws (u ++ x :: v) ↔ Path ws (u ++ [x]) ∧ Path ws (x :: v) := by
  induction u with
  | nil => simp [Path]
  | cons a u ih =>
    cases u with
    | nil => simp [Path]
    | cons b u => simp only [List.cons_append, Path] at ih ⊢; rw [ih]; simp [and_assoc]
theorem Path_snoc (ws : List Int) (l : List Int) (y x : Int) : Path ws (l ++ [y, x]) ↔ Path ws (l ++ [y]) ∧ Lkd ws y x := by
  rw [Path_append ws l y [x]]
  simp [Path]
theorem Path_congr {ws ws' : List Int} : ∀ {l : List Int}, (∀ y ∈ l.dropLast, gw ws' (y + 1) = gw ws (y + 1)) → (∀ y ∈ l.tail, gw ws' (y + 2) = gw ws (y + 2)) → Path ws l → Path ws' l
  | [], _, _, _ => trivial
  | [_], _, _, _ => trivial
  | a :: b :: r, h1, h2, h => by
    obtain ⟨⟨e1, e2⟩, h3⟩ := h
    refine ⟨⟨(h1 a (by simp)).trans e1, (h2 b (by simp)).trans e2⟩, Path_congr (fun y hy => h1 y (by simp only [List.dropLast_cons_cons]; exact List.mem_cons_of_mem _ hy)) (fun y hy => h2 y (by simp only [List.tail_cons] at hy ⊢; exact List.mem_cons_of_mem _ hy)) h3⟩
theorem Circ_rot (ws : List Int) (u v : List Int) (h : Circ ws (u ++ v)) : Circ ws (v ++ u) := by
  cases u with
  | nil => simpa using h
  | cons a u =>
    cases v with
    | nil => simpa using h
    | cons b v =>
      simp only [Circ, List.cons_append] at h ⊢
      have e1 : a :: (u ++ b :: v ++ [a]) = (a :: u) ++ b :: (v ++ [a]) := by simp
      have e2 : b :: (v ++ a :: u ++ [b]) = (b :: v) ++ a :: (u ++ [b]) := by simp
      rw [e1, Path_append] at h
      rw [e2, Path_append]
      obtain ⟨h1, h2⟩ := h
      exact ⟨by simpa using h2, by simpa using h1⟩
theorem Circ_congr {ws ws' : List Int} {l : List Int} (h : ∀ y ∈ l, gw ws' (y + 1) = gw ws (y + 1) ∧ gw ws' (y + 2) = gw ws (y + 2)) (hc : Circ ws l) : Circ ws' l := by
  cases l with
  | nil => trivial
  | cons a r =>
    refine Path_congr ?_ ?_ hc
    · intro y hy
      have : y ∈ a :: r := by
        have e : (a :: (r ++ [a])).dropLast = a :: r := by rw [← List.cons_append, List.dropLast_concat]
        rw [e] at hy; exact hy
      exact (h y this).1
    · intro y hy
      have : y ∈ a :: r := by simp at hy ⊢; rcases hy with h | h <;> simp [h]
      exact (h y this).2
structure Cells (n : Nat) (l : List Int) : Prop where
  ok : ∀ c ∈ l, 1 ≤ c ∧ c + 3 ≤ n
  far : l.Pairwise Far
theorem Cells.nodup {n : Nat} {l : List Int} (h : Cells n l) : l.Nodup := h.far.imp (fun hab e => by subst e; rcases hab with h | h <;> omega)
theorem Cells.farOf {n : Nat} {l : List Int} (h : Cells n l) {a b : Int} (ha : a ∈ l) (hb : b ∈ l) (hne : a ≠ b) : Far a b := by
  obtain ⟨i, hi, rfl⟩ := List.getElem_of_mem ha
  obtain ⟨j, hj, rfl⟩ := List.getElem_of_mem hb
  have hp := List.pairwise_iff_getElem.1 h.far
  rcases Nat.lt_trichotomy i j with h1 | h1 | h1
  · exact hp i j hi hj h1
  · subst h1; exact absurd rfl hne
  · exact (hp j i hj hi h1).symm
theorem Cells.perm {n : Nat} {l l' : List Int} (h : Cells n l) (hp : l.Perm l') : Cells n l' :=
  ⟨fun c hc => h.ok c (hp.mem_iff.2 hc), (hp.pairwise_iff (fun h => h.symm)).1 h.far⟩
theorem Cells.okc {ws : List Int} {l : List Int} (h : Cells ws.length l) {c : Int} (hc : c ∈ l) : Okc ws c := by
  have := h.ok c hc; exact ⟨by omega, by omega⟩
theorem Circ_prev {ws : List Int} {x : Int} {r : List Int} (h : Circ ws (x :: r)) : gw ws (x + 2) = (x :: r).getLast (by simp) := by
  simp only [Circ] at h
  rcases List.eq_nil_or_concat r with e | ⟨r', p, e⟩
  · subst e; simp [Path, Lkd] at h; simpa using h.2
  · rw [List.concat_eq_append] at e
    subst e
    have e1 : x :: (r' ++ [p] ++ [x]) = (x :: r') ++ [p, x] := by simp
    rw [e1, Path_snoc] at h
    have e2 : (x :: (r' ++ [p])).getLast (by simp) = p := (List.getLast_cons (by simp)).trans (List.getLast_concat)
    rw [e2]
    simpa using h.2.2
theorem Circ_next {ws : List Int} {x : Int} {r : List Int} (h : Circ ws (x :: r)) : gw ws (x + 1) = (r ++ [x]).head (by simp) := by
  cases r with
  | nil => simp [Circ, Path, Lkd] at h; simpa using h.1
  | cons y r => simp only [Circ, List.cons_append, Path] at h; simpa using h.1.1
theorem Circ_put {ws : List Int} {x c : Int} {r : List Int} (h : Circ ws (x :: r)) (hC : Cells ws.length (c :: x :: r)) : Circ (pt ws c x) (x :: r ++ [c]) ∧ Same ws (pt ws c x) (c :: x :: r) := by
  have hp := Circ_prev h
  have hfar := List.pairwise_cons.1 hC.far
  have hC' : Cells ws.length (x :: r) := ⟨fun y hy => hC.ok y (List.mem_cons_of_mem _ hy), hfar.2⟩
  obtain ⟨p, hpe⟩ : ∃ p, p = (x :: r).getLast (by simp) := ⟨_, rfl⟩
  have hpm : p ∈ x :: r := by rw [hpe]; exact List.getLast_mem _
  rw [← hpe] at hp
  have kp := hC'.okc hpm
  have kx := hC'.okc (c := x) (by simp)
  have kc := hC.okc (c := c) (by simp)
  have fx := hfar.1 x (by simp)
  have fp := hfar.1 p hpm
  have key : ∀ j, 0 ≤ j → gw (pt ws c x) j = if j = x + 2 then c else if j = c + 1 then x else if j = c + 2 then p else if j = p + 1 then c else gw ws j := by
    intro j hj
    unfold pt
    rw [hp, gw_lk _ _ _ _ kc.1 (by rw [lk_len]; have := kc.2; omega) kx.1 (by rw [lk_len]; exact kx.2) hj, gw_lk _ _ _ _ kp.1 (by have := kp.2; omega) kc.1 kc.2 hj]
  constructor
  · simp only [Circ, List.cons_append]
    have e1 : x :: (r ++ [c] ++ [x]) = (x :: r) ++ [c, x] := by simp
    rw [e1, Path_snoc]
    have hlast : x :: r = (x :: r).dropLast ++ [p] := by rw [hpe]; exact (List.dropLast_concat_getLast (by simp)).symm
    refine ⟨?_, ?_, ?_⟩
    · have e2 : x :: r ++ [c] = (x :: r).dropLast ++ [p, c] := by
        conv => lhs; rw [hlast]
        simp
      rw [e2, Path_snoc, ← hlast]
      refine ⟨Path_congr (ws := ws) ?_ ?_ ?_, ?_, ?_⟩
      · intro y hy
        have hym : y ∈ x :: r := List.dropLast_subset _ hy
        have hyp : y ≠ p := by
          intro e; subst e
          have hn := hC'.nodup
          rw [hlast, List.nodup_append] at hn
          exact hn.2.2 y hy y (by simp) rfl
        have f1 := hfar.1 y hym
        have f2 := hC'.farOf hym hpm hyp
        rw [key _ (by have := (hC'.ok y hym).1; omega)]
        have f3 : y = x ∨ Far y x := by by_cases e : y = x; (· exact .inl e); (· exact .inr (hC'.farOf hym (by simp) e))
        rw [if_neg (by rcases f3 with e | e; (· omega); (· rcases e with e | e <;> omega)), if_neg (by rcases f1 with e | e <;> omega), if_neg (by rcases f1 with e | e <;> omega), if_neg (by omega)]
      · intro y hy
        have hyr : y ∈ r := by simpa using hy
        have hym : y ∈ x :: r := List.mem_cons_of_mem _ hyr
        have hyx : y ≠ x := by intro e; subst e; exact (List.nodup_cons.1 hC'.nodup).1 hyr
        have f1 := hfar.1 y hym
        have f2 := hC'.farOf hym (b := x) (by simp) hyx
        have f3 : y = p ∨ Far y p := by by_cases e : y = p; (· exact .inl e); (· exact .inr (hC'.farOf hym hpm e))
        rw [key _ (by have := (hC'.ok y hym).1; omega)]
        rw [if_neg (by omega), if_neg (by rcases f1 with e | e <;> omega), if_neg (by rcases f1 with e | e <;> omega), if_neg (by rcases f3 with e | e; (· omega); (· rcases e with e | e <;> omega))]
      · have h' := h
        simp only [Circ] at h'
        have e3 : x :: (r ++ [x]) = (x :: r).dropLast ++ [p, x] := by
          rw [← List.cons_append]
          conv => lhs; rw [hlast]
          simp
        rw [e3, Path_snoc, ← hlast] at h'
        exact h'.1
      · rw [key _ (by have := kp.1; omega), if_neg, if_neg, if_neg, if_pos rfl]
        · rcases fp with e | e <;> omega
        · rcases fp with e | e <;> omega
        · intro e
          by_cases e2 : p = x
          · omega
          · rcases hC'.farOf hpm (by simp) e2 with f | f <;> omega
      · rw [key _ (by have := kc.1; omega), if_neg, if_neg (by omega), if_pos rfl]
        rcases fx with e | e <;> omega
    · rw [key _ (by have := kc.1; omega), if_neg, if_pos rfl]
      rcases fx with e | e <;> omega
    · rw [key _ (by have := kx.1; omega), if_pos rfl]
  · refine ⟨pt_len _ _ _, fun j hj hA => ?_⟩
    rw [key j hj, if_neg (hA x (by simp)).2, if_neg (hA c (by simp)).1, if_neg (hA c (by simp)).2, if_neg (hA p (List.mem_cons_of_mem _ hpm)).1]
theorem Circ_cut {ws : List Int} {c : Int} {r : List Int} (h : Circ ws (c :: r)) (hC : Cells ws.length (c :: r)) : Circ (ct ws c) r ∧ Same ws (ct ws c) (c :: r) := by
  cases r with
  | nil =>
    refine ⟨trivial, ?_⟩
    have hp := Circ_prev h
    have hn := Circ_next h
    simp at hp hn
    unfold ct
    rw [hp, hn]
    exact (Same.lk ws c c (hC.okc (by simp)) (hC.okc (by simp))).mono (by simp)
  | cons x r =>
    have hp := Circ_prev h
    have hn := Circ_next h
    simp at hn
    have hfar := List.pairwise_cons.1 hC.far
    have hC' : Cells ws.length (x :: r) := ⟨fun y hy => hC.ok y (List.mem_cons_of_mem _ hy), hfar.2⟩
    obtain ⟨p, hpe⟩ : ∃ p, p = (x :: r).getLast (by simp) := ⟨_, rfl⟩
    have hpm : p ∈ x :: r := by rw [hpe]; exact List.getLast_mem _
    have hp' : gw ws (c + 2) = p := by rw [hp, hpe]; simp
    have kp := hC'.okc hpm
    have kx := hC'.okc (c := x) (by simp)
    have key : ∀ j, 0 ≤ j → gw (ct ws c) j = if j = x + 2 then p else if j = p + 1 then x else gw ws j := by
      intro j hj
      unfold ct
      rw [hp', hn, gw_lk _ _ _ _ kp.1 (by have := kp.2; omega) kx.1 kx.2 hj]
    have hlast : x :: r = (x :: r).dropLast ++ [p] := by rw [hpe]; exact (List.dropLast_concat_getLast (by simp)).symm
    constructor
    · simp only [Circ]
      have e3 : x :: (r ++ [x]) = (x :: r).dropLast ++ [p, x] := by
        rw [← List.cons_append]
        conv => lhs; rw [hlast]
        simp
      rw [e3, Path_snoc, ← hlast]
      refine ⟨Path_congr (ws := ws) ?_ ?_ ?_, ?_, ?_⟩
      · intro y hy
        have hym : y ∈ x :: r := List.dropLast_subset _ hy
        have hyp : y ≠ p := by
          intro e; subst e
          have hn := hC'.nodup
          rw [hlast, List.nodup_append] at hn
          exact hn.2.2 y hy y (by simp) rfl
        have f2 := hC'.farOf hym hpm hyp
        have f3 : y = x ∨ Far y x := by by_cases e : y = x; (· exact .inl e); (· exact .inr (hC'.farOf hym (by simp) e))
        rw [key _ (by have := (hC'.ok y hym).1; omega), if_neg (by rcases f3 with e | e; (· omega); (· rcases e with e | e <;> omega)), if_neg (by omega)]
      · intro y hy
        have hyr : y ∈ r := by simpa using hy
        have hym : y ∈ x :: r := List.mem_cons_of_mem _ hyr
        have hyx : y ≠ x := by intro e; subst e; exact (List.nodup_cons.1 hC'.nodup).1 hyr
        have f3 : y = p ∨ Far y p := by by_cases e : y = p; (· exact .inl e); (· exact .inr (hC'.farOf hym hpm e))
        rw [key _ (by have := (hC'.ok y hym).1; omega), if_neg (by omega), if_neg (by rcases f3 with e | e; (· omega); (· rcases e with e | e <;> omega))]
      · have h' := h
        simp only [Circ, List.cons_append, Path] at h'
        have h2 := h'.2
        have e4 : x :: (r ++ [c]) = (x :: r).dropLast ++ [p, c] := by
          rw [← List.cons_append]
          conv => lhs; rw [hlast]
          simp
        rw [e4, Path_snoc, ← hlast] at h2
        exact h2.1
      · rw [key _ (by have := kp.1; omega), if_neg, if_pos rfl]
        intro e
        by_cases e2 : p = x
        · omega
        · rcases hC'.farOf hpm (by simp) e2 with f | f <;> omega
      · rw [key _ (by have := kx.1; omega), if_pos rfl]
    · refine ⟨lk_len _ _ _, fun j hj hA => ?_⟩
      rw [key j hj, if_neg (hA x (by simp)).2, if_neg (hA p (List.mem_cons_of_mem _ hpm)).1]
structure Rows where
  W : List Int
  F : List Int
  G : List Int
  B : List Int
def Rows.all (R : Rows) : List Int := R.W ++ (R.F ++ (R.G ++ R.B))
structure RI (ws : List Int) (r : RS) (R : Rows) : Prop where
  nw : r.w = R.W.length
  nf : r.f = R.F.length
  ng : r.g = R.G.length
  nb : r.b = R.B.length
  fst : ∀ x l, R.all = x :: l → r.first = x
  blk : ∀ x l, R.B ++ (R.W ++ (R.F ++ R.G)) = x :: l → r.black = x
  circ : Circ ws R.all
  cells : Cells ws.length R.all
theorem RI.tot {ws : List Int} {r : RS} {R : Rows} (h : RI ws r R) : r.tot = R.all.length := by
  simp [RS.tot, Rows.all, h.nw, h.nf, h.ng, h.nb]; omega
theorem RI.empty (ws : List Int) (a b : Int) : RI ws ⟨a, b, 0, 0, 0, 0⟩ ⟨[], [], [], []⟩ :=
  ⟨rfl, rfl, rfl, rfl, by simp [Rows.all], by simp, trivial, ⟨by simp [Rows.all], by simp [Rows.all]⟩⟩
theorem RI.congr {ws ws' : List Int} {r : RS} {R : Rows} (h : RI ws r R) (hl : ws'.length = ws.length) (hs : ∀ y ∈ R.all, gw ws' (y + 1) = gw ws (y + 1) ∧ gw ws' (y + 2) = gw ws (y + 2)) : RI ws' r R :=
  ⟨h.nw, h.nf, h.ng, h.nb, h.fst, h.blk, Circ_congr hs h.circ, by rw [hl]; exact h.cells⟩
theorem RI.okFirst {ws : List Int} {r : RS} {R : Rows} (h : RI ws r R) (ht : r.tot ≠ 0) : Okc ws r.first ∧ Okc ws (gw ws (r.first + 2)) := by
  have h1 := h.tot
  cases e : R.all with
  | nil => rw [e] at h1; exact absurd h1 ht
  | cons x l =>
    have hf := h.fst x l e
    have hc := h.circ
    have hC := h.cells
    rw [e] at hc hC
    have hp := Circ_prev hc
    rw [hf]
    refine ⟨hC.okc (by simp), ?_⟩
    rw [hp]
    exact hC.okc (List.getLast_mem _)
theorem growW_len (ws : List Int) (r : RS) (c : Int) : (growW ws r c).length = ws.length := by
  unfold growW; split <;> simp [lk_len, pt_len]
theorem RI.grow {ws : List Int} {r : RS} {R : Rows} {c : Int} (h : RI ws r R) (hC : Cells ws.length (c :: R.all)) :
    RI (growW ws r c) (r.grown c) { R with W := c :: R.W } ∧ Same ws (growW ws r c) (c :: R.all) := by
  have ht := h.tot
  have hall : ({ R with W := c :: R.W } : Rows).all = c :: R.all := rfl
  have hlen := growW_len ws r c
  have key : Circ (growW ws r c) (c :: R.all) ∧ Same ws (growW ws r c) (c :: R.all) := by
    cases e : R.all with
    | nil =>
      have h0 : r.tot = 0 := by rw [ht, e]; rfl
      have kc := hC.okc (c := c) (by simp)
      unfold growW
      rw [if_pos h0]
      have k1 := kc.1
      have k2 := kc.2
      refine ⟨⟨⟨?_, ?_⟩, trivial⟩, ?_⟩
      · rw [gw_lk _ _ _ _ k1 (by omega) k1 k2 (by omega), if_neg (by omega), if_pos rfl]
      · rw [gw_lk _ _ _ _ k1 (by omega) k1 k2 (by omega), if_pos rfl]
      · exact (Same.lk ws c c kc kc).mono (by simp)
    | cons x l =>
      have h0 : r.tot ≠ 0 := by rw [ht, e]; simp
      have hf := h.fst x l e
      have hc := h.circ
      rw [e] at hc hC
      have := Circ_put hc hC
      unfold growW
      rw [if_neg h0, hf]
      exact ⟨Circ_rot _ (x :: l) [c] this.1, this.2⟩
  refine ⟨⟨?_, h.nf, h.ng, h.nb, ?_, ?_, ?_, ?_⟩, key.2⟩
  · simp [RS.grown, h.nw]
  · intro x l e
    rw [hall] at e
    cases e; rfl
  · intro x l e
    simp only [RS.grown]
    cases hB : R.B with
    | nil =>
      have : r.b = 0 := by rw [h.nb, hB]; rfl
      rw [if_pos this]
      rw [hB] at e
      simp at e
      exact e.1
    | cons b l' =>
      have : r.b ≠ 0 := by rw [h.nb, hB]; simp
      rw [if_neg this]
      have := h.blk b _ (by rw [hB]; rfl)
      rw [hB] at e
      simp at e
      rw [this]; exact e.1
  · rw [hall]; exact key.1
  · rw [hall, hlen]; exact hC
theorem RI.alloc {ws : List Int} {r : RS} {R : Rows} {c : Int} {W : List Int} (h : RI ws r R) (hW : R.W = c :: W) :
    r.first = c ∧ RI ws (r.allocd ws) ⟨W, R.F, R.G, R.B ++ [c]⟩ := by
  have e0 : R.all = c :: (W ++ (R.F ++ (R.G ++ R.B))) := by simp [Rows.all, hW]
  have hf := h.fst _ _ e0
  have e1 : (⟨W, R.F, R.G, R.B ++ [c]⟩ : Rows).all = (W ++ (R.F ++ (R.G ++ R.B))) ++ [c] := by simp [Rows.all]
  have hc := h.circ
  have hC := h.cells
  rw [e0] at hc hC
  refine ⟨hf, ⟨?_, h.nf, h.ng, ?_, ?_, ?_, ?_, ?_⟩⟩
  · simp [RS.allocd, h.nw, hW]
  · simp [RS.allocd, h.nb]
  · intro x l e
    rw [e1] at e
    have := Circ_next hc
    simp only [RS.allocd, hf]
    rw [this]
    simp [e]
  · intro x l e
    simp only [RS.allocd]
    cases hB : R.B with
    | nil =>
      rw [hB] at e
      simp at e
      have := h.blk c _ (by rw [hB, hW]; rfl)
      rw [this]; exact e.1
    | cons b l' =>
      rw [hB] at e
      simp at e
      have := h.blk b _ (by rw [hB]; rfl)
      rw [this]; exact e.1
  · rw [e1]; exact Circ_rot _ [c] _ hc
  · rw [e1]; exact hC.perm (List.perm_append_comm (l₁ := [c]))
theorem RI.blackOk {ws : List Int} {r : RS} {R : Rows} (h : RI ws r R) (ht : R.all ≠ []) : ∃ x l, R.B ++ (R.W ++ (R.F ++ R.G)) = x :: l ∧ r.black = x ∧ Circ ws (x :: l) ∧ Cells ws.length (x :: l) := by
  have hrot : Circ ws (R.B ++ (R.W ++ (R.F ++ R.G))) := by
    have := h.circ
    have e : R.all = (R.W ++ (R.F ++ R.G)) ++ R.B := by simp [Rows.all]
    rw [e] at this
    exact Circ_rot _ _ _ this
  have hC : Cells ws.length (R.B ++ (R.W ++ (R.F ++ R.G))) := by
    have := h.cells
    have e : R.all = (R.W ++ (R.F ++ R.G)) ++ R.B := by simp [Rows.all]
    rw [e] at this
    exact this.perm List.perm_append_comm
  cases e : R.B ++ (R.W ++ (R.F ++ R.G)) with
  | nil =>
    exfalso
    apply ht
    simp at e
    simp [Rows.all, e]
  | cons x l =>
    rw [e] at hrot hC
    exact ⟨x, l, rfl, h.blk x l e, hrot, hC⟩
theorem RI.next {ws : List Int} {r : RS} {R : Rows} {G : List Int} {c : Int} (h : RI ws r R) (hG : R.G = G ++ [c]) : Okc ws r.black ∧ gw ws (r.black + 2) = c := by
  obtain ⟨x, l, e, hb, hc, hC⟩ := h.blackOk (by simp [Rows.all, hG])
  rw [hb]
  refine ⟨hC.okc (by simp), ?_⟩
  rw [Circ_prev hc]
  have e2 : x :: l = (R.B ++ (R.W ++ (R.F ++ G))) ++ [c] := by rw [← e, hG]; simp
  simp only [e2]
  exact List.getLast_concat
def RS.finished (r : RS) (c : Int) : RS := { r with black := c, g := r.g - 1, b := r.b + 1 }
theorem RI.done {ws : List Int} {r : RS} {R : Rows} {G : List Int} {c : Int} (h : RI ws r R) (hG : R.G = G ++ [c]) : RI ws (r.finished c) ⟨R.W, R.F, G, c :: R.B⟩ := by
  have e : (⟨R.W, R.F, G, c :: R.B⟩ : Rows).all = R.all := by simp [Rows.all, hG]
  refine ⟨h.nw, h.nf, ?_, ?_, ?_, ?_, ?_, ?_⟩
  · simp [RS.finished, h.ng, hG]
  · simp [RS.finished, h.nb]
  · rw [e]; exact h.fst
  · intro x l hx
    simp at hx
    exact hx.1
  · rw [e]; exact h.circ
  · rw [e]; exact h.cells
def RS.begun (r : RS) : RS := { r with black := r.first, f := r.b, b := 0 }
theorem RI.begin {ws : List Int} {r : RS} {R : Rows} (h : RI ws r R) (hF : R.F = []) (hG : R.G = []) : RI ws r.begun ⟨R.W, R.B, [], []⟩ := by
  have e : (⟨R.W, R.B, [], []⟩ : Rows).all = R.all := by simp [Rows.all, hF, hG]
  refine ⟨h.nw, h.nb, ?_, rfl, ?_, ?_, ?_, ?_⟩
  · simp [RS.begun, h.ng, hG]
  · rw [e]; exact h.fst
  · intro x l hx
    refine h.fst x l ?_
    rw [← e]
    simpa [Rows.all] using hx
  · rw [e]; exact h.circ
  · rw [e]; exact h.cells
def RS.ended (r : RS) : RS := { r with w := r.w + r.f, f := 0 }
theorem RI.end' {ws : List Int} {r : RS} {R : Rows} (h : RI ws r R) (hG : R.G = []) : RI ws r.ended ⟨R.W ++ R.F, [], [], R.B⟩ := by
  have e : (⟨R.W ++ R.F, [], [], R.B⟩ : Rows).all = R.all := by simp [Rows.all, hG]
  refine ⟨?_, rfl, ?_, h.nb, ?_, ?_, ?_, ?_⟩
  · simp [RS.ended, h.nw, h.nf]
  · simp [RS.ended, h.ng, hG]
  · rw [e]; exact h.fst
  · intro x l hx
    refine h.blk x l ?_
    simpa [hG] using hx
  · rw [e]; exact h.circ
  · rw [e]; exact h.cells
theorem RI.at {ws : List Int} {r : RS} {R : Rows} (h : RI ws r R) {u v : List Int} {c : Int} (e : R.all = u ++ c :: v) : Circ ws (c :: (v ++ u)) ∧ Cells ws.length (c :: (v ++ u)) := by
  have hc := h.circ
  have hC := h.cells
  rw [e] at hc hC
  exact ⟨Circ_rot ws u (c :: v) hc, hC.perm (List.perm_append_comm (l₁ := u) (l₂ := c :: v))⟩
theorem RI.cutOk {ws : List Int} {r : RS} {R : Rows} (h : RI ws r R) {u v : List Int} {c : Int} (e : R.all = u ++ c :: v) : Okc ws c ∧ Okc ws (gw ws (c + 2)) ∧ Okc ws (gw ws (c + 1)) := by
  obtain ⟨hc, hC⟩ := h.at e
  refine ⟨hC.okc (by simp), ?_, ?_⟩
  · rw [Circ_prev hc]; exact hC.okc (List.getLast_mem _)
  · rw [Circ_next hc]
    have hm : (v ++ u ++ [c]).head (by simp) ∈ v ++ u ++ [c] := List.head_mem _
    revert hm
    generalize (v ++ u ++ [c]).head (by simp) = y
    intro hm
    refine hC.okc ?_
    rcases List.mem_append.1 hm with h | h
    · exact List.mem_cons_of_mem _ h
    · exact List.mem_cons.2 (.inl (by simpa using h))
theorem shade_black {ws : List Int} {r : RS} {R : Rows} (h : RI ws r R) {F1 F2 : List Int} {c : Int} (hF : R.F = F1 ++ c :: F2) {x : Int} {l : List Int} (hx : R.B ++ (R.W ++ (F1 ++ (F2 ++ R.G))) = x :: l) : shB ws r c = x := by
  have e : R.all = (R.W ++ F1) ++ c :: (F2 ++ (R.G ++ R.B)) := by simp [Rows.all, hF]
  obtain ⟨hc, hC⟩ := h.at e
  have hn := Circ_next hc
  cases e1 : R.B ++ (R.W ++ F1) with
  | nil =>
    simp at e1
    obtain ⟨b1, b2, b3⟩ := e1
    have hb := h.blk c (F2 ++ R.G) (by simp [hF, b1, b2, b3])
    unfold shB
    rw [if_pos hb, hn]
    simp only [b1, b2, b3, List.nil_append] at hx
    simp [b1, b2, b3, hx]
  | cons y m =>
    have hb := h.blk y (m ++ (c :: (F2 ++ R.G))) (by
      rw [hF]
      have : R.B ++ (R.W ++ (F1 ++ c :: F2 ++ R.G)) = (R.B ++ (R.W ++ F1)) ++ (c :: (F2 ++ R.G)) := by simp
      rw [this, e1]; rfl)
    have hxy : x = y := by
      have : R.B ++ (R.W ++ (F1 ++ (F2 ++ R.G))) = (R.B ++ (R.W ++ F1)) ++ (F2 ++ R.G) := by simp
      rw [this, e1] at hx
      simp at hx
      exact hx.1.symm
    have hne : y ≠ c := by
      have hnd := hC.nodup
      rw [List.nodup_cons] at hnd
      rintro rfl
      apply hnd.1
      have : y ∈ R.B ++ (R.W ++ F1) := by rw [e1]; simp
      simp only [List.mem_append] at this ⊢
      rcases this with h | h | h <;> simp [h]
    unfold shB
    rw [hb, if_neg hne, hxy]
theorem RI.shade {ws : List Int} {r : RS} {R : Rows} (h : RI ws r R) {F1 F2 : List Int} {c : Int} (hF : R.F = F1 ++ c :: F2) :
    RI (shW ws r c) (r.shaded ws c) ⟨R.W, F1 ++ F2, R.G ++ [c], R.B⟩ ∧ Same ws (shW ws r c) R.all ∧
    (1 < r.tot → Okc ws c ∧ Okc ws (gw ws (c + 2)) ∧ Okc ws (gw ws (c + 1)) ∧ Okc ws (shB ws r c) ∧ Okc ws (gw (ct ws c) (shB ws r c + 2))) := by
  have e : R.all = (R.W ++ F1) ++ c :: (F2 ++ (R.G ++ R.B)) := by simp [Rows.all, hF]
  obtain ⟨hc, hC⟩ := h.at e
  obtain ⟨o1, o2, o3⟩ := h.cutOk e
  have ht := h.tot
  have hnf := h.nf
  rw [hF] at hnf
  simp at hnf
  cases hx : R.B ++ (R.W ++ (F1 ++ (F2 ++ R.G))) with
  | nil =>
    simp at hx
    obtain ⟨b1, b2, b3, b4, b5⟩ := hx
    have h1 : ¬ 1 < r.tot := by rw [ht, e]; simp [b1, b2, b3, b4, b5]
    have eW : shW ws r c = ws := by unfold shW; rw [if_neg h1]
    have eR : r.shaded ws c = { r with f := r.f - 1, g := r.g + 1 } := by unfold RS.shaded; rw [if_neg h1]
    have ea : (⟨R.W, F1 ++ F2, R.G ++ [c], R.B⟩ : Rows).all = R.all := by simp [Rows.all, hF, b1, b2, b3, b4, b5]
    rw [eW, eR]
    refine ⟨⟨h.nw, ?_, ?_, h.nb, ?_, ?_, ?_, ?_⟩, Same.refl _ _, fun g => absurd g h1⟩
    · simp [hnf, b3, b4]
    · simp [h.ng]
    · rw [ea]; exact h.fst
    · intro x l hx
      refine h.blk x l ?_
      rw [← hx]; simp [hF, b1, b2, b3, b4, b5]
    · rw [ea]; exact h.circ
    · rw [ea]; exact h.cells
  | cons x l =>
    have hB := shade_black h hF hx
    have h1 : 1 < r.tot := by
      have h2 : (R.B ++ (R.W ++ (F1 ++ (F2 ++ R.G)))).length = l.length + 1 := by rw [hx]; rfl
      rw [ht, e]
      simp at h2 ⊢
      omega
    obtain ⟨g1, g2⟩ := Circ_cut hc hC
    have ex : R.B ++ (R.W ++ F1) ++ (F2 ++ R.G) = x :: l := by rw [← hx]; simp
    have g3 : Circ (ct ws c) (x :: l) := by
      have : (F2 ++ (R.G ++ R.B)) ++ (R.W ++ F1) = (F2 ++ R.G) ++ (R.B ++ (R.W ++ F1)) := by simp
      rw [this] at g1
      have := Circ_rot _ _ _ g1
      rw [ex] at this
      exact this
    have hperm : List.Perm (c :: ((F2 ++ (R.G ++ R.B)) ++ (R.W ++ F1))) (c :: x :: l) := by
      refine List.Perm.cons _ ?_
      have : (F2 ++ (R.G ++ R.B)) ++ (R.W ++ F1) = (F2 ++ R.G) ++ (R.B ++ (R.W ++ F1)) := by simp
      rw [this, ← ex]
      exact List.perm_append_comm
    have hlen : (ct ws c).length = ws.length := ct_len _ _
    have hC2 : Cells (ct ws c).length (c :: x :: l) := by rw [hlen]; exact hC.perm hperm
    obtain ⟨g4, g5⟩ := Circ_put g3 hC2
    have eW : shW ws r c = pt (ct ws c) c x := by unfold shW; rw [if_pos h1, hB]
    have eR : r.shaded ws c = { r with first := if r.tot - r.b = 1 then c else shF ws r c, black := x, f := r.f - 1, g := r.g + 1 } := by unfold RS.shaded; rw [if_pos h1, hB]
    have hlen2 : (pt (ct ws c) c x).length = ws.length := by rw [pt_len, hlen]
    have hsub : ∀ y ∈ c :: x :: l, y ∈ R.all := by
      intro y hy
      have hy2 := (hperm.mem_iff (a := y)).2 hy
      rw [e]
      simp only [List.mem_cons, List.mem_append] at hy2 ⊢
      rcases hy2 with h | (h | h | h) | h | h <;> simp [h]
    have eall : (⟨R.W, F1 ++ F2, R.G ++ [c], R.B⟩ : Rows).all = (R.W ++ (F1 ++ (F2 ++ (R.G ++ [c])))) ++ R.B := by simp [Rows.all]
    have erest : x :: l ++ [c] = R.B ++ (R.W ++ (F1 ++ (F2 ++ (R.G ++ [c])))) := by rw [← hx]; simp
    rw [eW, eR]
    refine ⟨⟨h.nw, ?_, ?_, h.nb, ?_, ?_, ?_, ?_⟩, (g2.mono (fun y hy => hsub y ((hperm.mem_iff (a := y)).1 hy))).trans (g5.mono hsub), fun _ => ⟨o1, o2, o3, ?_, ?_⟩⟩
    · simp [hnf]
    · simp [h.ng]
    · intro y m hy
      simp only
      by_cases h2 : r.tot - r.b = 1
      · rw [if_pos h2]
        have h3 : r.w + (F1.length + F2.length) + r.g = 0 := by
          have hnb := h.nb
          have hnw := h.nw
          have hng := h.ng
          have hal : R.all.length = R.W.length + F1.length + (F2.length + (R.G.length + R.B.length) + 1) := by rw [e]; simp; omega
          omega
        have hw := h.nw
        have hg := h.ng
        have z1 : R.W = [] := List.length_eq_zero_iff.1 (by omega)
        have z2 : F1 = [] := List.length_eq_zero_iff.1 (by omega)
        have z3 : F2 = [] := List.length_eq_zero_iff.1 (by omega)
        have z4 : R.G = [] := List.length_eq_zero_iff.1 (by omega)
        rw [eall, z1, z2, z3, z4] at hy
        simp at hy
        exact hy.1
      · rw [if_neg h2]
        cases e1 : R.W ++ F1 with
        | nil =>
          simp at e1
          obtain ⟨z1, z2⟩ := e1
          have hf := h.fst c (F2 ++ (R.G ++ R.B)) (by rw [e, z1, z2]; rfl)
          have hn := Circ_next hc
          unfold shF
          rw [if_pos hf, hn]
          have hne : F2 ++ R.G ≠ [] := by
            intro hn2
            simp at hn2
            apply h2
            rw [ht, e, h.nb]
            simp [z1, z2, hn2]
          obtain ⟨y', m', hy'⟩ : ∃ y' m', F2 ++ R.G = y' :: m' := by
            cases hh : F2 ++ R.G with
            | nil => exact absurd hh hne
            | cons a b => exact ⟨a, b, rfl⟩
          have e3 : (R.W ++ (F1 ++ (F2 ++ (R.G ++ [c])))) ++ R.B = (F2 ++ R.G) ++ ([c] ++ R.B) := by simp [z1, z2]
          rw [eall, e3, hy'] at hy
          simp at hy
          have e4 : (F2 ++ (R.G ++ R.B)) ++ (R.W ++ F1) ++ [c] = (F2 ++ R.G) ++ (R.B ++ [c]) := by simp [z1, z2]
          simp only [e4, hy']
          simpa using hy.1
        | cons y' m' =>
          have hf := h.fst y' (m' ++ c :: (F2 ++ (R.G ++ R.B))) (by rw [e, e1]; rfl)
          have hne : y' ≠ c := by
            have hnd := hC.nodup
            rw [List.nodup_cons] at hnd
            rintro rfl
            apply hnd.1
            have : y' ∈ R.W ++ F1 := by rw [e1]; simp
            exact List.mem_append_right _ this
          have e3 : (R.W ++ (F1 ++ (F2 ++ (R.G ++ [c])))) ++ R.B = (R.W ++ F1) ++ (F2 ++ (R.G ++ ([c] ++ R.B))) := by simp
          rw [eall, e3, e1] at hy
          simp at hy
          unfold shF
          rw [hf, if_neg hne]
          exact hy.1
    · intro y m hy
      have e3 : R.B ++ (R.W ++ ((F1 ++ F2) ++ (R.G ++ [c]))) = x :: l ++ [c] := by rw [← hx]; simp
      simp only at hy ⊢
      rw [e3] at hy
      simp at hy
      exact hy.1
    · rw [eall]
      rw [erest] at g4
      exact Circ_rot _ _ _ g4
    · rw [eall, hlen2]
      refine (hC.perm hperm).perm ?_
      have p1 : List.Perm (c :: x :: l) (x :: l ++ [c]) := (List.perm_append_comm (l₁ := [c]) (l₂ := x :: l))
      rw [erest] at p1
      exact p1.trans List.perm_append_comm
    · rw [hB]
      have := hC2.okc (c := x) (by simp)
      rw [Okc, hlen] at this
      exact this
    · rw [hB]
      rw [Circ_prev g3]
      have := hC2.okc (c := (x :: l).getLast (by simp)) (List.mem_cons_of_mem _ (List.getLast_mem _))
      rw [Okc, hlen] at this
      exact this
def Inc : Int → List Int → Prop
  | _, [] => True
  | last, n :: r => last < n ∧ n ≤ 24 ∧ Inc n r
structure RightC (W Lg : Int) (cls : List Int) : Prop where
  w1 : 1 ≤ W
  w2 : W ≤ 65536
  l1 : 0 ≤ Lg
  l2 : Lg < W
  n1 : 1 ≤ cls.length
  n2 : cls.length ≤ 6
  inc : Inc 0 cls
theorem drop_getElem? {l : List Int} {k : Nat} {x : Int} (h : l[k]? = some x) : l.drop k = x :: l.drop (k + 1) := by
  have hk : k < l.length := (List.getElem?_eq_some_iff.1 h).1
  rw [List.drop_eq_getElem_cons hk]
  rw [(List.getElem?_eq_some_iff.1 h).2]
set_option maxHeartbeats 1600000 in
theorem hRight (W Lg a b c d : Int) (cls : List Int) (cb o cap : Nat) (w : World) (hR : RightC W Lg cls) (hr : RdAt w cb o (cls.map (.int .i64))) :
    Calls Tryz.prog 63 #[.agg #[.int .i64 W, .int .i64 Lg, .int .i64 a, .int .i64 b, .int .i64 c, .int .i64 d, .slice (some ⟨cb, o, none⟩) cls.length cap]] w fun e w' => e = .returned (.bool true) ∧ Fr [] w w' := by
  obtain ⟨w1, w2, l1, l2, n1, n2, inc⟩ := hR
  have hl := hr.1
  have g1 : ¬ W < 1 := by omega
  have g2 : ¬ 65536 < W := by omega
  have g3 : ¬ Lg < 0 := by omega
  have g4 : ¬ W ≤ Lg := by omega
  have g5 : ¬ (cls.length : Int) < 1 := by omega
  have g6 : ¬ 6 < (cls.length : Int) := by omega
  go_enter Tryz.func63, Tryz.ntmps63
  go_wp2_with fail
  go_loop [3, 41] (fun v i => ∃ (k : Nat) (last : Int), k ≤ cls.length ∧ i = .int .i64 k ∧ v = .int .i64 last ∧ Inc last (cls.drop k)) (fun _ i => cls.length - (intOf i).toNat)
  case atStart => exact ⟨0, 0, Nat.zero_le _, rfl, rfl, inc⟩
  case round =>
    obtain ⟨k, last, hk, rfl, rfl, hI⟩ := hrel
    clear inc
    by_cases hlt : k < cls.length
    · obtain ⟨x, hx⟩ : ∃ x, cls[k]? = some x := ⟨_, List.getElem?_eq_getElem hlt⟩
      rw [drop_getElem? hx] at hI
      obtain ⟨i1, i2, i3⟩ := hI
      have hck : w.cell? ⟨cb, o + k, none⟩ = some (.int .i64 x) := hr.2 k _ (by simp [hx])
      have j1 : ¬ x ≤ last := by omega
      have j2 : ¬ 24 < x := by omega
      clear hx
      have I3 := hid i3
      clear i3
      go_wp2_with fail
      go_round
      case rel => exact ⟨k + 1, x, by omega, by go_num, rfl, I3.out⟩
      case measure => simp [intOf]; omega
    · go_wp2_with fail
      go_ret
      exact ⟨rfl, (Fr.refl _ w).alloc _⟩
theorem info_int64 : (Tryz.prog.info? 2).map (fun i => (i.zero, i.size, i.bytes)) = some (some (.int .i64 0), 1, 8) := by kernel_rfl
theorem madeCells_list (n : Nat) : (madeCells (Value.int .i64 0).cells n).toList = (List.replicate n (0 : Int)).map (Value.int .i64) := by
  apply List.ext_getElem
  · simp [madeCells]
  · intro i h1 h2
    simp [madeCells, Value.cells, Nat.mod_one]
theorem ownsRow_full {w : World} {base : Nat} {e : TypeId} {g n : Nat} {xs : List Value} (h : w.ownsRow base e 1 (.slice (some ⟨g, 0, none⟩) n n) n xs) (hn : 1 ≤ n) : Blk w g xs e := by
  obtain ⟨hl, h | ⟨g', cap, cur, hv, hg, hh, hc, -, hcs, ht⟩⟩ := h
  · omega
  · cases hv
    have : cur.toList = xs := by rw [← ht, List.take_of_length_le (by simp; omega)]
    subst this
    simpa [Blk] using hh
set_option maxRecDepth 200000 in
set_option maxHeartbeats 800000 in
theorem aNew (n : Nat) (w : World) (h1 : 1 ≤ n) (h2 : n ≤ 65536) :
    Calls Tryz.prog 64 #[.int .i64 n] w fun e w' => ∃ ab wb, e = .returned (.tuple #[.pointer (some ⟨ab, 0, none⟩), .int .i64 0]) ∧ ARep w' ab wb (List.replicate n 0) 0 ∧ Fr [] w w' ∧ w.heap.size ≤ ab ∧ w.heap.size ≤ wb := by
  have g1 : ¬ (n : Int) < 1 := by omega
  have g2 : ¬ 65536 < (n : Int) := by omega
  obtain ⟨i0, hi, hz0, hz1, hz2⟩ := info_parts info_int64
  have h1' := hid hi
  have h2' := hid hz0
  have h3' := hid hz1
  have h4' := hid hz2
  clear hi hz0 hz1 hz2
  go_enter Tryz.func64, Tryz.ntmps64
  go_wp2_with (at_make; refine wpList_make_full _ rfl _ _ 67 rfl w.heap.size 2 i0 (.int .i64 0) 1 Tryz.underlying67 h1'.out h2'.out h3'.out .i64 .i64 n n n rfl rfl rfl rfl ?c1 ?c2 (Nat.le_refl _) ?c4)
  case c1 => rw [h4'.out]; omega
  case c2 => simp only [maxLen]; omega
  case c4 =>
    intro w1 hown hgrow
    have hb := ownsRow_full hown h1
    have hF : Fr [] w w1 := Fr.of_grownBy hgrow (by simp)
    have hlt := hb.lt
    have e := madeCells_list n
    simp only [Value.cells] at e
    rw [e] at hb
    clear h1' h2' h3' h4' hown hgrow e
    go_wp2_with fail
    go_ret2
    refine ⟨w1.heap.size, w.heap.size, rfl, ⟨?_, hb.alloc _, by omega, by simpa using h2⟩, hF.alloc _, by omega, by omega⟩
    have := Blk.new w1 [.slice (some ⟨w.heap.size, 0, none⟩) n n, .int .i64 0] 107
    simpa [wrap64] using this
set_option maxRecDepth 200000 in
set_option maxHeartbeats 800000 in
theorem xNew0 (first : Int) (w : World) (h1 : 0 ≤ first) (h2 : first ≤ 65536) :
    Calls Tryz.prog 67 #[.int .i64 first, .int .i64 0] w fun e w' => ∃ xb, e = .returned (.tuple #[.pointer (some ⟨xb, 0, none⟩), .int .i64 0]) ∧ XRep w' xb [] ⟨first, 0, []⟩ ∧ Fr [] w w' ∧ w.heap.size ≤ xb := by
  have g1 : ¬ first < 0 := by omega
  have g2 : ¬ 65536 < first := by omega
  go_enter Tryz.func67, Tryz.ntmps67
  go_wp2_with fail
  go_ret2
  exact ⟨w.heap.size, rfl, ⟨⟨_, Blk.new w _ _, .inl ⟨rfl, rfl, rfl⟩⟩⟩, (Fr.refl _ w).alloc _, Nat.le_refl _⟩
set_option maxRecDepth 200000 in
set_option maxHeartbeats 800000 in
theorem xNew1 (first n : Int) (w : World) (h1 : 0 ≤ first) (h2 : first ≤ 65536) (h3 : 0 < n) (h4 : n ≤ 65536) :
    Calls Tryz.prog 67 #[.int .i64 first, .int .i64 n] w fun e w' => ∃ xb xl, e = .returned (.tuple #[.pointer (some ⟨xb, 0, none⟩), .int .i64 0]) ∧ XRep w' xb [xl] ⟨first, n, [(first, n)]⟩ ∧ Fr [] w w' ∧ w.heap.size ≤ xb ∧ w.heap.size ≤ xl ∧ xb ≠ xl := by
  have g1 : ¬ first < 0 := by omega
  have g2 : ¬ 65536 < first := by omega
  have g3 : ¬ n < 0 := by omega
  have g4 : ¬ 65536 < n := by omega
  go_enter Tryz.func67, Tryz.ntmps67
  go_wp2_with fail
  go_ret2
  refine ⟨w.heap.size, rfl, w.heap.size + 1, ⟨⟨_, (Blk.new w _ _).alloc _, .inr ⟨w.heap.size + 1, 1, [], rfl, rfl, ?_, rfl, by decide⟩⟩⟩, ((Fr.refl _ w).alloc _).alloc _, Nat.le_refl _, by omega, by omega⟩
  have := Blk.new (w.alloc (.cells #[.int .i64 first, .int .i64 n, .slice (some ⟨w.heap.size + 1, 0, none⟩) 1 1] 174)) [.int .i64 first, .int .i64 n] 175
  simpa [flat] using this
theorem RI.drop {ws : List Int} {r : RS} {R : Rows} (h : RI ws r R) {c : Int} {W : List Int} (hW : R.W = c :: W) :
    r.first = c ∧ RI (ct ws c) (r.dropped ws) ⟨W, R.F, R.G, R.B⟩ ∧ Same ws (ct ws c) R.all ∧ Okc ws c ∧ Okc ws (gw ws (c + 2)) ∧ Okc ws (gw ws (c + 1)) := by
  have e : R.all = [] ++ c :: (W ++ (R.F ++ (R.G ++ R.B))) := by simp [Rows.all, hW]
  obtain ⟨hc, hC⟩ := h.at e
  obtain ⟨o1, o2, o3⟩ := h.cutOk e
  simp only [List.append_nil] at hc hC
  have hf := h.fst c _ e
  obtain ⟨g1, g2⟩ := Circ_cut hc hC
  have hn := Circ_next hc
  have hlen : (ct ws c).length = ws.length := ct_len _ _
  have hCp := List.pairwise_cons.1 hC.far
  refine ⟨hf, ⟨?_, h.nf, h.ng, h.nb, ?_, ?_, g1, ?_⟩, g2.mono (by rw [e]; simp), o1, o2, o3⟩
  · simp [RS.dropped, h.nw, hW]
  · intro y l hy
    have hy' : W ++ (R.F ++ (R.G ++ R.B)) = y :: l := hy
    simp only [RS.dropped, hf]
    rw [hn]
    simp only [hy']
    rfl
  · intro y l hy
    simp only at hy
    simp only [RS.dropped, hf]
    cases hB : R.B with
    | nil =>
      have hb := h.blk c (W ++ (R.F ++ R.G)) (by rw [hB, hW]; rfl)
      rw [if_pos hb, hn]
      have hy' : W ++ (R.F ++ (R.G ++ R.B)) = y :: l := by rw [hB] at hy ⊢; simpa using hy
      simp only [hy']
      rfl
    | cons b B' =>
      have hb := h.blk b (B' ++ (R.W ++ (R.F ++ R.G))) (by rw [hB]; rfl)
      have hne : b ≠ c := by
        have hnd := hC.nodup
        rw [List.nodup_cons] at hnd
        rintro rfl
        apply hnd.1
        simp [hB]
      rw [hb, if_neg hne]
      rw [hB] at hy
      simp at hy
      exact hy.1
  · refine ⟨fun x hx => ?_, hCp.2⟩
    rw [hlen]
    exact hC.ok x (List.mem_cons_of_mem _ hx)
end Go.Proofs.YtklnpooninbogaaGreat
