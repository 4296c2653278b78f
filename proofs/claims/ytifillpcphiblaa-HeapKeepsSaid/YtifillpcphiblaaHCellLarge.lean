import Derived.Test.YtifillpcphiblaaXTake4
namespace Go.Proofs.Ytifillpcphiblaa
open Go Go.Proofs Go.RowKit

theorem HRep.room {w w' : World} {L : HL} {s : HS} (h : HRep w L s) (hf : Fr (L.xb :: L.xlbs) w w') {x' : XS} (hx : XRep w' L.xb L.xlbs x') : HRep w' L { s with x := x' } := by
  obtain ⟨⟨p1, p2, p3, p4, p5, p6⟩, ⟨q1, q2, q3, q4, q5⟩, ⟨r1, r2, r3, r4⟩, ⟨t1, t2, t3⟩, ⟨y1, y2⟩, _⟩ := h.apart
  have g : ∀ x, x ≠ L.xb → x ∉ L.xlbs → x ∉ L.xb :: L.xlbs := fun x h1 h2 hc => by rcases List.mem_cons.1 hc with e | e <;> contradiction
  have nx : ∀ x, (∀ b ∈ L.xlbs, b ≠ x) → x ∉ L.xlbs := fun x h1 hc => h1 x hc rfl
  exact { h := h.h.fr hf (g _ p4 (nx _ fun b hb => (h.xapart hb).1)), a := h.a.fr hf (g _ q3 (nx _ fun b hb => (h.xapart hb).2.1)) (g _ r2 (nx _ fun b hb => (h.xapart hb).2.2.1)),
          c := h.c.fr hf (g _ (Ne.symm y1) (nx _ fun b hb => (h.xapart hb).2.2.2.2.2.1)), r := h.r.fr hf (g _ (Ne.symm y2) (nx _ fun b hb => (h.xapart hb).2.2.2.2.2.2.1)),
          rr := fun j rb r' hj hr' => (h.rr j rb r' hj hr').fr hf (g _ (h.rapart (List.mem_of_getElem? hj)).2.2.2.2.1 (h.rapart (List.mem_of_getElem? hj)).2.2.2.2.2.2.2),
          lr := h.lr.fr hf (g _ t1 (nx _ fun b hb => (h.xapart hb).2.2.2.1)), x := hx, nd := h.nd, n1 := h.n1, n2 := h.n2, n3 := h.n3, t := h.t, e := h.e }

theorem fpx (L : HL) : ∀ x ∈ L.xb :: L.xlbs, x ∈ L.fp := by
  intro x hx
  simp only [HL.fp, List.mem_cons, List.mem_append] at hx ⊢
  rcases hx with h | h <;> simp [h]

set_option maxHeartbeats 1600000 in
theorem hCellNoRoom (L : HL) (s : HS) (z : Int) (w : World) (hH : HRep w L s) (hk : ixGe s.cls z = -1) (z0 : 0 ≤ z) (z1 : z ≤ 65536) (hl : s.x.l.length ≤ 65536) (hno : ∀ y ∈ s.x.l, y.2 < z + 3) :
    Calls Try.prog 72 #[.pointer (some ⟨L.hb, 0, none⟩), .int .i64 z] w fun e w' => e = .returned (.tuple #[.int .i64 0, .int .i64 2]) ∧ HRep w' L s ∧ Fr L.fp w w' := by
  have Hk := hid hk
  have hwr : IntKind.i64.wrap (z + 3) = z + 3 := by rw [IntKind.wrap_i64]; omega
  clear hk
  go_enter Try.func72, Try.ntmps72
  go_wp2_with fail
  refine (hClass L s z _ hH).mono ?_
  rintro e w1 ⟨rfl, hH1, hF1⟩
  obtain ⟨-, -, -, -, c4, -, -, -⟩ := hH1.reads
  rw [Hk.out]
  go_wp2_with fail
  refine (xTakeNo L.xb L.xlbs s.x (z + 3) _ hH1.x hl (by omega) hno).mono ?_
  rintro e w2 ⟨rfl, hF2⟩
  go_wp2_with fail
  go_ret2
  exact ⟨rfl, hH1.fr hF2 (by simp), (hF1.here (by simp)).trans (hF2.here (by simp))⟩

set_option maxHeartbeats 1600000 in
theorem hCellLarge (L : HL) (s : HS) (z a m : Int) (l1 l2 : List (Int × Int)) (w : World) (hH : HRep w L s) (hk : ixGe s.cls z = -1) (z0 : 0 ≤ z) (z1 : z ≤ 65536) (hl : s.x.l.length ≤ 65536) (hx : s.x.l = l1 ++ (a, m) :: l2) (hno : ∀ y ∈ l1, y.2 < z + 3) (hm : z + 3 ≤ m)
    (ha : 1 ≤ a) (ham : a + m ≤ s.ws.length) (hf : s.lg.tot ≠ 0 → Okc s.ws s.lg.first ∧ Okc s.ws (gw s.ws (s.lg.first + 2))) (htot : s.lg.tot + 1 ≤ 65536) :
    Calls Try.prog 72 #[.pointer (some ⟨L.hb, 0, none⟩), .int .i64 z] w fun e w' => e = .returned (.tuple #[.int .i64 a, .int .i64 0]) ∧ (∃ u' : Int, HRep w' L { (s.largeGrown a (cutRun l1 a m (z + 3) l2) u') with u := u' + 1, lg := (s.lg.grown a).allocd (growW s.ws s.lg a) }) ∧ Fr L.fp w w' := by
  have Hk := hid hk
  have hwr : IntKind.i64.wrap (z + 3) = z + 3 := by rw [IntKind.wrap_i64]; omega
  have hle := hH.a.le
  have Hx := hid hx
  clear hk hx
  obtain ⟨⟨-, -, -, -, -, -⟩, ⟨-, q2, -, -, -⟩, ⟨r1, -, -, -⟩, -, -, -⟩ := hH.apart
  go_enter Try.func72, Try.ntmps72
  go_wp2_with fail
  refine (hClass L s z _ hH).mono ?_
  rintro e w1 ⟨rfl, hH1, hF1⟩
  obtain ⟨-, -, -, -, c4, -, -, -⟩ := hH1.reads
  rw [Hk.out]
  go_wp2_with fail
  refine (xTakeYes L.xb L.xlbs s.x (z + 3) a m l1 l2 _ hH1.x hl (by omega) Hx.out hno hm (by omega) (by omega)).mono ?_
  rintro e w2 ⟨rfl, hX2, hF2⟩
  have hH2 := hH1.room hF2 hX2
  obtain ⟨-, -, -, c3, -, -, -, -⟩ := hH2.reads
  clear c4
  go_wp2_with fail
  refine (rGrow L.lb L.ab L.wb s.lg s.ws s.u a _ hH2.lr hH2.a ha (by omega) hf htot (Ne.symm q2) (Ne.symm r1)).mono ?_
  rintro e w3 ⟨rfl, ⟨du, hdu, hA3⟩, hR3, hF3⟩
  have hH3 := hH2.large hF3 (by simp) hA3 hR3
  obtain ⟨-, -, -, c3', -, -, -, -⟩ := hH3.reads
  clear c3
  go_wp2_with fail
  refine (rAlloc L.lb L.ab L.wb (s.lg.grown a) _ _ _ hR3 hA3 (by simp [RS.grown]) ⟨by show 0 ≤ a; omega, by rw [growW_len]; show a + 2 < _; omega⟩ (Ne.symm q2) (Ne.symm r1)).mono ?_
  rintro e w4 ⟨rfl, hA4, hR4, hF4⟩
  clear c3'
  have hH4 := hH3.large hF4 (by simp) hA4 hR4
  go_wp2_with fail
  go_ret2
  have e3 : ∀ x ∈ [L.ab, L.wb, L.lb], x ∈ L.fp := by simp [HL.fp]
  exact ⟨rfl, ⟨s.u + du, hH4⟩, (((hF1.here (by simp)).trans (hF2.here (fpx L))).trans (hF3.here e3)).trans (hF4.here (by simp [HL.fp]))⟩
end Go.Proofs.Ytifillpcphiblaa
