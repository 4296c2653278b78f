import Derived.Test.YtifillpcphiblaaXTake2
namespace Go.Proofs.Ytifillpcphiblaa
open Go Go.Proofs Go.RowKit

set_option maxRecDepth 100000 in
set_option maxHeartbeats 3200000 in
theorem xTakeAll (xb b : Nat) (f p n a m : Int) (l1 l2 : List (Int × Int)) (rest : List Value) (cap : Nat) (w : World) (h : XAt w xb b f p (l1 ++ (a, m) :: l2) rest cap) (hl : (l1 ++ (a, m) :: l2).length ≤ 65536) (hn : 1 ≤ n) (hi : ixRun (l1 ++ (a, m) :: l2) n = (l1.length : Nat)) (hm : m = n) (ha : 0 ≤ a) (ha2 : a + m ≤ 65536) :
    Calls Try.prog 114 #[.pointer (some ⟨xb, 0, none⟩), .int .i64 n] w fun e w' => e = .returned (.tuple #[.int .i64 a, .int .i64 0]) ∧ XAt w' xb b f p (l1 ++ l2) (.int .i64 0 :: .int .i64 0 :: rest) cap ∧ Fr [xb, b] w w' := by
  have hmf : ∀ (fn : Fn) (first cap : Array Value) (w : World), (Instr.makeFunc fn first cap).run Try.prog w = .ok (.func fn first cap) w := fun _ _ _ _ => rfl
  have B0 := Blk.new w [.int .i64 n] 3
  have q0 := B0.cell (i := 0) rfl
  have s0 := h.s.alloc (.cells #[.int .i64 n] 3)
  have s2 := s0.cell (i := 2) rfl
  have hr := h.rd.alloc (.cells #[.int .i64 n] 3)
  have hc := h.c.alloc (.cells #[.int .i64 n] 3)
  have hlt1 := h.s.lt
  have hlt2 := h.c.lt
  have hne : xb ≠ b := by
    rintro rfl
    have h1 := h.s
    have h2 := h.c
    unfold Blk at h1 h2
    rw [h1] at h2
    simp only [Option.some.injEq, Obj.cells.injEq] at h2
    exact absurd h2.2.1 (by decide)
  have hnt : ¬ n < 1 := by omega
  have hF : Fr [] w (w.alloc (.cells #[.int .i64 n] 3)) := (Fr.refl _ w).alloc _
  have HF := hid hF
  have HI := hid hi
  have HL := hid h.len
  obtain ⟨l, hll⟩ : ∃ l, l = l1 ++ (a, m) :: l2 := ⟨_, rfl⟩
  have hklt : l1.length < l.length := by rw [hll]; simp
  rw [← hll] at hr s0 s2 hc hl HI
  have HLL := hid hll
  clear hF hi hll h
  go_enter Try.func114, Try.ntmps114
  go_wp2_with fail
  refine (ixTake b l cap n w.heap.size _ hl hr q0 (by simp)).mono ?_
  rintro e w1 ⟨rfl, hF1⟩
  rw [HI.out]
  have s3 := (s0.fr hF1 (by simp))
  have c3 := (hc.fr hF1 (by simp))
  have q3 := (B0.fr hF1 (by simp)).cell (i := 0) rfl
  have s32 := s3.cell (i := 2) rfl
  have e1 : (flat l ++ rest)[l1.length * 2]? = some (.int .i64 a) := by
    rw [HLL.out, cs_mid, List.getElem?_append_right (by rw [flat_len]; omega), flat_len]
    rw [show l1.length * 2 - 2 * l1.length = 0 by omega]; rfl
  have e2 : (flat l ++ rest)[l1.length * 2 + 1]? = some (.int .i64 m) := by
    rw [HLL.out, cs_mid, List.getElem?_append_right (by rw [flat_len]; omega), flat_len]
    rw [show l1.length * 2 + 1 - 2 * l1.length = 1 by omega]; rfl
  have k1 := c3.cell e1
  have k2 := c3.cell e2
  have y1 := c3.frozen (l1.length * 2)
  have y2 := c3.frozen (l1.length * 2 + 1)
  have hw1 : IntKind.i64.wrap (a + n) = a + n := by rw [IntKind.wrap_i64]; omega
  have hw2 : IntKind.i64.wrap (m - n) = 0 := by rw [IntKind.wrap_i64]; omega
  have hmn : m - n = 0 := by omega
  have hw3 : IntKind.i64.wrap 0 = 0 := by decide
  clear hm
  clear e1 e2
  obtain ⟨k, hk⟩ : ∃ k, k = l1.length := ⟨_, rfl⟩
  rw [← hk] at k1 k2 y1 y2 hklt ⊢
  have HK := hid hk
  clear hk
  go_wp2_with fail
  have HB : Hid (Blk (((w1.setCell ⟨b, k * 2, none⟩ (.int .i64 (a + n))).setCell ⟨b, k * 2 + 1, none⟩ (.int .i64 0)).drew) b (flat l1 ++ (flat ((a + n, 0) :: l2) ++ rest)) 186) := by
    have hk := HK.out
    have := ((c3.set (k * 2) (.int .i64 (a + n))).set (k * 2 + 1) (.int .i64 0)).drew
    rw [HLL.out, hk, cs_set] at this
    rw [hk]
    have e : flat (l1 ++ (a + n, 0) :: l2) ++ rest = flat l1 ++ (flat ((a + n, 0) :: l2) ++ rest) := by simp [flat_append]
    rw [e] at this
    exact this
  have HC : Hid ((flat (l1 ++ (a + n, 0) :: l2) ++ rest).length = 2 * cap) := by
    have := HL.out
    simp [flat_append, flat_cons, flat_len] at this
    show _ = _
    simp [flat_append, flat_cons, flat_len]
    exact this
  have HN : Hid (l.length = l1.length + l2.length + 1) := by
    show _ = _
    rw [HLL.out]; simp; omega
  have HS := hid (((s3.other hne (a := ⟨b, k * 2, none⟩) (.int .i64 (a + n))).other hne (a := ⟨b, k * 2 + 1, none⟩) (.int .i64 0))).drew
  go_region
  go_wp2_with fail
  refine (delRun' b l1 l2 (a + n, 0) rest cap l.length k (k + 1) _ HK.out HN.out (by rw [HK.out]) HB.out HC.out).mono ?_
  rintro e w2 ⟨rfl, hB2, hF2⟩
  have s4 := HS.out.fr hF2 (by simpa using hne)
  have s42 := s4.frozen 2
  have s43 := s4.cell (i := 2) rfl
  go_wp2_with fail
  go_ret2
  refine ⟨rfl, ⟨?_, ?_, ?_⟩, ?_⟩
  · have := s4.set 2 (.slice (some ⟨b, 0, none⟩) (l1.length + l2.length : Nat) cap)
    simpa using this
  · exact hB2.other (Ne.symm hne) _
  · have := HL.out
    simp [flat_append, flat_cons, flat_len] at this ⊢
    omega
  · exact (((((HF.out.trans hF1).here (T := [xb, b]) (by simp)).set (by simp) _).set (by simp) _).drew.trans (hF2.here (by simp))).set (by simp) _
end Go.Proofs.Ytifillpcphiblaa
