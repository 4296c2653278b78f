import Derived.Test.YtifillpcphiblaaXDel
namespace Go.Proofs.Ytifillpcphiblaa
open Go Go.Proofs Go.RowKit

/-- A room whose free runs are l: its struct, and the runs' block. -/
structure XAt (w : World) (xb : Nat) (b : Nat) (first places : Int) (l : List (Int × Int)) (rest : List Value) (cap : Nat) : Prop where
  s : Blk w xb [.int .i64 first, .int .i64 places, .slice (some ⟨b, 0, none⟩) l.length cap] 185
  c : Blk w b (flat l ++ rest) 186
  len : (flat l ++ rest).length = 2 * cap

theorem XAt.rd {w : World} {xb b : Nat} {f p : Int} {l : List (Int × Int)} {rest : List Value} {cap : Nat} (h : XAt w xb b f p l rest cap) : Rd w b (flat l) :=
  ⟨h.c.lt, fun i v hv => h.c.cell (by rw [List.getElem?_append_left (List.getElem?_eq_some_iff.1 hv).1]; exact hv)⟩

theorem ixRun_nil (n : Int) : ixRun [] n = -1 := rfl

set_option maxHeartbeats 1600000 in
theorem xTakeNil (xb : Nat) (f p n : Int) (w : World) (hs : Blk w xb [.int .i64 f, .int .i64 p, .slice none 0 0] 185) (hn : 1 ≤ n) :
    Calls Try.prog 114 #[.pointer (some ⟨xb, 0, none⟩), .int .i64 n] w fun e w' => e = .returned (.tuple #[.int .i64 0, .int .i64 2]) ∧ Fr [] w w' := by
  have hmf : ∀ (fn : Fn) (first cap : Array Value) (w : World), (Instr.makeFunc fn first cap).run Try.prog w = .ok (.func fn first cap) w := fun _ _ _ _ => rfl
  have B0 := Blk.new w [.int .i64 n] 3
  have q0 := B0.cell (i := 0) rfl
  have s0 := hs.alloc (.cells #[.int .i64 n] 3)
  have s2 := s0.cell (i := 2) rfl
  have hnt : ¬ n < 1 := by omega
  have hF : Fr [] w (w.alloc (.cells #[.int .i64 n] 3)) := (Fr.refl _ w).alloc _
  have HF := hid hF
  clear hF
  go_enter Try.func114, Try.ntmps114
  go_wp2_with fail
  refine Calls.mono (R := fun e w' => e = .returned (.int .i64 (-1)) ∧ Fr [] (w.alloc (.cells #[.int .i64 n] 3)) w') ?_ ?_
  · clear hmf
    go_enter Try.func135, Try.ntmps135
    go_wp2_with fail
    go_loop [8] (fun i => i = .int .i64 0) (fun i => 0)
    case atStart => rfl
    case round =>
      subst hrel
      go_wp2_with fail
      go_ret
      exact ⟨rfl, Fr.refl _ _⟩
  · rintro e w1 ⟨rfl, hF1⟩
    go_wp2_with fail
    go_ret2
    exact ⟨rfl, HF.out.trans hF1⟩

set_option maxHeartbeats 1600000 in
theorem xTakeFull (xb b : Nat) (f p n : Int) (l : List (Int × Int)) (rest : List Value) (cap : Nat) (w : World) (h : XAt w xb b f p l rest cap) (hl : l.length ≤ 65536) (hn : 1 ≤ n) (hi : ixRun l n = -1) :
    Calls Try.prog 114 #[.pointer (some ⟨xb, 0, none⟩), .int .i64 n] w fun e w' => e = .returned (.tuple #[.int .i64 0, .int .i64 2]) ∧ Fr [] w w' := by
  have hmf : ∀ (fn : Fn) (first cap : Array Value) (w : World), (Instr.makeFunc fn first cap).run Try.prog w = .ok (.func fn first cap) w := fun _ _ _ _ => rfl
  have B0 := Blk.new w [.int .i64 n] 3
  have q0 := B0.cell (i := 0) rfl
  have s0 := h.s.alloc (.cells #[.int .i64 n] 3)
  have s2 := s0.cell (i := 2) rfl
  have hr := h.rd.alloc (.cells #[.int .i64 n] 3)
  have hnt : ¬ n < 1 := by omega
  have hF : Fr [] w (w.alloc (.cells #[.int .i64 n] 3)) := (Fr.refl _ w).alloc _
  have HF := hid hF
  have HI := hid hi
  clear hF hi
  go_enter Try.func114, Try.ntmps114
  go_wp2_with fail
  refine (ixTake b l cap n w.heap.size _ hl hr q0 (by simp)).mono ?_
  rintro e w1 ⟨rfl, hF1⟩
  rw [HI.out]
  go_wp2_with fail
  go_ret2
  exact ⟨rfl, HF.out.trans hF1⟩

theorem cs_mid (l1 l2 : List (Int × Int)) (a m : Int) (rest : List Value) : flat (l1 ++ (a, m) :: l2) ++ rest = flat l1 ++ (.int .i64 a :: .int .i64 m :: (flat l2 ++ rest)) := by
  simp [flat_append, flat_cons]

theorem cs_set (l1 l2 : List (Int × Int)) (a m a' m' : Int) (rest : List Value) : ((flat (l1 ++ (a, m) :: l2) ++ rest).set (l1.length * 2) (.int .i64 a')).set (l1.length * 2 + 1) (.int .i64 m') = flat (l1 ++ (a', m') :: l2) ++ rest := by
  rw [cs_mid, cs_mid]
  have e : l1.length * 2 = (flat l1).length := by rw [flat_len]; omega
  rw [e]
  simp

theorem delRun' (b : Nat) (l1 l2 : List (Int × Int)) (x : Int × Int) (rest : List Value) (cap N k : Nat) (k1 : Int) (w : World) (hk : k = l1.length) (hN : N = l1.length + l2.length + 1) (hk1 : k1 = l1.length + 1) (hb : Blk w b (flat l1 ++ (flat (x :: l2) ++ rest)) 186) (hl : (flat (l1 ++ x :: l2) ++ rest).length = 2 * cap) :
    Calls Try.prog 143 #[.slice (some ⟨b, 0, none⟩) N cap, .int .i64 k, .int .i64 k1] w fun e w' => e = .returned (.slice (some ⟨b, 0, none⟩) (l1.length + l2.length : Nat) cap) ∧ Blk w' b (flat (l1 ++ l2) ++ (.int .i64 0 :: .int .i64 0 :: rest)) 186 ∧ Fr [b] w w' := by
  subst hk
  exact delRun b l1 l2 x rest cap N k1 w hN hk1 hb hl

set_option maxRecDepth 100000 in
set_option maxHeartbeats 3200000 in
theorem xTakePart (xb b : Nat) (f p n a m : Int) (l1 l2 : List (Int × Int)) (rest : List Value) (cap : Nat) (w : World) (h : XAt w xb b f p (l1 ++ (a, m) :: l2) rest cap) (hl : (l1 ++ (a, m) :: l2).length ≤ 65536) (hn : 1 ≤ n) (hi : ixRun (l1 ++ (a, m) :: l2) n = (l1.length : Nat)) (hm : n < m) (ha : 0 ≤ a) (ha2 : a + m ≤ 65536) :
    Calls Try.prog 114 #[.pointer (some ⟨xb, 0, none⟩), .int .i64 n] w fun e w' => e = .returned (.tuple #[.int .i64 a, .int .i64 0]) ∧ XAt w' xb b f p (l1 ++ (a + n, m - n) :: l2) rest cap ∧ Fr [b] w w' := by
  have hmf : ∀ (fn : Fn) (first cap : Array Value) (w : World), (Instr.makeFunc fn first cap).run Try.prog w = .ok (.func fn first cap) w := fun _ _ _ _ => rfl
  have B0 := Blk.new w [.int .i64 n] 3
  have q0 := B0.cell (i := 0) rfl
  have s0 := h.s.alloc (.cells #[.int .i64 n] 3)
  have s2 := s0.cell (i := 2) rfl
  have hr := h.rd.alloc (.cells #[.int .i64 n] 3)
  have hc := h.c.alloc (.cells #[.int .i64 n] 3)
  have hlt1 := h.s.lt
  have hlt2 := h.c.lt
  have hne : xb ≠ b := by
    rintro rfl
    have h1 := h.s
    have h2 := h.c
    unfold Blk at h1 h2
    rw [h1] at h2
    simp only [Option.some.injEq, Obj.cells.injEq] at h2
    exact absurd h2.2.1 (by decide)
  have hnt : ¬ n < 1 := by omega
  have hF : Fr [] w (w.alloc (.cells #[.int .i64 n] 3)) := (Fr.refl _ w).alloc _
  have HF := hid hF
  have HI := hid hi
  have HL := hid h.len
  obtain ⟨l, hll⟩ : ∃ l, l = l1 ++ (a, m) :: l2 := ⟨_, rfl⟩
  have hklt : l1.length < l.length := by rw [hll]; simp
  rw [← hll] at hr s0 s2 hc hl HI
  have HLL := hid hll
  clear hF hi hll h
  go_enter Try.func114, Try.ntmps114
  go_wp2_with fail
  refine (ixTake b l cap n w.heap.size _ hl hr q0 (by simp)).mono ?_
  rintro e w1 ⟨rfl, hF1⟩
  rw [HI.out]
  have s3 := (s0.fr hF1 (by simp))
  have c3 := (hc.fr hF1 (by simp))
  have q3 := (B0.fr hF1 (by simp)).cell (i := 0) rfl
  have s32 := s3.cell (i := 2) rfl
  have e1 : (flat l ++ rest)[l1.length * 2]? = some (.int .i64 a) := by
    rw [HLL.out, cs_mid, List.getElem?_append_right (by rw [flat_len]; omega), flat_len]
    rw [show l1.length * 2 - 2 * l1.length = 0 by omega]; rfl
  have e2 : (flat l ++ rest)[l1.length * 2 + 1]? = some (.int .i64 m) := by
    rw [HLL.out, cs_mid, List.getElem?_append_right (by rw [flat_len]; omega), flat_len]
    rw [show l1.length * 2 + 1 - 2 * l1.length = 1 by omega]; rfl
  have k1 := c3.cell e1
  have k2 := c3.cell e2
  have y1 := c3.frozen (l1.length * 2)
  have y2 := c3.frozen (l1.length * 2 + 1)
  have hw1 : IntKind.i64.wrap (a + n) = a + n := by rw [IntKind.wrap_i64]; omega
  have hw2 : IntKind.i64.wrap (m - n) = m - n := by rw [IntKind.wrap_i64]; omega
  have hmn : ¬ (m - n = 0) := by omega
  clear e1 e2
  obtain ⟨k, hk⟩ : ∃ k, k = l1.length := ⟨_, rfl⟩
  rw [← hk] at k1 k2 y1 y2 hklt ⊢
  have HK := hid hk
  clear hk
  go_wp2_with fail
  go_region
  go_wp2_with fail
  go_ret2
  have hk := HK.out
  refine ⟨rfl, ⟨?_, ?_, ?_⟩, ?_⟩
  · have := (((s3.other hne (a := ⟨b, k * 2, none⟩) (.int .i64 (a + n))).other hne (a := ⟨b, k * 2 + 1, none⟩) (.int .i64 (m - n)))).drew
    rw [HLL.out] at this
    simpa using this
  · have := ((c3.set (k * 2) (.int .i64 (a + n))).set (k * 2 + 1) (.int .i64 (m - n))).drew
    rw [HLL.out, hk, cs_set] at this
    rw [hk]
    exact this
  · have := HL.out
    simp [flat_append, flat_cons, flat_len] at this ⊢
    exact this
  · exact ((((HF.out.trans hF1).here (T := [b]) (by simp)).set (by simp) _).set (by simp) _).drew

end Go.Proofs.Ytifillpcphiblaa
