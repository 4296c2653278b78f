import Derived.Test.YtifillpcphiblaaXIns2
import Derived.Deep.QuietTactic
import Derived.BigQuiet
import Derived.StillTailTactics
namespace Go.Proofs.Ytifillpcphiblaa
open Go Go.Proofs Go.RowKit

/-! extent.Give. -/

theorem give1Lit (x y a n : Int) (pa pn : Nat) (w : World) (ha : w.cell? ⟨pa, 0, none⟩ = some (.int .i64 a)) (hn : w.cell? ⟨pn, 0, none⟩ = some (.int .i64 n)) (la : pa < w.heap.size) (ln : pn < w.heap.size)
    (b1 : 0 ≤ a ∧ a ≤ 65536 ∧ 0 ≤ n ∧ n ≤ 65536) (b2 : 0 ≤ x ∧ x ≤ 65536 ∧ 0 ≤ y ∧ y ≤ 65536) (h : a + n ≤ x ∨ x + y ≤ a) :
    Calls Try.prog 134 #[.agg #[.int .i64 x, .int .i64 y], .pointer (some ⟨pa, 0, none⟩), .pointer (some ⟨pn, 0, none⟩)] w fun e w' => e = .returned (.bool false) ∧ Fr [] w w' := by
  have B0 := Blk.new w [.int .i64 x, .int .i64 y] 186
  have q0 := B0.cell (i := 0) rfl
  have q1 := B0.cell (i := 1) rfl
  have ha' : (w.alloc (.cells #[.int .i64 x, .int .i64 y] 186)).cell? ⟨pa, 0, none⟩ = some (.int .i64 a) := by
    rw [World.cell?_alloc_past _ _ _ la]; exact ha
  have hn' : (w.alloc (.cells #[.int .i64 x, .int .i64 y] 186)).cell? ⟨pn, 0, none⟩ = some (.int .i64 n) := by
    rw [World.cell?_alloc_past _ _ _ ln]; exact hn
  clear ha hn
  by_cases h1 : a + n ≤ x
  · have h1' : ¬ x < a + n := by omega
    clear h h1
    go_enter Try.func134, Try.ntmps134
    go_wp2_with fail
    go_ret
    exact ⟨rfl, (Fr.refl _ w).alloc _⟩
  · have h2 : ¬ a < x + y := by omega
    have h1' : x < a + n := by omega
    clear h h1
    go_enter Try.func134, Try.ntmps134
    go_wp2_with fail
    go_ret
    exact ⟨rfl, (Fr.refl _ w).alloc _⟩

theorem give2Lit (x y a : Int) (pa : Nat) (w : World) (ha : w.cell? ⟨pa, 0, none⟩ = some (.int .i64 a)) (la : pa < w.heap.size) :
    Calls Try.prog 136 #[.agg #[.int .i64 x, .int .i64 y], .pointer (some ⟨pa, 0, none⟩)] w fun e w' => e = .returned (.bool (decide (a < x))) ∧ Fr [] w w' := by
  have B0 := Blk.new w [.int .i64 x, .int .i64 y] 186
  have q0 := B0.cell (i := 0) rfl
  have ha' : (w.alloc (.cells #[.int .i64 x, .int .i64 y] 186)).cell? ⟨pa, 0, none⟩ = some (.int .i64 a) := by
    rw [World.cell?_alloc_past _ _ _ la]; exact ha
  clear ha
  go_enter Try.func136, Try.ntmps136
  go_wp2_with fail
  go_ret
  exact ⟨rfl, (Fr.refl _ w).alloc _⟩

set_option maxHeartbeats 1600000 in
theorem ixGive1 (b : Nat) (l : List (Int × Int)) (cap : Nat) (a n : Int) (pa pn : Nat) (w : World) (hm : l.length ≤ 65536) (hc : Rd w b (flat l)) (ha : w.cell? ⟨pa, 0, none⟩ = some (.int .i64 a)) (hn : w.cell? ⟨pn, 0, none⟩ = some (.int .i64 n)) (la : pa < w.heap.size) (ln : pn < w.heap.size)
    (b1 : 0 ≤ a ∧ a ≤ 65536 ∧ 0 ≤ n ∧ n ≤ 65536) (b2 : ∀ x ∈ l, 0 ≤ x.1 ∧ x.1 ≤ 65536 ∧ 0 ≤ x.2 ∧ x.2 ≤ 65536) (ho : Off a n l) :
    Calls Try.prog 135 #[.slice (some ⟨b, 0, none⟩) l.length cap, .func (.func 134) #[] #[.pointer (some ⟨pa, 0, none⟩), .pointer (some ⟨pn, 0, none⟩)]] w fun e w' => e = .returned (.int .i64 (-1)) ∧ Fr [] w w' := by
  have Ho := hid ho
  have Hb := hid b2
  clear ho b2
  go_enter Try.func135, Try.ntmps135
  go_wp2_with fail
  go_loopw [8] (fun i wr => ∃ k : Nat, k ≤ l.length ∧ i = .int .i64 k ∧ Fr [] w wr) (fun i _ => l.length - (intOf i).toNat)
  case atStart => exact ⟨0, Nat.zero_le _, rfl, Fr.refl _ _⟩
  case round =>
    obtain ⟨k, hk, rfl, hFr⟩ := hrel
    have hcr := hc.fr hFr (by simp)
    have hra : wr.cell? ⟨pa, 0, none⟩ = some (.int .i64 a) := (World.cell?_of_block (w := w) (hFr.block _ la (by simp))).trans ha
    have hrn : wr.cell? ⟨pn, 0, none⟩ = some (.int .i64 n) := (World.cell?_of_block (w := w) (hFr.block _ ln (by simp))).trans hn
    have hla := Nat.lt_of_lt_of_le la hFr.size
    have hln := Nat.lt_of_lt_of_le ln hFr.size
    by_cases hlt : k < l.length
    · obtain ⟨x, hx⟩ : ∃ x, l[k]? = some x := ⟨_, List.getElem?_eq_getElem hlt⟩
      obtain ⟨g1, g2⟩ := flat_get l k x hx
      have c1 := hcr.2 _ _ g1
      have c2 := hcr.2 _ _ g2
      have o1 := Ho.out x (List.mem_of_getElem? hx)
      have o2 := Hb.out x (List.mem_of_getElem? hx)
      clear hx g1 g2
      obtain ⟨x1, x2⟩ := x
      simp only at c1 c2 o1 o2
      go_wp2_with (go_at_call 134; refine (give1Lit _ _ _ _ _ _ _ hra hrn hla hln b1 o2 o1).mono ?_; rintro e w' ⟨rfl, hF⟩)
      go_roundw
      case rel => exact ⟨k + 1, by omega, by go_num, hFr.trans hF⟩
      case measure => simp [intOf]; omega
    · go_wp2_with fail
      go_ret
      exact ⟨rfl, hFr⟩

theorem contGive (b : Nat) (l : List (Int × Int)) (cap : Nat) (a n : Int) (pa pn : Nat) (w : World) (hm : l.length ≤ 65536) (hc : Rd w b (flat l)) (ha : w.cell? ⟨pa, 0, none⟩ = some (.int .i64 a)) (hn : w.cell? ⟨pn, 0, none⟩ = some (.int .i64 n)) (la : pa < w.heap.size) (ln : pn < w.heap.size)
    (b1 : 0 ≤ a ∧ a ≤ 65536 ∧ 0 ≤ n ∧ n ≤ 65536) (b2 : ∀ x ∈ l, 0 ≤ x.1 ∧ x.1 ≤ 65536 ∧ 0 ≤ x.2 ∧ x.2 ≤ 65536) (ho : Off a n l) :
    Calls Try.prog 133 #[.slice (some ⟨b, 0, none⟩) l.length cap, .func (.func 134) #[] #[.pointer (some ⟨pa, 0, none⟩), .pointer (some ⟨pn, 0, none⟩)]] w fun e w' => e = .returned (.bool false) ∧ Fr [] w w' := by
  go_enter Try.func133, Try.ntmps133
  go_wp2_with fail
  refine (ixGive1 b l cap a n pa pn w hm hc ha hn la ln b1 b2 ho).mono ?_
  rintro e w' ⟨rfl, hF⟩
  go_wp2_with fail
  go_ret
  exact ⟨rfl, hF⟩

/-- The first run that begins behind a; -1: none. -/
def ixBeg (l : List (Int × Int)) (a : Int) : Int := ixGe (l.map (·.1)) (a + 1)

set_option maxHeartbeats 1600000 in
theorem ixGive2 (b : Nat) (l : List (Int × Int)) (cap : Nat) (a : Int) (pa : Nat) (w : World) (hm : l.length ≤ 65536) (hc : Rd w b (flat l)) (ha : w.cell? ⟨pa, 0, none⟩ = some (.int .i64 a)) (la : pa < w.heap.size) :
    Calls Try.prog 135 #[.slice (some ⟨b, 0, none⟩) l.length cap, .func (.func 136) #[] #[.pointer (some ⟨pa, 0, none⟩)]] w fun e w' => e = .returned (.int .i64 (ixBeg l a)) ∧ Fr [] w w' := by
  go_enter Try.func135, Try.ntmps135
  go_wp2_with fail
  go_loopw [8] (fun i wr => ∃ k : Nat, k ≤ l.length ∧ i = .int .i64 k ∧ below (l.map (·.1)) (a + 1) k ∧ Fr [] w wr) (fun i _ => l.length - (intOf i).toNat)
  case atStart => exact ⟨0, Nat.zero_le _, rfl, below_zero _ _, Fr.refl _ _⟩
  case round =>
    obtain ⟨k, hk, rfl, hH, hFr⟩ := hrel
    have hcr := hc.fr hFr (by simp)
    have hr : wr.cell? ⟨pa, 0, none⟩ = some (.int .i64 a) := (World.cell?_of_block (w := w) (hFr.block _ la (by simp))).trans ha
    have hlr := Nat.lt_of_lt_of_le la hFr.size
    by_cases hlt : k < l.length
    · obtain ⟨x, hx⟩ : ∃ x, l[k]? = some x := ⟨_, List.getElem?_eq_getElem hlt⟩
      obtain ⟨g1, g2⟩ := flat_get l k x hx
      have c1 := hcr.2 _ _ g1
      have c2 := hcr.2 _ _ g2
      have hx2 : (l.map (·.1))[k]? = some x.1 := by simp [hx]
      have Hx := hid hx2
      clear hx g1 g2 hx2
      obtain ⟨x1, x2⟩ := x
      simp only at c1 c2 Hx
      by_cases hs : a < x1
      · go_wp2_with (go_at_call 136; refine (give2Lit _ _ _ _ _ hr hlr).mono ?_; rintro e w' ⟨rfl, hF⟩)
        go_ret
        exact ⟨by unfold ixBeg; rw [ixGe_some hH Hx.out (by omega)]; rfl, hFr.trans hF⟩
      · go_wp2_with (go_at_call 136; refine (give2Lit _ _ _ _ _ hr hlr).mono ?_; rintro e w' ⟨rfl, hF⟩)
        go_roundw
        case rel => exact ⟨k + 1, by omega, by go_num, below_succ hH Hx.out (by omega), hFr.trans hF⟩
        case measure => simp [intOf]; omega
    · go_wp2_with fail
      go_ret
      have e : k = l.length := by omega
      subst e
      exact ⟨by unfold ixBeg; rw [ixGe_none (by simpa using hH)]; rfl, hFr⟩

theorem ixGe_eq (cls : List Int) (s : Int) : ixGe cls s = if cls.findIdx (fun n => decide (s ≤ n)) < cls.length then (cls.findIdx (fun n => decide (s ≤ n)) : Int) else -1 := by
  unfold ixGe
  by_cases h : cls.findIdx (fun n => decide (s ≤ n)) < cls.length
  · rw [if_pos h, List.findIdx?_eq_guard_findIdx_lt]
    simp [Option.guard, h]
  · rw [if_neg h]
    have : cls.findIdx? (fun n => decide (s ≤ n)) = none := by
      rw [List.findIdx?_eq_none_iff]
      have e : cls.findIdx (fun n => decide (s ≤ n)) = cls.length := Nat.le_antisymm (List.findIdx_le_length) (by omega)
      rw [List.findIdx_eq_length] at e
      exact e
    rw [this]
theorem spot_ix (l : List (Int × Int)) (a : Int) : ixBeg l a = if spotOf l a < l.length then (spotOf l a : Int) else -1 := by
  unfold ixBeg
  rw [ixGe_eq]
  have : (l.map (·.1)).findIdx (fun n => decide (a + 1 ≤ n)) = spotOf l a := by
    unfold spotOf
    rw [List.findIdx_map]
    rfl
  rw [this, List.length_map]
theorem spotOf_le (l : List (Int × Int)) (a : Int) : spotOf l a ≤ l.length := List.findIdx_le_length

theorem xWithin (xb : Nat) (f p : Int) (sv : Value) (a n : Int) (w : World) (hs : Blk w xb [.int .i64 f, .int .i64 p, sv] 185) (hn : 1 ≤ n) (hnp : n ≤ p) (hf : f ≤ a) (hap : a - f ≤ p - n) (h0 : 0 ≤ f) (h1 : p ≤ 65536) (h2 : a ≤ 65536) :
    Calls Try.prog 132 #[.pointer (some ⟨xb, 0, none⟩), .int .i64 a, .int .i64 n] w fun e w' => e = .returned (.bool true) ∧ ∃ k, w' = w.drewN k := by
  have s0 := hs.cell (i := 0) rfl
  have s1 := hs.cell (i := 1) rfl
  have hw1 : IntKind.i64.wrap (a - f) = a - f := by rw [IntKind.wrap_i64]; omega
  have hw2 : IntKind.i64.wrap (p - n) = p - n := by rw [IntKind.wrap_i64]; omega
  go_enter Try.func132, Try.ntmps132
  go_wp2_with fail
  go_quiet (fail)
  go_wp2_with fail
  go_ret
  exact ⟨rfl, _, rfl⟩

/-- No join: there is none behind, or it doesn't touch. -/
theorem xJoinOut (xb b : Nat) (f p : Int) (l : List (Int × Int)) (rest : List Value) (cap : Nat) (k : Int) (w : World) (h : XAt w xb b f p l rest cap) (hk : k < 0 ∨ (l.length : Int) ≤ k + 1) (hk2 : k ≤ 65537) (hk3 : -1 ≤ k) :
    Calls Try.prog 138 #[.pointer (some ⟨xb, 0, none⟩), .int .i64 k] w fun e w' => e = .returned (.tuple #[]) ∧ ∃ n, w' = w.drewN n := by
  have s2 := h.s.cell (i := 2) rfl
  have hw1 : IntKind.i64.wrap (k + 1) = k + 1 := by rw [IntKind.wrap_i64]; omega
  by_cases h0 : k < 0
  · have hd0 : decide (k < 0) = true := by simpa using h0
    clear hk
    go_enter Try.func138, Try.ntmps138
    go_wp2_with fail
    go_quiet (fail)
    go_wp2_with fail
    refine bodyPost_ret (v := .tuple #[]) (by simp [results, Try.results138, go_sem]) rfl ?_
    exact ⟨rfl, _, rfl⟩
  · have h1 : (l.length : Int) ≤ k + 1 := by omega
    have hd0 : decide (k < 0) = false := by simpa using h0
    have hd1 : decide ((l.length : Int) ≤ k + 1) = true := by simpa using h1
    clear hk
    go_enter Try.func138, Try.ntmps138
    go_wp2_with fail
    go_quiet (fail)
    go_wp2_with fail
    refine bodyPost_ret (v := .tuple #[]) (by simp [results, Try.results138, go_sem]) rfl ?_
    exact ⟨rfl, _, rfl⟩

theorem cs_two (l1 l2 : List (Int × Int)) (x y : Int × Int) (rest : List Value) : flat (l1 ++ x :: y :: l2) ++ rest = flat l1 ++ (.int .i64 x.1 :: .int .i64 x.2 :: .int .i64 y.1 :: .int .i64 y.2 :: (flat l2 ++ rest)) := by
  simp [flat_append, flat_cons]
theorem cs_two_at (l1 l2 : List (Int × Int)) (x y : Int × Int) (rest : List Value) (k : Nat) (hk : k = l1.length) :
    (flat (l1 ++ x :: y :: l2) ++ rest)[k * 2]? = some (.int .i64 x.1) ∧ (flat (l1 ++ x :: y :: l2) ++ rest)[k * 2 + 1]? = some (.int .i64 x.2) ∧ (flat (l1 ++ x :: y :: l2) ++ rest)[(k + 1) * 2]? = some (.int .i64 y.1) ∧ (flat (l1 ++ x :: y :: l2) ++ rest)[(k + 1) * 2 + 1]? = some (.int .i64 y.2) := by
  subst hk
  rw [cs_two]
  have e := flat_len l1
  refine ⟨?_, ?_, ?_, ?_⟩
  · rw [List.getElem?_append_right (by omega), e, show l1.length * 2 - 2 * l1.length = 0 by omega]; rfl
  · rw [List.getElem?_append_right (by omega), e, show l1.length * 2 + 1 - 2 * l1.length = 1 by omega]; rfl
  · rw [List.getElem?_append_right (by omega), e, show (l1.length + 1) * 2 - 2 * l1.length = 2 by omega]; rfl
  · rw [List.getElem?_append_right (by omega), e, show (l1.length + 1) * 2 + 1 - 2 * l1.length = 3 by omega]; rfl

theorem xJoinNo (xb b : Nat) (f p : Int) (l1 l2 : List (Int × Int)) (x y : Int × Int) (rest : List Value) (cap : Nat) (k : Nat) (w : World) (h : XAt w xb b f p (l1 ++ x :: y :: l2) rest cap) (hk : k = l1.length) (hl : (l1 ++ x :: y :: l2).length ≤ 65537)
    (b1 : 0 ≤ x.1 ∧ x.1 ≤ 65536 ∧ 0 ≤ x.2 ∧ x.2 ≤ 65536) (hno : ¬ x.1 + x.2 = y.1) :
    Calls Try.prog 138 #[.pointer (some ⟨xb, 0, none⟩), .int .i64 k] w fun e w' => e = .returned (.tuple #[]) ∧ ∃ n, w' = w.drewN n := by
  have s2 := h.s.cell (i := 2) rfl
  obtain ⟨e1, e2, e3, e4⟩ := cs_two_at l1 l2 x y rest k hk
  have c1 := h.c.cell e1
  have c2 := h.c.cell e2
  have c3 := h.c.cell e3
  have hkN : k + 2 ≤ (l1 ++ x :: y :: l2).length := by simp; omega
  obtain ⟨N, hN⟩ : ∃ N, N = (l1 ++ x :: y :: l2).length := ⟨_, rfl⟩
  rw [← hN] at s2 hl hkN
  clear e1 e2 e3 e4 hN h hk
  obtain ⟨a, m⟩ := x
  obtain ⟨c, q⟩ := y
  simp only at c1 c2 c3 b1 hno
  have hw1 : IntKind.i64.wrap ((k : Int) + 1) = (k : Int) + 1 := by rw [IntKind.wrap_i64]; omega
  have hw2 : IntKind.i64.wrap (a + m) = a + m := by rw [IntKind.wrap_i64]; omega
  have t1 : (0 : Int) ≤ (k : Int) + 1 := by omega
  have t2 : ((k : Int) + 1).toNat = k + 1 := by omega
  have d0 : decide ((k : Int) < 0) = false := by simp
  have d1 : decide ((N : Int) ≤ (k : Int) + 1) = false := by simp; omega
  have d2 : (a + m != c) = true := by simpa using hno
  go_enter Try.func138, Try.ntmps138
  go_wp2_with fail
  go_quiet (fail)
  go_wp2_with fail
  refine bodyPost_ret (v := .tuple #[]) (by simp [results, Try.results138, go_sem]) rfl ?_
  exact ⟨rfl, _, rfl⟩

theorem delRunI (b : Nat) (l1 l2 : List (Int × Int)) (x : Int × Int) (rest : List Value) (cap N : Nat) (k k1 : Int) (w : World) (hk : k = l1.length) (hN : N = l1.length + l2.length + 1) (hk1 : k1 = l1.length + 1) (hb : Blk w b (flat l1 ++ (flat (x :: l2) ++ rest)) 186) (hl : (flat (l1 ++ x :: l2) ++ rest).length = 2 * cap) :
    Calls Try.prog 143 #[.slice (some ⟨b, 0, none⟩) N cap, .int .i64 k, .int .i64 k1] w fun e w' => e = .returned (.slice (some ⟨b, 0, none⟩) (l1.length + l2.length : Nat) cap) ∧ Blk w' b (flat (l1 ++ l2) ++ (.int .i64 0 :: .int .i64 0 :: rest)) 186 ∧ Fr [b] w w' := by
  subst hk
  exact delRun b l1 l2 x rest cap N k1 w hN hk1 hb hl

theorem cs_join (l1 l2 : List (Int × Int)) (a m c q v : Int) (rest : List Value) (k : Nat) (hk : k = l1.length) : (flat (l1 ++ (a, m) :: (c, q) :: l2) ++ rest).set (k * 2 + 1) (.int .i64 v) = flat (l1 ++ [(a, v)]) ++ (flat ((c, q) :: l2) ++ rest) := by
  subst hk
  rw [cs_two]
  have e : l1.length * 2 + 1 = (flat l1).length + 1 := by rw [flat_len]; omega
  rw [e]
  simp [flat_append, flat]

set_option maxRecDepth 100000 in
set_option maxHeartbeats 3200000 in
theorem xJoinYes (xb b : Nat) (f p : Int) (l1 l2 : List (Int × Int)) (x y : Int × Int) (rest : List Value) (cap : Nat) (k : Nat) (w : World) (h : XAt w xb b f p (l1 ++ x :: y :: l2) rest cap) (hk : k = l1.length) (hl : (l1 ++ x :: y :: l2).length ≤ 65537)
    (b1 : 0 ≤ x.1 ∧ x.1 ≤ 65536 ∧ 0 ≤ x.2 ∧ x.2 ≤ 65536) (b2 : 0 ≤ y.2 ∧ y.2 ≤ 65536) (hy : x.1 + x.2 = y.1) :
    Calls Try.prog 138 #[.pointer (some ⟨xb, 0, none⟩), .int .i64 k] w fun e w' => e = .returned (.tuple #[]) ∧ XAt w' xb b f p (l1 ++ (x.1, x.2 + y.2) :: l2) (.int .i64 0 :: .int .i64 0 :: rest) cap ∧ Fr [xb, b] w w' := by
  have s0 := h.s
  have c0 := h.c
  have hne : xb ≠ b := blk_ne h.s h.c (by decide)
  have s2 := h.s.cell (i := 2) rfl
  obtain ⟨e1, e2, e3, e4⟩ := cs_two_at l1 l2 x y rest k hk
  have c1 := h.c.cell e1
  have c2 := h.c.cell e2
  have c3 := h.c.cell e3
  have c4 := h.c.cell e4
  have f2 := h.c.frozen (k * 2 + 1)
  have hkN : k + 2 ≤ (l1 ++ x :: y :: l2).length := by simp; omega
  obtain ⟨N, hN⟩ : ∃ N, N = (l1 ++ x :: y :: l2).length := ⟨_, rfl⟩
  have HL := hid h.len
  have HCB := hid h.cb
  rw [← hN] at s2 hl s0 hkN
  have HN := hid hN
  have HK := hid hk
  have HS := hid s0
  have HC0 := hid c0
  clear e1 e2 e3 e4 hN h hk s0 c0
  obtain ⟨a, m⟩ := x
  obtain ⟨c, q⟩ := y
  simp only at c1 c2 c3 c4 b1 b2 hy HL HC0
  obtain rfl : c = a + m := hy.symm
  clear hy
  have hw1 : IntKind.i64.wrap ((k : Int) + 1) = (k : Int) + 1 := by rw [IntKind.wrap_i64]; omega
  have hw2 : IntKind.i64.wrap (a + m) = a + m := by rw [IntKind.wrap_i64]; omega
  have hw3 : IntKind.i64.wrap (m + q) = m + q := by rw [IntKind.wrap_i64]; omega
  have hw4 : IntKind.i64.wrap ((k : Int) + 2) = (k : Int) + 2 := by rw [IntKind.wrap_i64]; omega
  have t1 : (0 : Int) ≤ (k : Int) + 1 := by omega
  have t2 : ((k : Int) + 1).toNat = k + 1 := by omega
  have d0 : decide ((k : Int) < 0) = false := by simp
  have d1 : decide ((N : Int) ≤ (k : Int) + 1) = false := by simp; omega
  have d2 : (a + m != a + m) = false := by simp
  go_enter Try.func138, Try.ntmps138
  go_wp2_with fail
  go_quiet (fail)
  go_wp2_with fail
  go_region
  go_wp2_with fail
  have hB : Hid (Blk ((w.drewN (nq + 1)).setCell ⟨b, k * 2 + 1, none⟩ (.int .i64 (m + q))) b (flat (l1 ++ [(a, m + q)]) ++ (flat ((a + m, q) :: l2) ++ rest)) 186) := by
    have := (HC0.out.drewN (nq + 1)).set (k * 2 + 1) (.int .i64 (m + q))
    rw [cs_join l1 l2 a m (a + m) q (m + q) rest k HK.out] at this
    exact this
  have hS : Hid (Blk ((w.drewN (nq + 1)).setCell ⟨b, k * 2 + 1, none⟩ (.int .i64 (m + q))) xb [.int .i64 f, .int .i64 p, .slice (some ⟨b, 0, none⟩) N cap] 185) :=
    (HS.out.drewN (nq + 1)).other hne _
  have hF : Hid (Fr [xb, b] w ((w.drewN (nq + 1)).setCell ⟨b, k * 2 + 1, none⟩ (.int .i64 (m + q)))) := ((Fr.refl _ w).drewN _).set (by simp) _
  have hl2 : Hid ((flat ((l1 ++ [(a, m + q)]) ++ (a + m, q) :: l2) ++ rest).length = 2 * cap) := by
    have := HL.out
    show _ = _
    simp only [List.length_append, flat_len, List.length_cons, List.length_nil] at this ⊢
    omega
  have hN2 : Hid (N = (l1 ++ [(a, m + q)]).length + l2.length + 1) := by
    have := HN.out
    show _ = _
    simp at this ⊢
    omega
  obtain ⟨W, hW⟩ : ∃ W, W = (w.drewN (nq + 1)).setCell ⟨b, k * 2 + 1, none⟩ (.int .i64 (m + q)) := ⟨_, rfl⟩
  rw [← hW] at hB hS hF ⊢
  clear hW
  refine (delRunI b (l1 ++ [(a, m + q)]) l2 (a + m, q) rest cap N _ _ W (by have := HK.out; simp; omega) hN2.out (by have := HK.out; simp; omega) hB.out hl2.out).mono ?_
  rintro e w2 ⟨rfl, hB2, hF2⟩
  have s4 := hS.out.fr hF2 (by simpa using hne)
  have s42 := s4.frozen 2
  have s43 := s4.cell (i := 2) rfl
  have HB2 := hid hB2
  have HF2 := hid hF2
  clear hB2 hF2
  go_wp2_with fail
  go_end0
  refine ⟨rfl, ⟨?_, ?_, ?_, HCB.out⟩, ?_⟩
  · have := s4.set 2 (.slice (some ⟨b, 0, none⟩) ((l1 ++ [(a, m + q)]).length + l2.length : Nat) cap)
    have e : (l1 ++ [(a, m + q)]).length + l2.length = (l1 ++ (a, m + q) :: l2).length := by simp; omega
    rw [← e]
    simpa using this
  · have := HB2.out.other (a := ⟨xb, 2, none⟩) (Ne.symm hne) (.slice (some ⟨b, 0, none⟩) ((l1 ++ [(a, m + q)]).length + l2.length : Nat) cap)
    have e : (l1 ++ [(a, m + q)]) ++ l2 = l1 ++ (a, m + q) :: l2 := by simp
    rw [e] at this
    simpa using this
  · have := HL.out
    simp only [List.length_append, flat_len, List.length_cons, List.length_nil] at this ⊢
    omega
  · exact (hF.out.trans (HF2.out.here (by simp))).set (by simp) _

/-- The runs number k and k + 1 are joined, if they touch. -/
theorem xJoin (xb b : Nat) (f p : Int) (l : List (Int × Int)) (rest : List Value) (cap k : Nat) (w : World) (h : XAt w xb b f p l rest cap) (hl : l.length ≤ 65537) (hk : k ≤ 65537)
    (hb : ∀ x ∈ l, 0 ≤ x.1 ∧ x.1 ≤ 65536 ∧ 0 ≤ x.2 ∧ x.2 ≤ 65536) :
    Calls Try.prog 138 #[.pointer (some ⟨xb, 0, none⟩), .int .i64 k] w fun e w' => e = .returned (.tuple #[]) ∧ (∃ rest', XAt w' xb b f p (joinAt l k) rest' cap) ∧ Fr [xb, b] w w' := by
  have key : ∀ (l : List (Int × Int)) (k : Nat), l.length ≤ k + 1 → joinAt l k = l := by
    intro l
    induction l with
    | nil => intro k _; cases k <;> rfl
    | cons x l ih =>
      intro k hk
      cases k with
      | zero => cases l with
        | nil => rfl
        | cons y l => simp at hk
      | succ k => show x :: joinAt l k = x :: l; rw [ih k (by simpa using hk)]
  rcases Nat.lt_or_ge (k + 1) l.length with h1 | h1
  · have e : l = l.take k ++ l[k] :: l[k + 1] :: l.drop (k + 2) := by
      rw [← List.drop_eq_getElem_cons (by omega), ← List.drop_eq_getElem_cons (by omega), List.take_append_drop]
    obtain ⟨l1, x, y, l2, rfl, hkl⟩ : ∃ l1 x y l2, l = l1 ++ x :: y :: l2 ∧ k = l1.length := ⟨_, _, _, _, e, by simp; omega⟩
    clear h1 e
    have hj : joinAt (l1 ++ x :: y :: l2) k = l1 ++ joinR (x :: y :: l2) := by rw [hkl]; exact joinAt_append _ _
    have bx := hb x (by simp)
    have by' := hb y (by simp)
    by_cases hxy : x.1 + x.2 = y.1
    · refine (xJoinYes xb b f p l1 l2 x y rest cap k w h hkl hl bx by'.2.2 hxy).mono ?_
      rintro e w' ⟨rfl, hX, hF⟩
      rw [hj, joinR_yes hxy]
      exact ⟨rfl, ⟨_, hX⟩, hF⟩
    · refine (xJoinNo xb b f p l1 l2 x y rest cap k w h hkl hl bx hxy).mono ?_
      rintro e w' ⟨rfl, n, rfl⟩
      rw [hj, joinR_no hxy]
      exact ⟨rfl, ⟨rest, h.s.drewN n, h.c.drewN n, h.len, h.cb⟩, (Fr.refl _ w).drewN n⟩
  · refine (xJoinOut xb b f p l rest cap k w h (.inr (by omega)) (by omega) (by omega)).mono ?_
    rintro e w' ⟨rfl, n, rfl⟩
    rw [key l k h1]
    exact ⟨rfl, ⟨rest, h.s.drewN n, h.c.drewN n, h.len, h.cb⟩, (Fr.refl _ w).drewN n⟩

end Go.Proofs.Ytifillpcphiblaa
