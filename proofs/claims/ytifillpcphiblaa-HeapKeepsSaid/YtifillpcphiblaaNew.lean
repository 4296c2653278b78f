import Derived.Test.YtifillpcphiblaaClone
namespace Go.Proofs.Ytifillpcphiblaa
open Go Go.Proofs Go.RowKit

/-- Rising from 'last' on, none above 24. -/
def Inc : Int → List Int → Prop
  | _, [] => True
  | last, n :: r => last < n ∧ n ≤ 24 ∧ Inc n r

/-- A configuration that may be. -/
structure RightC (W Lg : Int) (cls : List Int) : Prop where
  w1 : 1 ≤ W
  w2 : W ≤ 65536
  l1 : 0 ≤ Lg
  l2 : Lg < W
  n1 : 1 ≤ cls.length
  n2 : cls.length ≤ 6
  inc : Inc 0 cls

theorem drop_getElem? {l : List Int} {k : Nat} {x : Int} (h : l[k]? = some x) : l.drop k = x :: l.drop (k + 1) := by
  have hk : k < l.length := (List.getElem?_eq_some_iff.1 h).1
  rw [List.drop_eq_getElem_cons hk]
  rw [(List.getElem?_eq_some_iff.1 h).2]

/-- A configuration as a value. -/
def cfg (W Lg a b c d : Int) (sv : Value) : Value := .agg #[.int .i64 W, .int .i64 Lg, .int .i64 a, .int .i64 b, .int .i64 c, .int .i64 d, sv]

set_option maxHeartbeats 1600000 in
theorem hRight (W Lg a b c d : Int) (cls : List Int) (cb o cap : Nat) (w : World) (hR : RightC W Lg cls) (hr : RdAt w cb o (cls.map (.int .i64))) :
    Calls Try.prog 63 #[.agg #[.int .i64 W, .int .i64 Lg, .int .i64 a, .int .i64 b, .int .i64 c, .int .i64 d, .slice (some ⟨cb, o, none⟩) cls.length cap]] w fun e w' => e = .returned (.bool true) ∧ Fr [] w w' := by
  obtain ⟨w1, w2, l1, l2, n1, n2, inc⟩ := hR
  have hl := hr.1
  have g1 : ¬ W < 1 := by omega
  have g2 : ¬ 65536 < W := by omega
  have g3 : ¬ Lg < 0 := by omega
  have g4 : ¬ W ≤ Lg := by omega
  have g5 : ¬ (cls.length : Int) < 1 := by omega
  have g6 : ¬ 6 < (cls.length : Int) := by omega
  go_enter Try.func63, Try.ntmps63
  go_wp2_with fail
  go_loop [3, 41] (fun v i => ∃ (k : Nat) (last : Int), k ≤ cls.length ∧ i = .int .i64 k ∧ v = .int .i64 last ∧ Inc last (cls.drop k)) (fun _ i => cls.length - (intOf i).toNat)
  case atStart => exact ⟨0, 0, Nat.zero_le _, rfl, rfl, inc⟩
  case round =>
    obtain ⟨k, last, hk, rfl, rfl, hI⟩ := hrel
    clear inc
    by_cases hlt : k < cls.length
    · obtain ⟨x, hx⟩ : ∃ x, cls[k]? = some x := ⟨_, List.getElem?_eq_getElem hlt⟩
      rw [drop_getElem? hx] at hI
      obtain ⟨i1, i2, i3⟩ := hI
      have hck : w.cell? ⟨cb, o + k, none⟩ = some (.int .i64 x) := hr.2 k _ (by simp [hx])
      have j1 : ¬ x ≤ last := by omega
      have j2 : ¬ 24 < x := by omega
      clear hx
      have I3 := hid i3
      clear i3
      go_wp2_with fail
      go_round
      case rel => exact ⟨k + 1, x, by omega, by go_num, rfl, I3.out⟩
      case measure => simp [intOf]; omega
    · go_wp2_with fail
      go_ret
      exact ⟨rfl, (Fr.refl _ w).alloc _⟩

theorem info_int64 : (Try.prog.info? 2).map (fun i => (i.zero, i.size, i.bytes)) = some (some (.int .i64 0), 1, 8) := by kernel_rfl

theorem madeCells_list (n : Nat) : (madeCells (Value.int .i64 0).cells n).toList = (List.replicate n (0 : Int)).map (Value.int .i64) := by
  apply List.ext_getElem
  · simp [madeCells]
  · intro i h1 h2
    simp [madeCells, Value.cells, Nat.mod_one]

theorem ownsRow_full {w : World} {base : Nat} {e : TypeId} {g n : Nat} {xs : List Value} (h : w.ownsRow base e 1 (.slice (some ⟨g, 0, none⟩) n n) n xs) (hn : 1 ≤ n) : Blk w g xs e := by
  obtain ⟨hl, h | ⟨g', cap, cur, hv, hg, hh, hc, -, hcs, ht⟩⟩ := h
  · omega
  · cases hv
    have : cur.toList = xs := by rw [← ht, List.take_of_length_le (by simp; omega)]
    subst this
    simpa [Blk] using hh

set_option maxRecDepth 200000 in
set_option maxHeartbeats 800000 in
theorem aNew (n : Nat) (w : World) (h1 : 1 ≤ n) (h2 : n ≤ 65536) :
    Calls Try.prog 64 #[.int .i64 n] w fun e w' => ∃ ab wb, e = .returned (.tuple #[.pointer (some ⟨ab, 0, none⟩), .int .i64 0]) ∧ ARep w' ab wb (List.replicate n 0) 0 ∧ Fr [] w w' ∧ w.heap.size ≤ ab ∧ w.heap.size ≤ wb := by
  have g1 : ¬ (n : Int) < 1 := by omega
  have g2 : ¬ 65536 < (n : Int) := by omega
  obtain ⟨i0, hi, hz0, hz1, hz2⟩ := info_parts info_int64
  have h1' := hid hi
  have h2' := hid hz0
  have h3' := hid hz1
  have h4' := hid hz2
  clear hi hz0 hz1 hz2
  go_enter Try.func64, Try.ntmps64
  go_wp2_with (at_make; refine wpList_make_full _ rfl _ _ 67 rfl w.heap.size 2 i0 (.int .i64 0) 1 Try.underlying67 h1'.out h2'.out h3'.out .i64 .i64 n n n rfl rfl rfl rfl ?c1 ?c2 (Nat.le_refl _) ?c4)
  case c1 => rw [h4'.out]; omega
  case c2 => simp only [maxLen]; omega
  case c4 =>
    intro w1 hown hgrow
    have hb := ownsRow_full hown h1
    have hF : Fr [] w w1 := Fr.of_grownBy hgrow (by simp)
    have hlt := hb.lt
    have e := madeCells_list n
    simp only [Value.cells] at e
    rw [e] at hb
    clear h1' h2' h3' h4' hown hgrow e
    go_wp2_with fail
    go_ret2
    refine ⟨w1.heap.size, w.heap.size, rfl, ⟨?_, hb.alloc _, by omega, by simpa using h2⟩, hF.alloc _, by omega, by omega⟩
    have := Blk.new w1 [.slice (some ⟨w.heap.size, 0, none⟩) n n, .int .i64 0] 165
    simpa [wrap64] using this

set_option maxRecDepth 200000 in
set_option maxHeartbeats 800000 in
theorem xNew0 (first : Int) (w : World) (h1 : 0 ≤ first) (h2 : first ≤ 65536) :
    Calls Try.prog 67 #[.int .i64 first, .int .i64 0] w fun e w' => ∃ xb, e = .returned (.tuple #[.pointer (some ⟨xb, 0, none⟩), .int .i64 0]) ∧ XRep w' xb [] ⟨first, 0, []⟩ ∧ Fr [] w w' ∧ w.heap.size ≤ xb := by
  have g1 : ¬ first < 0 := by omega
  have g2 : ¬ 65536 < first := by omega
  go_enter Try.func67, Try.ntmps67
  go_wp2_with fail
  go_ret2
  exact ⟨w.heap.size, rfl, ⟨⟨_, Blk.new w _ _, .inl ⟨rfl, rfl, rfl⟩⟩⟩, (Fr.refl _ w).alloc _, Nat.le_refl _⟩

set_option maxRecDepth 200000 in
set_option maxHeartbeats 800000 in
theorem xNew1 (first n : Int) (w : World) (h1 : 0 ≤ first) (h2 : first ≤ 65536) (h3 : 0 < n) (h4 : n ≤ 65536) :
    Calls Try.prog 67 #[.int .i64 first, .int .i64 n] w fun e w' => ∃ xb xl, e = .returned (.tuple #[.pointer (some ⟨xb, 0, none⟩), .int .i64 0]) ∧ XRep w' xb [xl] ⟨first, n, [(first, n)]⟩ ∧ Fr [] w w' ∧ w.heap.size ≤ xb ∧ w.heap.size ≤ xl ∧ xb ≠ xl := by
  have g1 : ¬ first < 0 := by omega
  have g2 : ¬ 65536 < first := by omega
  have g3 : ¬ n < 0 := by omega
  have g4 : ¬ 65536 < n := by omega
  go_enter Try.func67, Try.ntmps67
  go_wp2_with fail
  go_ret2
  refine ⟨w.heap.size, rfl, w.heap.size + 1, ⟨⟨_, (Blk.new w _ _).alloc _, .inr ⟨w.heap.size + 1, 1, [], rfl, rfl, ?_, rfl⟩⟩⟩, ((Fr.refl _ w).alloc _).alloc _, Nat.le_refl _, by omega, by omega⟩
  have := Blk.new (w.alloc (.cells #[.int .i64 first, .int .i64 n, .slice (some ⟨w.heap.size + 1, 0, none⟩) 1 1] 185)) [.int .i64 first, .int .i64 n] 186
  simpa [flat] using this
end Go.Proofs.Ytifillpcphiblaa
