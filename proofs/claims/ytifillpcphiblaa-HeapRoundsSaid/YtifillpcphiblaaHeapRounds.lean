import Derived.Test.YtifillpcphiblaaAwake6
namespace Go.Proofs.Ytifillpcphiblaa
open Go Go.Proofs Go.RowKit

theorem Inc_bound {last : Int} {l : List Int} (h : Inc last l) (h0 : 0 ≤ last) : ∀ c ∈ l, 0 ≤ c ∧ c ≤ 24 := by
  induction l generalizing last with
  | nil => simp
  | cons n r ih =>
    obtain ⟨h1, h2, h3⟩ := h
    intro c hc
    rcases List.mem_cons.1 hc with rfl | hc
    · exact ⟨by omega, h2⟩
    · exact ih h3 (by omega) c hc

theorem ixGe_nil (s : Int) : ixGe [] s = -1 := rfl
theorem roundV_nil (s : Int) : roundV [] s = s + 3 := by simp [roundV, ixGe_nil]
theorem roundV_cons (x : Int) (r : List Int) (s : Int) : roundV (x :: r) s = if s ≤ x then x + 3 else roundV r s := by
  by_cases h : s ≤ x
  · have : ixGe (x :: r) s = 0 := by simp [ixGe, List.findIdx?_cons, h]
    simp [roundV, this, h]
  · rw [if_neg h]
    rcases ixGe_cases r s with e | ⟨k, hk, e, y, hy, hs⟩
    · have : ixGe (x :: r) s = -1 := by
        unfold ixGe at e ⊢
        rw [List.findIdx?_cons]
        simp only [h, decide_false, Bool.false_eq_true, if_false]
        cases hf : List.findIdx? (fun n => decide (s ≤ n)) r with
        | none => rfl
        | some j => rw [hf] at e; simp at e
      rw [roundV_large this, roundV_large e]
    · have : ixGe (x :: r) s = ((k + 1 : Nat) : Int) := by
        unfold ixGe at e ⊢
        rw [List.findIdx?_cons]
        simp only [h, decide_false, Bool.false_eq_true, if_false]
        cases hf : List.findIdx? (fun n => decide (s ≤ n)) r with
        | none => rw [hf] at e; simp at e; try omega
        | some j => rw [hf] at e; simp at e ⊢; exact e
      rw [roundV_small this (by simpa using hy), roundV_small e hy]
theorem roundV_ge (l : List Int) (s : Int) : s + 3 ≤ roundV l s := by
  induction l with
  | nil => rw [roundV_nil]; omega
  | cons x r ih => rw [roundV_cons]; split <;> omega
theorem roundV_mono {last : Int} (l : List Int) (h : Inc last l) (s : Int) : roundV l s ≤ roundV l (s + 1) := by
  induction l generalizing last with
  | nil => rw [roundV_nil, roundV_nil]; omega
  | cons x r ih =>
    obtain ⟨_, _, h3⟩ := h
    rw [roundV_cons, roundV_cons]
    have := ih h3
    have g := roundV_ge r (s + 1)
    split <;> split <;> omega

set_option maxRecDepth 200000 in
set_option maxHeartbeats 3200000 in
theorem lawHeapRounds (W Lg a b c d size : Int) (sv : Value) (cls : List Int) (w : World) (hs : SlArg w sv cls) :
    Calls Try.prog 3 #[.agg #[.int .i64 W, .int .i64 Lg, .int .i64 a, .int .i64 b, .int .i64 c, .int .i64 d, sv], .int .i64 size] w fun e w' => e = .returned (.bool true) ∧ Fr [] w w' := by
  have hsv : ∃ p cap, sv = .slice p cls.length cap := by
    rcases hs with ⟨e1, e2⟩ | ⟨p, cap, e1, e2⟩ | ⟨p, o, cap, e, _⟩
    · exact ⟨none, 0, by rw [e1, e2]; rfl⟩
    · exact ⟨some p, cap, by rw [e1, e2]; rfl⟩
    · exact ⟨_, cap, e⟩
  obtain ⟨p, cap, rfl⟩ := hsv
  have B0 := Blk.new w [.int .i64 W, .int .i64 Lg, .int .i64 a, .int .i64 b, .int .i64 c, .int .i64 d, .slice p cls.length cap] 24
  have hs0 := hs.fr ((Fr.refl [] w).alloc (.cells #[.int .i64 W, .int .i64 Lg, .int .i64 a, .int .i64 b, .int .i64 c, .int .i64 d, .slice p cls.length cap] 24)) (by simp)
  go_enter Try.func3, Try.ntmps3
  go_wp2_with fail
  refine (awake6 _).mono ?_
  rintro e w1 ⟨rfl, hF1⟩
  have B1 := B0.fr hF1 (by simp)
  have hs1 := hs0.fr hF1 (by simp)
  have hF1' : Fr [] w w1 := ((Fr.refl _ w).alloc _).trans hF1
  clear B0 hs0 hF1
  have c0 := B1.cell (i := 0) rfl
  have c1 := B1.cell (i := 1) rfl
  have c2 := B1.cell (i := 2) rfl
  have c3 := B1.cell (i := 3) rfl
  have c4 := B1.cell (i := 4) rfl
  have c5 := B1.cell (i := 5) rfl
  have c6 := B1.cell (i := 6) rfl
  by_cases g1 : 300 < W
  · go_wp2_with fail
    go_ret
    exact ⟨rfl, hF1'⟩
  go_wp2_with fail
  refine (refRight W Lg a b c d _ cls _ hs1).mono ?_
  rintro e w2 ⟨rfl, hF2⟩
  have B2 := B1.fr hF2 (by simp)
  have hs2 := hs1.fr hF2 (by simp)
  have hF2' := hF1'.trans hF2
  clear B1 hs1 hF2 c0 c1 c2 c3 c4 c5 c6 hF1'
  by_cases hB' : rightB W Lg cls = false
  · rw [hB']
    clear hB'
    go_wp2_with fail
    go_ret
    exact ⟨rfl, hF2'⟩
  have hB : rightB W Lg cls = true := by simpa using hB'
  clear hB'
  have hR := (rightB_iff _ _ _).1 hB
  rw [hB]
  clear hB
  by_cases g2 : size < 0
  · go_wp2_with fail
    go_ret
    exact ⟨rfl, hF2'⟩
  by_cases g3 : 1000 < size
  · go_wp2_with fail
    go_ret
    exact ⟨rfl, hF2'⟩
  have c0 := B2.cell (i := 0) rfl
  have c1 := B2.cell (i := 1) rfl
  have c2 := B2.cell (i := 2) rfl
  have c3 := B2.cell (i := 3) rfl
  have c4 := B2.cell (i := 4) rfl
  have c5 := B2.cell (i := 5) rfl
  have c6 := B2.cell (i := 6) rfl
  have k1 := hR.w1
  have k2 := hR.l1
  have k3 := hR.n1
  obtain ⟨W, rfl⟩ := Int.eq_ofNat_of_zero_le (show 0 ≤ W by omega)
  obtain ⟨Lg, rfl⟩ := Int.eq_ofNat_of_zero_le k2
  have hs2' := hs2
  rcases hs2' with ⟨_, e⟩ | ⟨_, _, _, e⟩ | ⟨bb, o, cap', e, hr, hm⟩
  · rw [e] at k3; simp at k3
  · rw [e] at k3; simp at k3
  cases e
  go_wp2_with fail
  refine (hNew W Lg a b c d cls bb o cap _ hR hr).mono ?_
  rintro e w3 ⟨L, rfl, hH3, hF3, hLb⟩
  have B3 := B2.fr hF3 (by simp)
  have hs3 := hs2.fr hF3 (by simp)
  have hF3' := hF2'.trans hF3
  clear B2 hs2 hF3 c0 c1 c2 c3 c4 c5 c6 hF2' hr
  have hp : ∀ w, (binOp .eql 27 (.pointer (some ⟨L.hb, 0, none⟩)) (.pointer none)).run Try.prog w = .ok (.bool false) w := fun _ => by kernel_rfl
  have c0 := B3.cell (i := 0) rfl
  have c1 := B3.cell (i := 1) rfl
  have c2 := B3.cell (i := 2) rfl
  have c3 := B3.cell (i := 3) rfl
  have c4 := B3.cell (i := 4) rfl
  have c5 := B3.cell (i := 5) rfl
  have c6 := B3.cell (i := 6) rfl
  have hcl : (HS.new W Lg cls).cls = cls := rfl
  have k4 := hR.n2
  have lB := B3.lt
  have hF0 := (Fr.refl [] w3).drew
  have hbd := Inc_bound hR.inc (by decide)
  have hmo := roundV_mono cls hR.inc size
  have hge := roundV_ge cls size
  have hsum : IntKind.i64.wrap (size + 1) = size + 1 := by rw [IntKind.wrap_i64]; omega
  have hsum3 : IntKind.i64.wrap (size + 3) = size + 3 := by rw [IntKind.wrap_i64]; omega
  go_wp2_with fail
  go_region_held3 (fun w' => (w'.cell? ⟨w.heap.size, 0, none⟩ = some (.int .i64 W) ∧ w'.cell? ⟨w.heap.size, 1, none⟩ = some (.int .i64 Lg) ∧ w'.cell? ⟨w.heap.size, 2, none⟩ = some (.int .i64 a) ∧ w'.cell? ⟨w.heap.size, 3, none⟩ = some (.int .i64 b) ∧ w'.cell? ⟨w.heap.size, 4, none⟩ = some (.int .i64 c) ∧ w'.cell? ⟨w.heap.size, 5, none⟩ = some (.int .i64 d) ∧ w'.cell? ⟨w.heap.size, 6, none⟩ = some (.slice (some ⟨bb, o, none⟩) cls.length cap)) ∧ HRep w' L (HS.new W Lg cls) ∧ SlArg w' (.slice (some ⟨bb, o, none⟩) cls.length cap) cls)
    (first
      | (exact ⟨⟨c0, c1, c2, c3, c4, c5, c6⟩, hH3.drew, hs3.fr ((Fr.refl [] w3).drew) (by simp)⟩)
      | (exact ⟨⟨(cell_fr hF0 (by simp) lB 0).trans c0, (cell_fr hF0 (by simp) lB 1).trans c1, (cell_fr hF0 (by simp) lB 2).trans c2, (cell_fr hF0 (by simp) lB 3).trans c3, (cell_fr hF0 (by simp) lB 4).trans c4, (cell_fr hF0 (by simp) lB 5).trans c5, (cell_fr hF0 (by simp) lB 6).trans c6⟩, hH4, hs4⟩))
    (first
      | (go_at_call 19; go_split_ands; refine (hRound L (HS.new W Lg cls) _ _ (by assumption) (by omega) (by omega) (by rw [hcl]; exact hbd)).mono ?_; rintro e w4 ⟨rfl, hH4, hF4⟩; have hs4 := SlArg.fr (by assumption) hF4 (by simp); have hF0 := Fr.trans hF0 hF4)
      | (go_at_call 20; go_split_ands; refine (mNew W Lg a b c d _ cls _ hR (by assumption)).mono ?_; rintro e w4 ⟨mb, rfl, hMN, hF4⟩; have hs4 := SlArg.fr (by assumption) hF4 (by simp); have hH4 := HRep.fr (by assumption) hF4 (by simp); have hF0 := Fr.trans hF0 hF4; have hMC : MCls w4 mb cls := (by obtain ⟨mp, rv, fb, h1, _⟩ := hMN.s; exact ⟨_, h1.cell (i := 6) rfl, hs4⟩))
      | (go_at_call 21; refine (mRound mb cls size _ hMC (by omega) (by omega) (by omega) hbd).mono ?_; rintro e w4' ⟨rfl, rfl⟩))
  go_wp2_with fail
  go_ret
  exact ⟨rfl, hF3'.trans hF0⟩
end Go.Proofs.Ytifillpcphiblaa
