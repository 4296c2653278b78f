import Derived.Test.YtklnpooninbogaaGreatDoorTSm
namespace Go.Proofs.YtklnpooninbogaaGreatDoor
open Go Go.Proofs Go.RowKit

set_option maxRecDepth 100000 in
set_option maxHeartbeats 6400000 in
theorem tSameT : ∀ m, TSm m := by
  intro m
  induction m using Nat.strongRecOn with
  | _ m ih =>
    intro m2 a b va vb P P' w hTa hTb
    obtain ⟨sa, rfl, ka⟩ := hTa
    obtain ⟨sb, rfl, kb⟩ := hTb
    obtain ⟨Aa, ca, rfl⟩ := ka.form
    obtain ⟨Ab, cb, rfl⟩ := kb.form
    obtain ⟨Na, hNa⟩ : ∃ N, N = a.ks.length := ⟨_, rfl⟩
    obtain ⟨Nb, hNb⟩ : ∃ N, N = b.ks.length := ⟨_, rfl⟩
    rw [← hNa] at ka ⊢
    rw [← hNb] at kb ⊢
    unfold trAgg
    obtain ⟨W, hW⟩ : ∃ W, W = (w.alloc (.cells #[.int .i64 a.k, .int .i64 a.t, .bool a.f, .int .u64 a.b, .slice Aa Na ca] 38)).alloc (.cells #[.int .i64 b.k, .int .i64 b.t, .bool b.f, .int .u64 b.b, .slice Ab Nb cb] 38) := ⟨_, rfl⟩
    have Ba : Blk W w.heap.size (trCells a.k a.t a.f a.b (.slice Aa Na ca)) 38 := by rw [hW]; exact (Blk.new w _ _).alloc _
    have Bb : Blk W (w.heap.size + 1) (trCells b.k b.t b.f b.b (.slice Ab Nb cb)) 38 := by
      rw [hW]
      have := Blk.new (w.alloc (.cells #[.int .i64 a.k, .int .i64 a.t, .bool a.f, .int .u64 a.b, .slice Aa Na ca] 38)) (trCells b.k b.t b.f b.b (.slice Ab Nb cb)) 38
      rw [World.size_alloc] at this
      exact this
    have hF0 : Fr [] w W := by rw [hW]; exact ((Fr.refl [] w).alloc _).alloc _
    have a0 := Ba.cell (i := 0) rfl
    have a1 := Ba.cell (i := 1) rfl
    have a2 := Ba.cell (i := 2) rfl
    have a3 := Ba.cell (i := 3) rfl
    have a4 := Ba.cell (i := 4) rfl
    have b0 := Bb.cell (i := 0) rfl
    have b1 := Bb.cell (i := 1) rfl
    have b2 := Bb.cell (i := 2) rfl
    have b3 := Bb.cell (i := 3) rfl
    have b4 := Bb.cell (i := 4) rfl
    have hn := num_eq a.f b.f a.b b.b
    have hno : a ≠ b → SamePost a b w (.returned (.bool false)) W := fun h => ⟨by rw [sameB_no h], hF0⟩
    have hcall := tEq m ih m2 a.ks b.ks _ _ P P' W (ka.fr hF0 (by simp)) (kb.fr hF0 (by simp))
    have HC := hid hcall
    have HW := hid hW
    have HF0 := hid hF0
    clear hW ka kb hNa hNb hF0 Ba Bb ih hcall
    by_cases e1 : a.k = b.k
    · have t1 : (a.k == b.k) = true := by simpa using e1
      by_cases e2 : a.t = b.t
      · have t2 : (a.t == b.t) = true := by simpa using e2
        by_cases e3 : a.f = b.f ∧ a.b = b.b
        · have t3 : (a.f == b.f && a.b == b.b) = true := by simp [e3.1, e3.2]
          rw [t3] at hn
          have hres : sameB a b = samL a.ks b.ks := by
            by_cases h : a.ks = b.ks
            · rw [samL_yes h, Tr.eqv e1 e2 e3.1 e3.2 h]; exact sameB_refl _
            · rw [samL_no h]; exact sameB_no (fun e => h (by rw [e]))
          have HR := hid hres
          clear hno e1 e2 e3 hres
          go_enter Tryz.func17, Tryz.ntmps17
          go_upto_region 1 with fail
          rw [← HW.out]
          go_wp2_with fail
          refine HC.out.mono ?_
          rintro e w5 ⟨rfl, hF5⟩
          rw [← HR.out]
          go_wp2_with fail
          go_ret
          exact ⟨rfl, HF0.out.trans hF5⟩
        · have t3 : (a.f == b.f && a.b == b.b) = false := by
            by_cases h : a.f = b.f
            · have h' : ¬ a.b = b.b := fun h' => e3 ⟨h, h'⟩
              simp [h']
            · simp [h]
          rw [t3] at hn
          have fin := hno (fun e => e3 (by rw [e]; exact ⟨rfl, rfl⟩))
          have HFIN := hid fin
          clear hno fin e1 e2 e3
          go_enter Tryz.func17, Tryz.ntmps17
          go_upto_region 1 with fail
          rw [← HW.out]
          go_wp2_with fail
          go_ret
          exact HFIN.out
      · have t2 : (a.t == b.t) = false := by simpa using e2
        have fin := hno (fun e => e2 (by rw [e]))
        have HFIN := hid fin
        clear hno fin e1 e2 hn
        go_enter Tryz.func17, Tryz.ntmps17
        go_upto_region 1 with fail
        rw [← HW.out]
        go_wp2_with fail
        go_ret
        exact HFIN.out
    · have t1 : (a.k == b.k) = false := by simpa using e1
      have fin := hno (fun e => e1 (by rw [e]))
      have HFIN := hid fin
      clear hno fin e1 hn
      go_enter Tryz.func17, Tryz.ntmps17
      go_upto_region 1 with fail
      rw [← HW.out]
      go_wp2_with fail
      go_ret
      exact HFIN.out
end Go.Proofs.YtklnpooninbogaaGreatDoor
