import Derived.Test.YtifillpcphiblaaTwo
import Derived.Test.YtifillpcphiblaaAwake6
namespace Go.Proofs.Ytifillpcphiblaa
open Go Go.Proofs Go.RowKit

set_option maxRecDepth 200000 in
set_option maxHeartbeats 6400000 in
theorem lawHeapKeeps (W Lg a b c d xa xb k v kd : Int) (sv : Value) (cls : List Int) (w : World) (hs : SlArg w sv cls) :
    Calls Try.prog 4 #[.agg #[.int .i64 W, .int .i64 Lg, .int .i64 a, .int .i64 b, .int .i64 c, .int .i64 d, sv], .int .i64 xa, .int .i64 xb, .int .i64 k, .int .i64 v, .int .i64 kd] w fun e w' => e = .returned (.bool true) ∧ Fr [] w w' := by
  have hsv : ∃ p cap, sv = .slice p cls.length cap := by
    rcases hs with ⟨e1, e2⟩ | ⟨p, cap, e1, e2⟩ | ⟨p, o, cap, e, _⟩
    · exact ⟨none, 0, by rw [e1, e2]; rfl⟩
    · exact ⟨some p, cap, by rw [e1, e2]; rfl⟩
    · exact ⟨_, cap, e⟩
  obtain ⟨p, cap, rfl⟩ := hsv
  have B0 := Blk.new w [.int .i64 W, .int .i64 Lg, .int .i64 a, .int .i64 b, .int .i64 c, .int .i64 d, .slice p cls.length cap] 24
  have hs0 := hs.fr ((Fr.refl [] w).alloc (.cells #[.int .i64 W, .int .i64 Lg, .int .i64 a, .int .i64 b, .int .i64 c, .int .i64 d, .slice p cls.length cap] 24)) (by simp)
  go_enter Try.func4, Try.ntmps4
  go_wp2_with fail
  refine (awake6 _).mono ?_
  rintro e w1 ⟨rfl, hF1⟩
  have B1 := B0.fr hF1 (by simp)
  have hs1 := hs0.fr hF1 (by simp)
  have hF1' : Fr [] w w1 := ((Fr.refl _ w).alloc _).trans hF1
  clear B0 hs0 hF1
  have c0 := B1.cell (i := 0) rfl
  have c1 := B1.cell (i := 1) rfl
  have c2 := B1.cell (i := 2) rfl
  have c3 := B1.cell (i := 3) rfl
  have c4 := B1.cell (i := 4) rfl
  have c5 := B1.cell (i := 5) rfl
  have c6 := B1.cell (i := 6) rfl
  go_wp2_with fail
  refine (refRight W Lg a b c d _ cls _ hs1).mono ?_
  rintro e w2 ⟨rfl, hF2⟩
  have B2 := B1.fr hF2 (by simp)
  have hs2 := hs1.fr hF2 (by simp)
  have hF2' := hF1'.trans hF2
  clear B1 hs1 hF2 c0 c1 c2 c3 c4 c5 c6 hF1'
  have c0 := B2.cell (i := 0) rfl
  have c1 := B2.cell (i := 1) rfl
  have c2 := B2.cell (i := 2) rfl
  have c3 := B2.cell (i := 3) rfl
  have c4 := B2.cell (i := 4) rfl
  have c5 := B2.cell (i := 5) rfl
  have c6 := B2.cell (i := 6) rfl
  by_cases hB' : rightB W Lg cls = false
  · rw [hB']
    clear hB'
    go_wp2_with fail
    go_ret
    exact ⟨rfl, hF2'⟩
  have hB : rightB W Lg cls = true := by simpa using hB'
  clear hB'
  have hR := (rightB_iff _ _ _).1 hB
  rw [hB]
  clear hB
  by_cases g0 : 600 < W
  · go_wp2_with fail
    go_ret
    exact ⟨rfl, hF2'⟩
  by_cases g1 : xa < 1
  · go_wp2_with fail
    go_ret
    exact ⟨rfl, hF2'⟩
  by_cases g2 : 31 < xa
  · go_wp2_with fail
    go_ret
    exact ⟨rfl, hF2'⟩
  by_cases g3 : xb < 1
  · go_wp2_with fail
    go_ret
    exact ⟨rfl, hF2'⟩
  by_cases g4 : 31 < xb
  · go_wp2_with fail
    go_ret
    exact ⟨rfl, hF2'⟩
  by_cases g5 : k < 0
  · go_wp2_with fail
    go_ret
    exact ⟨rfl, hF2'⟩
  by_cases g6 : xa ≤ k
  · go_wp2_with fail
    go_ret
    exact ⟨rfl, hF2'⟩
  by_cases g7 : kd < 0
  · go_wp2_with fail
    go_ret
    exact ⟨rfl, hF2'⟩
  by_cases g8 : 10 < kd
  · go_wp2_with fail
    go_ret
    exact ⟨rfl, hF2'⟩
  have k1 := hR.w1
  have k2 := hR.l1
  have k3 := hR.n1
  obtain ⟨W, rfl⟩ := Int.eq_ofNat_of_zero_le (show 0 ≤ W by omega)
  obtain ⟨Lg, rfl⟩ := Int.eq_ofNat_of_zero_le k2
  obtain ⟨xa, rfl⟩ := Int.eq_ofNat_of_zero_le (show 0 ≤ xa by omega)
  obtain ⟨xb, rfl⟩ := Int.eq_ofNat_of_zero_le (show 0 ≤ xb by omega)
  have hs2' := hs2
  rcases hs2' with ⟨_, e⟩ | ⟨_, _, _, e⟩ | ⟨bb, o, cap', e, hr, hm⟩
  · rw [e] at k3; simp at k3
  · rw [e] at k3; simp at k3
  cases e
  go_wp2_with fail
  refine (hNew W Lg a b c d cls bb o cap _ hR hr).mono ?_
  rintro e w3 ⟨L, rfl, hH3, hF3, hLb⟩
  have hF3' := hF2'.trans hF3
  have hfp : ∀ x ∈ L.fp, w.heap.size ≤ x := by
    intro x hx
    have h1 := hLb x (by simp only [HL.all, List.mem_cons]; exact .inr (.inr hx))
    have h2 := hF2'.size
    omega
  clear B2 hs2 hF3 c0 c1 c2 c3 c4 c5 c6 hF2' hr
  have hp : ∀ w, (binOp .eql 27 (.pointer (some ⟨L.hb, 0, none⟩)) (.pointer none)).run Try.prog w = .ok (.bool false) w := fun _ => by kernel_rfl
  have hI3 := HI.new hR
  have hd1 : Hd 1 xa 3 (HS.new W Lg cls).parity := ⟨by omega, by omega, by simp [HS.new], by simp [HS.new], by omega, by omega, by omega, by omega⟩
  have HR := hid hR
  clear hR
  go_wp2_with fail
  refine (hAllocAny L (HS.new W Lg cls) _ _ 1 3 xa _ hH3 hI3 hd1).mono ?_
  rintro e w4 ⟨hF4, hP4⟩
  have hF4' : Fr [] w w4 := hF3'.step hF4 (fun x hx => .inr (hfp x hx))
  clear hF4 hF3'
  rcases hP4 with ⟨rfl, hH4⟩ | ⟨q1, p1, s1, A1, z1, rfl, hH4, K1⟩
  · have hd2 : Hd 1 xb 4 (HS.new W Lg cls).parity := ⟨by omega, by omega, by simp [HS.new], by simp [HS.new], by omega, by omega, by omega, by omega⟩
    go_wp2_with fail
    refine (hAllocAny L (HS.new W Lg cls) _ _ 1 4 xb _ hH4 hI3 hd2).mono ?_
    rintro e w5 ⟨hF5, hP5⟩
    have hF5' : Fr [] w w5 := hF4'.step hF5 (fun x hx => .inr (hfp x hx))
    rcases hP5 with ⟨rfl, hH5⟩ | ⟨q2, p2, s2, A2, z2, rfl, hH5, K2⟩
    · go_wp2_with fail
      go_ret
      exact ⟨rfl, hF5'⟩
    · go_wp2_with fail
      go_ret
      exact ⟨rfl, hF5'⟩
  have hpar : s1.parity = 0 := K1.parity
  have hd2 : Hd 1 xb 4 s1.parity := ⟨by omega, by omega, by omega, by omega, by omega, by omega, by omega, by omega⟩
  have hI4 := K1.hi
  have HK1 := hid K1
  have Hpar := hid hpar
  clear K1 hpar
  go_wp2_with fail
  refine (hAllocAny L s1 A1 z1 1 4 xb _ hH4 hI4 hd2).mono ?_
  rintro e w5 ⟨hF5, hP5⟩
  have hF5' : Fr [] w w5 := hF4'.step hF5 (fun x hx => .inr (hfp x hx))
  clear hF5 hF4'
  rcases hP5 with ⟨rfl, hH5⟩ | ⟨q2, p2, s2, A2, z2, rfl, hH5, K2⟩
  · go_wp2_with fail
    go_ret
    exact ⟨rfl, hF5'⟩
  have hT := Two.mk2 HK1.out K2 (fun _ => rfl)
  rw [Hpar.out] at hT
  clear HK1 Hpar K2 hI4 hd2 hd1 hI3 hH3 hH4
  have hdx : Hd 1 xa 3 0 := ⟨by omega, by omega, by omega, by omega, by omega, by omega, by omega, by omega⟩
  have hdy : Hd 1 xb 4 0 := ⟨by omega, by omega, by omega, by omega, by omega, by omega, by omega, by omega⟩
  have hdz : Hd kd xa 9 0 := ⟨by omega, by omega, by omega, by omega, by omega, by omega, by omega, by omega⟩
  have Hdx := hid hdx
  have Hdy := hid hdy
  have Hdz := hid hdz
  clear hdx hdy hdz
  have hpar : (HS.new W Lg cls).parity = 0 := rfl
  rw [hpar] at hT
  clear hpar
  have hH5 := hH5
  have hT := hid hT
  go_wp2_with fail
  refine (hSet L s2 p1 1 xa 3 0 k v _ hH5 (by have := hT.out.b1; omega) (by have := hT.out.b1; omega) hT.out.e1 Hdx.out (by omega) (by omega)).mono ?_
  rintro e w6 ⟨rfl, hH6, hF6⟩
  have hF6' : Fr [] w w6 := hF5'.step hF6 (fun x hx => .inr (hfp x (fpaw L x hx)))
  obtain ⟨hT6, hV6⟩ := hT.out.put1 (j := k) (by omega) (by omega) v 2
  obtain ⟨s3, hs3⟩ : ∃ s3, s3 = s2.put (p1 + 3 + k) v 2 := ⟨_, rfl⟩
  rw [← hs3] at hH6 hT6 hV6
  have HT6 := hid hT6
  have HV6 := hid hV6
  clear hT hT6 hV6 hs3 hF6 hF5' hH5
  go_wp2_with fail
  go_loopw [19] (fun i wr => ∃ j : Nat, j ≤ xb ∧ i = .int .i64 j ∧ (∃ s', HRep wr L s' ∧ Hid (Two s' p1 p2 (packed 1 xa 3 0) (packed 1 xb 4 0) xa xb) ∧ Hid (gw s'.ws (p1 + 3 + k) = v)) ∧ Fr [] w wr) (fun i _ => xb - (intOf i).toNat)
  case atStart => exact ⟨0, Nat.zero_le _, rfl, ⟨s3, hH6, HT6, HV6⟩, hF6'⟩
  case round =>
    obtain ⟨j, hj, rfl, ⟨s4, hHr, hTr, hVr⟩, hFr⟩ := hrel
    by_cases hlt : j < xb
    · go_wp2_with fail
      refine (hSet L s4 p2 1 xb 4 0 j _ _ hHr (by have := hTr.out.b2; omega) (by have := hTr.out.b2; omega) hTr.out.e2 Hdy.out (by omega) (by omega)).mono ?_
      rintro e w7 ⟨rfl, hH7, hF7⟩
      have hF7' : Fr [] w w7 := hFr.step hF7 (fun x hx => .inr (hfp x (fpaw L x hx)))
      go_wp2_with fail
      go_roundw
      case rel =>
        obtain ⟨hT8, hV8⟩ := hTr.out.put2 (j := j) (by omega) (by omega) (wrap64 (j - v)) 2
        exact ⟨j + 1, by omega, by go_num, ⟨_, hH7, hT8, (hV8 k (by omega) (by omega)).trans hVr.out⟩, hF7'⟩
      case measure => simp [intOf]; omega
    · go_wp2_with fail
      refine (hBecome L s4 p1 1 xa 3 0 kd 9 _ hHr (by have := hTr.out.b1; omega) (by have := hTr.out.b1; omega) hTr.out.e1 Hdx.out Hdz.out).mono ?_
      rintro e w7 ⟨rfl, hH7, hF7⟩
      have hF7' : Fr [] w w7 := hFr.step hF7 (fun x hx => .inr (hfp x (fpaw L x hx)))
      obtain ⟨hT7, hV7⟩ := hTr.out.head (packed kd xa 9 0) 2
      have HV7 := hid ((hV7 k (by omega) (by omega)).trans hVr.out)
      obtain ⟨s5, hs5⟩ : ∃ s5, s5 = s4.put p1 (packed kd xa 9 0) 2 := ⟨_, rfl⟩
      rw [← hs5] at hH7 hT7 HV7
      have HT7 := hid hT7
      clear hT7 hV7 hs5 hF7 hFr hHr hTr hVr
      go_wp2_with fail
      refine (hSetRange L s5 p1 kd xa 9 0 xa 1 _ hH7 (by have := HT7.out.b1; omega) (by have := HT7.out.b1; omega) HT7.out.e1 Hdz.out (by omega)).mono ?_
      rintro e w8 ⟨rfl, hH8, hF8⟩
      have hF8' : Fr [] w w8 := hF7'.step hF8 (fun x hx => .inr (hfp x (fpab L x hx)))
      clear hF8 hF7' hH7
      go_wp2_with fail
      refine (hSetRange L _ p1 kd xa 9 0 (-1) 1 _ hH8 (by have := HT7.out.b1; omega) (by have := (HT7.out.tick 1).b1; omega) (HT7.out.tick 1).e1 Hdz.out (by omega)).mono ?_
      rintro e w9 ⟨rfl, hH9, hF9⟩
      have hF9' : Fr [] w w9 := hF8'.step hF9 (fun x hx => .inr (hfp x (fpab L x hx)))
      clear hF9 hF8' hH8
      go_wp2_with fail
      refine (hCell L _ p1 kd xa 9 0 _ hH9 (by have := HT7.out.b1; omega) (by have := ((HT7.out.tick 1).tick 1).b1; omega) ((HT7.out.tick 1).tick 1).e1 Hdz.out).mono ?_
      rintro e w10 ⟨rfl, hH10, hF10⟩
      have hF10' : Fr [] w w10 := hF9'.step hF10 (fun x hx => .inr (hfp x (fpab L x hx)))
      clear hF10 hF9' hH9
      have hn10 := new_apart hH10
      have B11 := Blk.new w10 [.int .i64 kd, .int .i64 xa, .int .i64 9, .int .i64 0] 40
      have hH11 := hH10.alloc (.cells #[.int .i64 kd, .int .i64 xa, .int .i64 9, .int .i64 0] 40)
      have hF11' := hF10'.alloc (.cells #[.int .i64 kd, .int .i64 xa, .int .i64 9, .int .i64 0] 40)
      have hne11 : w10.heap.size ∉ L.all := hn10
      have hnab : w10.heap.size ∉ [L.ab] := by
        intro hc
        refine hne11 ?_
        simp only [HL.all, List.mem_cons]
        exact .inr (.inr (fpab L _ hc))
      have HT11 := hid (((HT7.out.tick 1).tick 1).tick 1)
      have HV11 : Hid (gw (((s5.tick 1).tick 1).tick 1).ws (p1 + 3 + k) = v) := HV7.out
      obtain ⟨s6, hs6⟩ : ∃ s6, s6 = ((s5.tick 1).tick 1).tick 1 := ⟨_, rfl⟩
      rw [← hs6] at hH11 HT11 HV11
      clear hs6 hF10' hH10 HV7 HT7 hn10 hne11
      go_wp2_with fail
      refine (hGet L s6 p1 kd xa 9 0 k _ hH11 (by have := HT11.out.b1; omega) (by have := HT11.out.b1; omega) HT11.out.e1 Hdz.out (by omega) (by omega)).mono ?_
      rintro e w12 ⟨rfl, hH12, hF12⟩
      have hF12' : Fr [] w w12 := hF11'.step hF12 (fun x hx => .inr (hfp x (fpab L x hx)))
      have B12 := B11.fr hF12 hnab
      rw [HV11.out]
      clear hF12 hF11' hH11 B11
      go_wp2_with fail
      refine (hCell L _ p2 1 xb 4 0 _ hH12 (by have := HT11.out.b2; omega) (by have := (HT11.out.tick 2).b2; omega) (HT11.out.tick 2).e2 Hdy.out).mono ?_
      rintro e w13 ⟨rfl, hH13, hF13⟩
      have hF13' : Fr [] w w13 := hF12'.step hF13 (fun x hx => .inr (hfp x (fpab L x hx)))
      have B13 := B12.fr hF13 hnab
      have B14 := B13.alloc (.cells #[.int .i64 1, .int .i64 xb, .int .i64 4, .int .i64 0] 40)
      have B15 := Blk.new w13 [.int .i64 1, .int .i64 xb, .int .i64 4, .int .i64 0] 40
      have hF15' := hF13'.alloc (.cells #[.int .i64 1, .int .i64 xb, .int .i64 4, .int .i64 0] 40)
      have u0 := B14.cell (i := 0) rfl
      have u1 := B14.cell (i := 1) rfl
      have u2 := B14.cell (i := 2) rfl
      have v0 := B15.cell (i := 0) rfl
      have v1 := B15.cell (i := 1) rfl
      have v2 := B15.cell (i := 2) rfl
      clear hF13 hF12' hH12 B12 B13
      go_wp2_with fail
      go_ret
      exact ⟨rfl, hF15'⟩
end Go.Proofs.Ytifillpcphiblaa
