import Derived.Test.YtifillpcphiblaaWBuries0
namespace Go.Proofs.Ytifillpcphiblaa
open Go Go.Proofs Go.RowKit

/-! WeakBuries. -/

/-- Keys are marked, then a walk goes on. -/
structure B1 (p : LP) (N : Nat) : Prop where
  n : p.n = N
  queue : p.queue = []
  S : p.S = []

theorem B1.marked {p p' : LP} {N : Nat} (h : B1 p N) (m : MarkedP p p') : B1 p' N ∧ p'.pre = p.pre ∧ p'.walk = p.walk ∧ p'.M.length ≤ p.M.length + 1 := by
  rcases m with ⟨m, rfl⟩ | ⟨i, s', A', -, -, -, rfl⟩
  · exact ⟨⟨h.n, h.queue, h.S⟩, rfl, rfl, Nat.le_succ _⟩
  · exact ⟨⟨h.n, h.queue, h.S⟩, rfl, rfl, by show (p.M ++ [_]).length ≤ _; simp⟩

set_option maxRecDepth 100000 in
set_option maxHeartbeats 8000000 in
theorem lawWeakBuries (n : Nat) (v1 : Value) (xs : List Int) (hn : n < 256) (w : World) (hz : SlArg w v1 xs) :
    Calls Try.prog 6 #[.int .u8 n, v1] w fun e w' => e = .returned (.bool true) ∧ Fr [] w w' := by
  obtain ⟨p1, c1, rfl⟩ := hz.shape
  go_enter Try.func6, Try.ntmps6
  go_wp2_with fail
  refine (wAwake _).mono ?_
  rintro e w0 ⟨rfl, hF0⟩
  by_cases g40 : (40 : Int) < xs.length
  · go_wp2_with fail
    go_ret
    exact ⟨rfl, hF0⟩
  go_wp2_with fail
  refine (wMade' _).mono ?_
  rintro e w1 ⟨l, p, rfl, h0, hp0⟩
  have g0 : G1 p 0 := by subst hp0; exact G1.new
  clear hp0
  go_wp2_with fail
  go_loopw [7] (fun i wr => ∃ (k : Nat) (p : LP), (k : Int) ≤ (n : Int) % 12 ∧ i = .int .i64 k ∧ WR w0 wr l p ∧ G1 p k) (fun i _ => 12 - (intOf i).toNat)
  case atStart => exact ⟨0, p, by omega, rfl, h0, g0⟩
  case round =>
    obtain ⟨k, p, hk, rfl, hr, gr⟩ := hrel
    clear h0 g0
    by_cases hlt : (k : Int) < (n : Int) % 12
    · go_wp2_with fail
      refine (wAdd' w0 _ l p hr (by rw [gr.n]; omega) (by rw [gr.top, gr.edge]; omega) (by rw [gr.M]; omega) (by rw [gr.R]; omega)).mono ?_
      rintro e w2 ⟨rfl, p2, x, h2, d2⟩
      go_wp2_with fail
      go_roundw
      case rel => exact ⟨k + 1, p2, by omega, by go_num, h2, gr.add d2⟩
      case measure => simp [intOf]; omega
    · obtain ⟨N, hold⟩ : ∃ N, N = k := ⟨_, rfl⟩
      have hN : N < 12 := by omega
      rw [← hold] at gr
      obtain ⟨kv, wv, mv, sv, hws⟩ := hr.ws
      have v5 := hws.cell.2.2.2.2.2
      have f5 := hws.vv.frozen 5
      have hu := hr.unmark
      have c0 := hu.cells.1
      clear hws
      go_wp2_with fail
      clear hold hk hlt
      refine (wHBeginQ w0 _ l _ hu gr.nofg).mono ?_
      rintro e w3 ⟨rfl, hQ3, s3, h3, par3, top3, edge3, u3⟩
      obtain ⟨p3, h3, b3, pre3, walk3, M3⟩ : ∃ p3, WR w0 w3 l p3 ∧ B1 p3 N ∧ p3.pre = dn 0 N ∧ p3.walk = [] ∧ p3.M.length ≤ 0 :=
        ⟨_, h3, ⟨gr.n, gr.queue, gr.S⟩, gr.pre, gr.walk, Nat.le_refl _⟩
      clear c0 v5 f5 hu hr gr par3 top3 edge3 u3 hQ3
      go_wp2_with fail
      go_loopw [8] (fun i wr => ∃ (k : Nat) (p : LP), k ≤ xs.length ∧ i = .int .i64 k ∧ WR w0 wr l p ∧ B1 p N ∧ p.pre = dn 0 N ∧ p.walk = [] ∧ p.M.length ≤ k) (fun i _ => xs.length - (intOf i).toNat)
      case atStart => exact ⟨0, p3, Nat.zero_le _, rfl, h3, b3, pre3, walk3, M3⟩
      case round =>
        obtain ⟨j, p4, hj, rfl, h4, b4, pre4, walk4, M4⟩ := hrel
        clear h3 b3 pre3 walk3 M3
        have P4 := hid (⟨pre4, walk4⟩ : _ ∧ _)
        clear pre4 walk4
        by_cases hjl : j < xs.length
        · obtain ⟨bz, oz, rfl, hrz⟩ := hz.at (by omega)
          obtain ⟨x, hx⟩ : ∃ x, xs[j]? = some x := ⟨_, List.getElem?_eq_getElem hjl⟩
          have q0 : wr.cell? ⟨bz, oz + j, none⟩ = some (.int .i64 x) := (hrz.fr (hF0.trans h4.fr) (by simp)).2 j _ (by simp [hx])
          clear hx
          go_wp2_with fail
          refine (wMark w0 _ l p4 x h4 (by rw [b4.n]; omega) (by omega)).mono ?_
          rintro e w5 ⟨rfl, p5, h5, m5⟩
          obtain ⟨b5, e1, e2, e3⟩ := b4.marked m5
          clear q0
          go_wp2_with fail
          go_roundw
          case rel => exact ⟨j + 1, p5, by omega, by go_num, h5, b5, e1.trans P4.out.1, e2.trans P4.out.2, by omega⟩
          case measure => simp [intOf]; omega
        · have c4 := h4.cells.2.1
          go_wp2_with fail
          refine (wTBeginQ w0 _ l p4 h4).mono ?_
          rintro e w5 ⟨rfl, hQ5, h5⟩
          obtain ⟨p5, h5, e5⟩ : ∃ p5, WR w0 w5 l p5 ∧ p5.n = N ∧ p5.walk.length = N - 0 ∧ p5.S = [] := ⟨_, h5, b4.n, by show (p4.pre ++ p4.walk).length = _; rw [P4.out.1, P4.out.2]; simp [dn_len], b4.S⟩
          clear c4 b4 P4
          go_wp2_with fail
          go_loopw [9] (fun i wr => ∃ (k : Nat) (p : LP), k ≤ N + 1 ∧ i = .int .i64 k ∧ WR w0 wr l p ∧ p.n = N ∧ p.walk.length = N - k ∧ p.S = []) (fun i _ => N + 1 - (intOf i).toNat)
          case atStart => exact ⟨0, p5, Nat.zero_le _, rfl, h5, e5⟩
          case round =>
            obtain ⟨k, p6, hk, rfl, h6, e6⟩ := hrel
            clear h5 e5
            have E6 := hid e6
            obtain ⟨kv, wv, mv, sv, hws⟩ := h6.ws
            have hW := hws.row 1 _ _ rfl rfl
            rw [weaksOf_len, e6.1] at hW
            obtain ⟨pw, cw, rfl⟩ := own_len hW
            have c0 := hws.cell.1
            have c1 := hws.cell.2.1
            have c4 := hws.cell.2.2.2.2.1
            clear e6
            by_cases hlt : (k : Int) ≤ (N : Int)
            · cases hw : p6.walk with
              | nil =>
                have hkN : k = N := by have := E6.out.2.1; rw [hw] at this; simp at this; omega
                have HW := hid hw
                have e0 : (N : Int) ≤ k := by omega
                clear hw hws hW hkN
                go_wp2_with fail
                refine (wStep0Q w0 _ l p6 h6 HW.out).mono ?_
                rintro e w7 ⟨rfl, hQ7, h7⟩
                obtain ⟨p7, h7, e7⟩ : ∃ p7, WR w0 w7 l p7 ∧ p7.n = N ∧ p7.walk.length = N - (k + 1) ∧ p7.S = [] := ⟨_, h7, E6.out.1, by show 0 = _; omega, E6.out.2.2⟩
                obtain ⟨kv7, wv7, mv7, sv7, hws⟩ := h7.ws
                have hW := hws.row 1 _ _ rfl rfl
                rw [weaksOf_len, e7.1] at hW
                obtain ⟨pw7, cw7, rfl⟩ := own_len hW
                have d4 := hws.cell.2.2.2.2.1
                have E7 := hid e7
                clear c0 c1 c4 hws hW e7
                go_wp2_with fail
                go_roundw
                case rel => exact ⟨k + 1, p7, by omega, by go_num, h7, E7.out⟩
                case measure => simp [intOf]; omega
              | cons i wk =>
                have hlen := E6.out.2.1
                rw [hw] at hlen
                have hkN : (k : Int) < N := by simp at hlen; omega
                have hwl : wk.length = N - (k + 1) := by simp at hlen; omega
                have HW := hid hw
                have HL := hid hwl
                have hin : i < p6.n := h6.wt.mem (by rw [hw]; simp)
                rw [E6.out.1] at hin
                clear hw hws hW hlen hwl
                by_cases hm : (p6.ks i).ko.m = p6.s.parity
                · have HM := hid hm
                  clear hm
                  go_wp2_with fail
                  refine (wStepKeepQ w0 _ l p6 i wk h6 HW.out HM.out).mono ?_
                  rintro e w7 ⟨rfl, hQ7, t7, h7⟩
                  obtain ⟨p7, h7, e7⟩ : ∃ p7, WR w0 w7 l p7 ∧ p7.n = N ∧ p7.walk.length = N - (k + 1) ∧ p7.S = [] := ⟨_, h7, E6.out.1, HL.out, E6.out.2.2⟩
                  obtain ⟨kv7, wv7, mv7, sv7, hws⟩ := h7.ws
                  have hW := hws.row 1 _ _ rfl rfl
                  rw [weaksOf_len, e7.1] at hW
                  obtain ⟨pw7, cw7, rfl⟩ := own_len hW
                  have d4 := hws.cell.2.2.2.2.1
                  have E7 := hid e7
                  clear c0 c1 c4 hws hW e7
                  go_wp2_with fail
                  go_roundw
                  case rel => exact ⟨k + 1, p7, by omega, by go_num, h7, E7.out⟩
                  case measure => simp [intOf]; omega
                · have HM := hid hm
                  clear hm
                  go_wp2_with fail
                  refine (wStepBuryQ w0 _ l p6 i wk h6 HW.out HM.out).mono ?_
                  rintro e w7 ⟨rfl, hQ7, s7, t7, h7, st7⟩
                  obtain ⟨p7, h7, e7⟩ : ∃ p7, WR w0 w7 l p7 ∧ p7.n = N ∧ p7.walk.length = N - (k + 1) ∧ p7.S = [] ∧ i ∈ p7.queue := ⟨_, h7, E6.out.1, HL.out, E6.out.2.2, by show i ∈ p6.queue ++ [i]; simp⟩
                  obtain ⟨kv7, wv7, mv7, sv7, hws⟩ := h7.ws
                  have hW := hws.row 1 _ _ rfl rfl
                  rw [weaksOf_len, e7.1] at hW
                  obtain ⟨pw7, cw7, rfl⟩ := own_len hW
                  obtain ⟨gw7, rfl, hcell⟩ := own_cell hW (by omega)
                  have d4 := hws.cell.2.2.2.2.1
                  have d0 := hws.cell.1
                  have qi := hcell i (.int .i64 (p7.ks i).o.p) (by simp only [intv, List.getElem?_map, weaksOf_get hin]; rfl)
                  obtain ⟨-, q10, q0, q1, q2⟩ := h7.wt.que i e7.2.2.2
                  have E7 := hid e7
                  have Q7 := hid (⟨q10, q0, q1, q2⟩ : _ ∧ _ ∧ _ ∧ _)
                  have hi7 : i < p7.n := by rw [e7.1]; exact hin
                  have HI7 := hid hi7
                  have fo1 : 1 ≤ (p7.ks i).fo.p := ((h7.wh.ob i hi7).pos h7.wh.hi).2.1
                  have hall7 := all_lt h7.h fpab'
                  clear c0 c1 c4 hws hW e7 hcell q10 q0 q1 q2 hi7 st7
                  go_wp2_with fail
                  refine (wCellT w0 _ l p7 i h7 HI7.out Q7.out.1).mono ?_
                  rintro e w8 ⟨rfl, h8, hF8⟩
                  have hl8 : l.L.ab < w8.heap.size := all_lt h8.h fpab'
                  have C8 := Blk.new w8 [.int .i64 10, .int .i64 4, .int .i64 i, .int .i64 (p7.ks i).o.m] 40
                  have h8' := h8.frnil ((Fr.refl [] w8).alloc (.cells #[.int .i64 10, .int .i64 4, .int .i64 i, .int .i64 (p7.ks i).o.m] 40))
                  have c8 := h8'.cells.1
                  clear d0 d4 qi
                  go_wp2_with fail
                  refine (wGetT w0 _ l _ i 0 0 0 h8' HI7.out (by decide) rfl Q7.out.2.1).mono ?_
                  rintro e w9 ⟨rfl, h9, hF9⟩
                  have C9 := C8.fr hF9 (by simp; omega)
                  have c9 := h9.cells.1
                  clear c8 h8'
                  go_wp2_with fail
                  refine (wGetT w0 _ l _ i 1 1 0 h9 HI7.out (by decide) rfl Q7.out.2.2.1).mono ?_
                  rintro e w10 ⟨rfl, h10, hF10⟩
                  have C10 := C9.fr hF10 (by simp; omega)
                  have c10 := h10.cells.1
                  clear c9
                  go_wp2_with fail
                  refine (wGetT w0 _ l _ i 2 2 (p7.ks i).fo.p h10 HI7.out (by decide) rfl Q7.out.2.2.2).mono ?_
                  rintro e w11 ⟨rfl, h11, hF11⟩
                  have C11 := C10.fr hF11 (by simp; omega)
                  have x0 := C11.cell (i := 0) rfl
                  have x2 := C11.cell (i := 2) rfl
                  obtain ⟨p11, h11, e11⟩ : ∃ p11, WR w0 w11 l p11 ∧ p11.n = N ∧ p11.walk.length = N - (k + 1) ∧ p11.S = [] := ⟨_, h11, E7.out.1, E7.out.2.1, E7.out.2.2.1⟩
                  have E11 := hid e11
                  clear c10 e11
                  go_wp2_with fail
                  go_roundw
                  case rel => exact ⟨k + 1, p11, by omega, by go_num, h11, E11.out⟩
                  case measure => simp [intOf]; omega
            · have hX := XI.start h6 E6.out.1 E6.out.2.2
              clear hws hW h6
              go_wp2_with fail
              clear c0 c1 c4 hlt hk E6
              go_loopw [] (fun wr => ∃ (p : LP) (Wl : List Int), XI w0 wr l N p Wl) (fun wr => 2 * N - shl wr l.vb)
              case atStart => exact ⟨p6, _, hX⟩
              case round =>
                obtain ⟨p7, Wl, h7⟩ := hrel
                clear hX
                obtain ⟨kv, wv, mv, sv, K, M, hws⟩ := h7.x.ws
                have c1 := hws.cell.2.1
                cases hq : p7.queue with
                | nil =>
                  have HQ := hid hq
                  clear hq hws
                  go_wp2_with fail
                  refine (wTake0X w0 _ l p7 Wl h7.x HQ.out).mono ?_
                  rintro e w8 ⟨rfl, h8⟩
                  obtain ⟨kv8, wv8, mv8, sv8, K8, M8, hws8⟩ := h8.ws
                  have c8 := hws8.cell.2.1
                  clear c1 hws8
                  go_wp2_with fail
                  refine (wQueue0X w0 _ l p7 Wl h8 HQ.out).mono ?_
                  rintro e w9 ⟨⟨sv9, rfl, hown9⟩, hF9⟩
                  obtain ⟨pp9, cc9, rfl⟩ := own_len hown9
                  clear c8
                  go_wp2_with fail
                  go_ret
                  exact ⟨rfl, hF0.trans hF9⟩
                | cons i qu =>
                  have HQ := hid hq
                  have hS7 := h7.S
                  rw [hq] at hS7
                  simp only [List.length_cons] at hS7
                  have hin : i < p7.n := h7.x.wt.mem (by rw [hq]; simp)
                  have hsh := h7.x.shl
                  have HSH := hid hsh
                  clear hq hws hsh
                  go_wp2_with fail
                  refine (wTakeX w0 _ l p7 Wl i qu h7.x HQ.out (by omega)).mono ?_
                  rintro e w8 ⟨rfl, s8, t8, h8, st8, z2, z3, -⟩
                  obtain ⟨p8, h8, k8, n8, q8, S8, z2, z3⟩ : ∃ p8, WX w0 w8 l p8 Wl ∧ p8.ks = p7.ks ∧ p8.n = p7.n ∧ p8.queue = qu ∧ p8.S = p7.S ++ [(p7.ks i).fo.p] ++ [p7.s.wd (p7.ks i).o 3] ∧ p8.s.wd (p7.ks i).o 2 = 0 ∧ p8.s.wd (p7.ks i).o 3 = 0 := ⟨_, h8, rfl, rfl, rfl, rfl, z2, z3⟩
                  rw [← k8] at S8 z2 z3 ⊢
                  have hin8 : i < p8.n := by rw [n8]; exact hin
                  have hwl : Wl[i]? = some (p8.ks i).o.p := by rw [k8]; exact h7.at_ i (by rw [HQ.out]; simp)
                  have fo1 : 1 ≤ (p8.ks i).fo.p := ((h8.wh.ob i hin8).pos h8.wh.hi).2.1
                  obtain ⟨kv8, wv8, mv8, sv8, K8, M8, hws8⟩ := h8.ws
                  have c8 := hws8.cell.1
                  have Z := hid (⟨z2, z3⟩ : _ ∧ _)
                  have HS8 := hid S8
                  have HK8 := hid k8
                  have HN8 := hid n8
                  have HQ8 := hid q8
                  have HW8 := hid hwl
                  clear c1 hws8 z2 z3 S8 k8 n8 q8 hwl st8
                  go_wp2_with fail
                  refine (wGetX w0 _ l p8 Wl i 2 2 0 h8 hin8 (by decide) rfl Z.out.1).mono ?_
                  rintro e w9 ⟨rfl, h9, hF9⟩
                  obtain ⟨kv9, wv9, mv9, sv9, K9, M9, hws9⟩ := h9.ws
                  have c9 := hws9.cell.1
                  clear c8 hws9
                  go_wp2_with fail
                  refine (wGetX w0 _ l _ Wl i 3 3 0 h9 hin8 (by decide) rfl Z.out.2).mono ?_
                  rintro e w10 ⟨rfl, h10, hF10⟩
                  obtain ⟨p10, h10, k10, n10, q10, S10⟩ : ∃ p10, WX w0 w10 l p10 Wl ∧ p10.ks = p8.ks ∧ p10.n = p8.n ∧ p10.queue = p8.queue ∧ p10.S = p8.S := ⟨_, h10, rfl, rfl, rfl, rfl⟩
                  obtain ⟨kv, wv, mv, sv, K, M, hws⟩ := h10.ws
                  have hSh := hws.sh
                  have hlS : p10.S.length = p7.S.length + 2 := by rw [S10, HS8.out]; simp
                  obtain ⟨m0, hm0⟩ : ∃ m0, m0 = p7.S.length := ⟨_, rfl⟩
                  rw [← hm0] at hlS
                  have hfin : p10.S[m0]? = some (p8.ks i).fo.p := by rw [S10, HS8.out, hm0, List.append_assoc, List.getElem?_append_right (Nat.le_refl _), Nat.sub_self]; rfl
                  obtain ⟨ps, cs, rfl⟩ := own_len hSh
                  obtain ⟨gs, rfl, hcs⟩ := own_cell hSh (by omega)
                  have hW := hws.row 1 _ _ rfl rfl
                  obtain ⟨pw, cw, rfl⟩ := own_len hW
                  have hlen7 := h7.len
                  obtain ⟨gw, rfl, hcw⟩ := own_cell hW (by have := h7.n; omega)
                  have v6 := hws.vv.cell (i := 6) rfl
                  have v4 := hws.vv.cell (i := 4) rfl
                  have fz := (show Blk w10 gw _ _ from (blk_of_own hW).choose_spec).frozen i
                  have qw := hcw i (.int .i64 (p8.ks i).o.p) (by simp [intv, HW8.out])
                  have hb10 : p10.S.length ≤ 100 := by omega
                  have HCS := hid hcs
                  have HFI := hid hfin
                  have HWS := hid hws
                  have K10 := hid (⟨k10, n10, q10, S10⟩ : _ ∧ _ ∧ _ ∧ _)
                  have HM0 := hid hm0
                  have HL7 := hid hlen7
                  clear c9 hws hSh hcs hW hcw hfin k10 n10 q10 S10 hm0 hlen7
                  go_wp2_with fail
                  go_loopw [31, 30] (fun j f wr => ∃ (k : Nat) (b : Bool), k ≤ p10.S.length ∧ j = .int .i64 k ∧ f = .bool b ∧ (m0 < k → b = true) ∧ wr = w10) (fun j _ _ => p10.S.length - (intOf j).toNat)
                  case atStart => exact ⟨0, false, Nat.zero_le _, rfl, rfl, fun h => absurd h (Nat.not_lt_zero _), rfl⟩
                  case round =>
                    obtain ⟨k, b, hk, rfl, rfl, hb, rfl⟩ := hrel
                    by_cases hlt : k < p10.S.length
                    · obtain ⟨x, hx⟩ : ∃ x, p10.S[k]? = some x := ⟨_, List.getElem?_eq_getElem hlt⟩
                      have q0 := HCS.out k (.int .i64 x) (by simp [intv, hx])
                      have HX := hid hx
                      have HB := hid hb
                      clear hx hb
                      cases b with
                      | true =>
                        go_wp2_with fail
                        go_roundw
                        case rel => exact ⟨k + 1, true, by omega, by go_num, rfl, by simp, by simp⟩
                        case measure => simp [intOf]; omega
                      | false =>
                        by_cases hxf : x = (p8.ks i).fo.p
                        · subst hxf
                          go_wp2_with fail
                          go_roundw
                          case rel => exact ⟨k + 1, true, by omega, by go_num, by simp, by simp, by simp⟩
                          case measure => simp [intOf]; omega
                        · go_wp2_with fail
                          go_roundw
                          case rel => exact ⟨k + 1, false, by omega, by go_num, by simp [hxf], fun h => by
                            by_cases e : k = m0
                            · have := HX.out; rw [e, HFI.out] at this; simp at this; exact absurd this.symm hxf
                            · exact HB.out (by omega), by simp⟩
                          case measure => simp [intOf]; omega
                    · obtain rfl : b = true := hb (by omega)
                      clear hb
                      have hiw0 : i < Wl.length := (List.getElem?_eq_some_iff.1 HW8.out).1
                      have hiw1 : (i : Int) < (Wl.length : Int) := by omega
                      have hiw2 : decide (Wl.length ≤ i) = false := by simp; omega
                      have hiw3 : decide ((Wl.length : Int) ≤ (i : Int)) = false := by simp; omega
                      have hfo0 : ((p8.ks i).fo.p == 0) = false := by simp; omega
                      go_wp2_with fail
                      go_roundw
                      case rel =>
                        have hX' := h10.drop (j := i) HWS.out
                        have hnd := h7.x.wt.nd
                        rw [HQ.out] at hnd
                        have hni : i ∉ qu := (List.nodup_cons.1 (List.nodup_append.1 hnd).2.1).1
                        have eS := HM0.out
                        refine ⟨p10, Wl.set i 0, hX', K10.out.2.1.trans (HN8.out.trans h7.n), by rw [List.length_set]; exact HL7.out, fun j hj => ?_, ?_⟩
                        · have hj' : j ∈ qu := by rw [K10.out.2.2.1, HQ8.out] at hj; exact hj
                          have hne : i ≠ j := fun e => hni (e ▸ hj')
                          rw [List.getElem?_set_ne hne, K10.out.1, HK8.out]
                          exact h7.at_ j (by rw [HQ.out]; simp [hj'])
                        · rw [K10.out.2.2.1, HQ8.out]
                          omega
                      case measure =>
                        have hX' := h10.drop (j := i) HWS.out
                        have eS := HM0.out
                        have e1 := hX'.shl
                        have e2 := HSH.out
                        omega
end Go.Proofs.Ytifillpcphiblaa
