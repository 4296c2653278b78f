import Derived.Test.YtifillpcphiblaaWPlays1
import Derived.Deep.RegionHeld3
namespace Go.Proofs.Ytifillpcphiblaa
open Go Go.Proofs Go.RowKit

/-! WeakPlays. -/

set_option maxRecDepth 100000 in
set_option maxHeartbeats 16000000 in
theorem lawWeakPlays (v1 : Value) (xs : List Int) (w : World) (hz : SlArg w v1 xs) :
    Calls Try.prog 9 #[v1] w fun e w' => e = .returned (.bool true) ∧ Fr [] w w' := by
  obtain ⟨p1, c1, rfl⟩ := hz.shape
  go_enter Try.func9, Try.ntmps9
  go_wp2_with fail
  refine (wAwake _).mono ?_
  rintro e w0 ⟨rfl, hF0⟩
  by_cases g60 : (60 : Int) < xs.length
  · go_wp2_with fail
    go_ret
    exact ⟨rfl, hF0⟩
  go_wp2_with fail
  refine (wMade' _).mono ?_
  rintro e w1 ⟨l, p, rfl, h0, hp0⟩
  have g0 : PlI p false 0 := by subst hp0; exact PlI.new
  clear hp0
  go_wp2_with fail
  go_loopw [5, 6] (fun c i wr => ∃ (cb : Bool) (j : Nat) (p : LP), j ≤ xs.length ∧ c = .bool cb ∧ i = .int .i64 j ∧ WR w0 wr l p ∧ PlI p cb j) (fun _ i _ => xs.length - (intOf i).toNat)
  case atStart => exact ⟨false, 0, p, Nat.zero_le _, rfl, rfl, h0, g0⟩
  case round =>
    obtain ⟨cb, j, p4, hj, rfl, rfl, h4, g4⟩ := hrel
    clear h0 g0
    by_cases hjl : j < xs.length
    · obtain ⟨bz, oz, rfl, hrz⟩ := hz.at (by omega)
      obtain ⟨x, hx⟩ : ∃ x, xs[j]? = some x := ⟨_, List.getElem?_eq_getElem hjl⟩
      have q0 : wr.cell? ⟨bz, oz + j, none⟩ = some (.int .i64 x) := (hrz.fr (hF0.trans h4.fr) (by simp)).2 j _ (by simp [hx])
      have gn := g4.n
      have gM := g4.M
      have gS := g4.S
      have rl := g4.len h4
      have c0 := h4.cells.1
      have c1 := h4.cells.2.1
      have c2 := h4.cells.2.2
      clear hx
      by_cases x0 : x.tmod 8 = 0
      · skip
        go_wp2_with fail
        refine (wAdd' w0 _ l p4 h4 (by omega) (by rw [g4.top, g4.edge]; omega) (by omega) (by omega)).mono ?_
        rintro e w5 ⟨rfl, p5, y, h5, d5⟩
        have g5 := g4.add h4 h5 d5
        have r1 := (g5).len h5
        have r2 := h5.wt.alen
        clear c0 c1 c2
        go_wp2_with fail
        refine (wAlike w0 _ l p5 h5 (by have := (g5).n; omega) (g5).R (g5).Q).mono ?_
        rintro e wz ⟨rfl, kz, hz9⟩
        go_wp2_with fail
        go_roundw
        case rel => exact ⟨cb, j + 1, _, by omega, rfl, by go_num, hz9, (g5).tick kz⟩
        case measure => simp [intOf]; omega
      by_cases x1 : x.tmod 8 = 1
      · skip
        go_wp2_with fail
        refine (wAdd' w0 _ l p4 h4 (by omega) (by rw [g4.top, g4.edge]; omega) (by omega) (by omega)).mono ?_
        rintro e w5 ⟨rfl, p5, y, h5, d5⟩
        have g5 := g4.add h4 h5 d5
        have r1 := (g5).len h5
        have r2 := h5.wt.alen
        clear c0 c1 c2
        go_wp2_with fail
        refine (wAlike w0 _ l p5 h5 (by have := (g5).n; omega) (g5).R (g5).Q).mono ?_
        rintro e wz ⟨rfl, kz, hz9⟩
        go_wp2_with fail
        go_roundw
        case rel => exact ⟨cb, j + 1, _, by omega, rfl, by go_num, hz9, (g5).tick kz⟩
        case measure => simp [intOf]; omega
      by_cases x2 : x.tmod 8 = 2
      · skip
        cases cb with
        | false =>
          have g5 := g4.le (Nat.le_succ j)
          have r1 := (g5).len h4
          have r2 := h4.wt.alen
          clear c0 c1 c2
          go_wp2_with fail
          refine (wAlike w0 _ l p4 h4 (by have := (g5).n; omega) (g5).R (g5).Q).mono ?_
          rintro e wz ⟨rfl, kz, hz9⟩
          go_wp2_with fail
          go_roundw
          case rel => exact ⟨false, j + 1, _, by omega, rfl, by go_num, hz9, (g5).tick kz⟩
          case measure => simp [intOf]; omega
        | true =>
          go_wp2_with fail
          refine (wMark w0 _ l p4 (wrap64 (x.tdiv 8)) h4 (by omega) (by omega)).mono ?_
          rintro e w5 ⟨rfl, p5, h5, m5⟩
          have g5 := g4.mark h4 m5
          have r1 := (g5).len h5
          have r2 := h5.wt.alen
          clear c0 c1 c2
          go_wp2_with fail
          refine (wAlike w0 _ l p5 h5 (by have := (g5).n; omega) (g5).R (g5).Q).mono ?_
          rintro e wz ⟨rfl, kz, hz9⟩
          go_wp2_with fail
          go_roundw
          case rel => exact ⟨true, j + 1, _, by omega, rfl, by go_num, hz9, (g5).tick kz⟩
          case measure => simp [intOf]; omega
      by_cases x3 : x.tmod 8 = 3
      · skip
        cases cb with
        | false =>
          have g5 := g4.le (Nat.le_succ j)
          have r1 := (g5).len h4
          have r2 := h4.wt.alen
          clear c0 c1 c2
          go_wp2_with fail
          refine (wAlike w0 _ l p4 h4 (by have := (g5).n; omega) (g5).R (g5).Q).mono ?_
          rintro e wz ⟨rfl, kz, hz9⟩
          go_wp2_with fail
          go_roundw
          case rel => exact ⟨false, j + 1, _, by omega, rfl, by go_num, hz9, (g5).tick kz⟩
          case measure => simp [intOf]; omega
        | true =>
          go_wp2_with fail
          refine (wMark w0 _ l p4 (wrap64 (x.tdiv 8)) h4 (by omega) (by omega)).mono ?_
          rintro e w5 ⟨rfl, p5, h5, m5⟩
          have g5 := g4.mark h4 m5
          have r1 := (g5).len h5
          have r2 := h5.wt.alen
          clear c0 c1 c2
          go_wp2_with fail
          refine (wAlike w0 _ l p5 h5 (by have := (g5).n; omega) (g5).R (g5).Q).mono ?_
          rintro e wz ⟨rfl, kz, hz9⟩
          go_wp2_with fail
          go_roundw
          case rel => exact ⟨true, j + 1, _, by omega, rfl, by go_num, hz9, (g5).tick kz⟩
          case measure => simp [intOf]; omega
      by_cases x4 : x.tmod 8 = 4
      · skip
        cases cb with
        | true =>
          have g5 := g4.le (Nat.le_succ j)
          have r1 := (g5).len h4
          have r2 := h4.wt.alen
          clear c0 c1 c2
          go_wp2_with fail
          refine (wAlike w0 _ l p4 h4 (by have := (g5).n; omega) (g5).R (g5).Q).mono ?_
          rintro e wz ⟨rfl, kz, hz9⟩
          go_wp2_with fail
          go_roundw
          case rel => exact ⟨true, j + 1, _, by omega, rfl, by go_num, hz9, (g5).tick kz⟩
          case measure => simp [intOf]; omega
        | false =>
          obtain ⟨kv, wv, mv, sv, hws⟩ := h4.ws
          have v5 := hws.cell.2.2.2.2.2
          have f5 := hws.vv.frozen 5
          have hu := h4.unmark
          have u0 := hu.cells.1
          clear hws
          go_wp2_with fail
          refine (wHBeginQ w0 _ l _ hu (g4.c0 rfl).2.1).mono ?_
          rintro e w5 ⟨rfl, hQ5, s5, h5, par5, top5, edge5, u5⟩
          have g5 := g4.cycle par5 top5 edge5
          obtain ⟨p5, h5, g5⟩ : ∃ p5, WR w0 w5 l p5 ∧ PlI p5 true (j + 1) := ⟨_, h5, g5⟩
          clear v5 f5 u0 hu par5 top5 edge5 u5
          have r1 := (g5).len h5
          have r2 := h5.wt.alen
          clear c0 c1 c2
          go_wp2_with fail
          refine (wAlike w0 _ l p5 h5 (by have := (g5).n; omega) (g5).R (g5).Q).mono ?_
          rintro e wz ⟨rfl, kz, hz9⟩
          go_wp2_with fail
          go_roundw
          case rel => exact ⟨true, j + 1, _, by omega, rfl, by go_num, hz9, (g5).tick kz⟩
          case measure => simp [intOf]; omega
      by_cases x5 : x.tmod 8 = 5
      · skip
        go_wp2_with fail
        refine (wTBeginQ w0 _ l p4 h4).mono ?_
        rintro e w5 ⟨rfl, hQ5, h5⟩
        have d2 := h5.cells.2.2
        clear c0 c1 c2
        go_wp2_with fail
        refine (wDBegin w0 _ l _ h5 (by show p4.R.length ≤ _; omega)).mono ?_
        rintro e w6 ⟨rfl, h6⟩
        have g6 := g4.begin (t' := { p4.t with walk := p4.t.row, ahead := 0, walking := true })
        obtain ⟨p6, h6, g6⟩ : ∃ p6, WR w0 w6 l p6 ∧ PlI p6 cb (j + 1) := ⟨_, h6, g6⟩
        have c0 := h6.cells.1
        have c1 := h6.cells.2.1
        have c2 := d2
        have r1 := (g6).len h6
        have r2 := h6.wt.alen
        clear c0 c1 c2
        go_wp2_with fail
        refine (wAlike w0 _ l p6 h6 (by have := (g6).n; omega) (g6).R (g6).Q).mono ?_
        rintro e wz ⟨rfl, kz, hz9⟩
        go_wp2_with fail
        go_roundw
        case rel => exact ⟨cb, j + 1, _, by omega, rfl, by go_num, hz9, (g6).tick kz⟩
        case measure => simp [intOf]; omega
      by_cases x6 : x.tmod 8 = 6
      · skip
        have hK := g4.K
        have mk4 := g4.mkd
        have gn6 : p4.n ≤ 60 := by omega
        cases hw : p4.walk with
        | nil =>
          have HW := hid hw
          have hK0 : p4.K = [] := by rw [hK, hw]; rfl
          have HK0 := hid hK0
          clear hw hK hK0 mk4
          go_wp2_with fail
          refine (wStep0Q w0 _ l p4 h4 HW.out).mono ?_
          rintro e w5 ⟨rfl, hQ5, h5⟩
          obtain ⟨kv, wv, mv, sv, hws⟩ := h5.ws
          have hM := hws.row 2 _ _ rfl rfl
          have d2 := hws.cell.2.2.1
          have d5 := hws.cell.2.2.2.2.2
          have lv := World.block_lt_of_cell? _ _ d2
          have nv : l.vb ≠ l.mb := Ne.symm h5.ok.m3
          have H5 := hid h5
          have HM := hid (show w5.drew.ownsRow l.base 3 1 mv p4.M.length (intv p4.M) from hM)
          clear hws hM c0 c1 c2 h5
          go_wp2_with fail
          go_region_held3 (fun w' => w'.cell? ⟨l.vb, 2, none⟩ = some (.pointer (some ⟨l.mb, 0, none⟩)) ∧ w'.cell? ⟨l.vb, 5, none⟩ = some mv)
            (first
              | assumption
              | (with_reducible exact ⟨d2, d5⟩)
              | (with_reducible exact ⟨e2, e5⟩)
              | go_keep)
            (first
              | (go_at_call 46; (with_reducible refine (wDStep0 w0 w5.drew l _ mv H5.out.drew HK0.out).mono ?_); rintro e w6 ⟨rfl, h6, F6⟩; have e2 := (cell_fr (i := 2) F6 (by simpa using nv) lv).trans d2; have e5 := (cell_fr (i := 5) F6 (by simpa using nv) lv).trans d5))
          all_goals
            have g6 := g4.step0 (t' := { p4.t with walking := false }) HW.out
            obtain ⟨p6, h6, g6⟩ : ∃ p6, WR w0 w6 l p6 ∧ PlI p6 cb (j + 1) := ⟨_, h6, g6⟩
            clear d2 d5 e2 e5
            have c0 := h6.cells.1
            have c1 := h6.cells.2.1
            have c2 := h6.cells.2.2
            have r1 := (g6).len h6
            have r2 := h6.wt.alen
            clear c0 c1 c2
            go_wp2_with fail
            refine (wAlike w0 _ l p6 h6 (by have := (g6).n; omega) (g6).R (g6).Q).mono ?_
            rintro e wz ⟨rfl, kz, hz9⟩
            go_wp2_with fail
            go_roundw
            case rel => exact ⟨cb, j + 1, _, by omega, rfl, by go_num, hz9, (g6).tick kz⟩
            case measure => simp [intOf]; omega
        | cons i wk =>
          have hin : i < p4.n := h4.wt.mem (by rw [hw]; simp)
          have HK := hid (g4.K' hw)
          have HW := hid hw
          clear hw hK
          by_cases hm : (p4.ks i).ko.m = p4.s.parity
          · have HIN := hid (show (p4.ks i).o.p ∈ p4.M from (mk4 i hin).1 hm)
            have HM0 := hid hm
            clear hm mk4
            go_wp2_with fail
            refine (wStepKeepQ w0 _ l p4 i wk h4 HW.out HM0.out).mono ?_
            rintro e w5 ⟨rfl, hQ5, t5, h5⟩
            obtain ⟨kv, wv, mv, sv, hws⟩ := h5.ws
            have hM := hws.row 2 _ _ rfl rfl
            have d2 := hws.cell.2.2.1
            have d5 := hws.cell.2.2.2.2.2
            have lv := World.block_lt_of_cell? _ _ d2
            have nv : l.vb ≠ l.mb := Ne.symm h5.ok.m3
            have H5 := hid h5
            have HM := hid (show w5.drew.ownsRow l.base 3 1 mv p4.M.length (intv p4.M) from hM)
            clear hws hM c0 c1 c2 h5
            go_wp2_with fail
            go_region_held3 (fun w' => w'.cell? ⟨l.vb, 2, none⟩ = some (.pointer (some ⟨l.mb, 0, none⟩)) ∧ w'.cell? ⟨l.vb, 5, none⟩ = some mv)
              (first
                | assumption
                | (with_reducible exact ⟨d2, d5⟩)
                | (with_reducible exact ⟨e2, e5⟩)
                | go_keep)
              (first
                | (go_at_call 46; (with_reducible refine (wDStepKeep w0 w5.drew l _ mv _ _ _ H5.out.drew HK.out HM.out (by show p4.M.length ≤ _; omega) (by show p4.R.length ≤ _; omega) (by show p4.Q.length ≤ _; omega) HIN.out).mono ?_); rintro e w6 ⟨rfl, h6, F6⟩; have e2 := (cell_fr (i := 2) F6 (by simpa using nv) lv).trans d2; have e5 := (cell_fr (i := 5) F6 (by simpa using nv) lv).trans d5))
            all_goals
              have g6 := g4.keep (t' := t5) (m := 6) HW.out
              obtain ⟨p6, h6, g6⟩ : ∃ p6, WR w0 w6 l p6 ∧ PlI p6 cb (j + 1) := ⟨_, h6, g6⟩
              clear d2 d5 e2 e5
              have c0 := h6.cells.1
              have c1 := h6.cells.2.1
              have c2 := h6.cells.2.2
              have r1 := (g6).len h6
              have r2 := h6.wt.alen
              clear c0 c1 c2
              go_wp2_with fail
              refine (wAlike w0 _ l p6 h6 (by have := (g6).n; omega) (g6).R (g6).Q).mono ?_
              rintro e wz ⟨rfl, kz, hz9⟩
              go_wp2_with fail
              go_roundw
              case rel => exact ⟨cb, j + 1, _, by omega, rfl, by go_num, hz9, (g6).tick kz⟩
              case measure => simp [intOf]; omega
          · have HIN := hid (show ¬ (p4.ks i).o.p ∈ p4.M from fun hc => hm ((mk4 i hin).2 hc))
            have HM0 := hid hm
            clear hm mk4
            go_wp2_with fail
            refine (wStepBuryQ w0 _ l p4 i wk h4 HW.out HM0.out).mono ?_
            rintro e w5 ⟨rfl, hQ5, s5, t5, h5, st5⟩
            obtain ⟨kv, wv, mv, sv, hws⟩ := h5.ws
            have hM := hws.row 2 _ _ rfl rfl
            have d2 := hws.cell.2.2.1
            have d5 := hws.cell.2.2.2.2.2
            have lv := World.block_lt_of_cell? _ _ d2
            have nv : l.vb ≠ l.mb := Ne.symm h5.ok.m3
            have H5 := hid h5
            have HM := hid (show w5.drew.ownsRow l.base 3 1 mv p4.M.length (intv p4.M) from hM)
            clear hws hM c0 c1 c2 h5
            go_wp2_with fail
            go_region_held3 (fun w' => w'.cell? ⟨l.vb, 2, none⟩ = some (.pointer (some ⟨l.mb, 0, none⟩)) ∧ w'.cell? ⟨l.vb, 5, none⟩ = some mv)
              (first
                | assumption
                | (with_reducible exact ⟨d2, d5⟩)
                | (with_reducible exact ⟨e2, e5⟩)
                | go_keep)
              (first
                | (go_at_call 46; (with_reducible refine (wDStepBury w0 w5.drew l _ mv _ _ _ H5.out.drew HK.out HM.out (by show p4.M.length ≤ _; omega) (by show p4.R.length ≤ _; omega) (by show p4.Q.length ≤ _; omega) HIN.out).mono ?_); rintro e w6 ⟨rfl, h6, F6⟩; have e2 := (cell_fr (i := 2) F6 (by simpa using nv) lv).trans d2; have e5 := (cell_fr (i := 5) F6 (by simpa using nv) lv).trans d5))
            all_goals
              have g6 := g4.bury (t' := t5) h4 HW.out st5
              obtain ⟨p6, h6, g6⟩ : ∃ p6, WR w0 w6 l p6 ∧ PlI p6 cb (j + 1) := ⟨_, h6, g6⟩
              clear d2 d5 e2 e5
              have c0 := h6.cells.1
              have c1 := h6.cells.2.1
              have c2 := h6.cells.2.2
              have r1 := (g6).len h6
              have r2 := h6.wt.alen
              clear c0 c1 c2
              go_wp2_with fail
              refine (wAlike w0 _ l p6 h6 (by have := (g6).n; omega) (g6).R (g6).Q).mono ?_
              rintro e wz ⟨rfl, kz, hz9⟩
              go_wp2_with fail
              go_roundw
              case rel => exact ⟨cb, j + 1, _, by omega, rfl, by go_num, hz9, (g6).tick kz⟩
              case measure => simp [intOf]; omega
      · skip
        cases hq : p4.queue with
        | nil =>
          have HQ := hid hq
          have hQ0 : p4.Q = [] := by rw [g4.Q, hq]; rfl
          have HQ0 := hid hQ0
          clear hq hQ0
          go_wp2_with fail
          refine (wTake0Q w0 _ l p4 h4 HQ.out).mono ?_
          rintro e w5 ⟨rfl, hQ5, h5⟩
          have d2 := h5.cells.2.2
          clear c0 c1 c2
          go_wp2_with fail
          refine (wDTake0 w0 _ l p4 h5 HQ0.out).mono ?_
          rintro e w6 ⟨rfl, h6⟩
          have g6 := g4.le (Nat.le_succ j)
          have c0 := h6.cells.1
          have c1 := h6.cells.2.1
          have c2 := d2
          have r1 := (g6).len h6
          have r2 := h6.wt.alen
          clear c0 c1 c2
          go_wp2_with fail
          refine (wAlike w0 _ l p4 h6 (by have := (g6).n; omega) (g6).R (g6).Q).mono ?_
          rintro e wz ⟨rfl, kz, hz9⟩
          go_wp2_with fail
          go_roundw
          case rel => exact ⟨cb, j + 1, _, by omega, rfl, by go_num, hz9, (g6).tick kz⟩
          case measure => simp [intOf]; omega
        | cons i qu =>
          have HQ := hid hq
          have HQ1 := hid (g4.Q' hq)
          have hin : i < p4.n := h4.wt.mem (by rw [hq]; simp)
          have fo1 : 1 ≤ (p4.ks i).fo.p := ((h4.wh.ob i hin).pos h4.wh.hi).2.1
          have fo2 : ((p4.ks i).fo.p == 0) = false := by simp; omega
          have fo3 : ((p4.ks i).fo.p != 0) = true := by simp; omega
          clear hq
          go_wp2_with fail
          refine (wTakeQ w0 _ l p4 i qu h4 HQ.out (by omega)).mono ?_
          rintro e w5 ⟨rfl, hQ5, s5, t5, h5, st5, -⟩
          have g6 := g4.take (t' := t5) (a := (p4.ks i).fo.p) (b := p4.s.wd (p4.ks i).o 3) HQ.out st5
          have d2 := h5.cells.2.2
          clear c0 c1 c2
          go_wp2_with fail
          refine (wDTake w0 _ l _ _ _ _ h5 HQ1.out).mono ?_
          rintro e w6 ⟨rfl, h6⟩
          obtain ⟨p6, h6, g6⟩ : ∃ p6, WR w0 w6 l p6 ∧ PlI p6 cb (j + 1) := ⟨_, h6, g6⟩
          have c0 := h6.cells.1
          have c1 := h6.cells.2.1
          have c2 := d2
          have r1 := (g6).len h6
          have r2 := h6.wt.alen
          clear c0 c1 c2
          go_wp2_with fail
          refine (wAlike w0 _ l p6 h6 (by have := (g6).n; omega) (g6).R (g6).Q).mono ?_
          rintro e wz ⟨rfl, kz, hz9⟩
          go_wp2_with fail
          go_roundw
          case rel => exact ⟨cb, j + 1, _, by omega, rfl, by go_num, hz9, (g6).tick kz⟩
          case measure => simp [intOf]; omega
    · skip
      go_wp2_with fail
      go_ret
      exact ⟨rfl, hF0.trans h4.fr⟩
end Go.Proofs.Ytifillpcphiblaa
