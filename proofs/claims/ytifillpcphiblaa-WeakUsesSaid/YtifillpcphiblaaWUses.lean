import Derived.Test.YtifillpcphiblaaWUses0
import Derived.Deep.DeepCutAuto
namespace Go.Proofs.Ytifillpcphiblaa
open Go Go.Proofs Go.RowKit

/-! WeakUses. -/

/-- Weak pointers are added to a heap whose cycle goes on: all their keys are marked. -/
structure U1 (p : LP) (k : Nat) : Prop where
  n : p.n ≤ k
  queue : p.queue = []
  M : p.M.length = p.n
  R : p.R.length = p.n
  par : p.s.parity = 1
  top : p.s.top ≤ 8 + 15 * p.n
  edge : p.s.edge = 3000
  km : ∀ i, i < p.n → (p.ks i).ko.m = 1

theorem U1.add {p p' : LP} {k : Nat} {x : Wk} (h : U1 p k) (d : Added p p' x) : U1 p' (k + 1) := by
  have hn := h.n
  have hM := h.M
  have hR := h.R
  have ht := h.top
  have e1 := d.n
  have e2 := d.top
  refine ⟨by omega, d.queue.trans h.queue, by rw [d.M, d.n]; simp; omega, by rw [d.R, d.n]; simp; omega, d.par.trans h.par, by omega, d.edge.trans h.edge, fun i hi => ?_⟩
  rw [d.ks]
  by_cases e : i = p.n
  · rw [e, upk_same, d.km, d.par, h.par]
  · rw [upk_ne _ _ e]; exact h.km i (by omega)

/-- Ahead of the cycle. -/
structure U0 (p : LP) : Prop where
  n : p.n = 0
  queue : p.queue = []
  M : p.M = []
  R : p.R = []
  par : p.s.parity = 0
  top : p.s.top ≤ 8
  edge : p.s.edge = 3000
  nofg : NoFG p.A
theorem U0.new : U0 (LP.new ks0) := ⟨rfl, rfl, rfl, rfl, rfl, by show (1 : Int) ≤ 8; decide, by show ((3000 : Nat) : Int) - ((0 : Nat) : Int) = 3000; decide, fun q => ⟨rfl, rfl⟩⟩
theorem U0.fst {p : LP} (h : Fst (LP.new ks0) p) : U0 p :=
  have g := U0.new
  ⟨h.n.trans g.n, h.queue.trans g.queue, h.M.trans g.M, h.R.trans g.R, h.par.trans g.par, by have := h.top; have : (LP.new ks0).s.top = 1 := rfl; omega, h.edge.trans g.edge, h.nofg g.nofg⟩

theorem diff6 (u : Int) : wrap64 (wrap64 (u + 6) - wrap64 u) = 6 := by unfold wrap64; omega
theorem diff0 (u : Int) : wrap64 (wrap64 u - wrap64 u) = 0 := by unfold wrap64; omega

/-- What a call that is counted leaves. -/
structure Cnt (p p' : LP) (d : Int) : Prop where
  n : p'.n = p.n
  queue : p'.queue = p.queue
  M : p'.M = p.M
  R : p'.R = p.R
  par : p'.s.parity = p.s.parity
  top : p'.s.top = p.s.top
  edge : p'.s.edge = p.s.edge
  ks : p'.ks = p.ks
  u : p'.s.u = p.s.u + d
theorem U1.cnt {p p' : LP} {k : Nat} {d : Int} (h : U1 p k) (c : Cnt p p' d) : U1 p' (k + 1) :=
  ⟨by rw [c.n]; exact Nat.le_succ_of_le h.n, c.queue.trans h.queue, by rw [c.M, c.n]; exact h.M, by rw [c.R, c.n]; exact h.R, c.par.trans h.par, by rw [c.top, c.n]; exact h.top, c.edge.trans h.edge, by rw [c.n, c.ks]; exact h.km⟩

theorem wStepU (w0 w : World) (l : LL) (p : LP) (k : Nat) (h : WR w0 w l p) (g : U1 p k) :
    Calls Try.prog 40 #[.pointer (some ⟨l.tb, 0, none⟩)] w fun e w' => (∃ a b c, e = .returned (.tuple #[.int .i64 a, .bool b, .bool c])) ∧ ∃ p' d, (d = 0 ∨ d = 6) ∧ WR w0 w' l p' ∧ Cnt p p' d := by
  cases hw : p.walk with
  | nil =>
    refine (wStep0Q w0 w l p h hw).mono ?_
    rintro e w' ⟨rfl, -, h'⟩
    exact ⟨⟨_, _, _, rfl⟩, _, 0, .inl rfl, h', ⟨rfl, rfl, rfl, rfl, rfl, rfl, rfl, rfl, (Int.add_zero _).symm⟩⟩
  | cons i wk =>
    have hin : i < p.n := h.wt.mem (by rw [hw]; simp)
    refine (wStepKeepQ w0 w l p i wk h hw ((g.km i hin).trans g.par.symm)).mono ?_
    rintro e w' ⟨rfl, -, t', h'⟩
    exact ⟨⟨_, _, _, rfl⟩, _, 6, .inr rfl, h', ⟨rfl, rfl, rfl, rfl, rfl, rfl, rfl, rfl, rfl⟩⟩

theorem WR.hab {w0 w : World} {l : LL} {p : LP} (h : WR w0 w l p) : w.cell? ⟨l.L.hb, 0, none⟩ = some (.pointer (some ⟨l.L.ab, 0, none⟩)) := h.h.reads.1

set_option maxRecDepth 100000 in
set_option maxHeartbeats 8000000 in
theorem lawWeakUses (v1 : Value) (xs : List Int) (kd sz : Int) (w : World) (hz : SlArg w v1 xs) :
    Calls Try.prog 10 #[v1, .int .i64 kd, .int .i64 sz] w fun e w' => e = .returned (.bool true) ∧ Fr [] w w' := by
  obtain ⟨p1, c1, rfl⟩ := hz.shape
  go_enter Try.func10, Try.ntmps10
  go_wp2_with fail
  refine (wAwake _).mono ?_
  rintro e w0 ⟨rfl, hF0⟩
  by_cases g60 : (60 : Int) < xs.length
  · go_wp2_with fail
    go_ret
    exact ⟨rfl, hF0⟩
  go_wp2_with fail
  refine (wMade' _).mono ?_
  rintro e w1 ⟨l, p, rfl, h0, hp0⟩
  have c0 := h0.cells.1
  have HP0 := hid hp0
  have HL0 : (p.s.ws.length : Int) ≤ p.s.edge ∧ p.s.top + 7 ≤ p.s.edge := by subst hp0; decide +kernel
  have HU0 : U0 p := by subst hp0; exact U0.new
  clear hp0
  go_upto_region 8 with fail
  go_cut [9, 10] (fun at' e wx => ∃ a c : Int, at' = .int .i64 a ∧ e = .int .i64 c ∧ AllocU w0 l p kd sz (.returned (.tuple #[.int .i64 a, .int .i64 c])) wx)
  case first =>
    go_wp2_with fail
    refine (wAllocU w0 _ l p h0 kd sz HL0.2 HL0.1).mono ?_
    rintro e w2 hA
    obtain ⟨a, c, rfl⟩ := hA.form
    have HA := hid hA
    clear hA
    go_wp2_with fail
    go_meet
    case rel => exact ⟨a, c, rfl, rfl, HA.out⟩
  case rest =>
  obtain ⟨a, c, rfl, rfl, hA⟩ := hcut
  have HA := hid hA
  clear hA c0
  go_upto_region 9 with fail
  go_cut [52] (fun c wx => c = .bool false ∧ ∃ p2, WR w0 wx l p2 ∧ U0 p2)
  case first =>
    rcases HA.out with ⟨n, hn, e1, h2⟩ | ⟨o, p2, e1, hsz, hkd, h2, hoIn, f2⟩
    · cases e1
      have hc0 : ¬ (n : Int) = 0 := by omega
      have hc1 : ¬ n = 0 := by omega
      go_wp2_with fail
      go_meet
      case rel => exact ⟨rfl, p, h2, HU0⟩
    · cases e1
      have U2 : U0 p2 := by have f := f2; rw [HP0.out] at f; exact U0.fst f
      have c1 := h2.cells.2.1
      have hol := hoIn.lies h2.wh.hi
      subst hsz hkd
      by_cases h9 : o.k = 9
      · have b9 : (o.k != 9) = false := by rw [h9]; rfl
        clear h9
        by_cases h4 : (o.n : Int) = 4
        · have b4 : ((o.n : Int) != 4) = false := by rw [h4]; rfl
          clear h4
          go_wp2_with fail
          go_meet
          case rel => exact ⟨rfl, p2, h2, U2⟩
        · have h4' : ¬ o.n = 4 := by omega
          have b4 : ((o.n : Int) != 4) = true := by rw [bne_iff_ne]; exact h4
          go_wp2_with fail
          refine (tAddNo l.L p2.s l.tb (shv l.bx) p2.t o _ h2.h h2.t h2.ok.ap.nt hol (.inr h4')).mono ?_
          rintro e w3 ⟨rfl, hH3, hT3, hF3⟩
          go_wp2_with fail
          go_meet
          case rel => exact ⟨rfl, _, h2.ab hF3 hH3, ⟨U2.n, U2.queue, U2.M, U2.R, U2.par, U2.top, U2.edge, U2.nofg⟩⟩
      · have b9 : (o.k != 9) = true := by rw [bne_iff_ne]; exact h9
        go_wp2_with fail
        refine (tAddNo l.L p2.s l.tb (shv l.bx) p2.t o _ h2.h h2.t h2.ok.ap.nt hol (.inl h9)).mono ?_
        rintro e w3 ⟨rfl, hH3, hT3, hF3⟩
        go_wp2_with fail
        go_meet
        case rel => exact ⟨rfl, _, h2.ab hF3 hH3, ⟨U2.n, U2.queue, U2.M, U2.R, U2.par, U2.top, U2.edge, U2.nofg⟩⟩
  case rest =>
    obtain ⟨rfl, p2, h2, g2⟩ := hcut
    clear HA HP0 HL0 HU0 h0
    have c2 := h2.cells.1
    go_wp2_with fail
    refine (wHBegin w0 _ l p2 h2 g2.nofg).mono ?_
    rintro e w3 ⟨rfl, s3, h3, par3, top3, edge3, u3⟩
    obtain ⟨p3, h3, u1⟩ : ∃ p3, WR w0 w3 l p3 ∧ U1 p3 0 := by
      refine ⟨_, h3, ⟨Nat.le_of_eq g2.n, g2.queue, by rw [g2.M, g2.n]; rfl, by rw [g2.R, g2.n]; rfl, by rw [par3, g2.par]; rfl, ?_, edge3.trans g2.edge, fun i hi => ?_⟩⟩
      · show s3.top ≤ 8 + 15 * (p2.n : Int)
        have := g2.top
        omega
      · have hi' : i < p2.n := hi
        rw [g2.n] at hi'
        exact absurd hi' (Nat.not_lt_zero i)
    clear c2 h2 g2 par3 top3 edge3 u3
    go_wp2_with fail
    go_loopw [11] (fun i wr => ∃ (k : Nat) (p : LP), k ≤ xs.length ∧ i = .int .i64 k ∧ WR w0 wr l p ∧ U1 p k) (fun i _ => xs.length - (intOf i).toNat)
    case atStart => exact ⟨0, p3, Nat.zero_le _, rfl, h3, u1⟩
    case round =>
      obtain ⟨j, p4, hj, rfl, h4, g4⟩ := hrel
      clear h3 u1
      by_cases hjl : j < xs.length
      · obtain ⟨bz, oz, rfl, hrz⟩ := hz.at (by omega)
        obtain ⟨x, hx⟩ : ∃ x, xs[j]? = some x := ⟨_, List.getElem?_eq_getElem hjl⟩
        have q0 : wr.cell? ⟨bz, oz + j, none⟩ = some (.int .i64 x) := (hrz.fr (hF0.trans h4.fr) (by simp)).2 j _ (by simp [hx])
        have gn := g4.n
        clear hx
        by_cases x0 : x.tmod 4 = 0
        · go_wp2_with fail
          refine (wAdd' w0 _ l p4 h4 (by omega) (by have := g4.top; rw [g4.edge]; omega) (by rw [g4.M]; omega) (by rw [g4.R]; omega)).mono ?_
          rintro e w5 ⟨rfl, p5, y, h5, d5⟩
          go_wp2_with fail
          go_roundw
          case rel => exact ⟨j + 1, p5, by omega, by go_num, h5, g4.add d5⟩
          case measure => simp [intOf]; omega
        · by_cases x1 : x.tmod 4 = 1
          · have c0 := h4.cells.1
            have c1 := h4.cells.2.1
            have a0 := h4.hab
            go_wp2_with fail
            refine (aUses l.L p4.s _ h4.h).mono ?_
            rintro e w5 ⟨rfl, rfl⟩
            go_wp2_with fail
            refine (wTBeginQ w0 _ l p4 h4).mono ?_
            rintro e w6 ⟨rfl, -, h6⟩
            obtain ⟨p6, h6, k6⟩ : ∃ p6, WR w0 w6 l p6 ∧ Cnt p4 p6 0 := ⟨_, h6, ⟨rfl, rfl, rfl, rfl, rfl, rfl, rfl, rfl, (Int.add_zero _).symm⟩⟩
            have d0 := h6.cells.1
            have b0 := h6.hab
            clear c0 c1 a0
            go_wp2_with fail
            refine (aUses l.L p6.s _ h6.h).mono ?_
            rintro e w7 ⟨rfl, rfl⟩
            rw [k6.u]
            rw [Int.add_zero]
            have hd := diff0 p4.s.u
            go_wp2_with fail
            go_roundw
            case rel => exact ⟨j + 1, p6, by omega, by go_num, h6, g4.cnt k6⟩
            case measure => simp [intOf]; omega
          · by_cases x2 : x.tmod 4 = 2
            · have c0 := h4.cells.1
              have c1 := h4.cells.2.1
              have a0 := h4.hab
              go_wp2_with fail
              refine (aUses l.L p4.s _ h4.h).mono ?_
              rintro e w5 ⟨rfl, rfl⟩
              go_wp2_with fail
              refine (wStepU w0 _ l p4 j h4 g4).mono ?_
              rintro e w6 ⟨⟨a, b, c, rfl⟩, p6, d, hd, h6, k6⟩
              skip
              have d0 := h6.cells.1
              have b0 := h6.hab
              clear c0 c1 a0
              go_wp2_with fail
              refine (aUses l.L p6.s _ h6.h).mono ?_
              rintro e w7 ⟨rfl, rfl⟩
              rw [k6.u]
              have hd' : wrap64 (wrap64 (p4.s.u + d) - wrap64 p4.s.u) = d := by rcases hd with rfl | rfl; (· rw [Int.add_zero]; exact diff0 _); (· exact diff6 _)
              have hd2 : d ≤ 6 := by rcases hd with rfl | rfl <;> decide
              clear hd
              go_wp2_with fail
              go_roundw
              case rel => exact ⟨j + 1, p6, by omega, by go_num, h6, g4.cnt k6⟩
              case measure => simp [intOf]; omega
            · have c0 := h4.cells.1
              have c1 := h4.cells.2.1
              have a0 := h4.hab
              go_wp2_with fail
              refine (aUses l.L p4.s _ h4.h).mono ?_
              rintro e w5 ⟨rfl, rfl⟩
              go_wp2_with fail
              refine (wTake0Q w0 _ l p4 h4 g4.queue).mono ?_
              rintro e w6 ⟨rfl, -, h6⟩
              obtain ⟨p6, h6, k6⟩ : ∃ p6, WR w0 w6 l p6 ∧ Cnt p4 p6 0 := ⟨_, h6, ⟨rfl, rfl, rfl, rfl, rfl, rfl, rfl, rfl, (Int.add_zero _).symm⟩⟩
              have d0 := h6.cells.1
              have b0 := h6.hab
              clear c0 c1 a0
              go_wp2_with fail
              refine (aUses l.L p6.s _ h6.h).mono ?_
              rintro e w7 ⟨rfl, rfl⟩
              rw [k6.u]
              rw [Int.add_zero]
              have hd := diff0 p4.s.u
              go_wp2_with fail
              go_roundw
              case rel => exact ⟨j + 1, p6, by omega, by go_num, h6, g4.cnt k6⟩
              case measure => simp [intOf]; omega
      · obtain ⟨kv, wv, mv, sv, hws⟩ := h4.ws
        have hW := hws.row 1 _ _ rfl rfl
        rw [weaksOf_len] at hW
        obtain ⟨pw, cw, rfl⟩ := own_len hW
        have c1 := hws.cell.2.1
        have c4 := hws.cell.2.2.2.2.1
        have hb2 := h4.bs.2
        have hal := h4.wt.alen
        have hn6 : p4.n ≤ 60000 := by have := g4.n; omega
        have H4 := hid h4
        have ap := h4.ok.ap
        have hv : ∀ {S : List Nat} {A B : World}, Fr S A B → (∀ b ∈ S, b ∈ l.L.fp) → A.cell? ⟨l.vb, 1, none⟩ = some (.pointer (some ⟨l.tb, 0, none⟩)) ∧ A.cell? ⟨l.vb, 4, none⟩ = some (.slice pw p4.n cw) → B.cell? ⟨l.vb, 1, none⟩ = some (.pointer (some ⟨l.tb, 0, none⟩)) ∧ B.cell? ⟨l.vb, 4, none⟩ = some (.slice pw p4.n cw) := fun hf hS ⟨h1, h2⟩ =>
          ⟨(cell_fr hf (fun hc => ap.nv (fpall _ (hS _ hc))) (World.block_lt_of_cell? _ _ h1) 1).trans h1, (cell_fr hf (fun hc => ap.nv (fpall _ (hS _ hc))) (World.block_lt_of_cell? _ _ h2) 4).trans h2⟩
        have HV := hid (⟨c1, c4⟩ : _ ∧ _)
        clear hws hW
        go_wp2_with fail
        go_region_held3 (fun w' => w'.cell? ⟨l.vb, 1, none⟩ = some (.pointer (some ⟨l.tb, 0, none⟩)) ∧ w'.cell? ⟨l.vb, 4, none⟩ = some (.slice pw p4.n cw))
          (first
            | assumption
            | (with_reducible exact ⟨c1, c4⟩)
            | (with_reducible exact ⟨e1, e4⟩)
            | (with_reducible exact ⟨f1, f4⟩)
            | go_keep)
          (first
            | (go_at_call 43; (with_reducible refine (wRow w0 wr.drew l p4 H4.out.drew hn6).mono ?_); rintro e w5 ⟨⟨sv5, rfl, hown5⟩, ⟨k5, h5⟩, hF5⟩; obtain ⟨pp5, cc5, rfl⟩ := own_len hown5; have z5 := hv (Fr.trans ((Fr.refl _ wr).drew) hF5) (fun b hb => fpab l.L b hb) HV.out; have e1 := z5.1; have e4 := z5.2)
            | (go_at_call 42; (with_reducible refine (wQueue w0 _ l _ h5 hn6).mono ?_); rintro e w6 ⟨⟨sv6, rfl, hown6⟩, ⟨k6, h6⟩, hF6⟩; obtain ⟨pp6, cc6, rfl⟩ := own_len hown6; have z6 := hv hF6 (fun b hb => fpab l.L b hb) z5; have f1 := z6.1; have f4 := z6.2))
        all_goals
          clear e1 e4 f1 f4 z5 z6 c1 c4
          go_wp2_with fail
          go_ret
          refine ⟨?_, hF0.trans h6.fr⟩
          simp
          rw [IntKind.wrap_i64]
          omega
end Go.Proofs.Ytifillpcphiblaa
