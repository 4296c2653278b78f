import Derived.Test.YtifillpcphiblaaWLaw5
import Derived.Deep.RegionHeld3
namespace Go.Proofs.Ytifillpcphiblaa
open Go Go.Proofs Go.RowKit

/-! The law's mark. -/

theorem km_ko (ks : Nat → Wk) (i : Nat) (m : Int) : ∀ j, (upk ks i { ks i with ko := { (ks i).ko with m := m } } j).ko.p = (ks j).ko.p := by
  intro j
  by_cases e : j = i
  · subst e; rw [upk_same]
  · rw [upk_ne _ _ e]
theorem km_o (ks : Nat → Wk) (i : Nat) (m : Int) : ∀ j, (upk ks i { ks i with ko := { (ks i).ko with m := m } } j).o.p = (ks j).o.p := by
  intro j
  by_cases e : j = i
  · subst e; rw [upk_same]
  · rw [upk_ne _ _ e]

/-- What mark leaves. -/
def MarkedP (p p' : LP) : Prop :=
  (∃ m, p' = { p with s := p.s.tick m }) ∨ ∃ i s' A', i < p.n ∧ (p.ks i).ko.m ≠ p.s.parity ∧ Sta p.s s' ∧ p' = { p with s := s', A := A', ks := upk p.ks i { p.ks i with ko := { (p.ks i).ko with m := p.s.parity } }, M := p.M ++ [(p.ks i).o.p] }

theorem wShadeNoF (w0 w : World) (l : LL) (p : LP) (i : Nat) (h : WR w0 w l p) (hi : i < p.n) (hm : (p.ks i).ko.m = p.s.parity) :
    Calls Try.prog 28 #[.pointer (some ⟨l.L.hb, 0, none⟩), .int .i64 (p.ks i).ko.p] w fun e w' => e = .returned (.tuple #[.bool false, .int .i64 0]) ∧ Fr [l.L.ab] w w' ∧ ∃ m, WR w0 w' l { p with s := p.s.tick m } := by
  have gi := h.wh.ob i hi
  have hb := gi.ko.bound h.wh.hi
  have hhd := gi.ko.head
  unfold Ob.word at hhd
  rw [hm] at hhd
  have hd := gi.ko.hd
  rw [hm] at hd
  refine (hShadeNo l.L p.s (p.ks i).ko.p (p.ks i).ko.k (p.ks i).ko.n (p.ks i).ko.a w h.h (by omega) (by omega) hhd hd).mono ?_
  rintro e w' ⟨rfl, hH', hF⟩
  have hT' : TRep w' l.tb l.L.hb (shv l.bx) p.t := Blk.fr h.t hF (fun hc => h.ok.ap.nt (by simp at hc; exact hc ▸ fpab'))
  exact ⟨rfl, hF, _, h.step hF (fun b hb => .inl (by simp at hb; exact hb ▸ fpab')) hH' hT' (h.wh.tick _) (h.wt.tick _) (fun _ _ => ⟨rfl, rfl⟩)⟩

theorem wShadeYesF (w0 w : World) (l : LL) (p : LP) (i : Nat) (h : WR w0 w l p) (hi : i < p.n) (hm : (p.ks i).ko.m ≠ p.s.parity) :
    Calls Try.prog 28 #[.pointer (some ⟨l.L.hb, 0, none⟩), .int .i64 (p.ks i).ko.p] w fun e w' => e = .returned (.tuple #[.bool true, .int .i64 0]) ∧ Fr l.L.fp w w' ∧ ∃ s' A', WR w0 w' l { p with s := s', A := A', ks := upk p.ks i { p.ks i with ko := { (p.ks i).ko with m := p.s.parity } } } ∧ Sta p.s s' := by
  have gi := h.wh.ob i hi
  have hb := gi.ko.bound h.wh.hi
  have hmem : (p.ks i).ko.p ∈ (p.A (p.ks i).ko.q).F := gi.km.resolve_left hm
  obtain ⟨F1, F2, hF12⟩ := List.append_of_mem hmem
  have hd' : Hd (p.ks i).ko.k (p.ks i).ko.n (p.ks i).ko.a p.s.parity := Hd.of gi.ko.hd.k0 gi.ko.hd.k1 h.wh.p0 h.wh.p1 gi.ko.hd.s0 gi.ko.hd.s1 gi.ko.hd.a0 gi.ko.hd.a1
  refine (hShadeAny l.L p.s p.A p.z (p.ks i).ko.q (p.ks i).ko.p (p.ks i).ko.k (p.ks i).ko.n (p.ks i).ko.a (p.ks i).ko.m F1 F2 w h.h h.wh.hi hF12 gi.ko.head gi.ko.hd hd' hm gi.ko.ring).mono ?_
  rintro e w' ⟨rfl, ⟨s', hH', hS'⟩, hF⟩
  obtain ⟨m1, m2⟩ := h.wh.mark hi hF12 hS'
  have hT' : TRep w' l.tb l.L.hb (shv l.bx) p.t := Blk.fr h.t hF (fun hc => h.ok.ap.nt (fpall _ hc))
  have hks : ∀ j, (upk p.ks i { p.ks i with ko := { (p.ks i).ko with m := p.s.parity } } j).o = (p.ks j).o ∧ (upk p.ks i { p.ks i with ko := { (p.ks i).ko with m := p.s.parity } } j).ko.p = (p.ks j).ko.p ∧ (upk p.ks i { p.ks i with ko := { (p.ks i).ko with m := p.s.parity } } j).fo.p = (p.ks j).fo.p := by
    intro j
    by_cases e : j = i
    · subst e; rw [upk_same]; exact ⟨rfl, rfl, rfl⟩
    · rw [upk_ne _ _ e]; exact ⟨rfl, rfl, rfl⟩
  exact ⟨rfl, hF, s', _, h.step hF (fun b hb => .inl (fpall _ hb)) hH' hT' m1 (h.wt.same (Nat.le_refl _) (fun j hj x hx => m2 j (h.wt.mem hj) x hx) (fun j _ => hks j)) (fun j _ => ⟨by rw [(hks j).1], (hks j).2.1⟩), hS'.st⟩

set_option maxRecDepth 100000 in
set_option maxHeartbeats 8000000 in
theorem wMark (w0 w : World) (l : LL) (p : LP) (x : Int) (h : WR w0 w l p) (hn : p.n ≤ 60000) (hM : p.M.length ≤ 60000) :
    Calls Try.prog 38 #[.pointer (some ⟨l.vb, 0, none⟩), .int .i64 x] w fun e w' => e = .returned (.tuple #[]) ∧ ∃ p', WR w0 w' l p' ∧ MarkedP p p' := by
  obtain ⟨kv, wv, mv, sv, hws⟩ := h.ws
  have hW := hws.row 1 _ _ rfl rfl
  rw [weaksOf_len] at hW
  obtain ⟨pw, cw, rfl⟩ := own_len hW
  have hK := hws.row 0 _ _ rfl rfl
  rw [keysOf_len] at hK
  obtain ⟨pk, ck, rfl⟩ := own_len hK
  obtain ⟨pm, cm, rfl⟩ := own_len (hws.row 2 _ _ rfl rfl)
  obtain ⟨n, hnn⟩ : ∃ n, n = p.n := ⟨_, rfl⟩
  rw [← hnn] at hn
  have c0 := hws.cell.1
  have c3 := hws.cell.2.2.2.1
  have c4 := hws.cell.2.2.2.2.1
  have C5 := hid hws.cell.2.2.2.2.2
  rw [← hnn] at c3 c4 hws
  have HSW := hid hws
  have H := hid h
  have HN := hid hnn
  have HW := hid hW
  have HK := hid hK
  clear h hnn hW hK hws
  go_enter Try.func38, Try.ntmps38
  by_cases hz : n = 0
  · subst hz
    go_wp2_with fail
    refine bodyPost_ret (results_none rfl _ _ _) rfl ?_
    exact ⟨rfl, p, H.out, .inl ⟨0, by cases p; simp [HS.tick]⟩⟩
  · have hz1 : 0 < (n : Int) := by omega
    have t1 : x.tmod n < n := Int.tmod_lt_of_pos x hz1
    have t2 : -(n : Int) < x.tmod n := Int.lt_tmod_of_pos x hz1
    have go : ∀ i : Nat, i < n → ∃ gk gw, pk = some ⟨gk, 0, none⟩ ∧ pw = some ⟨gw, 0, none⟩ ∧ w.cell? ⟨gk, i, none⟩ = some (.int .i64 (p.ks i).ko.p) ∧ w.cell? ⟨gw, i, none⟩ = some (.int .i64 (p.ks i).o.p) := by
      intro i hi
      have hin : i < p.n := by rw [← HN.out]; exact hi
      obtain ⟨gk, e1, hk⟩ := own_cell HK.out (by omega)
      obtain ⟨gw, e2, hw⟩ := own_cell HW.out (by omega)
      exact ⟨gk, gw, e1, e2, hk i _ (by simp only [intv, List.getElem?_map, keysOf_get hin]; rfl), hw i _ (by simp only [intv, List.getElem?_map, weaksOf_get hin]; rfl)⟩
    have nab : ∀ {S : List Nat} {w' : World}, Fr S w w' → (∀ b ∈ S, b ∈ l.L.fp) → w'.cell? ⟨l.vb, 0, none⟩ = some (.pointer (some ⟨l.L.hb, 0, none⟩)) ∧ w'.cell? ⟨l.vb, 3, none⟩ = some (.slice pk n ck) ∧ w'.cell? ⟨l.vb, 4, none⟩ = some (.slice pw n cw) ∧ w'.cell? ⟨l.vb, 5, none⟩ = some (.slice pm p.M.length cm) ∧ ∀ i, i < n → ∀ gk gw, pk = some ⟨gk, 0, none⟩ → pw = some ⟨gw, 0, none⟩ → w'.cell? ⟨gk, i, none⟩ = some (.int .i64 (p.ks i).ko.p) ∧ w'.cell? ⟨gw, i, none⟩ = some (.int .i64 (p.ks i).o.p) := by
      intro S w' hf hS
      have ap := H.out.ok.ap
      have hv : l.vb ∉ S := fun hc => ap.nv (fpall _ (hS _ hc))
      have lo : ∀ {v : Value} {xs : List Value} {m : Nat}, w.ownsRow l.base 3 1 v m xs → ∀ g, v.ownBlock = some g → g ∉ S := fun ho g hg hc => by have := (own_lt ho hg).1; have := ap.lb g (fpall _ (hS _ hc)); omega
      refine ⟨(cell_fr hf hv (World.block_lt_of_cell? w _ c0) 0).trans c0, (cell_fr hf hv (World.block_lt_of_cell? w _ c0) 3).trans c3, (cell_fr hf hv (World.block_lt_of_cell? w _ c0) 4).trans c4, (cell_fr hf hv (World.block_lt_of_cell? w _ c0) 5).trans C5.out, fun i hi gk gw e1 e2 => ?_⟩
      obtain ⟨gk', gw', f1, f2, f3, f4⟩ := go i hi
      rw [e1] at f1
      rw [e2] at f2
      cases f1; cases f2
      subst e1 e2
      exact ⟨(cell_fr hf (lo HK.out gk rfl) (World.block_lt_of_cell? w _ f3) i).trans f3, (cell_fr hf (lo HW.out gw rfl) (World.block_lt_of_cell? w _ f4) i).trans f4⟩
    by_cases hneg : x.tmod n < 0
    · go_wp2_with fail
      obtain ⟨i, hi⟩ : ∃ i : Nat, -(x.tmod n) = i := ⟨(-(x.tmod n)).toNat, by omega⟩
      have hin : i < n := by omega
      rw [hi]
      clear hi hneg t1 t2
      obtain ⟨gk, gw, rfl, rfl, q0, q1⟩ := go i hin
      have hin' : i < p.n := by rw [← HN.out]; exact hin
      by_cases hm : (p.ks i).ko.m = p.s.parity
      · have HM' := hid hm
        clear hm
        go_region_held3 (fun w' => w'.cell? ⟨l.vb, 0, none⟩ = some (.pointer (some ⟨l.L.hb, 0, none⟩)) ∧ w'.cell? ⟨l.vb, 3, none⟩ = some (.slice (some ⟨gk, 0, none⟩) n ck) ∧ w'.cell? ⟨gk, i, none⟩ = some (.int .i64 (p.ks i).ko.p))
          (first
            | assumption
            | (with_reducible exact ⟨c0, c3, q0⟩)
            | (with_reducible exact ⟨e0, e3, e5⟩)
            | go_keep)
          (first
            | (go_at_call 28; (with_reducible refine (wShadeNoF w0 w.drew l p i H.out.drew hin' HM'.out).mono ?_); rintro e w1 ⟨rfl, hF1, m, h1⟩; have z0 := nab (Fr.trans ((Fr.refl _ w).drew) hF1) (fun b hb => fpab l.L b hb); have e0 := z0.1; have e3 := z0.2.1; have e5 := (z0.2.2.2.2 i hin gk gw rfl rfl).1))
        all_goals
          clear e0 e3 e5 z0
          go_wp2_with fail
          go_end0
          exact ⟨rfl, _, h1, .inl ⟨m, rfl⟩⟩
      · have HM' := hid hm
        clear hm
        go_region_held3 (fun w' => w'.cell? ⟨l.vb, 0, none⟩ = some (.pointer (some ⟨l.L.hb, 0, none⟩)) ∧ w'.cell? ⟨l.vb, 3, none⟩ = some (.slice (some ⟨gk, 0, none⟩) n ck) ∧ w'.cell? ⟨gk, i, none⟩ = some (.int .i64 (p.ks i).ko.p))
          (first
            | assumption
            | (with_reducible exact ⟨c0, c3, q0⟩)
            | (with_reducible exact ⟨e0, e3, e5⟩)
            | go_keep)
          (first
            | (go_at_call 28; (with_reducible refine (wShadeYesF w0 w.drew l p i H.out.drew hin' HM'.out).mono ?_); rintro e w1 ⟨rfl, hF1, s1, A1, h1, st1⟩; have z0 := nab (Fr.trans ((Fr.refl _ w).drew) hF1) (fun b hb => hb); have e0 := z0.1; have e3 := z0.2.1; have e4 := z0.2.2.1; have e7 := z0.2.2.2.1; have e5 := (z0.2.2.2.2 i hin gk gw rfl rfl).1; have e6 := (z0.2.2.2.2 i hin gk gw rfl rfl).2))
        all_goals
          have F01 : Fr l.L.fp w w1 := Fr.trans ((Fr.refl _ w).drew) hF1
          have ap := H.out.ok.ap
          have hS1 := (HSW.out.fr F01 (fun b hb => ⟨ap.lb b (fpall b hb), fun e => ap.nx (e ▸ fpall b hb), fun e => ap.nv (e ▸ fpall b hb)⟩)).fr (S' := []) ((Fr.refl [] w1).drew) (by simp)
          have hown1 := hS1.row 2 _ _ rfl rfl
          have hbs1 := hS1.hb
          have low := own_low hown1
          have d4 := cellA (w := w1) (.cells #[.int .i64 (p.ks i).o.p] 3) e4
          have d6 := cellA (w := w1) (.cells #[.int .i64 (p.ks i).o.p] 3) e6
          have d7 := cellA (w := w1) (.cells #[.int .i64 (p.ks i).o.p] 3) e7
          have HR := hid (info_parts info_i)
          have H1 := hid h1
          have HS1 := hid hS1
          have HO1 := hid hown1
          have hgw : l.vb < gw := by have := HSW.out.b2; have := (own_lt HW.out (g := gw) rfl).1; omega
          clear e0 e3 e5 z0 h1 hS1 c0 c3 c4 q0 q1 hown1
          go_wp2_with fail
          go_region_law (first
            | (obtain ⟨i0, hi, hz0, hz1, hz2⟩ := HR.out; refine step_append_lies _ (by rfl) _ _ _ (by rfl) l.base 3 i0 (.int .i64 0) 1 8 Try.underlying22 hi hz0 hz1 hz2 rfl (by decide) (.slice pm p.M.length cm) p.M.length _ (by rfl) (HO1.out.alloc _) ⟨w1.heap.size, 0, none⟩ 1 1 [.int .i64 (p.ks i).o.p] (by rfl) (by rfl) (World.news_of_block (cs := #[.int .i64 (p.ks i).o.p]) (t := 3) (fr := (0, 0)) (heap_alloc_new w1.drew _)) (by simp [Value.oneCell']) (by decide) (by simp only [maxLen]; omega) (by omega) (by simp; exact Nat.le_succ_of_le hbs1) _ rfl ?_; clear hi hz0 hz1 hz2; intro gg cap2 w9 hown9 hgrow hat hlt9; have hFa := Fr.of_grownBy hgrow (S := (Value.slice pm p.M.length cm).ownBlock.toList) (by intro k' hk'; left; simp [hk']); have V9 := (HS1.out.vv.alloc (.cells #[.int .i64 (p.ks i).o.p] 3)).fr hFa (fun hc => by have := low _ hc; have := HS1.out.b2; omega); have k7 := V9.cell (i := 5) rfl; have k4 := V9.cell (i := 4) rfl; have y5 := V9.frozen 5; have k6 := (cell_fr hFa (fun hc => (HS1.out.far 1 2 _ _ (by decide) rfl rfl) gw rfl (by simpa using hc)) (World.block_lt_of_cell? (w1.drew.alloc (.cells #[.int .i64 (p.ks i).o.p] 3)) _ (show _ = some (.int .i64 (p.ks i).o.p) from d6)) i).trans d6))
          all_goals
            go_end0
            have A9 := WS.app HS1.out (i := 2) rfl rfl (m := p.M.length) rfl hFa hown9 hat
            have R9 := app_rest H.out.ok HS1.out (by simp) A9.2 H1.out.h.drew (Blk.drew H1.out.t) (H1.out.m.fr (S := []) ((Fr.refl [] w1).drew) (by simp) (by simp)) H1.out.fr.drew
            have hws9 : ∃ kv wv mv sv, WS (w9.setCell ⟨l.vb, 5, none⟩ (.slice (some ⟨gg, 0, none⟩) (p.M.length + 1) cap2)) l.vb l.bx l.base [.pointer (some ⟨l.L.hb, 0, none⟩), .pointer (some ⟨l.tb, 0, none⟩), .pointer (some ⟨l.mb, 0, none⟩)] [kv, wv, mv] [keysOf p.n (upk p.ks i { p.ks i with ko := { (p.ks i).ko with m := p.s.parity } }), weaksOf p.n (upk p.ks i { p.ks i with ko := { (p.ks i).ko with m := p.s.parity } }), p.M ++ [(p.ks i).o.p]] sv p.S := by
              rw [keysOf_congr (ks := p.ks) (fun j _ => km_ko p.ks i _ j), weaksOf_congr (ks := p.ks) (fun j _ => km_o p.ks i _ j)]
              have := A9.1
              rw [HN.out] at this
              exact ⟨_, _, _, _, this⟩
            exact ⟨rfl, { p with s := s1, A := A1, ks := upk p.ks i { p.ks i with ko := { (p.ks i).ko with m := p.s.parity } }, M := p.M ++ [(p.ks i).o.p] }, ⟨H.out.ok, R9.1, R9.2.1, H1.out.wh, H1.out.wt, hws9, R9.2.2.1, R9.2.2.2⟩, .inr ⟨i, s1, A1, hin', HM'.out, st1, rfl⟩⟩
    · go_wp2_with fail
      obtain ⟨i, hi⟩ : ∃ i : Nat, x.tmod n = i := ⟨(x.tmod n).toNat, by omega⟩
      have hin : i < n := by omega
      rw [hi]
      clear hi hneg t1 t2
      obtain ⟨gk, gw, rfl, rfl, q0, q1⟩ := go i hin
      have hin' : i < p.n := by rw [← HN.out]; exact hin
      by_cases hm : (p.ks i).ko.m = p.s.parity
      · have HM' := hid hm
        clear hm
        go_region_held3 (fun w' => w'.cell? ⟨l.vb, 0, none⟩ = some (.pointer (some ⟨l.L.hb, 0, none⟩)) ∧ w'.cell? ⟨l.vb, 3, none⟩ = some (.slice (some ⟨gk, 0, none⟩) n ck) ∧ w'.cell? ⟨gk, i, none⟩ = some (.int .i64 (p.ks i).ko.p))
          (first
            | assumption
            | (with_reducible exact ⟨c0, c3, q0⟩)
            | (with_reducible exact ⟨e0, e3, e5⟩)
            | go_keep)
          (first
            | (go_at_call 28; (with_reducible refine (wShadeNoF w0 w.drew l p i H.out.drew hin' HM'.out).mono ?_); rintro e w1 ⟨rfl, hF1, m, h1⟩; have z0 := nab (Fr.trans ((Fr.refl _ w).drew) hF1) (fun b hb => fpab l.L b hb); have e0 := z0.1; have e3 := z0.2.1; have e5 := (z0.2.2.2.2 i hin gk gw rfl rfl).1))
        all_goals
          clear e0 e3 e5 z0
          go_wp2_with fail
          go_end0
          exact ⟨rfl, _, h1, .inl ⟨m, rfl⟩⟩
      · have HM' := hid hm
        clear hm
        go_region_held3 (fun w' => w'.cell? ⟨l.vb, 0, none⟩ = some (.pointer (some ⟨l.L.hb, 0, none⟩)) ∧ w'.cell? ⟨l.vb, 3, none⟩ = some (.slice (some ⟨gk, 0, none⟩) n ck) ∧ w'.cell? ⟨gk, i, none⟩ = some (.int .i64 (p.ks i).ko.p))
          (first
            | assumption
            | (with_reducible exact ⟨c0, c3, q0⟩)
            | (with_reducible exact ⟨e0, e3, e5⟩)
            | go_keep)
          (first
            | (go_at_call 28; (with_reducible refine (wShadeYesF w0 w.drew l p i H.out.drew hin' HM'.out).mono ?_); rintro e w1 ⟨rfl, hF1, s1, A1, h1, st1⟩; have z0 := nab (Fr.trans ((Fr.refl _ w).drew) hF1) (fun b hb => hb); have e0 := z0.1; have e3 := z0.2.1; have e4 := z0.2.2.1; have e7 := z0.2.2.2.1; have e5 := (z0.2.2.2.2 i hin gk gw rfl rfl).1; have e6 := (z0.2.2.2.2 i hin gk gw rfl rfl).2))
        all_goals
          have F01 : Fr l.L.fp w w1 := Fr.trans ((Fr.refl _ w).drew) hF1
          have ap := H.out.ok.ap
          have hS1 := (HSW.out.fr F01 (fun b hb => ⟨ap.lb b (fpall b hb), fun e => ap.nx (e ▸ fpall b hb), fun e => ap.nv (e ▸ fpall b hb)⟩)).fr (S' := []) ((Fr.refl [] w1).drew) (by simp)
          have hown1 := hS1.row 2 _ _ rfl rfl
          have hbs1 := hS1.hb
          have low := own_low hown1
          have d4 := cellA (w := w1) (.cells #[.int .i64 (p.ks i).o.p] 3) e4
          have d6 := cellA (w := w1) (.cells #[.int .i64 (p.ks i).o.p] 3) e6
          have d7 := cellA (w := w1) (.cells #[.int .i64 (p.ks i).o.p] 3) e7
          have HR := hid (info_parts info_i)
          have H1 := hid h1
          have HS1 := hid hS1
          have HO1 := hid hown1
          have hgw : l.vb < gw := by have := HSW.out.b2; have := (own_lt HW.out (g := gw) rfl).1; omega
          clear e0 e3 e5 z0 h1 hS1 c0 c3 c4 q0 q1 hown1
          go_wp2_with fail
          go_region_law (first
            | (obtain ⟨i0, hi, hz0, hz1, hz2⟩ := HR.out; refine step_append_lies _ (by rfl) _ _ _ (by rfl) l.base 3 i0 (.int .i64 0) 1 8 Try.underlying22 hi hz0 hz1 hz2 rfl (by decide) (.slice pm p.M.length cm) p.M.length _ (by rfl) (HO1.out.alloc _) ⟨w1.heap.size, 0, none⟩ 1 1 [.int .i64 (p.ks i).o.p] (by rfl) (by rfl) (World.news_of_block (cs := #[.int .i64 (p.ks i).o.p]) (t := 3) (fr := (0, 0)) (heap_alloc_new w1.drew _)) (by simp [Value.oneCell']) (by decide) (by simp only [maxLen]; omega) (by omega) (by simp; exact Nat.le_succ_of_le hbs1) _ rfl ?_; clear hi hz0 hz1 hz2; intro gg cap2 w9 hown9 hgrow hat hlt9; have hFa := Fr.of_grownBy hgrow (S := (Value.slice pm p.M.length cm).ownBlock.toList) (by intro k' hk'; left; simp [hk']); have V9 := (HS1.out.vv.alloc (.cells #[.int .i64 (p.ks i).o.p] 3)).fr hFa (fun hc => by have := low _ hc; have := HS1.out.b2; omega); have k7 := V9.cell (i := 5) rfl; have k4 := V9.cell (i := 4) rfl; have y5 := V9.frozen 5; have k6 := (cell_fr hFa (fun hc => (HS1.out.far 1 2 _ _ (by decide) rfl rfl) gw rfl (by simpa using hc)) (World.block_lt_of_cell? (w1.drew.alloc (.cells #[.int .i64 (p.ks i).o.p] 3)) _ (show _ = some (.int .i64 (p.ks i).o.p) from d6)) i).trans d6))
          all_goals
            go_end0
            have A9 := WS.app HS1.out (i := 2) rfl rfl (m := p.M.length) rfl hFa hown9 hat
            have R9 := app_rest H.out.ok HS1.out (by simp) A9.2 H1.out.h.drew (Blk.drew H1.out.t) (H1.out.m.fr (S := []) ((Fr.refl [] w1).drew) (by simp) (by simp)) H1.out.fr.drew
            have hws9 : ∃ kv wv mv sv, WS (w9.setCell ⟨l.vb, 5, none⟩ (.slice (some ⟨gg, 0, none⟩) (p.M.length + 1) cap2)) l.vb l.bx l.base [.pointer (some ⟨l.L.hb, 0, none⟩), .pointer (some ⟨l.tb, 0, none⟩), .pointer (some ⟨l.mb, 0, none⟩)] [kv, wv, mv] [keysOf p.n (upk p.ks i { p.ks i with ko := { (p.ks i).ko with m := p.s.parity } }), weaksOf p.n (upk p.ks i { p.ks i with ko := { (p.ks i).ko with m := p.s.parity } }), p.M ++ [(p.ks i).o.p]] sv p.S := by
              rw [keysOf_congr (ks := p.ks) (fun j _ => km_ko p.ks i _ j), weaksOf_congr (ks := p.ks) (fun j _ => km_o p.ks i _ j)]
              have := A9.1
              rw [HN.out] at this
              exact ⟨_, _, _, _, this⟩
            exact ⟨rfl, { p with s := s1, A := A1, ks := upk p.ks i { p.ks i with ko := { (p.ks i).ko with m := p.s.parity } }, M := p.M ++ [(p.ks i).o.p] }, ⟨H.out.ok, R9.1, R9.2.1, H1.out.wh, H1.out.wt, hws9, R9.2.2.1, R9.2.2.2⟩, .inr ⟨i, s1, A1, hin', HM'.out, st1, rfl⟩⟩
end Go.Proofs.Ytifillpcphiblaa
