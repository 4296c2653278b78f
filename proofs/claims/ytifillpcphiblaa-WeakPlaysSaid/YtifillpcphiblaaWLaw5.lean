import Derived.Test.YtifillpcphiblaaWAwake
namespace Go.Proofs.Ytifillpcphiblaa
open Go Go.Proofs Go.RowKit

/-! The calls in the law's world once more, with what they leave. -/

theorem frq {S : List Nat} {l : LL} {w w' : World} (hF : Fr S w w') (hS : ∀ b ∈ S, b ∈ l.L.fp ∨ b = l.tb) : FrQ l.L l.tb l.vb l.base w w' :=
  (FrQ.refl _ _ _ _ w).step hF (fun x hx => (hS x hx).imp id .inl)
theorem frq_tb {l : LL} {w w' : World} (hF : Fr [l.tb] w w') : FrQ l.L l.tb l.vb l.base w w' := frq hF (fun b hb => .inr (by simpa using hb))
theorem frq_ab {l : LL} {w w' : World} (hF : Fr [l.L.ab] w w') : FrQ l.L l.tb l.vb l.base w w' := frq hF (fun b hb => .inl (fpab l.L b hb))
theorem frq_abtb {l : LL} {w w' : World} (hF : Fr [l.L.ab, l.tb] w w') : FrQ l.L l.tb l.vb l.base w w' := frq hF (fun b hb => by
  simp at hb
  rcases hb with e | e
  · exact .inl (fpab l.L b (by simp [e]))
  · exact .inr e)
theorem frq_fp {l : LL} {w w' : World} (hF : Fr l.L.fp w w') : FrQ l.L l.tb l.vb l.base w w' := frq hF (fun _ hb => .inl hb)
theorem frq_tbfp {l : LL} {w w' : World} (hF : Fr (l.tb :: l.L.fp) w w') : FrQ l.L l.tb l.vb l.base w w' := frq hF (fun b hb => by
  rcases List.mem_cons.1 hb with e | e
  · exact .inr e
  · exact .inl e)
theorem frq_nil {l : LL} {w w' : World} (hF : Fr [] w w') : FrQ l.L l.tb l.vb l.base w w' := frq hF (by simp)

/-- A row of ints in blocks of its own is kept. -/
theorem own_q {l : LL} {B0 B n : Nat} {v : Value} {xs : List Value} {w w' : World} (ok : l.Ok B0) (vb : l.vb < l.base) (h : w.ownsRow B 3 1 v n xs) (hB : l.base ≤ B) (hQ : FrQ l.L l.tb l.vb l.base w w') : w'.ownsRow B 3 1 v n xs := by
  obtain ⟨h1, h2⟩ := h
  refine ⟨h1, ?_⟩
  rcases h2 with h2 | ⟨g, cap, cur, hv, hg, hh, r⟩
  · exact .inl h2
  · refine .inr ⟨g, cap, cur, hv, hg, ?_, r⟩
    have hl : g < w.heap.size := (Array.getElem?_eq_some_iff.1 hh).1
    have htl := ok.ap.tl
    rw [hQ.block g hl (fun hc => by have := ok.ap.lb g (fpall g hc); omega) (by omega) (by omega) (.inr fun c f hc => by rw [hh] at hc; simp at hc)]
    exact hh

theorem wHBeginQ (w0 w : World) (l : LL) (p : LP) (h : WR w0 w l p) (hno : NoFG p.A) :
    Calls Try.prog 27 #[.pointer (some ⟨l.L.hb, 0, none⟩)] w fun e w' => e = .returned (.int .i64 0) ∧ FrQ l.L l.tb l.vb l.base w w' ∧ ∃ s', WR w0 w' l { p with s := s', A := p.A.begun } ∧ s'.parity = 1 - p.s.parity ∧ s'.top = p.s.top ∧ s'.edge = p.s.edge ∧ s'.u = p.s.u := by
  refine (hBeginRows l.L p.s p.A p.z w h.h h.wh.hi h.wh.p0 h.wh.p1).mono ?_
  rintro e w' ⟨hF, ⟨hn, _⟩ | ⟨_, rfl, s', hH', hI', hws, hcl, hed, htp, _, hu, hpa⟩⟩
  · exact absurd hno hn
  · have hT' : TRep w' l.tb l.L.hb (shv l.bx) p.t := Blk.fr h.t hF (fun hc => h.ok.ap.nt (fpall _ hc))
    exact ⟨rfl, frq_fp hF, s', h.step hF (fun b hb => .inl (fpall _ hb)) hH' hT' (h.wh.begin hno hI' hws hcl hpa) (h.wt.words hws) (fun _ _ => ⟨rfl, rfl⟩), hpa, htp, hed, hu⟩

theorem wTBeginQ (w0 w : World) (l : LL) (p : LP) (h : WR w0 w l p) :
    Calls Try.prog 39 #[.pointer (some ⟨l.tb, 0, none⟩)] w fun e w' => e = .returned (.tuple #[]) ∧ FrQ l.L l.tb l.vb l.base w w' ∧ WR w0 w' l { p with t := { p.t with walk := p.t.row, ahead := 0, walking := true }, pre := [], walk := p.pre ++ p.walk } := by
  refine (tBegin l.L l.tb (shv l.bx) p.t w h.t).mono ?_
  rintro e w' ⟨rfl, hT', hF⟩
  exact ⟨rfl, frq_tb hF, h.step hF (fun b hb => .inr (by simpa using hb)) (h.h.fr hF (fun b hb hc => h.ok.ap.nt (by simp at hb; exact hb ▸ hc))) hT' h.wh h.wt.begin (fun _ _ => ⟨rfl, rfl⟩)⟩

theorem wStep0Q (w0 w : World) (l : LL) (p : LP) (h : WR w0 w l p) (hw : p.walk = []) :
    Calls Try.prog 40 #[.pointer (some ⟨l.tb, 0, none⟩)] w fun e w' => e = .returned (.tuple #[.int .i64 0, .bool false, .bool false]) ∧ FrQ l.L l.tb l.vb l.base w w' ∧ WR w0 w' l { p with t := { p.t with walking := false }, walk := [] } := by
  have wt := h.wt
  rw [hw] at wt
  refine (tStep0 l.L l.tb (shv l.bx) p.t w h.t wt.walk0).mono ?_
  rintro e w' ⟨rfl, hT', hF⟩
  exact ⟨rfl, frq_tb hF, h.step hF (fun b hb => .inr (by simpa using hb)) (h.h.fr hF (fun b hb hc => h.ok.ap.nt (by simp at hb; exact hb ▸ hc))) hT' h.wh wt.over (fun _ _ => ⟨rfl, rfl⟩)⟩

theorem wStepKeepQ (w0 w : World) (l : LL) (p : LP) (i : Nat) (wk : List Nat) (h : WR w0 w l p) (hw : p.walk = i :: wk) (hm : (p.ks i).ko.m = p.s.parity) :
    Calls Try.prog 40 #[.pointer (some ⟨l.tb, 0, none⟩)] w fun e w' => e = .returned (.tuple #[.int .i64 i, .bool false, .bool true]) ∧ FrQ l.L l.tb l.vb l.base w w' ∧ ∃ t', WR w0 w' l { p with s := p.s.tick 6, t := t', pre := p.pre ++ [i], walk := wk } := by
  have wt := h.wt
  rw [hw] at wt
  obtain ⟨hwk, hin, -⟩ := wt.walk
  have gi := h.wh.ob i hin
  refine (tStepKeep l.L p.s l.tb (shv l.bx) p.t (p.ks i).o (p.ks i).ko _ w h.h h.t h.ok.ap.nt (gi.o.lies h.wh.hi) (by rw [gi.on]; omega) hwk (gi.ko.lies h.wh.hi) (wt.row i (by simp)).2.2.1 rfl hm).mono ?_
  rintro e w' ⟨rfl, hH', hT', hF⟩
  rw [gi.oa]
  exact ⟨rfl, frq_abtb hF, _, h.step hF (fun b hb => by simp at hb; rcases hb with rfl | rfl; (· exact .inl fpab'); (· exact .inr rfl)) hH' hT' (h.wh.tick 6) (wt.keep.tick 6) (fun _ _ => ⟨rfl, rfl⟩)⟩

theorem wStepBuryQ (w0 w : World) (l : LL) (p : LP) (i : Nat) (wk : List Nat) (h : WR w0 w l p) (hw : p.walk = i :: wk) (hm : (p.ks i).ko.m ≠ p.s.parity) :
    Calls Try.prog 40 #[.pointer (some ⟨l.tb, 0, none⟩)] w fun e w' => e = .returned (.tuple #[.int .i64 i, .bool true, .bool true]) ∧ FrQ l.L l.tb l.vb l.base w w' ∧ ∃ s' t', WR w0 w' l { p with s := s', t := t', ks := upk p.ks i { p.ks i with o := { (p.ks i).o with k := 10 } }, walk := wk, queue := p.queue ++ [i] } ∧ Sta p.s s' := by
  have wt := h.wt
  rw [hw] at wt
  obtain ⟨hwk, hin, -⟩ := wt.walk
  have gi := h.wh.ob i hin
  obtain ⟨b1, b2, b3⟩ := wt.forBury h.wh
  refine (tStepBury l.L p.s p.A p.z l.tb (shv l.bx) p.t (p.ks i).o (p.ks i).ko _ w h.h h.wh.hi h.t h.ok.ap.nt gi.o (wt.row i (by simp)).2.1 gi.on hwk (gi.ko.lies h.wh.hi) (wt.row i (by simp)).2.2.1 rfl hm b1 b2 b3).mono ?_
  rintro e w' ⟨rfl, ⟨s', hH', hb⟩, hT', hF⟩
  rw [gi.oa]
  refine ⟨rfl, frq_tbfp hF, s', _, h.step hF (fun b hb => ?_) hH' hT' (h.wh.bury hin hb) (wt.bury h.wh hb) (fun j hj => ?_), hb.st⟩
  · rcases List.mem_cons.1 hb with e | e
    · exact .inr e
    · exact .inl (fpall _ e)
  · by_cases e : j = i
    · subst e; rw [upk_same]; exact ⟨rfl, rfl⟩
    · rw [upk_ne _ _ e]; exact ⟨rfl, rfl⟩

theorem wShadeNoQ (w0 w : World) (l : LL) (p : LP) (i : Nat) (h : WR w0 w l p) (hi : i < p.n) (hm : (p.ks i).ko.m = p.s.parity) :
    Calls Try.prog 28 #[.pointer (some ⟨l.L.hb, 0, none⟩), .int .i64 (p.ks i).ko.p] w fun e w' => e = .returned (.tuple #[.bool false, .int .i64 0]) ∧ FrQ l.L l.tb l.vb l.base w w' ∧ ∃ m, WR w0 w' l { p with s := p.s.tick m } := by
  have gi := h.wh.ob i hi
  have hb := gi.ko.bound h.wh.hi
  have hhd := gi.ko.head
  unfold Ob.word at hhd
  rw [hm] at hhd
  have hd := gi.ko.hd
  rw [hm] at hd
  refine (hShadeNo l.L p.s (p.ks i).ko.p (p.ks i).ko.k (p.ks i).ko.n (p.ks i).ko.a w h.h (by omega) (by omega) hhd hd).mono ?_
  rintro e w' ⟨rfl, hH', hF⟩
  have hT' : TRep w' l.tb l.L.hb (shv l.bx) p.t := Blk.fr h.t hF (fun hc => h.ok.ap.nt (by simp at hc; exact hc ▸ fpab'))
  exact ⟨rfl, frq_ab hF, _, h.step hF (fun b hb => .inl (by simp at hb; exact hb ▸ fpab')) hH' hT' (h.wh.tick _) (h.wt.tick _) (fun _ _ => ⟨rfl, rfl⟩)⟩

theorem wShadeYesQ (w0 w : World) (l : LL) (p : LP) (i : Nat) (h : WR w0 w l p) (hi : i < p.n) (hm : (p.ks i).ko.m ≠ p.s.parity) :
    Calls Try.prog 28 #[.pointer (some ⟨l.L.hb, 0, none⟩), .int .i64 (p.ks i).ko.p] w fun e w' => e = .returned (.tuple #[.bool true, .int .i64 0]) ∧ FrQ l.L l.tb l.vb l.base w w' ∧ ∃ s' A', WR w0 w' l { p with s := s', A := A', ks := upk p.ks i { p.ks i with ko := { (p.ks i).ko with m := p.s.parity } } } ∧ Sta p.s s' := by
  have gi := h.wh.ob i hi
  have hb := gi.ko.bound h.wh.hi
  have hmem : (p.ks i).ko.p ∈ (p.A (p.ks i).ko.q).F := gi.km.resolve_left hm
  obtain ⟨F1, F2, hF12⟩ := List.append_of_mem hmem
  have hd' : Hd (p.ks i).ko.k (p.ks i).ko.n (p.ks i).ko.a p.s.parity := Hd.of gi.ko.hd.k0 gi.ko.hd.k1 h.wh.p0 h.wh.p1 gi.ko.hd.s0 gi.ko.hd.s1 gi.ko.hd.a0 gi.ko.hd.a1
  refine (hShadeAny l.L p.s p.A p.z (p.ks i).ko.q (p.ks i).ko.p (p.ks i).ko.k (p.ks i).ko.n (p.ks i).ko.a (p.ks i).ko.m F1 F2 w h.h h.wh.hi hF12 gi.ko.head gi.ko.hd hd' hm gi.ko.ring).mono ?_
  rintro e w' ⟨rfl, ⟨s', hH', hS'⟩, hF⟩
  obtain ⟨m1, m2⟩ := h.wh.mark hi hF12 hS'
  have hT' : TRep w' l.tb l.L.hb (shv l.bx) p.t := Blk.fr h.t hF (fun hc => h.ok.ap.nt (fpall _ hc))
  have hks : ∀ j, (upk p.ks i { p.ks i with ko := { (p.ks i).ko with m := p.s.parity } } j).o = (p.ks j).o ∧ (upk p.ks i { p.ks i with ko := { (p.ks i).ko with m := p.s.parity } } j).ko.p = (p.ks j).ko.p ∧ (upk p.ks i { p.ks i with ko := { (p.ks i).ko with m := p.s.parity } } j).fo.p = (p.ks j).fo.p := by
    intro j
    by_cases e : j = i
    · subst e; rw [upk_same]; exact ⟨rfl, rfl, rfl⟩
    · rw [upk_ne _ _ e]; exact ⟨rfl, rfl, rfl⟩
  exact ⟨rfl, frq_fp hF, s', _, h.step hF (fun b hb => .inl (fpall _ hb)) hH' hT' m1 (h.wt.same (Nat.le_refl _) (fun j hj x hx => m2 j (h.wt.mem hj) x hx) (fun j _ => hks j)) (fun j _ => ⟨by rw [(hks j).1], (hks j).2.1⟩), hS'.st⟩

theorem wTake0Q (w0 w : World) (l : LL) (p : LP) (h : WR w0 w l p) (hq : p.queue = []) :
    Calls Try.prog 41 #[.pointer (some ⟨l.tb, 0, none⟩)] w fun e w' => e = .returned (.tuple #[.int .i64 0, .int .i64 0, .int .i64 0, .bool false]) ∧ FrQ l.L l.tb l.vb l.base w w' ∧ WR w0 w' l p := by
  have wt := h.wt
  rw [hq] at wt
  refine (tTake0 l.L l.tb (shv l.bx) p.t w h.t wt.first0).mono ?_
  rintro e w' ⟨rfl, hF⟩
  exact ⟨rfl, frq_nil hF, h.step hF (by simp) (h.h.fr hF (by simp)) (Blk.fr h.t hF (by simp)) h.wh h.wt (fun _ _ => ⟨rfl, rfl⟩)⟩

theorem wTakeQ (w0 w : World) (l : LL) (p : LP) (i : Nat) (qu : List Nat) (h : WR w0 w l p) (hq : p.queue = i :: qu) (hS : p.S.length + 1 ≤ 65536) :
    Calls Try.prog 41 #[.pointer (some ⟨l.tb, 0, none⟩)] w fun e w' => e = .returned (.tuple #[.int .i64 (p.ks i).o.p, .int .i64 i, .int .i64 (p.ks i).fo.p, .bool true]) ∧ FrQ l.L l.tb l.vb l.base w w' ∧
      ∃ s' t', WR w0 w' l { p with s := s', t := t', queue := qu, S := p.S ++ [(p.ks i).fo.p] ++ [p.s.wd (p.ks i).o 3] } ∧ Sta p.s s' ∧ s'.wd (p.ks i).o 2 = 0 ∧ s'.wd (p.ks i).o 3 = 0 ∧ s'.u = p.s.u + 9 := by
  have wt := h.wt
  rw [hq] at wt
  obtain ⟨hfi, hin⟩ := wt.first
  have gi := h.wh.ob i hin
  obtain ⟨kv, wv, mv, sv, hws⟩ := h.ws
  have hI5 := h.wh.hi.tick 5
  have o5 := gi.o.tick 5
  have t1 := setw hI5 o5 (j := 2) (by rw [gi.on]; decide) 0 2
  have t2 := setw t1.1 (t1.2 _ o5).1 (j := 3) (by rw [gi.on]; decide) 0 2
  have hfin := (wt.que i (by simp)).2.2.2.2
  have w1 := (h.wh.tick 5).put o5 (j := 2) (by rw [gi.on]; decide) 0 2
  have w2 := w1.put (t1.2 _ o5).1 (j := 3) (by rw [gi.on]; decide) 0 2
  refine (tTake l.L p.s l.tb l.vb l.bx l.base p.t _ p.S (p.ks i).o (p.ks i).fo.p _ w h.ok.ap h.h h.t hws.shp hS (gi.o.lies h.wh.hi) (by rw [gi.on]; omega) hfi hfin rfl ((t1.2 _ o5).1.lies t1.1)).mono ?_
  rintro e w' ⟨rfl, hH', hT', hP', hQ⟩
  rw [gi.oa]
  have ok := h.ok
  have ap := ok.ap
  obtain ⟨sv', hws'⟩ := hws.shaded hQ (fun x hx => ap.lb x (fpall x hx)) ap.tl hP'
  refine ⟨rfl, hQ, _, _, ⟨ok, hH', hT', w2, ?_, ⟨kv, wv, mv, sv', hws'⟩, h.m.q hQ (fun x hx => ⟨ap.lb x (fpall x hx), fun e => ok.m1 (e ▸ fpall x hx)⟩) ⟨ap.tl, Ne.symm ok.m2⟩ ⟨hws.b2, Ne.symm ok.m3⟩, hQ.fr0 h.fr rfl (fun x hx => ok.low x (fpall x hx)) ok.l1 ok.l2 ok.base⟩, (Sta.tick _ _).trans ((Sta.put _ _ _ _).trans (Sta.put _ _ _ _)), ?_, ?_, ?_⟩
  · refine wt.take (fun j hj hne x hx => ?_)
    have gj := h.wh.ob j hj
    have hp : (p.ks j).o.p ≠ (p.ks i).o.p := gi.no gj (Ne.symm hne)
    have e1 := (t1.2 _ (gj.o.tick 5)).2 x (by rw [gj.on]; exact hx)
    have e2 := (t2.2 _ (t1.2 _ (gj.o.tick 5)).1).2 x (by rw [gj.on]; exact hx)
    rw [if_neg (fun e => hp e.1)] at e1 e2
    exact e2.trans e1
  · have e1 := (t1.2 _ o5).2 2 (by rw [gi.on]; decide)
    have e2 := (t2.2 _ (t1.2 _ o5).1).2 2 (by rw [gi.on]; decide)
    rw [if_pos ⟨rfl, rfl⟩] at e1
    rw [if_neg (fun e => by have := e.2; omega)] at e2
    exact e2.trans e1
  · have e2 := (t2.2 _ (t1.2 _ o5).1).2 3 (by rw [gi.on]; decide)
    rw [if_pos ⟨rfl, rfl⟩] at e2
    exact e2
  · show p.s.u + 5 + 2 + 2 = p.s.u + 9
    omega


theorem intsSame (p1 p2 : Option Addr) (n c1 c2 : Nat) (L : List Int) (w : World) (hn : n = L.length) (h1 : SlArg w (.slice p1 n c1) L) (h2 : SlArg w (.slice p2 n c2) L) (hl : n ≤ 65536) :
    Calls Try.prog 44 #[.slice p1 n c1, .slice p2 n c2] w fun e w' => e = .returned (.bool true) ∧ Fr [] w w' := by
  subst hn
  go_enter Try.func44, Try.ntmps44
  go_wp2_with fail
  go_loopw [5] (fun i wr => ∃ j : Nat, j ≤ L.length ∧ i = .int .i64 j ∧ Fr [] w wr) (fun i _ => L.length - (intOf i).toNat)
  case atStart => exact ⟨0, Nat.zero_le _, rfl, Fr.refl _ _⟩
  case round =>
    obtain ⟨j, hj, rfl, hFr⟩ := hrel
    by_cases hjl : j < L.length
    · obtain ⟨b1, o1, rfl, r1⟩ := h1.at (by omega)
      obtain ⟨b2, o2, rfl, r2⟩ := h2.at (by omega)
      obtain ⟨x, hx⟩ : ∃ x, L[j]? = some x := ⟨_, List.getElem?_eq_getElem hjl⟩
      have q1 : wr.cell? ⟨b1, o1 + j, none⟩ = some (.int .i64 x) := (r1.fr hFr (by simp)).2 j _ (by simp [hx])
      have q2 : wr.cell? ⟨b2, o2 + j, none⟩ = some (.int .i64 x) := (r2.fr hFr (by simp)).2 j _ (by simp [hx])
      clear hx
      go_wp2_with fail
      go_quiet (fail)
      go_wp2_with fail
      go_roundw
      case rel => exact ⟨j + 1, by omega, by go_num, hFr.drewN nq⟩
      case measure => simp [intOf]; omega
    · obtain rfl : j = L.length := by omega
      go_wp2_with fail
      go_ret
      exact ⟨rfl, hFr⟩

theorem own_arg {w : World} {B : Nat} {v : Value} {L : List Int} (h : w.ownsRow B 3 1 v L.length (intv L)) : SlArg w v L := by
  obtain ⟨h1, ⟨rfl, h2⟩ | ⟨g, cap, cur, rfl, hg, hh, hc, hm, hs, ht⟩⟩ := h
  · exact .inl ⟨rfl, List.length_eq_zero_iff.1 h2⟩
  · refine .inr (.inr ⟨g, 0, cap, rfl, ⟨(Array.getElem?_eq_some_iff.1 hh).1, fun i v hv => ?_⟩, by omega⟩)
    have hv' : (intv L)[i]? = some v := hv
    rw [← ht, List.getElem?_take] at hv'
    split at hv'
    · rw [Nat.zero_add, cell_of_row w g i cur _ _ hh, ← Array.getElem?_toList]; exact hv'
    · cases hv'
end Go.Proofs.Ytifillpcphiblaa
