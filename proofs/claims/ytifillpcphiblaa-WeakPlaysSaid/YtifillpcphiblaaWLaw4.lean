import Derived.Test.YtifillpcphiblaaWLaw3
namespace Go.Proofs.Ytifillpcphiblaa
open Go Go.Proofs Go.RowKit

/-! The heap's and the table's calls, in the law's world. -/

theorem WT.words {s s' : HS} {t : TS} {n : Nat} {ks : Nat → Wk} {pre walk queue : List Nat} (h : WT s t n ks pre walk queue) (hw : s'.ws = s.ws) : WT s' t n ks pre walk queue :=
  h.same (Nat.le_refl _) (fun i _ j _ => by unfold HS.wd; rw [hw]) (fun _ _ => ⟨rfl, rfl, rfl⟩)

theorem wHBegin (w0 w : World) (l : LL) (p : LP) (h : WR w0 w l p) (hno : NoFG p.A) :
    Calls Try.prog 27 #[.pointer (some ⟨l.L.hb, 0, none⟩)] w fun e w' => e = .returned (.int .i64 0) ∧ ∃ s', WR w0 w' l { p with s := s', A := p.A.begun } ∧ s'.parity = 1 - p.s.parity ∧ s'.top = p.s.top ∧ s'.edge = p.s.edge ∧ s'.u = p.s.u := by
  refine (hBeginRows l.L p.s p.A p.z w h.h h.wh.hi h.wh.p0 h.wh.p1).mono ?_
  rintro e w' ⟨hF, ⟨hn, _⟩ | ⟨_, rfl, s', hH', hI', hws, hcl, hed, htp, _, hu, hpa⟩⟩
  · exact absurd hno hn
  · have hT' : TRep w' l.tb l.L.hb (shv l.bx) p.t := Blk.fr h.t hF (fun hc => h.ok.ap.nt (fpall _ hc))
    exact ⟨rfl, s', h.step hF (fun b hb => .inl (fpall _ hb)) hH' hT' (h.wh.begin hno hI' hws hcl hpa) (h.wt.words hws) (fun _ _ => ⟨rfl, rfl⟩), hpa, htp, hed, hu⟩

theorem wTBegin (w0 w : World) (l : LL) (p : LP) (h : WR w0 w l p) :
    Calls Try.prog 39 #[.pointer (some ⟨l.tb, 0, none⟩)] w fun e w' => e = .returned (.tuple #[]) ∧ WR w0 w' l { p with t := { p.t with walk := p.t.row, ahead := 0, walking := true }, pre := [], walk := p.pre ++ p.walk } := by
  refine (tBegin l.L l.tb (shv l.bx) p.t w h.t).mono ?_
  rintro e w' ⟨rfl, hT', hF⟩
  exact ⟨rfl, h.step hF (fun b hb => .inr (by simpa using hb)) (h.h.fr hF (fun b hb hc => h.ok.ap.nt (by simp at hb; exact hb ▸ hc))) hT' h.wh h.wt.begin (fun _ _ => ⟨rfl, rfl⟩)⟩

theorem wStep0 (w0 w : World) (l : LL) (p : LP) (h : WR w0 w l p) (hw : p.walk = []) :
    Calls Try.prog 40 #[.pointer (some ⟨l.tb, 0, none⟩)] w fun e w' => e = .returned (.tuple #[.int .i64 0, .bool false, .bool false]) ∧ WR w0 w' l { p with t := { p.t with walking := false }, walk := [] } := by
  have wt := h.wt
  rw [hw] at wt
  refine (tStep0 l.L l.tb (shv l.bx) p.t w h.t wt.walk0).mono ?_
  rintro e w' ⟨rfl, hT', hF⟩
  exact ⟨rfl, h.step hF (fun b hb => .inr (by simpa using hb)) (h.h.fr hF (fun b hb hc => h.ok.ap.nt (by simp at hb; exact hb ▸ hc))) hT' h.wh wt.over (fun _ _ => ⟨rfl, rfl⟩)⟩

theorem fpab' {L : HL} : L.ab ∈ L.all := by simp [HL.all, HL.fp]

theorem wStepKeep (w0 w : World) (l : LL) (p : LP) (i : Nat) (wk : List Nat) (h : WR w0 w l p) (hw : p.walk = i :: wk) (hm : (p.ks i).ko.m = p.s.parity) :
    Calls Try.prog 40 #[.pointer (some ⟨l.tb, 0, none⟩)] w fun e w' => e = .returned (.tuple #[.int .i64 i, .bool false, .bool true]) ∧ ∃ t', WR w0 w' l { p with s := p.s.tick 6, t := t', pre := p.pre ++ [i], walk := wk } := by
  have wt := h.wt
  rw [hw] at wt
  obtain ⟨hwk, hin, -⟩ := wt.walk
  have gi := h.wh.ob i hin
  refine (tStepKeep l.L p.s l.tb (shv l.bx) p.t (p.ks i).o (p.ks i).ko _ w h.h h.t h.ok.ap.nt (gi.o.lies h.wh.hi) (by rw [gi.on]; omega) hwk (gi.ko.lies h.wh.hi) (wt.row i (by simp)).2.2.1 rfl hm).mono ?_
  rintro e w' ⟨rfl, hH', hT', hF⟩
  rw [gi.oa]
  exact ⟨rfl, _, h.step hF (fun b hb => by simp at hb; rcases hb with rfl | rfl; (· exact .inl fpab'); (· exact .inr rfl)) hH' hT' (h.wh.tick 6) (wt.keep.tick 6) (fun _ _ => ⟨rfl, rfl⟩)⟩

theorem wStepBury (w0 w : World) (l : LL) (p : LP) (i : Nat) (wk : List Nat) (h : WR w0 w l p) (hw : p.walk = i :: wk) (hm : (p.ks i).ko.m ≠ p.s.parity) :
    Calls Try.prog 40 #[.pointer (some ⟨l.tb, 0, none⟩)] w fun e w' => e = .returned (.tuple #[.int .i64 i, .bool true, .bool true]) ∧ ∃ s' t', WR w0 w' l { p with s := s', t := t', ks := upk p.ks i { p.ks i with o := { (p.ks i).o with k := 10 } }, walk := wk, queue := p.queue ++ [i] } ∧ Sta p.s s' := by
  have wt := h.wt
  rw [hw] at wt
  obtain ⟨hwk, hin, -⟩ := wt.walk
  have gi := h.wh.ob i hin
  obtain ⟨b1, b2, b3⟩ := wt.forBury h.wh
  refine (tStepBury l.L p.s p.A p.z l.tb (shv l.bx) p.t (p.ks i).o (p.ks i).ko _ w h.h h.wh.hi h.t h.ok.ap.nt gi.o (wt.row i (by simp)).2.1 gi.on hwk (gi.ko.lies h.wh.hi) (wt.row i (by simp)).2.2.1 rfl hm b1 b2 b3).mono ?_
  rintro e w' ⟨rfl, ⟨s', hH', hb⟩, hT', hF⟩
  rw [gi.oa]
  refine ⟨rfl, s', _, h.step hF (fun b hb => ?_) hH' hT' (h.wh.bury hin hb) (wt.bury h.wh hb) (fun j hj => ?_), hb.st⟩
  · rcases List.mem_cons.1 hb with e | e
    · exact .inr e
    · exact .inl (fpall _ e)
  · by_cases e : j = i
    · subst e; rw [upk_same]; exact ⟨rfl, rfl⟩
    · rw [upk_ne _ _ e]; exact ⟨rfl, rfl⟩

/-- A key that is marked stays so. -/
theorem wShadeNo (w0 w : World) (l : LL) (p : LP) (i : Nat) (h : WR w0 w l p) (hi : i < p.n) (hm : (p.ks i).ko.m = p.s.parity) :
    Calls Try.prog 28 #[.pointer (some ⟨l.L.hb, 0, none⟩), .int .i64 (p.ks i).ko.p] w fun e w' => e = .returned (.tuple #[.bool false, .int .i64 0]) ∧ ∃ m, WR w0 w' l { p with s := p.s.tick m } := by
  have gi := h.wh.ob i hi
  have hb := gi.ko.bound h.wh.hi
  have hhd := gi.ko.head
  unfold Ob.word at hhd
  rw [hm] at hhd
  have hd := gi.ko.hd
  rw [hm] at hd
  refine (hShadeNo l.L p.s (p.ks i).ko.p (p.ks i).ko.k (p.ks i).ko.n (p.ks i).ko.a w h.h (by omega) (by omega) hhd hd).mono ?_
  rintro e w' ⟨rfl, hH', hF⟩
  have hT' : TRep w' l.tb l.L.hb (shv l.bx) p.t := Blk.fr h.t hF (fun hc => h.ok.ap.nt (by simp at hc; exact hc ▸ fpab'))
  exact ⟨rfl, _, h.step hF (fun b hb => .inl (by simp at hb; exact hb ▸ fpab')) hH' hT' (h.wh.tick _) (h.wt.tick _) (fun _ _ => ⟨rfl, rfl⟩)⟩

/-- A key that isn't marked is marked. -/
theorem wShadeYes (w0 w : World) (l : LL) (p : LP) (i : Nat) (h : WR w0 w l p) (hi : i < p.n) (hm : (p.ks i).ko.m ≠ p.s.parity) :
    Calls Try.prog 28 #[.pointer (some ⟨l.L.hb, 0, none⟩), .int .i64 (p.ks i).ko.p] w fun e w' => e = .returned (.tuple #[.bool true, .int .i64 0]) ∧ ∃ s' A', WR w0 w' l { p with s := s', A := A', ks := upk p.ks i { p.ks i with ko := { (p.ks i).ko with m := p.s.parity } } } ∧ Sta p.s s' := by
  have gi := h.wh.ob i hi
  have hb := gi.ko.bound h.wh.hi
  have hmem : (p.ks i).ko.p ∈ (p.A (p.ks i).ko.q).F := gi.km.resolve_left hm
  obtain ⟨F1, F2, hF12⟩ := List.append_of_mem hmem
  have hd' : Hd (p.ks i).ko.k (p.ks i).ko.n (p.ks i).ko.a p.s.parity := Hd.of gi.ko.hd.k0 gi.ko.hd.k1 h.wh.p0 h.wh.p1 gi.ko.hd.s0 gi.ko.hd.s1 gi.ko.hd.a0 gi.ko.hd.a1
  refine (hShadeAny l.L p.s p.A p.z (p.ks i).ko.q (p.ks i).ko.p (p.ks i).ko.k (p.ks i).ko.n (p.ks i).ko.a (p.ks i).ko.m F1 F2 w h.h h.wh.hi hF12 gi.ko.head gi.ko.hd hd' hm gi.ko.ring).mono ?_
  rintro e w' ⟨rfl, ⟨s', hH', hS'⟩, hF⟩
  obtain ⟨m1, m2⟩ := h.wh.mark hi hF12 hS'
  have hT' : TRep w' l.tb l.L.hb (shv l.bx) p.t := Blk.fr h.t hF (fun hc => h.ok.ap.nt (fpall _ hc))
  have hks : ∀ j, (upk p.ks i { p.ks i with ko := { (p.ks i).ko with m := p.s.parity } } j).o = (p.ks j).o ∧ (upk p.ks i { p.ks i with ko := { (p.ks i).ko with m := p.s.parity } } j).ko.p = (p.ks j).ko.p ∧ (upk p.ks i { p.ks i with ko := { (p.ks i).ko with m := p.s.parity } } j).fo.p = (p.ks j).fo.p := by
    intro j
    by_cases e : j = i
    · subst e; rw [upk_same]; exact ⟨rfl, rfl, rfl⟩
    · rw [upk_ne _ _ e]; exact ⟨rfl, rfl, rfl⟩
  exact ⟨rfl, s', _, h.step hF (fun b hb => .inl (fpall _ hb)) hH' hT' m1 (h.wt.same (Nat.le_refl _) (fun j hj x hx => m2 j (h.wt.mem hj) x hx) (fun j _ => hks j)) (fun j _ => ⟨by rw [(hks j).1], (hks j).2.1⟩), hS'.st⟩

theorem wTake0 (w0 w : World) (l : LL) (p : LP) (h : WR w0 w l p) (hq : p.queue = []) :
    Calls Try.prog 41 #[.pointer (some ⟨l.tb, 0, none⟩)] w fun e w' => e = .returned (.tuple #[.int .i64 0, .int .i64 0, .int .i64 0, .bool false]) ∧ WR w0 w' l p := by
  have wt := h.wt
  rw [hq] at wt
  refine (tTake0 l.L l.tb (shv l.bx) p.t w h.t wt.first0).mono ?_
  rintro e w' ⟨rfl, hF⟩
  exact ⟨rfl, h.step hF (by simp) (h.h.fr hF (by simp)) (Blk.fr h.t hF (by simp)) h.wh h.wt (fun _ _ => ⟨rfl, rfl⟩)⟩

theorem FrQ.fr0 {L : HL} {tb vb base B : Nat} {w0 w w' : World} (h : Fr [] w0 w) (k : FrQ L tb vb base w w') (hB : w0.heap.size = B) (h1 : ∀ x ∈ L.fp, B ≤ x) (h2 : B ≤ tb) (h3 : B ≤ vb) (h4 : B ≤ base) : Fr [] w0 w' :=
  ⟨k.os.trans h.os, k.tape.trans h.tape, k.output.trans h.output, Nat.le_trans h.size k.size, fun i hi hn => (k.block i (Nat.lt_of_lt_of_le hi h.size) (fun hc => by have := h1 i hc; omega) (by omega) (by omega) (.inl (by omega))).trans (h.block i hi hn)⟩

theorem wTake (w0 w : World) (l : LL) (p : LP) (i : Nat) (qu : List Nat) (h : WR w0 w l p) (hq : p.queue = i :: qu) (hS : p.S.length + 1 ≤ 65536) :
    Calls Try.prog 41 #[.pointer (some ⟨l.tb, 0, none⟩)] w fun e w' => e = .returned (.tuple #[.int .i64 (p.ks i).o.p, .int .i64 i, .int .i64 (p.ks i).fo.p, .bool true]) ∧
      ∃ s' t', WR w0 w' l { p with s := s', t := t', queue := qu, S := p.S ++ [(p.ks i).fo.p] ++ [p.s.wd (p.ks i).o 3] } ∧ Sta p.s s' ∧ s'.wd (p.ks i).o 2 = 0 ∧ s'.wd (p.ks i).o 3 = 0 ∧ s'.u = p.s.u + 9 := by
  have wt := h.wt
  rw [hq] at wt
  obtain ⟨hfi, hin⟩ := wt.first
  have gi := h.wh.ob i hin
  obtain ⟨kv, wv, mv, sv, hws⟩ := h.ws
  have hI5 := h.wh.hi.tick 5
  have o5 := gi.o.tick 5
  have t1 := setw hI5 o5 (j := 2) (by rw [gi.on]; decide) 0 2
  have t2 := setw t1.1 (t1.2 _ o5).1 (j := 3) (by rw [gi.on]; decide) 0 2
  have hfin := (wt.que i (by simp)).2.2.2.2
  have w1 := (h.wh.tick 5).put o5 (j := 2) (by rw [gi.on]; decide) 0 2
  have w2 := w1.put (t1.2 _ o5).1 (j := 3) (by rw [gi.on]; decide) 0 2
  refine (tTake l.L p.s l.tb l.vb l.bx l.base p.t _ p.S (p.ks i).o (p.ks i).fo.p _ w h.ok.ap h.h h.t hws.shp hS (gi.o.lies h.wh.hi) (by rw [gi.on]; omega) hfi hfin rfl ((t1.2 _ o5).1.lies t1.1)).mono ?_
  rintro e w' ⟨rfl, hH', hT', hP', hQ⟩
  rw [gi.oa]
  have ok := h.ok
  have ap := ok.ap
  obtain ⟨sv', hws'⟩ := hws.shaded hQ (fun x hx => ap.lb x (fpall x hx)) ap.tl hP'
  refine ⟨rfl, _, _, ⟨ok, hH', hT', w2, ?_, ⟨kv, wv, mv, sv', hws'⟩, h.m.q hQ (fun x hx => ⟨ap.lb x (fpall x hx), fun e => ok.m1 (e ▸ fpall x hx)⟩) ⟨ap.tl, Ne.symm ok.m2⟩ ⟨hws.b2, Ne.symm ok.m3⟩, hQ.fr0 h.fr rfl (fun x hx => ok.low x (fpall x hx)) ok.l1 ok.l2 ok.base⟩, (Sta.tick _ _).trans ((Sta.put _ _ _ _).trans (Sta.put _ _ _ _)), ?_, ?_, ?_⟩
  · refine wt.take (fun j hj hne x hx => ?_)
    have gj := h.wh.ob j hj
    have hp : (p.ks j).o.p ≠ (p.ks i).o.p := gi.no gj (Ne.symm hne)
    have e1 := (t1.2 _ (gj.o.tick 5)).2 x (by rw [gj.on]; exact hx)
    have e2 := (t2.2 _ (t1.2 _ (gj.o.tick 5)).1).2 x (by rw [gj.on]; exact hx)
    rw [if_neg (fun e => hp e.1)] at e1 e2
    exact e2.trans e1
  · have e1 := (t1.2 _ o5).2 2 (by rw [gi.on]; decide)
    have e2 := (t2.2 _ (t1.2 _ o5).1).2 2 (by rw [gi.on]; decide)
    rw [if_pos ⟨rfl, rfl⟩] at e1
    rw [if_neg (fun e => by have := e.2; omega)] at e2
    exact e2.trans e1
  · have e2 := (t2.2 _ (t1.2 _ o5).1).2 3 (by rw [gi.on]; decide)
    rw [if_pos ⟨rfl, rfl⟩] at e2
    exact e2
  · show p.s.u + 5 + 2 + 2 = p.s.u + 9
    omega

theorem seg_chn {ws : List Int} : ∀ {l : List Int} {v : Int}, Seg ws v l 0 → Chn ws v l
  | [], _, h => h
  | _ :: _, _, h => ⟨h.1, h.2.1, seg_chn h.2.2⟩

theorem WR.lies {w0 w : World} {l : LL} {p : LP} (h : WR w0 w l p) {is : List Nat} (hi : ∀ i ∈ is, i < p.n) : ∀ x ∈ is.map (plc p.ks), ∃ o : Ob, o.Lies p.s ∧ o.p = x ∧ 4 ≤ o.n := by
  intro x hx
  obtain ⟨i, hm, rfl⟩ := List.mem_map.1 hx
  have gi := h.wh.ob i (hi i hm)
  exact ⟨(p.ks i).o, gi.o.lies h.wh.hi, rfl, by rw [gi.on]; omega⟩

theorem WR.len {w0 w : World} {l : LL} {p : LP} (h : WR w0 w l p) (hn : p.n ≤ 60000) : (p.pre ++ p.walk).length ≤ 65536 ∧ p.queue.length ≤ 65536 := by
  have hnd := h.wt.nd
  have h1 : (p.pre ++ p.walk ++ p.queue).length ≤ p.n := by
    have h2 : ((p.pre ++ p.walk ++ p.queue).map (fun i : Nat => (i : Int))).Nodup := by
      unfold List.Nodup at hnd ⊢
      rw [List.pairwise_map]
      exact hnd.imp (fun e => by omega)
    have := ints_len (n := p.n) h2 (fun c hc => by
      obtain ⟨i, hi, rfl⟩ := List.mem_map.1 hc
      have := h.wt.mem hi
      omega)
    simpa using this
  rw [List.length_append] at h1
  omega

theorem wRow (w0 w : World) (l : LL) (p : LP) (h : WR w0 w l p) (hn : p.n ≤ 60000) :
    Calls Try.prog 43 #[.pointer (some ⟨l.tb, 0, none⟩)] w fun e w' => (∃ sv, e = .returned sv ∧ w'.ownsRow w.heap.size 3 1 sv (p.pre ++ p.walk).length (intv ((p.pre ++ p.walk).map (plc p.ks)))) ∧ (∃ k : Nat, WR w0 w' l { p with s := p.s.tick k }) ∧ Fr [l.L.ab] w w' := by
  have c2 := h.t.reads.2.2.1
  have hc : Chn p.s.ws p.t.row ((p.pre ++ p.walk).map (plc p.ks)) := by
    rw [List.map_append]
    exact seg_chn (h.wt.cr.append h.wt.cw)
  have hl := h.lies (is := p.pre ++ p.walk) (fun i hi => h.wt.mem (List.mem_append_left _ hi))
  have hln := (h.len hn).1
  have H := hid h
  go_enter Try.func43, Try.ntmps43
  go_wp2_with fail
  refine (tPlaces l.L p.s l.tb (shv l.bx) p.t ((p.pre ++ p.walk).map (plc p.ks)) p.t.row w H.out.h H.out.t H.out.ok.ap.nt hc hl (by simpa using hln)).mono ?_
  rintro e w' ⟨⟨sv, rfl, hown⟩, ⟨k, hH'⟩, hF⟩
  rw [List.length_map] at hown
  obtain ⟨pp, cc, rfl⟩ := own_len hown
  clear c2
  go_wp2_with fail
  go_ret
  have h := H.out
  have hT' : TRep w' l.tb l.L.hb (shv l.bx) p.t := Blk.fr h.t hF (fun hc => h.ok.ap.nt (by simp at hc; exact hc ▸ fpab'))
  exact ⟨⟨_, rfl, by rw [List.length_append] at hown ⊢; exact hown⟩, ⟨k, h.step hF (fun b hb => .inl (by simp at hb; exact hb ▸ fpab')) hH' hT' (h.wh.tick _) (h.wt.tick _) (fun _ _ => ⟨rfl, rfl⟩)⟩, hF⟩

theorem wQueue (w0 w : World) (l : LL) (p : LP) (h : WR w0 w l p) (hn : p.n ≤ 60000) :
    Calls Try.prog 42 #[.pointer (some ⟨l.tb, 0, none⟩)] w fun e w' => (∃ sv, e = .returned sv ∧ w'.ownsRow w.heap.size 3 1 sv p.queue.length (intv (p.queue.map (plc p.ks)))) ∧ (∃ k : Nat, WR w0 w' l { p with s := p.s.tick k }) ∧ Fr [l.L.ab] w w' := by
  have c2 := h.t.reads.2.2.2.1
  have hc : Chn p.s.ws p.t.first (p.queue.map (plc p.ks)) := seg_chn h.wt.cq
  have hl := h.lies (is := p.queue) (fun i hi => h.wt.mem (List.mem_append_right _ hi))
  have hln := (h.len hn).2
  have H := hid h
  go_enter Try.func42, Try.ntmps42
  go_wp2_with fail
  refine (tPlaces l.L p.s l.tb (shv l.bx) p.t (p.queue.map (plc p.ks)) p.t.first w H.out.h H.out.t H.out.ok.ap.nt hc hl (by simpa using hln)).mono ?_
  rintro e w' ⟨⟨sv, rfl, hown⟩, ⟨k, hH'⟩, hF⟩
  rw [List.length_map] at hown
  obtain ⟨pp, cc, rfl⟩ := own_len hown
  clear c2
  go_wp2_with fail
  go_ret
  have h := H.out
  have hT' : TRep w' l.tb l.L.hb (shv l.bx) p.t := Blk.fr h.t hF (fun hc => h.ok.ap.nt (by simp at hc; exact hc ▸ fpab'))
  exact ⟨⟨_, rfl, hown⟩, ⟨k, h.step hF (fun b hb => .inl (by simp at hb; exact hb ▸ fpab')) hH' hT' (h.wh.tick _) (h.wt.tick _) (fun _ _ => ⟨rfl, rfl⟩)⟩, hF⟩
end Go.Proofs.Ytifillpcphiblaa
