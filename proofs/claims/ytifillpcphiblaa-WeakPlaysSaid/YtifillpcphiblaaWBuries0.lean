import Derived.Test.YtifillpcphiblaaWMark
import Derived.Test.YtifillpcphiblaaWKeeps
namespace Go.Proofs.Ytifillpcphiblaa
open Go Go.Proofs Go.RowKit

/-! WeakBuries: what it asks beyond. -/

/-- The heap's counter goes on, nothing else. -/
theorem WR.ab {w0 w w' : World} {l : LL} {p : LP} (h : WR w0 w l p) (hF : Fr [l.L.ab] w w') {m : Int} (hH : HRep w' l.L (p.s.tick m)) : WR w0 w' l { p with s := p.s.tick m } :=
  h.step hF (fun b hb => .inl (by simp at hb; exact hb ▸ fpab')) hH (Blk.fr h.t hF (fun hc => h.ok.ap.nt (by simp at hc; exact hc ▸ fpab'))) (h.wh.tick _) (h.wt.tick _) (fun _ _ => ⟨rfl, rfl⟩)

/-- The row of what was marked is emptied. -/
theorem WR.unmark {w0 w : World} {l : LL} {p : LP} (h : WR w0 w l p) : WR w0 (w.setCell ⟨l.vb, 5, none⟩ (.slice none 0 0)) l { p with M := [] } := by
  have ok := h.ok
  have ap := ok.ap
  obtain ⟨kv, wv, mv, sv, hws⟩ := h.ws
  have hF : Fr [l.vb] w (w.setCell ⟨l.vb, 5, none⟩ (.slice none 0 0)) := (Fr.refl _ w).set (by simp) _
  have hb2 := hws.b2
  refine ⟨ok, h.h.fr hF (fun b hb hc => ap.nv (by simp at hb; exact hb ▸ hc)), Blk.fr h.t hF (fun hc => ap.tv (by simpa using hc)), h.wh, h.wt, ⟨kv, wv, .slice none 0 0, sv, ?_⟩, h.m.fr hF (fun hc => ok.m3 (by simpa using hc)) (fun b hb => .inl (by simp at hb; omega)), h.fr.step hF (fun b hb => .inr (by simp at hb; rw [hb]; exact ok.l2))⟩
  have hk := hws.row 0 _ _ rfl rfl
  have hw := hws.row 1 _ _ rfl rfl
  have keep : ∀ {v : Value} {n : Nat} {xs : List Value}, w.ownsRow l.base 3 1 v n xs → (w.setCell ⟨l.vb, 5, none⟩ (.slice none 0 0)).ownsRow l.base 3 1 v n xs := fun ho => ownsRow_fr ho hF (fun g hg hc => by have := (own_lt ho hg).1; simp at hc; omega)
  refine ⟨rfl, rfl, rfl, hws.bb.fr hF (fun hc => hws.ne (by simpa using hc)), hws.vv.set 5 _, fun i v xs h1 h2 => ?_, fun i j v v' hne h1 h2 => ?_, ownsRow_fr hws.sh hF (fun g hg hc => by have := (own_lt hws.sh hg).1; simp at hc; omega), hws.b1, hws.b2, Nat.le_trans hws.hb hF.size, hws.ne⟩
  · have hi : i < 3 := (List.getElem?_eq_some_iff.1 h1).1
    rcases (by omega : i = 0 ∨ i = 1 ∨ i = 2) with rfl | rfl | rfl
    · cases h1; cases h2; exact keep hk
    · cases h1; cases h2; exact keep hw
    · cases h1; cases h2; exact ⟨rfl, .inl ⟨rfl, rfl⟩⟩
  · have hi : i < 3 := (List.getElem?_eq_some_iff.1 h1).1
    have hj : j < 3 := (List.getElem?_eq_some_iff.1 h2).1
    rcases (by omega : i = 0 ∨ i = 1 ∨ i = 2) with rfl | rfl | rfl <;> rcases (by omega : j = 0 ∨ j = 1 ∨ j = 2) with rfl | rfl | rfl
    · exact absurd rfl hne
    · cases h1; cases h2; exact hws.far 0 1 _ _ (by decide) rfl rfl
    · cases h1; cases h2; intro g _ hc; cases hc
    · cases h1; cases h2; exact hws.far 1 0 _ _ (by decide) rfl rfl
    · exact absurd rfl hne
    · cases h1; cases h2; intro g _ hc; cases hc
    · cases h1; intro g hg; cases hg
    · cases h1; intro g hg; cases hg
    · exact absurd rfl hne

/-- The world, where the row of the weak pointers is another one. -/
structure WX (w0 w : World) (l : LL) (p : LP) (Wl : List Int) : Prop where
  ok : l.Ok w0.heap.size
  h : HRep w l.L p.s
  t : TRep w l.tb l.L.hb (shv l.bx) p.t
  wh : WH p.s p.A p.z p.n p.ks
  wt : WT p.s p.t p.n p.ks p.pre p.walk p.queue
  ws : ∃ kv wv mv sv K M, WS w l.vb l.bx l.base [.pointer (some ⟨l.L.hb, 0, none⟩), .pointer (some ⟨l.tb, 0, none⟩), .pointer (some ⟨l.mb, 0, none⟩)] [kv, wv, mv] [K, Wl, M] sv p.S
  fr : Fr [] w0 w

theorem WR.x {w0 w : World} {l : LL} {p : LP} (h : WR w0 w l p) : WX w0 w l p (weaksOf p.n p.ks) := by
  obtain ⟨kv, wv, mv, sv, hws⟩ := h.ws
  exact ⟨h.ok, h.h, h.t, h.wh, h.wt, ⟨kv, wv, mv, sv, _, _, hws⟩, h.fr⟩

theorem WX.ab {w0 w w' : World} {l : LL} {p : LP} {Wl : List Int} (h : WX w0 w l p Wl) (hF : Fr [l.L.ab] w w') {m : Int} (hH : HRep w' l.L (p.s.tick m)) : WX w0 w' l { p with s := p.s.tick m } Wl := by
  have ap := h.ok.ap
  obtain ⟨kv, wv, mv, sv, K, M, hws⟩ := h.ws
  refine ⟨h.ok, hH, Blk.fr h.t hF (fun hc => ap.nt (by simp at hc; exact hc ▸ fpab')), h.wh.tick _, h.wt.tick _, ⟨kv, wv, mv, sv, K, M, hws.fr hF (fun b hb => ?_)⟩, h.fr.step hF (fun b hb => .inr ?_)⟩
  · simp at hb; subst hb
    exact ⟨ap.lb _ fpab', fun e => ap.nx (e ▸ fpab'), fun e => ap.nv (e ▸ fpab')⟩
  · simp at hb; subst hb
    exact h.ok.low _ fpab'

/-- The last cell tells how much was shaded. -/
def shl (w : World) (vb : Nat) : Nat := match w.cell? ⟨vb, 6, none⟩ with | some (.slice _ n _) => n | _ => 0
theorem WX.shl {w0 w : World} {l : LL} {p : LP} {Wl : List Int} (h : WX w0 w l p Wl) : shl w l.vb = p.S.length := by
  obtain ⟨kv, wv, mv, sv, K, M, hws⟩ := h.ws
  obtain ⟨ps, cs, e⟩ := own_len hws.sh
  subst e
  unfold Go.Proofs.Ytifillpcphiblaa.shl
  rw [hws.vv.cell (i := 6) rfl]

/-- An own row's cell is set. -/
theorem own_set {w : World} {B n z c g j : Nat} {T : TypeId} {xs : List Value} (h : w.ownsRow B T z (.slice (some ⟨g, 0, none⟩) n c) n xs) (v : Value) : (w.setCell ⟨g, j, none⟩ v).ownsRow B T z (.slice (some ⟨g, 0, none⟩) n c) n (xs.set j v) := by
  obtain ⟨h1, ⟨h2, _⟩ | ⟨g', cap, cur, hv, hg, hh, hc, hm, hs, ht⟩⟩ := h
  · cases h2
  · cases hv
    have hb : Blk w g cur.toList T := by unfold Blk; simpa using hh
    have hb2 := hb.set j v
    refine ⟨by rw [List.length_set]; exact h1, .inr ⟨g, c, (cur.toList.set j v).toArray, rfl, hg, hb2, hc, hm, by simp; exact hs, ?_⟩⟩
    rw [List.take_set, ht]

theorem blk_of_own {w : World} {B n z c g : Nat} {T : TypeId} {xs : List Value} (h : w.ownsRow B T z (.slice (some ⟨g, 0, none⟩) n c) n xs) : ∃ cs, Blk w g cs T := by
  obtain ⟨h1, ⟨h2, _⟩ | ⟨g', cap, cur, hv, hg, hh, hc, hm, hs, ht⟩⟩ := h
  · cases h2
  · cases hv
    exact ⟨cur.toList, by unfold Blk; simpa using hh⟩

theorem WX.drop {w0 w : World} {l : LL} {p : LP} {Wl : List Int} (h : WX w0 w l p Wl) {kv mv sv : Value} {K M : List Int} {g c j : Nat} (hws : WS w l.vb l.bx l.base [.pointer (some ⟨l.L.hb, 0, none⟩), .pointer (some ⟨l.tb, 0, none⟩), .pointer (some ⟨l.mb, 0, none⟩)] [kv, .slice (some ⟨g, 0, none⟩) Wl.length c, mv] [K, Wl, M] sv p.S) : WX w0 (w.setCell ⟨g, j, none⟩ (.int .i64 0)) l p (Wl.set j 0) := by
  have ap := h.ok.ap
  have hw := hws.row 1 _ _ rfl rfl
  have hgb := (own_lt hw (g := g) rfl).1
  have hF : Fr [g] w (w.setCell ⟨g, j, none⟩ (.int .i64 0)) := (Fr.refl _ w).set (by simp) _
  have hb1 := hws.b1
  have hb2 := hws.b2
  refine ⟨h.ok, h.h.fr hF (fun b hb hc => by simp at hb; subst hb; have := ap.lb _ hc; omega), Blk.fr h.t hF (fun hc => by simp at hc; have := ap.tl; omega), h.wh, h.wt, ⟨kv, .slice (some ⟨g, 0, none⟩) Wl.length c, mv, sv, K, M, ?_⟩, h.fr.step hF (fun b hb => .inr (by simp at hb; subst hb; have := h.ok.base; omega))⟩
  have keep : ∀ {T : TypeId} {v : Value} {n : Nat} {xs : List Value}, w.ownsRow l.base T 1 v n xs → (∀ g', v.ownBlock = some g' → g' ≠ g) → (w.setCell ⟨g, j, none⟩ (.int .i64 0)).ownsRow l.base T 1 v n xs := fun ho hne => ownsRow_fr ho hF (fun g' hg hc => hne g' hg (by simpa using hc))
  have hk := hws.row 0 _ _ rfl rfl
  have hm := hws.row 2 _ _ rfl rfl
  have ew : (w.setCell ⟨g, j, none⟩ (.int .i64 0)).ownsRow l.base 3 1 (.slice (some ⟨g, 0, none⟩) Wl.length c) (Wl.set j 0).length (intv (Wl.set j 0)) := by
    have := own_set hw (j := j) (.int .i64 0)
    have e : (intv Wl).set j (.int .i64 0) = intv (Wl.set j 0) := by simp [intv, List.map_set]
    rw [e] at this
    rw [List.length_set]; exact this
  refine ⟨rfl, rfl, rfl, hws.bb.fr hF (fun hc => by simp at hc; omega), hws.vv.fr hF (fun hc => by simp at hc; omega), fun i v xs h1 h2 => ?_, hws.far, keep hws.sh (fun g' hg e => own_apart hws.sh hw (by decide) g' hg (by subst e; simp [Value.ownBlock])), hws.b1, hws.b2, Nat.le_trans hws.hb hF.size, hws.ne⟩
  have hi : i < 3 := (List.getElem?_eq_some_iff.1 h1).1
  rcases (by omega : i = 0 ∨ i = 1 ∨ i = 2) with rfl | rfl | rfl
  · cases h1; cases h2
    exact keep hk (fun g' hg e => hws.far 0 1 _ _ (by decide) rfl rfl g' hg (by subst e; rfl))
  · cases h1; cases h2; exact ew
  · cases h1; cases h2
    exact keep hm (fun g' hg e => hws.far 2 1 _ _ (by decide) rfl rfl g' hg (by subst e; rfl))
theorem wTake0X (w0 w : World) (l : LL) (p : LP) (Wl : List Int) (h : WX w0 w l p Wl) (hq : p.queue = []) :
    Calls Try.prog 41 #[.pointer (some ⟨l.tb, 0, none⟩)] w fun e w' => e = .returned (.tuple #[.int .i64 0, .int .i64 0, .int .i64 0, .bool false]) ∧ WX w0 w' l p Wl := by
  have wt := h.wt
  rw [hq] at wt
  refine (tTake0 l.L l.tb (shv l.bx) p.t w h.t wt.first0).mono ?_
  rintro e w' ⟨rfl, hF⟩
  obtain ⟨kv, wv, mv, sv, K, M, hws⟩ := h.ws
  exact ⟨rfl, h.ok, h.h.fr hF (by simp), Blk.fr h.t hF (by simp), h.wh, h.wt, ⟨kv, wv, mv, sv, K, M, hws.fr hF (by simp)⟩, h.fr.trans hF⟩

theorem wTakeX (w0 w : World) (l : LL) (p : LP) (Wl : List Int) (i : Nat) (qu : List Nat) (h : WX w0 w l p Wl) (hq : p.queue = i :: qu) (hS : p.S.length + 1 ≤ 65536) :
    Calls Try.prog 41 #[.pointer (some ⟨l.tb, 0, none⟩)] w fun e w' => e = .returned (.tuple #[.int .i64 (p.ks i).o.p, .int .i64 i, .int .i64 (p.ks i).fo.p, .bool true]) ∧
      ∃ s' t', WX w0 w' l { p with s := s', t := t', queue := qu, S := p.S ++ [(p.ks i).fo.p] ++ [p.s.wd (p.ks i).o 3] } Wl ∧ Sta p.s s' ∧ s'.wd (p.ks i).o 2 = 0 ∧ s'.wd (p.ks i).o 3 = 0 ∧ s'.u = p.s.u + 9 := by
  have wt := h.wt
  rw [hq] at wt
  obtain ⟨hfi, hin⟩ := wt.first
  have gi := h.wh.ob i hin
  obtain ⟨kv, wv, mv, sv, KK, MM, hws⟩ := h.ws
  have hI5 := h.wh.hi.tick 5
  have o5 := gi.o.tick 5
  have t1 := setw hI5 o5 (j := 2) (by rw [gi.on]; decide) 0 2
  have t2 := setw t1.1 (t1.2 _ o5).1 (j := 3) (by rw [gi.on]; decide) 0 2
  have hfin := (wt.que i (by simp)).2.2.2.2
  have w1 := (h.wh.tick 5).put o5 (j := 2) (by rw [gi.on]; decide) 0 2
  have w2 := w1.put (t1.2 _ o5).1 (j := 3) (by rw [gi.on]; decide) 0 2
  refine (tTake l.L p.s l.tb l.vb l.bx l.base p.t _ p.S (p.ks i).o (p.ks i).fo.p _ w h.ok.ap h.h h.t hws.shp hS (gi.o.lies h.wh.hi) (by rw [gi.on]; omega) hfi hfin rfl ((t1.2 _ o5).1.lies t1.1)).mono ?_
  rintro e w' ⟨rfl, hH', hT', hP', hQ⟩
  rw [gi.oa]
  have ok := h.ok
  have ap := ok.ap
  obtain ⟨sv', hws'⟩ := hws.shaded hQ (fun x hx => ap.lb x (fpall x hx)) ap.tl hP'
  refine ⟨rfl, _, _, ⟨ok, hH', hT', w2, ?_, ⟨kv, wv, mv, sv', KK, MM, hws'⟩, hQ.fr0 h.fr rfl (fun x hx => ok.low x (fpall x hx)) ok.l1 ok.l2 ok.base⟩, (Sta.tick _ _).trans ((Sta.put _ _ _ _).trans (Sta.put _ _ _ _)), ?_, ?_, ?_⟩
  · refine wt.take (fun j hj hne x hx => ?_)
    have gj := h.wh.ob j hj
    have hp : (p.ks j).o.p ≠ (p.ks i).o.p := gi.no gj (Ne.symm hne)
    have e1 := (t1.2 _ (gj.o.tick 5)).2 x (by rw [gj.on]; exact hx)
    have e2 := (t2.2 _ (t1.2 _ (gj.o.tick 5)).1).2 x (by rw [gj.on]; exact hx)
    rw [if_neg (fun e => hp e.1)] at e1 e2
    exact e2.trans e1
  · have e1 := (t1.2 _ o5).2 2 (by rw [gi.on]; decide)
    have e2 := (t2.2 _ (t1.2 _ o5).1).2 2 (by rw [gi.on]; decide)
    rw [if_pos ⟨rfl, rfl⟩] at e1
    rw [if_neg (fun e => by have := e.2; omega)] at e2
    exact e2.trans e1
  · have e2 := (t2.2 _ (t1.2 _ o5).1).2 3 (by rw [gi.on]; decide)
    rw [if_pos ⟨rfl, rfl⟩] at e2
    exact e2
  · show p.s.u + 5 + 2 + 2 = p.s.u + 9
    omega

theorem wQueue0X (w0 w : World) (l : LL) (p : LP) (Wl : List Int) (h : WX w0 w l p Wl) (hq : p.queue = []) :
    Calls Try.prog 42 #[.pointer (some ⟨l.tb, 0, none⟩)] w fun e w' => (∃ sv, e = .returned sv ∧ w'.ownsRow w.heap.size 3 1 sv 0 []) ∧ Fr [] w0 w' := by
  have c2 := h.t.reads.2.2.2.1
  have hc : Chn p.s.ws p.t.first [] := by have := h.wt; rw [hq] at this; exact this.first0
  have H := hid h
  go_enter Try.func42, Try.ntmps42
  go_wp2_with fail
  refine (tPlaces l.L p.s l.tb (shv l.bx) p.t [] p.t.first w H.out.h H.out.t H.out.ok.ap.nt hc (by simp) (by simp)).mono ?_
  rintro e w' ⟨⟨sv, rfl, hown⟩, ⟨k, hH'⟩, hF⟩
  obtain ⟨pp, cc, rfl⟩ := own_len hown
  clear c2
  go_wp2_with fail
  go_ret
  exact ⟨⟨_, rfl, hown⟩, H.out.fr.step hF (fun b hb => .inr (by simp at hb; subst hb; exact H.out.ok.low _ fpab'))⟩

theorem wCellT (w0 w : World) (l : LL) (p : LP) (i : Nat) (h : WR w0 w l p) (hi : i < p.n) (hk : (p.ks i).o.k = 10) :
    Calls Try.prog 25 #[.pointer (some ⟨l.L.hb, 0, none⟩), .int .i64 (p.ks i).o.p] w fun e w' => e = .returned (.tuple #[.agg #[.int .i64 10, .int .i64 4, .int .i64 i, .int .i64 (p.ks i).o.m], .int .i64 0]) ∧ WR w0 w' l { p with s := p.s.tick 1 } ∧ Fr [l.L.ab] w w' := by
  have g := h.wh.ob i hi
  have b := g.o.bound h.wh.hi
  have hh := g.o.head
  have hd := g.o.hd
  unfold Ob.word at hh
  rw [hk, g.on, g.oa] at hh hd
  refine (hCell l.L p.s (p.ks i).o.p 10 (4 : Nat) i (p.ks i).o.m w h.h (by omega) (by omega) hh hd).mono ?_
  rintro e w' ⟨rfl, hH', hF⟩
  exact ⟨rfl, h.ab hF hH', hF⟩

theorem wGetT (w0 w : World) (l : LL) (p : LP) (i j : Nat) (x v : Int) (h : WR w0 w l p) (hi : i < p.n) (hj : j < 4) (hx : x = (j : Int)) (hv : p.s.wd (p.ks i).o j = v) :
    Calls Try.prog 26 #[.pointer (some ⟨l.L.hb, 0, none⟩), .int .i64 (p.ks i).o.p, .int .i64 x] w fun e w' => e = .returned (.tuple #[.int .i64 v, .int .i64 0]) ∧ WR w0 w' l { p with s := p.s.tick 2 } ∧ Fr [l.L.ab] w w' := by
  subst hx
  have g := h.wh.ob i hi
  have b := g.o.bound h.wh.hi
  have hn := g.on
  refine (hGet l.L p.s (p.ks i).o.p (p.ks i).o.k (p.ks i).o.n (p.ks i).o.a (p.ks i).o.m j w h.h (by omega) b.2 g.o.head g.o.hd (by omega) (by omega)).mono ?_
  rintro e w' ⟨rfl, hH', hF⟩
  exact ⟨by rw [← hv]; rfl, h.ab hF hH', hF⟩

theorem wGetX (w0 w : World) (l : LL) (p : LP) (Wl : List Int) (i j : Nat) (x v : Int) (h : WX w0 w l p Wl) (hi : i < p.n) (hj : j < 4) (hx : x = (j : Int)) (hv : p.s.wd (p.ks i).o j = v) :
    Calls Try.prog 26 #[.pointer (some ⟨l.L.hb, 0, none⟩), .int .i64 (p.ks i).o.p, .int .i64 x] w fun e w' => e = .returned (.tuple #[.int .i64 v, .int .i64 0]) ∧ WX w0 w' l { p with s := p.s.tick 2 } Wl ∧ Fr [l.L.ab] w w' := by
  subst hx
  have g := h.wh.ob i hi
  have b := g.o.bound h.wh.hi
  have hn := g.on
  refine (hGet l.L p.s (p.ks i).o.p (p.ks i).o.k (p.ks i).o.n (p.ks i).o.a (p.ks i).o.m j w h.h (by omega) b.2 g.o.head g.o.hd (by omega) (by omega)).mono ?_
  rintro e w' ⟨rfl, hH', hF⟩
  exact ⟨by rw [← hv]; rfl, h.ab hF hH', hF⟩

theorem WT.qlen {s : HS} {t : TS} {n : Nat} {ks : Nat → Wk} {pre walk queue : List Nat} (h : WT s t n ks pre walk queue) : queue.length ≤ n := by
  have hnd := (List.nodup_append.1 h.nd).2.1
  have h2 : (queue.map (fun i : Nat => (i : Int))).Nodup := by
    unfold List.Nodup at hnd ⊢
    rw [List.pairwise_map]
    exact hnd.imp (fun e => by omega)
  have := ints_len (n := n) h2 (fun c hc => by
    obtain ⟨i, hi, rfl⟩ := List.mem_map.1 hc
    have := h.mem (List.mem_append_right _ hi)
    omega)
  simpa using this

/-- The world while weak pointers are taken. -/
structure XI (w0 wr : World) (l : LL) (N : Nat) (p : LP) (Wl : List Int) : Prop where
  x : WX w0 wr l p Wl
  n : p.n = N
  len : Wl.length = N
  at_ : ∀ j ∈ p.queue, Wl[j]? = some (p.ks j).o.p
  S : p.S.length + 2 * p.queue.length ≤ 2 * N

theorem XI.start {w0 wr : World} {l : LL} {N : Nat} {p : LP} (h : WR w0 wr l p) (hn : p.n = N) (hS : p.S = []) : XI w0 wr l N p (weaksOf p.n p.ks) := by
  refine ⟨h.x, hn, by rw [weaksOf_len, hn], fun j hj => weaksOf_get (h.wt.mem (List.mem_append_right _ hj)), ?_⟩
  have := h.wt.qlen
  rw [hS]; simp; omega
end Go.Proofs.Ytifillpcphiblaa
