import Derived.Test.YtifillpcphiblaaWDoc2
import Derived.Test.YtifillpcphiblaaWBuries0
import Derived.Test.YtifillpcphiblaaWUses0
namespace Go.Proofs.Ytifillpcphiblaa
open Go Go.Proofs Go.RowKit

/-! WeakPlays: row and queue are the document's. -/

def tagged (ks : Nat → Wk) (l : List Nat) : List (Int × Int) := l.map fun i => (plc ks i, (i : Int))
theorem tagged_fst (ks : Nat → Wk) (l : List Nat) : (tagged ks l).map (·.1) = l.map (plc ks) := by simp [tagged]
theorem tagged_len (ks : Nat → Wk) (l : List Nat) : (tagged ks l).length = l.length := by simp [tagged]

theorem wFirst (B : Nat) (v : Value) (L : List Int) (x : Int) (w : World) (h : w.ownsRow B 3 1 v L.length (intv L)) (hx : L.headD 0 = x) :
    Calls Try.prog 99 #[v] w fun e w' => e = .returned (.int .i64 x) ∧ w = w' := by
  obtain ⟨p, c, rfl⟩ := own_len h
  subst hx
  cases L with
  | nil =>
    go_enter Try.func99, Try.ntmps99
    go_wp2_with fail
    go_ret
    exact ⟨rfl, rfl⟩
  | cons y L =>
    obtain ⟨g, rfl, hc⟩ := own_cell h (by simp)
    have q0 := hc 0 (.int .i64 y) rfl
    clear hc
    go_enter Try.func99, Try.ntmps99
    go_wp2_with fail
    go_ret
    exact ⟨rfl, rfl⟩

theorem mPlacesL (base : Nat) (sv : Value) (l : List (Int × Int)) (L : List Int) (w : World) (h : SlM w base sv l) (hl : l.length ≤ 65536) (hL : l.map (·.1) = L) :
    Calls Try.prog 97 #[sv] w fun e w' => (∃ v, e = .returned v ∧ w'.ownsRow w.heap.size 3 1 v L.length (intv L)) ∧ Fr [] w w' := by
  subst hL
  rw [List.length_map]
  exact mPlaces base sv l w h hl
theorem wRowL (w0 w : World) (l : LL) (p : LP) (L : List Int) (h : WR w0 w l p) (hn : p.n ≤ 60000) (hL : (p.pre ++ p.walk).map (plc p.ks) = L) :
    Calls Try.prog 43 #[.pointer (some ⟨l.tb, 0, none⟩)] w fun e w' => (∃ sv, e = .returned sv ∧ w'.ownsRow w.heap.size 3 1 sv L.length (intv L)) ∧ (∃ k : Nat, WR w0 w' l { p with s := p.s.tick k }) ∧ Fr [l.L.ab] w w' := by
  subst hL
  rw [List.length_map]
  exact wRow w0 w l p h hn
theorem wQueueL (w0 w : World) (l : LL) (p : LP) (L : List Int) (h : WR w0 w l p) (hn : p.n ≤ 60000) (hL : p.queue.map (plc p.ks) = L) :
    Calls Try.prog 42 #[.pointer (some ⟨l.tb, 0, none⟩)] w fun e w' => (∃ sv, e = .returned sv ∧ w'.ownsRow w.heap.size 3 1 sv L.length (intv L)) ∧ (∃ k : Nat, WR w0 w' l { p with s := p.s.tick k }) ∧ Fr [l.L.ab] w w' := by
  subst hL
  rw [List.length_map]
  exact wQueue w0 w l p h hn

/-- What is laid by, while row and queue are compared. -/
structure AK (l : LL) (B1 B2 g : Nat) (v1 v2 : Value) (L1 L2 : List Int) (x y : Int) (W : World) : Prop where
  o1 : W.ownsRow B1 3 1 v1 L1.length (intv L1)
  o2 : W.ownsRow B2 3 1 v2 L2.length (intv L2)
  r : Blk W g [.int .i64 x, .int .i64 y] 2
  c1 : W.cell? ⟨l.vb, 1, none⟩ = some (.pointer (some ⟨l.tb, 0, none⟩))
theorem AK.nil {l : LL} {B1 B2 g : Nat} {v1 v2 : Value} {L1 L2 : List Int} {x y : Int} {W W' : World} (h : AK l B1 B2 g v1 v2 L1 L2 x y W) (hF : Fr [] W W') : AK l B1 B2 g v1 v2 L1 L2 x y W' :=
  ⟨ownsRow_fr h.o1 hF (by simp), ownsRow_fr h.o2 hF (by simp), h.r.fr hF (by simp), (cell_fr hF (by simp) (World.block_lt_of_cell? _ _ h.c1) 1).trans h.c1⟩
theorem AK.ab {l : LL} {B1 B2 g : Nat} {v1 v2 : Value} {L1 L2 : List Int} {x y : Int} {W W' : World} (h : AK l B1 B2 g v1 v2 L1 L2 x y W) (hF : Fr [l.L.ab] W W') (h1 : l.L.ab < B1) (h2 : l.L.ab < B2) (h3 : l.L.ab < g) (h4 : l.vb ≠ l.L.ab) : AK l B1 B2 g v1 v2 L1 L2 x y W' :=
  ⟨ownsRow_fr h.o1 hF (fun g' hg hc => by have := (own_lt h.o1 hg).1; simp at hc; omega), ownsRow_fr h.o2 hF (fun g' hg hc => by have := (own_lt h.o2 hg).1; simp at hc; omega), h.r.fr hF (by simp; omega), (cell_fr hF (by simpa using h4) (World.block_lt_of_cell? _ _ h.c1) 1).trans h.c1⟩
theorem AK.s {l : LL} {B1 B2 g : Nat} {v1 v2 : Value} {L1 L2 : List Int} {x y : Int} {W : World} (h : AK l B1 B2 g v1 v2 L1 L2 x y W) : W.cell? ⟨l.vb, 1, none⟩ = some (.pointer (some ⟨l.tb, 0, none⟩)) ∧ W.cell? ⟨g, 0, none⟩ = some (.int .i64 x) ∧ W.cell? ⟨g, 1, none⟩ = some (.int .i64 y) := ⟨h.c1, h.r.cell rfl, h.r.cell rfl⟩

theorem seg_head {ws : List Int} {v : Int} {l : List Int} (h : Seg ws v l 0) : l.headD 0 = v := by
  cases l with
  | nil => exact h.symm
  | cons x l => exact h.1.symm

set_option maxRecDepth 100000 in
set_option maxHeartbeats 8000000 in
theorem wAlike (w0 w : World) (l : LL) (p : LP) (h : WR w0 w l p) (hn : p.n ≤ 60000) (dR : p.R = tagged p.ks (p.pre ++ p.walk)) (dQ : p.Q = tagged p.ks p.queue) :
    Calls Try.prog 48 #[.pointer (some ⟨l.vb, 0, none⟩)] w fun e w' => e = .returned (.bool true) ∧ ∃ k : Nat, WR w0 w' l { p with s := p.s.tick k } := by
  have hal := h.wt.alen
  obtain ⟨L1, hL1⟩ : ∃ L1, L1 = (p.pre ++ p.walk).map (plc p.ks) := ⟨_, rfl⟩
  obtain ⟨L2, hL2⟩ : ∃ L2, L2 = p.queue.map (plc p.ks) := ⟨_, rfl⟩
  have eR : p.R.map (·.1) = L1 := by rw [dR, tagged_fst, hL1]
  have eQ : p.Q.map (·.1) = L2 := by rw [dQ, tagged_fst, hL2]
  have lR : p.R.length ≤ 65536 := by rw [dR, tagged_len, List.length_append]; omega
  have lQ : p.Q.length ≤ 65536 := by rw [dQ, tagged_len]; omega
  have l1 : L1.length ≤ 65536 := by rw [hL1, List.length_map, List.length_append]; omega
  have l2 : L2.length ≤ 65536 := by rw [hL2, List.length_map]; omega
  have x1 : L1.headD 0 = p.t.row := by
    rw [hL1, List.map_append]
    exact seg_head (h.wt.cr.append h.wt.cw)
  have x2 : L2.headD 0 = p.t.first := by rw [hL2]; exact seg_head h.wt.cq
  have c1 := h.cells.2.1
  have c2 := h.cells.2.2
  obtain ⟨rv, qv, kv, hB, hR, hQ, hK⟩ := h.m.ex
  have m0 := hB.cell (i := 0) rfl
  have m1 := hB.cell (i := 1) rfl
  have lvb := World.block_lt_of_cell? w _ c2
  have lmb := hB.lt
  have lab : l.L.ab < w.heap.size := all_lt h.h fpab'
  have nvab : l.vb ≠ l.L.ab := fun e => h.ok.ap.nv (e ▸ fpab')
  have H := hid h
  have HX := hid (⟨hL1.symm, hL2.symm, eR, eQ, x1, x2⟩ : _ ∧ _ ∧ _ ∧ _ ∧ _ ∧ _)
  have HR := hid (show SlM w.drew l.base rv p.R from hR)
  have HQ := hid (show SlM w.drew l.base qv p.Q from hQ)
  have C1 := hid c1
  clear h hL1 hL2 eR eQ x1 x2 dR dQ hR hQ hK hB c1
  go_enter Try.func48, Try.ntmps48
  go_wp2_with fail
  go_region_held3 (fun w' => w'.cell? ⟨l.vb, 2, none⟩ = some (.pointer (some ⟨l.mb, 0, none⟩)) ∧ w'.cell? ⟨l.mb, 0, none⟩ = some rv ∧ w'.cell? ⟨l.mb, 1, none⟩ = some qv)
    (first
      | assumption
      | (with_reducible exact ⟨c2, m0, m1⟩)
      | (with_reducible exact ⟨e2, e0, e1⟩)
      | (with_reducible exact ⟨f2, f0, f1⟩)
      | go_keep)
    (first
      | (go_at_call 97; (with_reducible refine (mPlacesL l.base rv p.R L1 w.drew HR.out lR HX.out.2.2.1).mono ?_); rintro e w1 ⟨⟨v1, rfl, o1⟩, F1⟩; obtain ⟨pp1, cc1, rfl⟩ := own_len o1; have e2 := (cell_fr F1 (by simp) lvb 2).trans c2; have e0 := (cell_fr F1 (by simp) lmb 0).trans m0; have e1 := (cell_fr F1 (by simp) lmb 1).trans m1)
      | (go_at_call 97; (with_reducible refine (mPlacesL l.base qv p.Q L2 _ (HQ.out.fr F1 (by simp)) lQ HX.out.2.2.2.1).mono ?_); rintro e w2 ⟨⟨v2, rfl, o2⟩, F2⟩; obtain ⟨pp2, cc2, rfl⟩ := own_len o2; have F12 := F1.trans F2; have f2 := (cell_fr F12 (by simp) lvb 2).trans c2; have f0 := (cell_fr F12 (by simp) lmb 0).trans m0; have f1 := (cell_fr F12 (by simp) lmb 1).trans m1))
  all_goals
    have h2 : WR w0 w2 l p := H.out.frnil (((Fr.refl [] w).drew).trans F12)
    have o1' := ownsRow_fr o1 F2 (by simp)
    have c1 := h2.cells.2.1
    have ls1 : w.heap.size ≤ w1.heap.size := F1.size
    have ls2 : w1.heap.size ≤ w2.heap.size := F2.size
    clear e0 e1 e2 f0 f1 f2 m0 m1 c2
    go_wp2_with fail
    refine (tRoots l.tb l.L.hb (shv l.bx) p.t _ h2.t).mono ?_
    rintro e w3 ⟨g, rfl, hg, hG, F3⟩
    have h3 := h2.frnil F3
    have k3 : AK l w.heap.size w1.heap.size g (.slice pp1 L1.length cc1) (.slice pp2 L2.length cc2) L1 L2 p.t.row p.t.first w3 := ⟨ownsRow_fr o1' F3 (by simp), ownsRow_fr o2 F3 (by simp), hG, h3.cells.2.1⟩
    have s3 := k3.s
    have H3 := hid h3
    have HK := hid (⟨o1, o2, o1'⟩ : _ ∧ _ ∧ _)
    clear h3 c1 hG o1 o2 o1'
    have bd : l.L.ab < w.heap.size ∧ l.L.ab < w1.heap.size ∧ l.L.ab < g := ⟨lab, by omega, by omega⟩
    go_wp2_with fail
    go_region_held3 (fun w' => w'.cell? ⟨l.vb, 1, none⟩ = some (.pointer (some ⟨l.tb, 0, none⟩)) ∧ w'.cell? ⟨g, 0, none⟩ = some (.int .i64 p.t.row) ∧ w'.cell? ⟨g, 1, none⟩ = some (.int .i64 p.t.first))
      (first
        | assumption
        | (with_reducible exact s3)
        | (with_reducible exact s5)
        | (with_reducible exact s6)
        | (with_reducible exact s7)
        | (with_reducible exact s8)
        | go_keep)
      (first
        | (go_at_call 43; (with_reducible refine (wRowL w0 w3.drew l p L1 H3.out.drew hn HX.out.1).mono ?_); rintro e w5 ⟨⟨sv5, rfl, o5⟩, ⟨q5, h5⟩, F5⟩; obtain ⟨pp5, cc5, rfl⟩ := own_len o5; have k5 := (k3.nil ((Fr.refl [] w3).drew)).ab F5 bd.1 bd.2.1 bd.2.2 nvab; have s5 := k5.s)
        | (go_at_call 44; (with_reducible refine (intsSame pp5 pp1 L1.length cc5 cc1 L1 _ rfl (own_arg o5) (own_arg k5.o1) l1).mono ?_); rintro e w6 ⟨rfl, F6⟩; have k6 := k5.nil F6; have s6 := k6.s; have h6 := h5.frnil F6)
        | (go_at_call 42; (with_reducible refine (wQueueL w0 _ l _ L2 h6 hn HX.out.2.1).mono ?_); rintro e w7 ⟨⟨sv7, rfl, o7⟩, ⟨q7, h7⟩, F7⟩; obtain ⟨pp7, cc7, rfl⟩ := own_len o7; have k7 := k6.ab F7 bd.1 bd.2.1 bd.2.2 nvab; have s7 := k7.s)
        | (go_at_call 44; (with_reducible refine (intsSame pp7 pp2 L2.length cc7 cc2 L2 _ rfl (own_arg o7) (own_arg k7.o2) l2).mono ?_); rintro e w8 ⟨rfl, F8⟩; have k8 := k7.nil F8; have s8 := k8.s; have h8 := h7.frnil F8)
        | (go_at_call 99; (with_reducible refine (wFirst _ (.slice pp1 L1.length cc1) L1 p.t.row _ k8.o1 HX.out.2.2.2.2.1).mono ?_); rintro e w9 ⟨rfl, rfl⟩)
        | (go_at_call 99; (with_reducible refine (wFirst _ (.slice pp2 L2.length cc2) L2 p.t.first _ k8.o2 HX.out.2.2.2.2.2).mono ?_); rintro e w9 ⟨rfl, rfl⟩))
    all_goals
      clear s3 s5 s6 s7 s8 k3 k5 k6 k7 k8
      go_wp2_with fail
      go_ret
      refine ⟨rfl, q5 + q7, ?_⟩
      have := h8
      rw [tick_tick] at this
      simpa using this
end Go.Proofs.Ytifillpcphiblaa
