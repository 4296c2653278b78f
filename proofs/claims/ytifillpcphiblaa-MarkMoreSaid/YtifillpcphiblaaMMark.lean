import Derived.Test.YtifillpcphiblaaPMark
import Derived.Test.YtifillpcphiblaaMLinks
import Derived.Deep.QuietTactic
import Derived.BigQuiet
namespace Go.Proofs.Ytifillpcphiblaa
open Go Go.Proofs Go.RowKit

/-! Package mark: each function once. -/

/-- The marker: where it lies. -/
def MBlk (w : World) (mb : Nat) (L : HL) (a : Int) (nx : Nat) : Prop := Blk w mb [.pointer (some ⟨L.hb, 0, none⟩), .int .i64 a, .int .i64 nx] 175

/-- What is left of all by a step of the marker. -/
structure MSt (s s' : HS) (A A' : Rg) (obs : List Ob) : Prop where
  sta : Sta s s'
  mono : ∀ o ∈ obs, Mkd A o → Mkd A' o
  wd : ∀ o ∈ obs, ∀ j, j < o.n → s'.wd o j = s.wd o j
theorem MSt.refl (s : HS) (A : Rg) (obs : List Ob) : MSt s s A A obs := ⟨Sta.refl s, fun _ _ h => h, fun _ _ _ _ => rfl⟩
theorem MSt.trans {s s' s'' : HS} {A A' A'' : Rg} {obs : List Ob} (h : MSt s s' A A' obs) (k : MSt s' s'' A' A'' obs) : MSt s s'' A A'' obs :=
  ⟨h.sta.trans k.sta, fun o ho hm => k.mono o ho (h.mono o ho hm), fun o ho j hj => (k.wd o ho j hj).trans (h.wd o ho j hj)⟩
theorem MSt.tick (s : HS) (A : Rg) (obs : List Ob) (n : Int) : MSt s (s.tick n) A A obs := ⟨Sta.tick s n, fun _ _ h => h, fun _ _ _ _ => rfl⟩

def ShadePost (L : HL) (s : HS) (A : Rg) (z : Int → Int) (obs : List Ob) (g : MG) (a : Int) (nx U : Nat) (p : Int) (w : World) (e : Ending) (w' : World) : Prop :=
  e = .returned (.int .i64 0) ∧ Fr L.fp w w' ∧ ∃ s' A', HRep w' L s' ∧ MI s' A' z obs g a nx U ∧ MSt s s' A A' obs ∧ (∀ o ∈ obs, o.p = p → Mkd A' o)

/-- heap.Shade, of an object. -/
theorem hShadeOb (L : HL) (s : HS) (A : Rg) (z : Int → Int) (obs : List Ob) (g : MG) (a : Int) (nx U : Nat) (o : Ob) (w : World) (hH : HRep w L s) (h : MI s A z obs g a nx U) (ho : o ∈ obs) (hS : g.S o.p) :
    Calls Try.prog 28 #[.pointer (some ⟨L.hb, 0, none⟩), .int .i64 o.p] w fun e w' => ∃ b, e = .returned (.tuple #[.bool b, .int .i64 0]) ∧ Fr L.fp w w' ∧ ∃ s' A', HRep w' L s' ∧ MI s' A' z obs g a nx U ∧ MSt s s' A A' obs ∧ (∀ o' ∈ obs, o'.p = o.p → Mkd A' o') := by
  rcases h.mh.inn o ho with ⟨hF, hin⟩ | ⟨hm, hin⟩
  · obtain ⟨F1, F2, hF'⟩ := List.append_of_mem hF
    refine (hShadeAny L s A z o.q o.p o.k o.n o.a (1 - s.parity) F1 F2 w hH h.mh.hi hF' hin.head hin.hd (h.mh.hd ho _ h.mh.par) (by have := h.mh.par; omega) hin.ring).mono ?_
    rintro e w' ⟨rfl, ⟨s', hH', hs⟩, hFr⟩
    obtain ⟨m1, m2, m3⟩ := h.shade ho hF' hs hS
    exact ⟨true, rfl, hFr, s', _, hH', m1, ⟨hs.st, fun o' ho' hm => (m2 o' ho').2 (.inl hm), m3⟩, fun o' ho' e => (m2 o' ho').2 (.inr (h.mh.one ho' ho e))⟩
  · have hb := hin.bound h.mh.hi
    simp only [Ob.wm] at hb
    refine (hShadeNo L s o.p o.k o.n o.a w hH (by omega) (by omega) hin.head hin.hd).mono ?_
    rintro e w' ⟨rfl, hH', hFr⟩
    exact ⟨false, rfl, hFr.here (by intro x hx; rw [List.mem_singleton.1 hx]; simp [HL.fp]), _, A, hH', h.tick 1, MSt.tick s A obs 1, fun o' ho' e => by have := h.mh.one ho' ho e; subst this; exact hm⟩

set_option maxRecDepth 100000 in
set_option maxHeartbeats 3200000 in
theorem mShade (L : HL) (s : HS) (A : Rg) (z : Int → Int) (obs : List Ob) (g : MG) (a a2 : Int) (nx nx2 U mb : Nat) (p : Int) (w : World) (hH : HRep w L s) (hM : MBlk w mb L a2 nx2) (h : MI s A z obs g a nx U) (hp : p = 0 ∨ ∃ o ∈ obs, o.p = p ∧ g.S o.p) :
    Calls Try.prog 57 #[.pointer (some ⟨mb, 0, none⟩), .int .i64 p] w (ShadePost L s A z obs g a nx U p w) := by
  rcases hp with rfl | ⟨o, ho, rfl, hS⟩
  · go_enter Try.func57, Try.ntmps57
    go_wp2_with fail
    go_ret
    refine ⟨rfl, Fr.refl _ w, s, A, hH, h, MSt.refl s A obs, fun o ho e => ?_⟩
    obtain ⟨m, hm⟩ := h.mh.any ho
    have := hm.bound h.mh.hi
    simp only [Ob.wm] at this
    omega
  · have m0 := hM.cell (i := 0) rfl
    have hb : 1 ≤ o.p := by
      obtain ⟨m, hm⟩ := h.mh.any ho
      exact (hm.bound h.mh.hi).1
    have hne : ¬ o.p = 0 := by omega
    go_enter Try.func57, Try.ntmps57
    go_wp2_with fail
    refine (hShadeOb L s A z obs g a nx U o w hH h ho hS).mono ?_
    rintro e w1 ⟨b, rfl, hF, s', A', hH', hm, hst, hmk⟩
    go_wp2_with fail
    go_ret
    exact ⟨rfl, hF, s', A', hH', hm, hst, hmk⟩

/-- One of an object's words. -/
theorem MI.get {s : HS} {A : Rg} {z : Int → Int} {obs : List Ob} {g : MG} {a : Int} {nx U : Nat} (h : MI s A z obs g a nx U) {o : Ob} (ho : o ∈ obs) : ∃ m, gw s.ws o.p = packed o.k o.n o.a m ∧ Hd o.k o.n o.a m ∧ 1 ≤ o.p ∧ o.p + 3 + o.n ≤ s.ws.length := by
  obtain ⟨m, hm⟩ := h.mh.any ho
  exact ⟨m, hm.head, hm.hd, hm.bound h.mh.hi⟩

set_option maxRecDepth 100000 in
set_option maxHeartbeats 3200000 in
theorem mLink (L : HL) (s : HS) (A : Rg) (z : Int → Int) (obs : List Ob) (g : MG) (a a2 : Int) (nx nx2 U mb : Nat) (o : Ob) (j : Nat) (w : World) (hH : HRep w L s) (hM : MBlk w mb L a2 nx2) (hmb : mb ∉ L.fp) (h : MI s A z obs g a nx U) (ho : o ∈ obs) (hS : g.S o.p) (hj : Lk o j) :
    Calls Try.prog 140 #[.pointer (some ⟨mb, 0, none⟩), .int .i64 o.p, .int .i64 j] w (ShadePost L s A z obs g a nx U (s.wd o j) w) := by
  obtain ⟨m, e1, e2, e3, e4⟩ := h.get ho
  have m0 := hM.cell (i := 0) rfl
  go_enter Try.func140, Try.ntmps140
  go_wp2_with fail
  refine (hGetV L s o.p o.k o.n o.a m j (s.wd o j) w hH (by omega) e4 e1 e2 (by omega) (by have := hj.lt; omega) rfl).mono ?_
  rintro e w1 ⟨rfl, hH1, hF1⟩
  go_wp2_with fail
  have hM1 : MBlk w1 mb L a2 nx2 := Blk.fr hM hF1 (by intro hc; exact hmb (by rw [List.mem_singleton.1 hc]; simp [HL.fp]))
  refine (mShade L _ A z obs g a a2 nx nx2 U mb (s.wd o j) w1 hH1 hM1 (h.tick _) ?_).mono ?_
  · rcases h.wd o ho j hj with h0 | ⟨o', ho', e⟩
    · exact .inl h0
    · exact .inr ⟨o', ho', e, h.cS o ho hS j hj o' ho' e⟩
  rintro e w2 ⟨rfl, hF2, s', A', hH', hm, hst, hmk⟩
  go_wp2_with fail
  go_ret
  exact ⟨rfl, (hF1.here (by intro x hx; rw [List.mem_singleton.1 hx]; simp [HL.fp])).trans hF2, s', A', hH', hm, (MSt.tick s A obs _).trans hst, hmk⟩


theorem ab_fp {L : HL} : ∀ x ∈ [L.ab], x ∈ L.fp := by intro x hx; rw [List.mem_singleton.1 hx]; simp [HL.fp]
theorem MBlk.fr {w w' : World} {mb : Nat} {L : HL} {a : Int} {nx : Nat} {S : List Nat} (h : MBlk w mb L a nx) (hF : Fr S w w') (hm : mb ∉ S) : MBlk w' mb L a nx := Blk.fr h hF hm

def lkFT3 (k : Int) (n : Nat) : Value := if lkF k < lkT k n then .tuple #[.int .i64 (lkF k), .int .i64 (lkT k n), .int .i64 0] else .tuple #[.int .i64 0, .int .i64 0, .int .i64 0]
theorem lkFT_cases (k : Int) (n : Nat) : ∃ f t : Nat, lkFT k n = .tuple #[.int .i64 f, .int .i64 t] ∧ lkFT3 k n = .tuple #[.int .i64 f, .int .i64 t, .int .i64 0] ∧ ((f = lkF k ∧ t = lkT k n ∧ lkF k < lkT k n) ∨ (f = 0 ∧ t = 0 ∧ ¬ lkF k < lkT k n)) := by
  by_cases h : lkF k < lkT k n
  · exact ⟨lkF k, lkT k n, by rw [lkFT, if_pos h], by rw [lkFT3, if_pos h], .inl ⟨rfl, rfl, h⟩⟩
  · exact ⟨0, 0, by rw [lkFT, if_neg h]; rfl, by rw [lkFT3, if_neg h]; rfl, .inr ⟨rfl, rfl, h⟩⟩

set_option maxRecDepth 100000 in
set_option maxHeartbeats 3200000 in
theorem mLinks (L : HL) (s : HS) (A : Rg) (z : Int → Int) (obs : List Ob) (g : MG) (a a2 : Int) (nx nx2 U mb : Nat) (o : Ob) (w : World) (hH : HRep w L s) (hM : MBlk w mb L a2 nx2) (_hmb : mb ∉ L.fp) (h : MI s A z obs g a nx U) (ho : o ∈ obs) :
    Calls Try.prog 141 #[.pointer (some ⟨mb, 0, none⟩), .int .i64 o.p] w fun e w' => e = .returned (lkFT3 o.k o.n) ∧ HRep w' L (s.tick 1) ∧ Fr [L.ab] w w' := by
  obtain ⟨m, e1, e2, e3, e4⟩ := h.get ho
  have m0 := hM.cell (i := 0) rfl
  obtain ⟨f, t, h1, h2, -⟩ := lkFT_cases o.k o.n
  rw [h2]
  have HE2 := hid e2
  go_enter Try.func141, Try.ntmps141
  go_wp2_with fail
  refine (hCell L s o.p o.k o.n o.a m w hH (by omega) (by omega) e1 e2).mono ?_
  rintro e w1 ⟨rfl, hH1, hF1⟩
  have HH1 := hid hH1
  have HF1 := hid hF1
  have B0 := Blk.new w1 [.int .i64 o.k, .int .i64 o.n, .int .i64 o.a, .int .i64 m] 40
  have b0 := B0.cell (i := 0) rfl
  have b1 := B0.cell (i := 1) rfl
  have b2 := B0.cell (i := 2) rfl
  have b3 := B0.cell (i := 3) rfl
  clear hH1 hF1 B0
  go_wp2_with fail
  refine (cLinks o.k o.n o.a m HE2.out _).mono ?_
  rintro e w2 ⟨rfl, hF2⟩
  rw [h1]
  have HF2 := hid hF2
  clear hF2 b0 b1 b2 b3
  go_wp2_with fail
  refine bodyPost_ret (v := .tuple #[.int .i64 f, .int .i64 t, .int .i64 0]) (by simp [results, Try.results141, go_sem]) rfl ⟨rfl, HH1.out.fr (S := []) (((Fr.refl _ w1).alloc _).trans HF2.out) (by simp), HF1.out.trans ((((Fr.refl [] w1).alloc _).trans HF2.out).here (by simp))⟩

def OpenPost (L : HL) (s : HS) (A : Rg) (z : Int → Int) (obs : List Ob) (g : MG) (a : Int) (nx U mb : Nat) (w : World) (e : Ending) (w' : World) : Prop :=
  Fr (mb :: L.fp) w w' ∧ ((∃ o ∈ obs, o.p = a ∧ a ≠ 0 ∧ max o.f nx < o.t ∧ e = .returned (.tuple #[.int .i64 (max o.f nx : Nat), .bool true]) ∧ HRep w' L (s.tick 1) ∧ MBlk w' mb L a nx) ∨
    ∃ s', e = .returned (.tuple #[.int .i64 0, .bool false]) ∧ HRep w' L s' ∧ MBlk w' mb L 0 0 ∧ MI s' A z obs g 0 0 U ∧ MSt s s' A A obs ∧ (a = 0 → s' = s ∧ w' = w))

theorem MI.atOb {s : HS} {A : Rg} {z : Int → Int} {obs : List Ob} {g : MG} {a : Int} {nx U : Nat} (h : MI s A z obs g a nx U) (a0 : a ≠ 0) : ∃ o ∈ obs, o.p = a ∧ o.p ∈ (A o.q).B := by
  obtain ⟨r, h1, _⟩ := h.u
  rcases h1 with ⟨h1, _⟩ | ⟨o, ho, e, hb, _⟩
  · exact absurd h1 a0
  · exact ⟨o, ho, e, hb⟩

set_option maxRecDepth 100000 in
set_option maxHeartbeats 3200000 in
theorem mOpen (L : HL) (s : HS) (A : Rg) (z : Int → Int) (obs : List Ob) (g : MG) (a : Int) (nx U mb : Nat) (w : World) (hH : HRep w L s) (hM : MBlk w mb L a nx) (hmb : mb ∉ L.all) (h : MI s A z obs g a nx U) (hnx : a = 0 → nx = 0) :
    Calls Try.prog 108 #[.pointer (some ⟨mb, 0, none⟩)] w (OpenPost L s A z obs g a nx U mb w) := by
  have m0 := hM.cell (i := 0) rfl
  have m1 := hM.cell (i := 1) rfl
  have m2 := hM.cell (i := 2) rfl
  have hmf : mb ∉ L.fp := fun hc => hmb (by simp [HL.all, hc])
  by_cases a0 : a = 0
  · obtain rfl := hnx a0
    subst a0
    go_enter Try.func108, Try.ntmps108
    go_wp2_with fail
    refine bodyPost_ret (v := .tuple #[.int .i64 0, .bool false]) (by simp [results, Try.results108, go_sem]) rfl ⟨Fr.refl _ w, .inr ⟨s, rfl, hH, hM, h, MSt.refl s A obs, fun _ => ⟨rfl, rfl⟩⟩⟩
  · obtain ⟨o, ho, hp, hb⟩ := h.atOb a0
    obtain ⟨f, t, h1, h2, h3⟩ := lkFT_cases o.k o.n
    subst hp
    have hft : max f nx < t ↔ max o.f nx < o.t := by unfold Ob.f Ob.t; omega
    have hfk : max f nx < t → max f nx = max o.f nx := by unfold Ob.f; omega
    have HFT := hid hft
    have HFK := hid hfk
    have H3 := hid h3
    have HNX := hid hnx
    have HB := hid hb
    have H := hid h
    have HA0 : ¬ o.p = 0 := a0
    clear hft hfk h3 hnx hb a0
    go_enter Try.func108, Try.ntmps108
    go_wp2_with fail
    refine (mLinks L s A z obs g o.p o.p nx nx U mb o w hH hM hmf h ho).mono ?_
    rintro e w1 ⟨rfl, hH1, hF1⟩
    rw [h2]
    have hM1 := hM.fr hF1 (fun hc => hmf (ab_fp _ hc))
    have d1 := hM1.cell (i := 1) rfl
    have d2 := hM1.cell (i := 2) rfl
    have z1 := hM1.frozen 1
    have z2 := hM1.frozen 2
    have HF1 := hid hF1
    have HM1 := hid hM1
    have HH1 := hid hH1
    clear hF1 hM1 hH1 m0 m1 m2
    have hyes : ∀ k : Nat, max f nx = k → k < t → OpenPost L s A z obs g o.p nx U mb w (.returned (.tuple #[.int .i64 k, .bool true])) w1 := fun k hk hkt =>
      ⟨(HF1.out.here ab_fp).here (by intro x hx; exact List.mem_cons_of_mem _ hx), .inl ⟨o, ho, rfl, HA0, HFT.out.1 (by omega), by rw [← HFK.out (by omega), hk], HH1.out, HM1.out⟩⟩
    have hno : ¬ max f nx < t → OpenPost L s A z obs g o.p nx U mb w (.returned (.tuple #[.int .i64 0, .bool false])) ((w1.setCell ⟨mb, 1, none⟩ (.int .i64 0)).setCell ⟨mb, 2, none⟩ (.int .i64 0)) := fun hk => by
      have hF2 : Fr [mb] w1 ((w1.setCell ⟨mb, 1, none⟩ (.int .i64 0)).setCell ⟨mb, 2, none⟩ (.int .i64 0)) := ((Fr.refl _ w1).set (by simp) _).set (by simp) _
      refine ⟨((HF1.out.here ab_fp).here (by intro x hx; exact List.mem_cons_of_mem _ hx)).trans (hF2.here (by simp)), .inr ⟨s.tick 1, rfl, HH1.out.fr hF2 (by intro x hx hc; rw [List.mem_singleton.1 hx] at hc; exact hmb hc), ?_, (H.out.close ho rfl HA0 (fun hc => hk (HFT.out.2 hc))).tick 1, MSt.tick s A obs 1, fun h0 => absurd h0 HA0⟩⟩
      exact (Blk.set HM1.out 1 (.int .i64 0)).set 2 (.int .i64 0)
    have HY := hid hyes
    have HN := hid hno
    clear hyes hno
    go_wp2_with fail
    · rename_i hA
      rw [if_pos h] at hA
      exact bodyPost_ret (v := .tuple #[.int .i64 nx, .bool true]) (by simp [results, Try.results108, go_sem]) rfl (HY.out nx (by omega) (by omega))
    · rename_i hA
      rw [if_neg h] at hA
      exact bodyPost_ret (v := .tuple #[.int .i64 f, .bool true]) (by simp [results, Try.results108, go_sem]) rfl (HY.out f (by omega) (by omega))
    · rename_i hA
      rw [if_pos h] at hA
      exact bodyPost_ret (v := .tuple #[.int .i64 0, .bool false]) (by simp [results, Try.results108, go_sem]) rfl (HN.out (by omega))
    · rename_i hA
      rw [if_neg h] at hA
      exact bodyPost_ret (v := .tuple #[.int .i64 0, .bool false]) (by simp [results, Try.results108, go_sem]) rfl (HN.out (by omega))

/-- What a unit does. -/
def UnitPost (L : HL) (s : HS) (A : Rg) (z : Int → Int) (obs : List Ob) (g : MG) (U mb : Nat) (w : World) (e : Ending) (w' : World) : Prop :=
  Fr (mb :: L.fp) w w' ∧ ∃ b s' A' a' nx', e = .returned (.bool b) ∧ HRep w' L s' ∧ MBlk w' mb L a' nx' ∧ (a' = 0 → nx' = 0) ∧ MSt s s' A A' obs ∧
    ((b = true ∧ 1 ≤ U ∧ MI s' A' z obs g a' nx' (U - 1)) ∨ (b = false ∧ a' = 0 ∧ NoG A' ∧ MI s' A' z obs g 0 0 U))

set_option maxRecDepth 100000 in
set_option maxHeartbeats 3200000 in
theorem mUnit (L : HL) (s : HS) (A : Rg) (z : Int → Int) (obs : List Ob) (g : MG) (a : Int) (nx U mb : Nat) (w : World) (hH : HRep w L s) (hM : MBlk w mb L a nx) (hmb : mb ∉ L.all) (h : MI s A z obs g a nx U) (hnx : a = 0 → nx = 0) :
    Calls Try.prog 107 #[.pointer (some ⟨mb, 0, none⟩)] w (UnitPost L s A z obs g U mb w) := by
  have hmf : mb ∉ L.fp := fun hc => hmb (by simp [HL.all, hc])
  have H := hid h
  have HNX := hid hnx
  have HMF := hid hmf
  clear hnx hmf h
  go_enter Try.func107, Try.ntmps107
  go_wp2_with fail
  refine (mOpen L s A z obs g a nx U mb w hH hM hmb H.out HNX.out).mono ?_
  rintro e w1 ⟨hF1, ⟨o, ho, rfl, a0, hk, rfl, hH1, hM1⟩ | ⟨s1, rfl, hH1, hM1, hI1, hst1, -⟩⟩
  · have d1 := hM1.cell (i := 1) rfl
    have HF1 := hid hF1
    have HM1 := hid hM1
    have HH1 := hid hH1
    have HK := hid hk
    have hS : g.S o.p := by
      obtain ⟨o', ho', e, hb⟩ := H.out.atOb a0
      have := H.out.mh.one ho' ho e
      subst this
      exact H.out.mS _ ho (.inr hb)
    obtain ⟨K, hKe⟩ : ∃ K, K = max o.f nx := ⟨_, rfl⟩
    have HKe := hid hKe
    have hjK : Lk o K := ⟨by rw [hKe]; omega, by rw [hKe]; exact hk⟩
    have hKl : K < 40 := by
      have h1 := hjK.lt
      obtain ⟨m, hm⟩ := H.out.mh.any ho
      have := hm.hd.s1
      simp only [Ob.wm] at this
      omega
    rw [← hKe]
    clear hF1 hM1 hH1 hk hKe
    go_wp2_with fail
    refine (mLink L _ A z obs g o.p o.p nx nx U mb o K w1 HH1.out HM1.out HMF.out (H.out.tick 1) ho hS hjK).mono ?_
    rintro e w2 ⟨rfl, hF2, s2, A2, hH2, hI2, hst2, hmk2⟩
    have hM2 := HM1.out.fr hF2 HMF.out
    have z2 := hM2.frozen 2
    have d2 := hM2.cell (i := 2) rfl
    have hadv := hI2.adv ho rfl a0 (by rw [← HKe.out]; exact hjK.2) (fun o' ho' e => hmk2 o' ho' (by
      rw [e, hst2.wd o ho _ (by rw [← HKe.out]; exact hjK.lt)]
      show _ = HS.wd s o K
      rw [HKe.out]; rfl))
    rw [← HKe.out] at hadv
    have w0 : wrap64 ((K : Int) + 1) = ((K + 1 : Nat) : Int) := by unfold wrap64; omega
    have HM2 := hid hM2
    have HADV := hid hadv
    have HF2 := hid hF2
    clear hM2 hadv hF2
    go_wp2_with fail
    go_ret
    have hF3 : Fr [mb] w2 (w2.setCell ⟨mb, 2, none⟩ (.int .i64 (K + 1))) := (Fr.refl _ w2).set (by simp) _
    refine ⟨(HF1.out.trans (HF2.out.here (by intro x hx; exact List.mem_cons_of_mem _ hx))).trans (hF3.here (by simp)), true, s2, A2, o.p, K + 1, rfl, hH2.fr hF3 (by intro x hx hc; rw [List.mem_singleton.1 hx] at hc; exact hmb hc), ?_, fun h0 => absurd h0 a0, (MSt.tick s A obs 1).trans hst2, .inl ⟨rfl, HADV.out.1, HADV.out.2⟩⟩
    exact Blk.set HM2.out 2 (.int .i64 (K + 1))
  · have d0 := hM1.cell (i := 0) rfl
    have HF1 := hid hF1
    have HM1 := hid hM1
    have HI1 := hid hI1
    have HST1 := hid hst1
    clear hF1 hM1 hI1 hst1
    go_wp2_with fail
    refine (hNextRows L s1 A z w1 hH1 HI1.out.mh.hi).mono ?_
    rintro e w2 ⟨hF2, ⟨rfl, hH2, hno⟩ | ⟨q, G, c, hG, -, rfl, hH2⟩⟩
    · have hM2 := HM1.out.fr hF2 (fun hc => HMF.out (ab_fp _ hc))
      have HF2 := hid hF2
      have HM2 := hid hM2
      have HNO := hid hno
      clear hF2 hM2 hno
      go_wp2_with fail
      go_ret
      exact ⟨HF1.out.trans ((HF2.out.here ab_fp).here (by intro x hx; exact List.mem_cons_of_mem _ hx)), false, s1, A, 0, 0, rfl, hH2, HM2.out, fun _ => rfl, HST1.out, .inr ⟨rfl, rfl, HNO.out, HI1.out⟩⟩
    · have hM2 := HM1.out.fr hF2 (fun hc => HMF.out (ab_fp _ hc))
      have e0 := hM2.cell (i := 0) rfl
      have hI2 := HI1.out.tick 1
      obtain ⟨o, ho, hq, hp⟩ := hI2.mh.rows q c (.inr (.inl (by rw [hG]; simp)))
      obtain ⟨m, hm⟩ := hI2.mh.any ho
      have hb := hm.bound hI2.mh.hi
      have hlow := hm.low hI2.mh.hi
      have hhead := hm.head
      have hhd := hm.hd
      have hring := hm.ring
      simp only [Ob.wm, Ob.word] at hb hlow hhead hhd hring
      subst hp
      subst hq
      have HF2 := hid hF2
      have HM2 := hid hM2
      have HG := hid hG
      have HI2 := hid hI2
      have HLOW := hid hlow
      have HHEAD := hid hhead
      have HHD := hid hhd
      have HRING := hid hring
      clear hF2 hM2 hG hI2 hlow hhead hhd hring hm
      go_wp2_with fail
      refine (hDoneAny L (s1.tick 1) A z o.q o.p o.p o.k o.n o.a m G w2 hH2 HI2.out.mh.hi HG.out (by omega) (by omega) HLOW.out HHEAD.out HHD.out HRING.out).mono ?_
      rintro e w3 ⟨rfl, ⟨s3, hH3, hD⟩, hF3⟩
      have hM3 := HM2.out.fr hF3 HMF.out
      have y1 := hM3.cell (i := 1) rfl
      have y2 := hM3.cell (i := 2) rfl
      have z1 := hM3.frozen 1
      have z2 := hM3.frozen 2
      have hdn := HI2.out.done HG.out hD
      have hst3 : MSt (s1.tick 1) s3 A (A.up o.q ⟨(A o.q).W, (A o.q).F, G, o.p :: (A o.q).B⟩) obs := by
        obtain ⟨m1, m2, m3, -⟩ := HI2.out.mh.done HG.out hD
        exact ⟨hD.st, fun o' ho' hm => (m3 o' ho').2 hm, fun o' ho' j _ => m2 o' ho' j⟩
      have HM3 := hid hM3
      have HDN := hid hdn
      have HST3 := hid hst3
      have HF3 := hid hF3
      have hp0 : o.p ≠ 0 := by omega
      have HP0 := hid hp0
      clear hM3 hdn hst3 hF3 hp0 hD e0
      go_wp2_with fail
      go_ret
      have hF4 : Fr [mb] w3 ((w3.setCell ⟨mb, 1, none⟩ (.int .i64 o.p)).setCell ⟨mb, 2, none⟩ (.int .i64 0)) := ((Fr.refl _ w3).set (by simp) _).set (by simp) _
      have hin : ∀ x ∈ L.fp, x ∈ mb :: L.fp := fun x hx => List.mem_cons_of_mem _ hx
      refine ⟨((HF1.out.trans ((HF2.out.here ab_fp).here hin)).trans (HF3.out.here hin)).trans (hF4.here (by simp)), true, s3, _, o.p, 0, rfl, hH3.fr hF4 (by intro x hx hc; rw [List.mem_singleton.1 hx] at hc; exact hmb hc), ?_, fun _ => rfl, HST1.out.trans ((MSt.tick s1 A obs 1).trans HST3.out), .inl ⟨rfl, HDN.out.1, HDN.out.2⟩⟩
      exact (Blk.set HM3.out 1 (.int .i64 o.p)).set 2 (.int .i64 0)
end Go.Proofs.Ytifillpcphiblaa
