
import Derived.Test.YtklnpooninbogaaGreatYStk3
import Derived.Test.YtklnpooninbogaaGreatMHList3
import Derived.LoopTactic
import Derived.Deep.RegionHeld3
import Derived.Test.YtklnpooninbogaaGreatMDRow
import Derived.Test.YtklnpooninbogaaGreatMMHeapAlloc
import Derived.Laws.EntriesVeiled
namespace Go.Proofs.YtklnpooninbogaaGreat
open Go Go.Proofs Go.RowKit
structure CS where
  gv : Value
  lv : Value
  rv : Value
  ph : Nat
  at' : Nat
  fv : Value
  cyc : Nat
  bv : Value
def CBlk (w : World) (kb hb mb tb : Nat) (c : CS) : Prop := Blk w kb [.pointer (some ⟨hb, 0, none⟩), .pointer (some ⟨mb, 0, none⟩), .pointer (some ⟨tb, 0, none⟩), c.gv, c.lv, c.rv, .int .i64 c.ph, .int .i64 c.at', c.fv, .int .i64 c.cyc, c.bv] 91
theorem CBlk.fr {S : List Nat} {w w' : World} {kb hb mb tb : Nat} {c : CS} (h : CBlk w kb hb mb tb c) (hf : Fr S w w') (hS : kb ∉ S) : CBlk w' kb hb mb tb c := Blk.fr h hf hS
def ShadesPost (L : HL) (s : HS) (A : Rg) (z : Int → Int) (obs : List Ob) (g : MG) (a : Int) (nx U : Nat) (l : List Int) (w : World) (e : Ending) (w' : World) : Prop :=
  e = .returned (.tuple #[]) ∧ Fr L.fp w w' ∧ ∃ s' A', HRep w' L s' ∧ MI s' A' z obs g a nx U ∧ MSu (14 * l.length) s s' A A' obs ∧ ∀ x ∈ l, ∀ o ∈ obs, o.p = x → Mkd A' o
set_option maxRecDepth 100000 in
set_option maxHeartbeats 1600000 in
theorem cShade (L : HL) (s : HS) (A : Rg) (z : Int → Int) (obs : List Ob) (g : MG) (a a2 : Int) (nx nx2 U kb hb mb tb : Nat) (c : CS) (P : Nat → Prop) (v : Value) (l : List Int) (w : World) (hH : HRep w L s) (hM : MBlk w mb L a2 nx2) (h : MI s A z obs g a nx U)
    (hC : CBlk w kb hb mb tb c) (hkb : kb ∉ L.fp) (hmb : mb ∉ L.fp) (hl : RdS w P v l) (hP : ∀ x, P x → x ∉ L.fp) (hp : ∀ x ∈ l, x = 0 ∨ ∃ o ∈ obs, o.p = x ∧ g.S o.p) :
    Calls Tryz.prog 45 #[.pointer (some ⟨kb, 0, none⟩), v] w (ShadesPost L s A z obs g a nx U l w) := by
  have hR := hl
  obtain ⟨Al, cl, rfl, hlen, hx⟩ := hl
  obtain ⟨N, hN⟩ : ∃ N, N = l.length := ⟨_, rfl⟩
  have hlen' : N ≤ 100000 := by omega
  have HR := hid hR
  have HN := hid hN
  have HX := hid hx
  have HPP := hid hP
  have Hp := hid hp
  have HC := hid hC
  have HH := hid hH
  have HM := hid hM
  have HI := hid h
  have HK := hid hkb
  have HMB := hid hmb
  rw [← hN]
  clear hR hx hP hp hC hkb hmb hN hH hM h hlen
  go_enter Tryz.func45, Tryz.ntmps45
  go_wp2_with fail
  go_loopw [8] (fun iv wr => ∃ (i : Nat) (s1 : HS) (A1 : Rg), i ≤ N ∧ iv = .int .i64 i ∧ HRep wr L s1 ∧ MI s1 A1 z obs g a nx U ∧ MSu (14 * i) s s1 A A1 obs ∧ Fr L.fp w wr ∧ ∀ j x, j < i → l[j]? = some x → ∀ o ∈ obs, o.p = x → Mkd A1 o) (fun iv _ => N - (intOf iv).toNat)
  case atStart => exact ⟨0, s, A, Nat.zero_le _, rfl, HH.out, HI.out, MSu.refl s A obs, Fr.refl _ _, fun j x hj => absurd hj (Nat.not_lt_zero _)⟩
  case round =>
    obtain ⟨i, s1, A1, hi, rfl, hH1, hI1, hst1, hF1, hmk⟩ := hrel
    have HH1 := hid hH1
    have HI1 := hid hI1
    have HST := hid hst1
    have HF1 := hid hF1
    have HMK := hid hmk
    clear hH1 hI1 hst1 hF1 hmk
    by_cases hlt : i < N
    · have hli : l[i]? = some l[i] := List.getElem?_eq_getElem (by have := HN.out; omega)
      obtain ⟨gb, o, rfl, hpg, hgl, hcell⟩ := HX.out i _ hli
      have hc := (cell_fr HF1.out (HPP.out _ hpg) hgl (o + i)).trans hcell
      have hk1 := (HC.out.fr HF1.out HK.out).cell (i := 1) rfl
      have hM1 := Blk.fr HM.out HF1.out HMB.out
      obtain ⟨y, hy⟩ : ∃ y, y = l[i] := ⟨_, rfl⟩
      rw [← hy] at hc hli
      have hpy := Hp.out y (List.mem_of_getElem? hli)
      have HM1 := hid hM1
      have HPY := hid hpy
      have HLI := hid hli
      clear hM1 hpy hli hy hcell hpg hgl
      go_wp2_with fail
      refine (mShade L s1 A1 z obs g a a2 nx nx2 U mb y _ HH1.out HM1.out HI1.out HPY.out).mono ?_
      rintro e w2 ⟨rfl, hF2, s2, A2, hH2, hI2, hst2, hmk2⟩
      have HH2 := hid hH2
      have HI2 := hid hI2
      have HST2 : Hid (MSu (14 * ((i + 1 : Nat) : Int)) s s2 A A2 obs) := hid ((HST.out.trans hst2).le (by omega))
      have HMO := hid hst2.mono
      have HF2 := hid (HF1.out.trans hF2)
      have HMK2 := hid hmk2
      clear hH2 hI2 hst2 hF2 hmk2 hc hk1
      go_wp2_with fail
      go_roundw
      case rel => exact ⟨i + 1, s2, A2, by omega, by go_num, HH2.out, HI2.out, HST2.out, HF2.out, fun j x hj hjx o ho e => by
        by_cases hji : j < i
        · exact HMO.out o ho (HMK.out j x hji hjx o ho e)
        · have : j = i := by omega
          subst this
          rw [HLI.out] at hjx
          cases hjx
          exact HMK2.out o ho e⟩
      case measure => simp [intOf]; omega
    · have hiN : i = N := by omega
      subst hiN
      go_wp2_with fail
      go_end0
      refine ⟨rfl, HF1.out, s1, A1, HH1.out, HI1.out, HST.out.le (by have := HN.out; omega), fun x hx o ho e => ?_⟩
      obtain ⟨j, hj⟩ := List.mem_iff_getElem?.1 hx
      exact HMK.out j x (by have := (List.getElem?_eq_some_iff.1 hj).1; have := HN.out; omega) hj o ho e
structure FrP (S : Nat → Prop) (w w' : World) : Prop where
  os : w'.os = w.os
  tape : w'.tape = w.tape
  output : w'.output = w.output
  size : w.heap.size ≤ w'.heap.size
  block : ∀ k, k < w.heap.size → ¬ S k → w'.heap[k]? = w.heap[k]?
theorem FrP.refl (S : Nat → Prop) (w : World) : FrP S w w := ⟨rfl, rfl, rfl, Nat.le_refl _, fun _ _ _ => rfl⟩
theorem FrP.of {S : Nat → Prop} {l : List Nat} {w w' : World} (h : Fr l w w') (hl : ∀ x ∈ l, S x ∨ w.heap.size ≤ x) : FrP S w w' :=
  ⟨h.os, h.tape, h.output, h.size, fun k hk hn => h.block k hk (fun hc => (hl k hc).elim hn (fun h => by omega))⟩
theorem FrP.step {S S' : Nat → Prop} {a b c : World} (h : FrP S a b) (k : FrP S' b c) (hS : ∀ x, S' x → S x ∨ a.heap.size ≤ x) : FrP S a c :=
  ⟨k.os.trans h.os, k.tape.trans h.tape, k.output.trans h.output, Nat.le_trans h.size k.size, fun i hi hn => (k.block i (Nat.lt_of_lt_of_le hi h.size) (fun hc => (hS i hc).elim hn (fun h => by omega))).trans (h.block i hi hn)⟩
theorem Blk.frp {S : Nat → Prop} {w w' : World} {b : Nat} {cs : List Value} {T : TypeId} (h : Blk w b cs T) (hf : FrP S w w') (hS : ¬ S b) : Blk w' b cs T := by
  have hl := h.lt
  unfold Blk at h ⊢
  exact (hf.block b hl hS).trans h
structure Eng (kb hb : Nat) (Inv : (Nat → Prop) → Nat → Nat → World → Prop) (E : (Nat → Prop) → Nat → Nat → World → Prop) : Prop where
  lt : ∀ O M ph w, Inv O M ph w → (∀ b, O b → b < w.heap.size) ∧ ph ≤ 4
  k : ∀ O M ph w, Inv O M ph w → w.cell? ⟨kb, 6, none⟩ = some (.int .i64 ph) ∧ w.cell? ⟨kb, 0, none⟩ = some (.pointer (some ⟨hb, 0, none⟩))
  calm : ∀ O M ph w w', Inv O M ph w → Fr [] w w' → Inv O M ph w'
  way1 : ∀ O M w, Inv O M 1 w → Calls Tryz.prog 74 #[.pointer (some ⟨kb, 0, none⟩)] w fun e w' => ∃ b O' M', e = .returned (.bool b) ∧ FrP O w w' ∧ (∀ x, O' x → O x ∨ w.heap.size ≤ x) ∧ ((b = true ∧ M' + 1 = M ∧ Inv O' M' 1 w') ∨ (b = false ∧ M' = M ∧ E O' M' 1 w'))
  way2 : ∀ O M w, Inv O M 2 w → Calls Tryz.prog 75 #[.pointer (some ⟨kb, 0, none⟩)] w fun e w' => ∃ b O' M', e = .returned (.bool b) ∧ FrP O w w' ∧ (∀ x, O' x → O x ∨ w.heap.size ≤ x) ∧ ((b = true ∧ M' + 1 = M ∧ Inv O' M' 2 w') ∨ (b = false ∧ M' = M ∧ E O' M' 2 w'))
  way3 : ∀ O M w, Inv O M 3 w → Calls Tryz.prog 76 #[.pointer (some ⟨kb, 0, none⟩)] w fun e w' => ∃ b O' M', e = .returned (.bool b) ∧ FrP O w w' ∧ (∀ x, O' x → O x ∨ w.heap.size ≤ x) ∧ ((b = true ∧ M' + 1 = M ∧ Inv O' M' 3 w') ∨ (b = false ∧ M' = M ∧ E O' M' 3 w'))
  way4 : ∀ O M w, Inv O M 4 w → Calls Tryz.prog 77 #[.pointer (some ⟨hb, 0, none⟩)] w fun e w' => ∃ b O' M', e = .returned (.bool b) ∧ FrP O w w' ∧ (∀ x, O' x → O x ∨ w.heap.size ≤ x) ∧ ((b = true ∧ M' + 1 = M ∧ Inv O' M' 4 w') ∨ (b = false ∧ M' = M ∧ E O' M' 4 w'))
  next : ∀ O M ph w, E O M ph w → 1 ≤ ph → ph ≤ 4 → Calls Tryz.prog 78 #[.pointer (some ⟨kb, 0, none⟩)] w fun e w' => e = .returned (.tuple #[]) ∧ FrP O w w' ∧ ∃ O' M', (∀ x, O' x → O x ∨ w.heap.size ≤ x) ∧ M' = M ∧ Inv O' M' ((ph + 1) % 5) w'
def ways (kb hb : Nat) : List Value := [.func (.func 73) #[.pointer (some ⟨kb, 0, none⟩)] #[], .func (.func 74) #[.pointer (some ⟨kb, 0, none⟩)] #[], .func (.func 75) #[.pointer (some ⟨kb, 0, none⟩)] #[], .func (.func 76) #[.pointer (some ⟨kb, 0, none⟩)] #[], .func (.func 77) #[.pointer (some ⟨hb, 0, none⟩)] #[]]
def phM (kb : Nat) (w : World) : Nat := match w.cell? ⟨kb, 6, none⟩ with
  | some (.int _ p) => if p = 0 then 0 else (5 - p).toNat
  | _ => 0
theorem phM_of {kb : Nat} {w : World} {ph : Nat} (h : w.cell? ⟨kb, 6, none⟩ = some (.int .i64 ph)) (hp : ph ≤ 4) : phM kb w = if ph = 0 then 0 else 5 - ph := by
  unfold phM
  rw [h]
  by_cases e : ph = 0
  · subst e; simp
  · have : ¬ (ph : Int) = 0 := by omega
    simp only [this, e, if_false]
    omega
def UPost (Inv : (Nat → Prop) → Nat → Nat → World → Prop) (O : Nat → Prop) (M ph : Nat) (w : World) (e : Ending) (w' : World) : Prop :=
  ∃ b O' M' ph', e = .returned (.bool b) ∧ FrP O w w' ∧ (∀ x, O' x → O x ∨ w.heap.size ≤ x) ∧ Inv O' M' ph' w' ∧ ((b = true ∧ ph ≤ ph' ∧ ph' ≠ 0 ∧ ph ≠ 0 ∧ M' + 1 = M) ∨ (b = false ∧ ph' = 0 ∧ M' = M))
set_option maxRecDepth 100000 in
set_option maxHeartbeats 1600000 in
theorem cUnit {kb hb : Nat} {Inv E : (Nat → Prop) → Nat → Nat → World → Prop} (G : Eng kb hb Inv E) (O : Nat → Prop) (M ph : Nat) (w : World) (h : Inv O M ph w) :
    Calls Tryz.prog 35 #[.pointer (some ⟨kb, 0, none⟩)] w (UPost Inv O M ph w) := by
  have c0 := (G.k O M ph w h).2
  have H := hid h
  have hlt := hid (G.lt O M ph w h).1
  have hph := (G.lt O M ph w h).2
  have HPH := hid hph
  clear h hph
  go_enter Tryz.func35, Tryz.ntmps35
  go_wp2_with fail
  obtain ⟨W0, hW0⟩ : ∃ W0, W0 = w.alloc (.cells (ways kb hb).toArray 133) := ⟨_, rfl⟩
  have hB0 : Blk W0 w.heap.size (ways kb hb) 133 := by rw [hW0]; exact Blk.new w _ _
  have hF0 : Fr [] w W0 := by rw [hW0]; exact (Fr.refl _ w).alloc _
  have hW0' := hW0
  unfold ways at hW0'
  simp only [List.toArray] at hW0'
  rw [← hW0']
  clear hW0 hW0' c0
  have HB0 := hid hB0
  have HF0 := hid hF0
  clear hB0 hF0
  go_loopw [] (fun wr => ∃ O1 M1 ph1, Inv O1 M1 ph1 wr ∧ Blk wr w.heap.size (ways kb hb) 133 ∧ ¬ O1 w.heap.size ∧ FrP O w wr ∧ (∀ x, O1 x → O x ∨ w.heap.size ≤ x) ∧ M1 = M ∧ (ph1 = 0 ∨ ph ≤ ph1) ∧ (ph = 0 → ph1 = 0)) (fun wr => phM kb wr)
  case atStart =>
    have hi := G.calm O M ph w W0 H.out HF0.out
    exact ⟨O, M, ph, hi, HB0.out, fun hc => by have := hlt.out _ hc; omega, FrP.of HF0.out (by simp), fun x hx => .inl hx, rfl, .inr (Nat.le_refl _), fun h => h⟩
  case round =>
    obtain ⟨O1, M1, ph1, hi, hB, hN, hF, hS, hM, hpp, hp0⟩ := hrel
    have hl := (G.lt O1 M1 ph1 wr hi).2
    have c6 := (G.k O1 M1 ph1 wr hi).1
    have HI := hid hi
    have HB := hid hB
    have HN := hid hN
    have HF := hid hF
    have HS := hid hS
    have HM := hid hM
    have HPP := hid hpp
    have HP0 := hid hp0
    clear hi hB hN hF hS hM hpp hp0 HB0 HF0
    obtain rfl | rfl | rfl | rfl | rfl : ph1 = 0 ∨ ph1 = 1 ∨ ph1 = 2 ∨ ph1 = 3 ∨ ph1 = 4 := by omega
    · go_wp2_with fail
      go_ret
      exact ⟨false, O1, M1, 0, rfl, HF.out, HS.out, HI.out, .inr ⟨rfl, rfl, HM.out⟩⟩
    · -- phase 1
      have f1 := (Blk.cell HB.out (i := 1) rfl)
      have Hw := hid (G.way1 O1 M1 wr HI.out)
      go_wp2_with fail
      refine Hw.out.mono ?_
      rintro e w2 ⟨b, O2, M2, rfl, hF2, hS2, hres⟩
      have hlt1 := (G.lt O1 M1 1 wr HI.out).1
      have HB2 := hid (Blk.frp HB.out hF2 HN.out)
      have HF2 := hid (HF.out.step hF2 HS.out)
      have HN2 : Hid (¬ O2 w.heap.size) := hid (fun hc => (hS2 _ hc).elim HN.out (fun h => by have := Blk.lt HB.out; omega))
      have HS2 : Hid (∀ x, O2 x → O x ∨ w.heap.size ≤ x) := hid (fun x hx => (hS2 x hx).elim (HS.out x) (fun h => .inr (by have := HF.out.size; omega)))
      have HRES := hid hres
      clear hF2 hS2 hres hlt1 c6 f1
      cases b with
      | true =>
        go_wp2_with fail
        go_ret
        rcases HRES.out with ⟨-, hm, hi⟩ | ⟨h, -⟩
        · exact ⟨true, O2, M2, 1, rfl, HF2.out, HS2.out, hi, .inl ⟨rfl, by have := HPP.out; omega, by omega, fun h => by have := HP0.out h; omega, by have := HM.out; omega⟩⟩
        · cases h
      | false =>
        rcases HRES.out with ⟨h, -⟩ | ⟨-, hm, hi⟩
        · cases h
        have Hn := hid (G.next O2 M2 1 w2 hi (by omega) (by omega))
        have HM2 : Hid (M2 = M) := hid (by have := HM.out; omega)
        clear hm hi
        go_wp2_with fail
        refine Hn.out.mono ?_
        rintro e w3 ⟨rfl, hF3, O3, M3, hS3, hm3, hi3⟩
        have HB3 := hid (Blk.frp HB2.out hF3 HN2.out)
        have HF3 := hid (HF2.out.step hF3 HS2.out)
        have HN3 : Hid (¬ O3 w.heap.size) := hid (fun hc => (hS3 _ hc).elim HN2.out (fun h => by have := Blk.lt HB2.out; omega))
        have HS3 : Hid (∀ x, O3 x → O x ∨ w.heap.size ≤ x) := hid (fun x hx => (hS3 x hx).elim (HS2.out x) (fun h => .inr (by have := HF2.out.size; omega)))
        have HI3 : Hid (Inv O3 M3 2 w3) := hid hi3
        have HM3 : Hid (M3 = M) := hid (hm3.trans HM2.out)
        have hme := phM_of (G.k O1 M1 1 wr HI.out).1 (by omega)
        have hme3 := phM_of (G.k O3 M3 2 w3 HI3.out).1 (by omega)
        have HME := hid (And.intro hme hme3)
        clear hF3 hS3 hi3 hm3 hme hme3
        go_wp2_with fail
        go_roundw
        case rel => exact ⟨O3, M3, 2, HI3.out, HB3.out, HN3.out, HF3.out, HS3.out, HM3.out, by have := HPP.out; omega, fun h => by have := HP0.out h; omega⟩
        case measure => rw [HME.out.1, HME.out.2]; decide
    · -- phase 2
      have f2 := (Blk.cell HB.out (i := 2) rfl)
      have Hw := hid (G.way2 O1 M1 wr HI.out)
      go_wp2_with fail
      refine Hw.out.mono ?_
      rintro e w2 ⟨b, O2, M2, rfl, hF2, hS2, hres⟩
      have hlt1 := (G.lt O1 M1 2 wr HI.out).1
      have HB2 := hid (Blk.frp HB.out hF2 HN.out)
      have HF2 := hid (HF.out.step hF2 HS.out)
      have HN2 : Hid (¬ O2 w.heap.size) := hid (fun hc => (hS2 _ hc).elim HN.out (fun h => by have := Blk.lt HB.out; omega))
      have HS2 : Hid (∀ x, O2 x → O x ∨ w.heap.size ≤ x) := hid (fun x hx => (hS2 x hx).elim (HS.out x) (fun h => .inr (by have := HF.out.size; omega)))
      have HRES := hid hres
      clear hF2 hS2 hres hlt1 c6 f2
      cases b with
      | true =>
        go_wp2_with fail
        go_ret
        rcases HRES.out with ⟨-, hm, hi⟩ | ⟨h, -⟩
        · exact ⟨true, O2, M2, 2, rfl, HF2.out, HS2.out, hi, .inl ⟨rfl, by have := HPP.out; omega, by omega, fun h => by have := HP0.out h; omega, by have := HM.out; omega⟩⟩
        · cases h
      | false =>
        rcases HRES.out with ⟨h, -⟩ | ⟨-, hm, hi⟩
        · cases h
        have Hn := hid (G.next O2 M2 2 w2 hi (by omega) (by omega))
        have HM2 : Hid (M2 = M) := hid (by have := HM.out; omega)
        clear hm hi
        go_wp2_with fail
        refine Hn.out.mono ?_
        rintro e w3 ⟨rfl, hF3, O3, M3, hS3, hm3, hi3⟩
        have HB3 := hid (Blk.frp HB2.out hF3 HN2.out)
        have HF3 := hid (HF2.out.step hF3 HS2.out)
        have HN3 : Hid (¬ O3 w.heap.size) := hid (fun hc => (hS3 _ hc).elim HN2.out (fun h => by have := Blk.lt HB2.out; omega))
        have HS3 : Hid (∀ x, O3 x → O x ∨ w.heap.size ≤ x) := hid (fun x hx => (hS3 x hx).elim (HS2.out x) (fun h => .inr (by have := HF2.out.size; omega)))
        have HI3 : Hid (Inv O3 M3 3 w3) := hid hi3
        have HM3 : Hid (M3 = M) := hid (hm3.trans HM2.out)
        have hme := phM_of (G.k O1 M1 2 wr HI.out).1 (by omega)
        have hme3 := phM_of (G.k O3 M3 3 w3 HI3.out).1 (by omega)
        have HME := hid (And.intro hme hme3)
        clear hF3 hS3 hi3 hm3 hme hme3
        go_wp2_with fail
        go_roundw
        case rel => exact ⟨O3, M3, 3, HI3.out, HB3.out, HN3.out, HF3.out, HS3.out, HM3.out, by have := HPP.out; omega, fun h => by have := HP0.out h; omega⟩
        case measure => rw [HME.out.1, HME.out.2]; decide
    · -- phase 3
      have f3 := (Blk.cell HB.out (i := 3) rfl)
      have Hw := hid (G.way3 O1 M1 wr HI.out)
      go_wp2_with fail
      refine Hw.out.mono ?_
      rintro e w2 ⟨b, O2, M2, rfl, hF2, hS2, hres⟩
      have hlt1 := (G.lt O1 M1 3 wr HI.out).1
      have HB2 := hid (Blk.frp HB.out hF2 HN.out)
      have HF2 := hid (HF.out.step hF2 HS.out)
      have HN2 : Hid (¬ O2 w.heap.size) := hid (fun hc => (hS2 _ hc).elim HN.out (fun h => by have := Blk.lt HB.out; omega))
      have HS2 : Hid (∀ x, O2 x → O x ∨ w.heap.size ≤ x) := hid (fun x hx => (hS2 x hx).elim (HS.out x) (fun h => .inr (by have := HF.out.size; omega)))
      have HRES := hid hres
      clear hF2 hS2 hres hlt1 c6 f3
      cases b with
      | true =>
        go_wp2_with fail
        go_ret
        rcases HRES.out with ⟨-, hm, hi⟩ | ⟨h, -⟩
        · exact ⟨true, O2, M2, 3, rfl, HF2.out, HS2.out, hi, .inl ⟨rfl, by have := HPP.out; omega, by omega, fun h => by have := HP0.out h; omega, by have := HM.out; omega⟩⟩
        · cases h
      | false =>
        rcases HRES.out with ⟨h, -⟩ | ⟨-, hm, hi⟩
        · cases h
        have Hn := hid (G.next O2 M2 3 w2 hi (by omega) (by omega))
        have HM2 : Hid (M2 = M) := hid (by have := HM.out; omega)
        clear hm hi
        go_wp2_with fail
        refine Hn.out.mono ?_
        rintro e w3 ⟨rfl, hF3, O3, M3, hS3, hm3, hi3⟩
        have HB3 := hid (Blk.frp HB2.out hF3 HN2.out)
        have HF3 := hid (HF2.out.step hF3 HS2.out)
        have HN3 : Hid (¬ O3 w.heap.size) := hid (fun hc => (hS3 _ hc).elim HN2.out (fun h => by have := Blk.lt HB2.out; omega))
        have HS3 : Hid (∀ x, O3 x → O x ∨ w.heap.size ≤ x) := hid (fun x hx => (hS3 x hx).elim (HS2.out x) (fun h => .inr (by have := HF2.out.size; omega)))
        have HI3 : Hid (Inv O3 M3 4 w3) := hid hi3
        have HM3 : Hid (M3 = M) := hid (hm3.trans HM2.out)
        have hme := phM_of (G.k O1 M1 3 wr HI.out).1 (by omega)
        have hme3 := phM_of (G.k O3 M3 4 w3 HI3.out).1 (by omega)
        have HME := hid (And.intro hme hme3)
        clear hF3 hS3 hi3 hm3 hme hme3
        go_wp2_with fail
        go_roundw
        case rel => exact ⟨O3, M3, 4, HI3.out, HB3.out, HN3.out, HF3.out, HS3.out, HM3.out, by have := HPP.out; omega, fun h => by have := HP0.out h; omega⟩
        case measure => rw [HME.out.1, HME.out.2]; decide
    · -- phase 4
      have f4 := (Blk.cell HB.out (i := 4) rfl)
      have Hw := hid (G.way4 O1 M1 wr HI.out)
      go_wp2_with fail
      refine Hw.out.mono ?_
      rintro e w2 ⟨b, O2, M2, rfl, hF2, hS2, hres⟩
      have hlt1 := (G.lt O1 M1 4 wr HI.out).1
      have HB2 := hid (Blk.frp HB.out hF2 HN.out)
      have HF2 := hid (HF.out.step hF2 HS.out)
      have HN2 : Hid (¬ O2 w.heap.size) := hid (fun hc => (hS2 _ hc).elim HN.out (fun h => by have := Blk.lt HB.out; omega))
      have HS2 : Hid (∀ x, O2 x → O x ∨ w.heap.size ≤ x) := hid (fun x hx => (hS2 x hx).elim (HS.out x) (fun h => .inr (by have := HF.out.size; omega)))
      have HRES := hid hres
      clear hF2 hS2 hres hlt1 c6 f4
      cases b with
      | true =>
        go_wp2_with fail
        go_ret
        rcases HRES.out with ⟨-, hm, hi⟩ | ⟨h, -⟩
        · exact ⟨true, O2, M2, 4, rfl, HF2.out, HS2.out, hi, .inl ⟨rfl, by have := HPP.out; omega, by omega, fun h => by have := HP0.out h; omega, by have := HM.out; omega⟩⟩
        · cases h
      | false =>
        rcases HRES.out with ⟨h, -⟩ | ⟨-, hm, hi⟩
        · cases h
        have Hn := hid (G.next O2 M2 4 w2 hi (by omega) (by omega))
        have HM2 : Hid (M2 = M) := hid (by have := HM.out; omega)
        clear hm hi
        go_wp2_with fail
        refine Hn.out.mono ?_
        rintro e w3 ⟨rfl, hF3, O3, M3, hS3, hm3, hi3⟩
        have HB3 := hid (Blk.frp HB2.out hF3 HN2.out)
        have HF3 := hid (HF2.out.step hF3 HS2.out)
        have HN3 : Hid (¬ O3 w.heap.size) := hid (fun hc => (hS3 _ hc).elim HN2.out (fun h => by have := Blk.lt HB2.out; omega))
        have HS3 : Hid (∀ x, O3 x → O x ∨ w.heap.size ≤ x) := hid (fun x hx => (hS3 x hx).elim (HS2.out x) (fun h => .inr (by have := HF2.out.size; omega)))
        have HI3 : Hid (Inv O3 M3 0 w3) := hid hi3
        have HM3 : Hid (M3 = M) := hid (hm3.trans HM2.out)
        have hme := phM_of (G.k O1 M1 4 wr HI.out).1 (by omega)
        have hme3 := phM_of (G.k O3 M3 0 w3 HI3.out).1 (by omega)
        have HME := hid (And.intro hme hme3)
        clear hF3 hS3 hi3 hm3 hme hme3
        go_wp2_with fail
        go_roundw
        case rel => exact ⟨O3, M3, 0, HI3.out, HB3.out, HN3.out, HF3.out, HS3.out, HM3.out, by have := HPP.out; omega, fun h => by have := HP0.out h; omega⟩
        case measure => rw [HME.out.1, HME.out.2]; decide
def WPost (Inv : (Nat → Prop) → Nat → Nat → World → Prop) (O : Nat → Prop) (M ph : Nat) (N : Nat) (w : World) (e : Ending) (w' : World) : Prop :=
  ∃ d O' M' ph', e = .returned (.int .i64 (d : Nat)) ∧ d ≤ N ∧ FrP O w w' ∧ (∀ x, O' x → O x ∨ w.heap.size ≤ x) ∧ Inv O' M' ph' w' ∧ M' + d = M ∧ (d < N → ph' = 0) ∧ (ph' = 0 ∨ ph ≤ ph') ∧ (ph = 0 → ph' = 0 ∧ d = 0)
set_option maxRecDepth 100000 in
set_option maxHeartbeats 1600000 in
theorem cWork {kb hb : Nat} {Inv E : (Nat → Prop) → Nat → Nat → World → Prop} (G : Eng kb hb Inv E) (O : Nat → Prop) (M ph N : Nat) (hN : N ≤ 100000) (w : World) (h : Inv O M ph w) :
    Calls Tryz.prog 11 #[.pointer (some ⟨kb, 0, none⟩), .int .i64 N] w (WPost Inv O M ph N w) := by
  have H := hid h
  clear h
  go_enter Tryz.func11, Tryz.ntmps11
  go_wp2_with fail
  go_loopw [5] (fun dv wr => ∃ (d : Nat) (O1 : Nat → Prop) (M1 ph1 : Nat), dv = .int .i64 d ∧ d ≤ N ∧ FrP O w wr ∧ (∀ x, O1 x → O x ∨ w.heap.size ≤ x) ∧ Inv O1 M1 ph1 wr ∧ M1 + d = M ∧ (ph1 = 0 ∨ ph ≤ ph1) ∧ (ph = 0 → ph1 = 0 ∧ d = 0)) (fun dv _ => N - (intOf dv).toNat)
  case atStart => exact ⟨0, O, M, ph, rfl, Nat.zero_le _, FrP.refl _ _, fun x h => .inl h, H.out, rfl, .inr (Nat.le_refl _), fun h => ⟨h, rfl⟩⟩
  case round =>
    obtain ⟨d, O1, M1, ph1, rfl, hd, hF, hS, hi, hM, hpp, hp0⟩ := hrel
    have HI := hid hi
    have HF := hid hF
    have HS := hid hS
    have HM := hid hM
    have HPP := hid hpp
    have HP0 := hid hp0
    clear hF hS hi hM hpp hp0
    by_cases hlt : d < N
    · have Hu := hid (cUnit G O1 M1 ph1 wr HI.out)
      go_wp2_with fail
      refine Hu.out.mono ?_
      rintro e w2 ⟨b, O2, M2, ph2, rfl, hF2, hS2, hi2, hres⟩
      have HF2 := hid (HF.out.step hF2 HS.out)
      have HS2 : Hid (∀ x, O2 x → O x ∨ w.heap.size ≤ x) := hid (fun x hx => (hS2 x hx).elim (HS.out x) (fun h => .inr (by have := HF.out.size; omega)))
      have HI2 := hid hi2
      have HRES := hid hres
      clear hF2 hS2 hi2 hres
      cases b with
      | true =>
        obtain ⟨-, h1, h2, h3, h4⟩ := HRES.out.resolve_right (fun h => by cases h.1)
        have HX := hid (And.intro h1 (And.intro h2 (And.intro h3 h4)))
        clear h1 h2 h3 h4
        go_wp2_with fail
        go_roundw
        case rel => exact ⟨d + 1, O2, M2, ph2, by go_num, hlt, HF2.out, HS2.out, HI2.out, by have := HX.out.2.2.2; have := HM.out; omega, by have := HX.out.1; have := HX.out.2.2.1; have := HPP.out; omega, fun h => absurd (HP0.out h).1 HX.out.2.2.1⟩
        case measure => simp [intOf]; omega
      | false =>
        obtain ⟨-, h1, h2⟩ := HRES.out.resolve_left (fun h => by cases h.1)
        have HX := hid (And.intro h1 h2)
        clear h1 h2
        go_wp2_with fail
        go_ret
        exact ⟨d, O2, M2, ph2, rfl, hd, HF2.out, HS2.out, HI2.out, by have := HX.out.2; have := HM.out; omega, fun _ => HX.out.1, .inl HX.out.1, fun h => ⟨HX.out.1, (HP0.out h).2⟩⟩
    · go_wp2_with fail
      go_ret
      exact ⟨d, O1, M1, ph1, rfl, hd, HF.out, HS.out, HI.out, HM.out, fun h => absurd h hlt, HPP.out, HP0.out⟩
theorem cPhase (kb : Nat) (ph : Nat) (w : World) (h : w.cell? ⟨kb, 6, none⟩ = some (.int .i64 ph)) : Calls Tryz.prog 12 #[.pointer (some ⟨kb, 0, none⟩)] w fun e w' => e = .returned (.int .i64 ph) ∧ w = w' := by
  go_enter Tryz.func12, Tryz.ntmps12
  go_wp2_with fail
  go_ret
  exact ⟨rfl, rfl⟩
theorem cCycles (kb hb mb tb : Nat) (c : CS) (w : World) (h : CBlk w kb hb mb tb c) : Calls Tryz.prog 23 #[.pointer (some ⟨kb, 0, none⟩)] w fun e w' => e = .returned (.int .i64 c.cyc) ∧ w = w' := by
  have c9 := Blk.cell h (i := 9) rfl
  go_enter Tryz.func23, Tryz.ntmps23
  go_wp2_with fail
  go_ret
  exact ⟨rfl, rfl⟩
theorem cTable (kb hb mb tb : Nat) (c : CS) (w : World) (h : CBlk w kb hb mb tb c) : Calls Tryz.prog 34 #[.pointer (some ⟨kb, 0, none⟩)] w fun e w' => e = .returned (.pointer (some ⟨tb, 0, none⟩)) ∧ w = w' := by
  have c2 := Blk.cell h (i := 2) rfl
  go_enter Tryz.func34, Tryz.ntmps34
  go_wp2_with fail
  go_ret
  exact ⟨rfl, rfl⟩
theorem cOpen (kb : Nat) (ph : Nat) (w : World) (h : w.cell? ⟨kb, 6, none⟩ = some (.int .i64 ph)) : Calls Tryz.prog 87 #[.pointer (some ⟨kb, 0, none⟩)] w fun e w' => e = .returned (.bool (decide (ph = 1) || decide (ph = 2))) ∧ w = w' := by
  by_cases h1 : ph = 1
  · subst h1
    go_enter Tryz.func87, Tryz.ntmps87
    go_wp2_with fail
    go_ret
    exact ⟨rfl, rfl⟩
  · have h1' : ¬ (ph : Int) = 1 := by omega
    by_cases h2 : ph = 2
    · subst h2
      go_enter Tryz.func87, Tryz.ntmps87
      go_wp2_with fail
      go_ret
      exact ⟨rfl, rfl⟩
    · have h2' : ¬ (ph : Int) = 2 := by omega
      have e : (decide (ph = 1) || decide (ph = 2)) = false := by simp [h1, h2]
      rw [e]
      clear e h1 h2
      go_enter Tryz.func87, Tryz.ntmps87
      go_wp2_with fail
      go_ret
      exact ⟨by simp [h1', h2'], rfl⟩
theorem cNext1 (kb hb mb tb : Nat) (c : CS) (w : World) (h : CBlk w kb hb mb tb c) (hp : c.ph = 1) :
    Calls Tryz.prog 78 #[.pointer (some ⟨kb, 0, none⟩)] w fun e w' => e = .returned (.tuple #[]) ∧ CBlk w' kb hb mb tb { c with ph := 2 } ∧ Fr [kb] w w' := by
  have c6 := Blk.cell h (i := 6) rfl
  rw [hp] at c6
  have y6 := Blk.frozen h 6
  have HB := hid (Blk.set h 6 (.int .i64 2))
  have HF : Hid (Fr [kb] w (w.setCell ⟨kb, 6, none⟩ (.int .i64 2))) := hid ((Fr.refl _ w).set (by simp) _)
  clear h hp
  go_enter Tryz.func78, Tryz.ntmps78
  go_wp2_with fail
  go_end0
  exact ⟨rfl, HB.out, HF.out⟩
set_option maxRecDepth 100000 in
theorem cNext2 (L : HL) (kb mb tb : Nat) (c : CS) (sh : Value) (t : TS) (w : World) (h : CBlk w kb L.hb mb tb c) (hp : c.ph = 2) (hT : TRep w tb L.hb sh t) (hne : kb ≠ tb) :
    Calls Tryz.prog 78 #[.pointer (some ⟨kb, 0, none⟩)] w fun e w' => e = .returned (.tuple #[]) ∧ CBlk w' kb L.hb mb tb { c with ph := 3 } ∧ TRep w' tb L.hb sh { t with walk := t.row, ahead := 0, walking := true } ∧ Fr [kb, tb] w w' := by
  have c6 := Blk.cell h (i := 6) rfl
  have c2 := Blk.cell h (i := 2) rfl
  rw [hp] at c6
  have Hc := hid (tBegin L tb sh t w hT)
  have HC := hid h
  have HP := hid hp
  have HNE := hid hne
  clear h hp hT hne
  go_enter Tryz.func78, Tryz.ntmps78
  go_wp2_with fail
  refine Hc.out.mono ?_
  rintro e w1 ⟨rfl, hT1, hF1⟩
  have hC1 := HC.out.fr hF1 (by simpa using HNE.out)
  have d6 := Blk.cell hC1 (i := 6) rfl
  rw [HP.out] at d6
  have y6 := Blk.frozen hC1 6
  have HB := hid (Blk.set hC1 6 (.int .i64 3))
  have hF : Fr [kb] w1 (w1.setCell ⟨kb, 6, none⟩ (.int .i64 3)) := (Fr.refl _ w1).set (by simp) _
  have HT := hid (hT1.fr hF (by simpa using fun h => HNE.out h.symm))
  have HF : Hid (Fr [kb, tb] w (w1.setCell ⟨kb, 6, none⟩ (.int .i64 3))) := hid ((hF1.here (by simp)).trans (hF.here (by simp)))
  clear hC1 hF1 hT1 hF c6 c2
  go_wp2_with fail
  go_end0
  exact ⟨rfl, HB.out, HT.out, HF.out⟩
set_option maxRecDepth 100000 in
theorem cNext3 (kb hb mb tb : Nat) (c : CS) (Post : Ending → World → Prop) (w : World) (h : CBlk w kb hb mb tb c) (hp : c.ph = 3)
    (hend : Calls Tryz.prog 117 #[.pointer (some ⟨hb, 0, none⟩)] w fun e w' => ∃ er, e = .returned (.int .i64 er) ∧ Post e w' ∧ CBlk w' kb hb mb tb c) :
    Calls Tryz.prog 78 #[.pointer (some ⟨kb, 0, none⟩)] w fun e w' => e = .returned (.tuple #[]) ∧ ∃ e1 w1, Post e1 w1 ∧ CBlk w' kb hb mb tb { c with ph := 4 } ∧ Fr [kb] w1 w' := by
  have c6 := Blk.cell h (i := 6) rfl
  have c0 := Blk.cell h (i := 0) rfl
  rw [hp] at c6
  have Hc := hid hend
  have HP := hid hp
  clear h hp hend
  go_enter Tryz.func78, Tryz.ntmps78
  go_wp2_with fail
  refine Hc.out.mono ?_
  rintro e w1 ⟨er, rfl, hpost, hC1⟩
  have d6 := Blk.cell hC1 (i := 6) rfl
  rw [HP.out] at d6
  have y6 := Blk.frozen hC1 6
  have HB := hid (Blk.set hC1 6 (.int .i64 4))
  have HF : Hid (Fr [kb] w1 (w1.setCell ⟨kb, 6, none⟩ (.int .i64 4))) := hid ((Fr.refl _ w1).set (by simp) _)
  have HPO := hid hpost
  clear hC1 hpost c6 c0
  go_wp2_with fail
  go_end0
  exact ⟨rfl, _, w1, HPO.out, HB.out, HF.out⟩
set_option maxRecDepth 100000 in
theorem cNext4 (kb hb mb tb : Nat) (c : CS) (w : World) (h : CBlk w kb hb mb tb c) (hp : c.ph = 4) (hcy : c.cyc ≤ 100000) :
    Calls Tryz.prog 78 #[.pointer (some ⟨kb, 0, none⟩)] w fun e w' => e = .returned (.tuple #[]) ∧ CBlk w' kb hb mb tb { c with ph := 0, cyc := c.cyc + 1 } ∧ Fr [kb] w w' := by
  have c6 := Blk.cell h (i := 6) rfl
  have c9 := Blk.cell h (i := 9) rfl
  rw [hp] at c6
  have y6 := Blk.frozen h 6
  have y9 := Blk.frozen h 9
  have hs := Blk.set (Blk.set h 9 (.int .i64 ((c.cyc : Int) + 1))) 6 (.int .i64 0)
  have HB := hid hs
  have HF : Hid (Fr [kb] w ((w.setCell ⟨kb, 9, none⟩ (.int .i64 ((c.cyc : Int) + 1))).setCell ⟨kb, 6, none⟩ (.int .i64 0))) := hid (((Fr.refl _ w).set (by simp) _).set (by simp) _)
  have ew : wrap64 ((c.cyc : Int) + 1) = (c.cyc : Int) + 1 := by unfold wrap64; omega
  clear h hp hs
  go_enter Tryz.func78, Tryz.ntmps78
  go_wp2_with fail
  go_end0
  refine ⟨rfl, ?_, HF.out⟩
  exact HB.out
theorem cMark (L : HL) (s : HS) (A : Rg) (z : Int → Int) (obs : List Ob) (g : MG) (a : Int) (nx U kb mb tb : Nat) (c : CS) (w : World) (h : MW w L mb s A z obs g a nx U) (hmb : mb ∉ L.all) (hU : U ≤ 60000) (hC : CBlk w kb L.hb mb tb c) :
    Calls Tryz.prog 75 #[.pointer (some ⟨kb, 0, none⟩)] w fun e w' => ∃ b, e = .returned (.bool b) ∧ Fr (mb :: L.fp) w w' ∧ ∃ s' A' a' nx', MSu 36 s s' A A' obs ∧
      ((b = true ∧ 1 ≤ U ∧ MW w' L mb s' A' z obs g a' nx' (U - 1)) ∨ (b = false ∧ a' = 0 ∧ NoG A' ∧ MW w' L mb s' A' z obs g a' nx' U)) := by
  have c1 := Blk.cell hC (i := 1) rfl
  have Hc := hid (mWork L s A z obs g a nx U mb 1 w h hmb hU)
  clear hC h
  go_enter Tryz.func75, Tryz.ntmps75
  go_wp2_with fail
  refine Hc.out.mono ?_
  rintro e w1 ⟨hF1, d, s', A', a', nx', rfl, hd, hdU, hW, hst, hfin⟩
  have hd1 : d = 0 ∨ d = 1 := by omega
  have HF1 := hid hF1
  have HW := hid hW
  have HST := hid hst
  have HFI := hid hfin
  clear hF1 hW hst hfin c1 hd
  rcases hd1 with rfl | rfl
  · go_wp2_with fail
    go_ret
    have := HFI.out (by decide)
    exact ⟨false, rfl, HF1.out, s', A', a', nx', HST.out.le (by decide), .inr ⟨rfl, this.1, this.2, by simpa using HW.out⟩⟩
  · go_wp2_with fail
    go_ret
    exact ⟨true, rfl, HF1.out, s', A', a', nx', HST.out, .inl ⟨rfl, hdU, HW.out⟩⟩
def SUPost (L : HL) (s : HS) (A : Rg) (z : Int → Int) (obs : List Ob) (g : MG) (U kb mb tb : Nat) (c' : CS) (x : Int) (w : World) (e : Ending) (w' : World) : Prop :=
  e = .returned (.bool true) ∧ Fr (kb :: L.fp) w w' ∧ CBlk w' kb L.hb mb tb c' ∧ ∃ s' A', HRep w' L s' ∧ MI s' A' z obs g 0 0 U ∧ MSu 14 s s' A A' obs ∧ ∀ o ∈ obs, o.p = x → Mkd A' o
set_option maxRecDepth 100000 in
set_option maxHeartbeats 3200000 in
theorem cStack1 (L : HL) (s : HS) (A : Rg) (z : Int → Int) (obs : List Ob) (g : MG) (U kb mb tb : Nat) (c : CS) (P : Nat → Prop) (gl : List Int) (x : Int) (w : World) (hH : HRep w L s) (hM : MBlk w mb L 0 0) (h : MI s A z obs g 0 0 U)
    (hC : CBlk w kb L.hb mb tb c) (hka : kb ∉ L.all) (hmb : mb ∉ L.fp) (hg : RdS w P c.gv gl) (hP : ∀ b, P b → b ∉ L.fp ∧ b ≠ kb) (hx : gl[c.at']? = some x) (hp : x = 0 ∨ ∃ o ∈ obs, o.p = x ∧ g.S o.p) :
    Calls Tryz.prog 74 #[.pointer (some ⟨kb, 0, none⟩)] w (SUPost L s A z obs g U kb mb tb { c with at' := c.at' + 1 } x w) := by
  have hkb : kb ∉ L.fp := fun hc => hka (by simp [HL.all, hc])
  obtain ⟨Ag, cg, egv, hgl, hgx⟩ := hg
  obtain ⟨gb, o, rfl, hpg, hgb, hcell⟩ := hgx _ _ hx
  have hat : c.at' < gl.length := (List.getElem?_eq_some_iff.1 hx).1
  obtain ⟨N, hN⟩ : ∃ N, N = gl.length := ⟨_, rfl⟩
  obtain ⟨at0, hat0⟩ : ∃ at0, at0 = c.at' := ⟨_, rfl⟩
  rw [← hN] at egv hgl hat
  rw [← hat0] at hcell hat
  have c3 := Blk.cell hC (i := 3) rfl
  have c7 := Blk.cell hC (i := 7) rfl
  rw [egv] at c3
  rw [← hat0] at c7
  have hcall : ∀ wx v, Fr [] w wx → RdS wx (fun b => w.heap.size ≤ b) v [x] → Calls Tryz.prog 45 #[.pointer (some ⟨kb, 0, none⟩), v] wx (ShadesPost L s A z obs g 0 0 U [x] wx) := fun wx v hF hv =>
    cShade L s A z obs g 0 0 0 0 U kb L.hb mb tb c (fun b => w.heap.size ≤ b) v [x] wx (hH.fr hF (by simp)) (Blk.fr hM hF (by simp)) h (hC.fr hF (by simp)) hkb hmb hv (fun b hb hc => by have := all_lt hH (show b ∈ L.all by simp [HL.all, hc]); omega) (fun y hy => by rw [List.mem_singleton.1 hy]; exact hp)
  have HCALL := hid hcall
  have hc3 := hid c3
  have hc7 := hid c7
  have HPC : Hid (gb ∉ L.fp ∧ gb ≠ kb) := hid (hP _ hpg)
  have HC := hid hC
  have HK := hid hkb
  have HGB := hid hgb
  have HNB : Hid (N ≤ 100000) := hid hgl.2
  have HKA := hid hka
  have HCELL := hid hcell
  have HAT0 := hid hat0
  have HAT : Hid (at0 < N) := hid hat
  have eN : ((at0 : Int) < (N : Int)) := by omega
  clear hgl hka hcall hgx hN hx hp hP hpg hH hM h hC hkb hmb egv hat0 hgb hcell
  go_enter Tryz.func74, Tryz.ntmps74
  go_wp2_with fail
  go_region
  go_wp2_with fail
  obtain ⟨W1, hW1⟩ : ∃ W1, W1 = w.drew := ⟨_, rfl⟩
  have HF1 : Hid (Fr [] w W1) := hid (by rw [hW1]; exact (Fr.refl [] w).drew)
  rw [← hW1]
  clear hW1 c3 c7
  have HS : Hid (∀ wx, Fr (L.fp) w wx → wx.cell? ⟨kb, 3, none⟩ = some (.slice (some ⟨gb, o, none⟩) N cg) ∧ wx.cell? ⟨kb, 7, none⟩ = some (.int .i64 at0) ∧ wx.cell? ⟨gb, o + at0, none⟩ = some (.int .i64 x)) := hid (fun wx h =>
    ⟨(cell_fr h HK.out (Blk.lt HC.out) 3).trans hc3.out, (cell_fr h HK.out (Blk.lt HC.out) 7).trans hc7.out, (cell_fr h HPC.out.1 HGB.out _).trans HCELL.out⟩)
  have hs0 := HS.out W1.drew ((HF1.out.drew).here (by simp))
  have hsB := HS.out ((W1.alloc (.cells #[.int .i64 x] 2)).drew) (((HF1.out.alloc _).drew).here (by simp))
  go_region_held3 (fun w' => w'.cell? ⟨kb, 3, none⟩ = some (.slice (some ⟨gb, o, none⟩) N cg) ∧ w'.cell? ⟨kb, 7, none⟩ = some (.int .i64 at0) ∧ w'.cell? ⟨gb, o + at0, none⟩ = some (.int .i64 x))
    (first
      | (with_reducible exact hs0)
      | (with_reducible exact hsB)
      | (with_reducible exact hsA)
      | go_keep)
    (first | (go_at_call 45; refine (HCALL.out _ _ ?_ ?_).mono ?_; (exact (HF1.out.alloc _).drew); (exact RdS.of_blk (l := [x]) ((Blk.new W1 [.int .i64 x] 2).drew) HF1.out.size (by simp)); rintro e wA ⟨rfl, hF, hres⟩; have HFA : Hid (Fr L.fp w wA) := hid ((((HF1.out.alloc _).drew).here (by simp)).trans hF); have hsA := HS.out wA HFA.out; have HRES := hid hres; clear hF hres))
  all_goals
    have hCA := HC.out.fr HFA.out HK.out
    have d7 := Blk.cell hCA (i := 7) rfl
    have y7 := Blk.frozen hCA 7
    rw [← HAT0.out] at d7
    have HCF := hid (Blk.set hCA 7 (.int .i64 ((at0 : Int) + 1)))
    have hFS : Fr [kb] wA (wA.setCell ⟨kb, 7, none⟩ (.int .i64 ((at0 : Int) + 1))) := (Fr.refl _ wA).set (by simp) _
    have HFS := hid hFS
    have ew : wrap64 ((at0 : Int) + 1) = (at0 : Int) + 1 := by have := HAT.out; have := HNB.out; unfold wrap64; omega
    clear hCA hFS hsA hsB hs0
    go_wp2_with fail
    go_ret
    obtain ⟨s', A', h1, h2, h3', h4⟩ := HRES.out
    have h3 : MSu 14 s s' A A' obs := h3'.le (by simp)
    refine ⟨rfl, (HFA.out.here (fun x hx => List.mem_cons_of_mem _ hx)).trans (HFS.out.here (by simp)), ?_, s', A', h1.fr HFS.out (fun b hb hc => HKA.out (List.mem_singleton.1 hb ▸ hc)), h2, h3, h4 x (List.mem_singleton.2 rfl)⟩
    have e7 : (({ c with at' := c.at' + 1 } : CS).at' : Int) = (at0 : Int) + 1 := by rw [HAT0.out]; simp
    unfold CBlk
    rw [e7]
    exact HCF.out
set_option maxRecDepth 100000 in
set_option maxHeartbeats 3200000 in
theorem cStack2 (L : HL) (s : HS) (A : Rg) (z : Int → Int) (obs : List Ob) (g : MG) (U kb mb tb : Nat) (c : CS) (P : Nat → Prop) (gl fl : List Int) (x : Int) (w : World) (hH : HRep w L s) (hM : MBlk w mb L 0 0) (h : MI s A z obs g 0 0 U)
    (hC : CBlk w kb L.hb mb tb c) (hka : kb ∉ L.all) (hmb : mb ∉ L.fp) (hg : RdS w P c.gv gl) (hf : RdS w P c.fv (x :: fl)) (hP : ∀ b, P b → b ∉ L.fp ∧ b ≠ kb) (hat : gl.length ≤ c.at') (hp : x = 0 ∨ ∃ o ∈ obs, o.p = x ∧ g.S o.p) :
    Calls Tryz.prog 74 #[.pointer (some ⟨kb, 0, none⟩)] w fun e w' => ∃ fv', SUPost L s A z obs g U kb mb tb { c with fv := fv' } x w e w' ∧ RdS w' P fv' fl := by
  have hkb : kb ∉ L.fp := fun hc => hka (by simp [HL.all, hc])
  obtain ⟨Ag, cg, egv, hgl, -⟩ := hg
  have hff := hf
  obtain ⟨Af, cf, efv, hfl, -⟩ := hf
  obtain ⟨N, hN⟩ : ∃ N, N = gl.length := ⟨_, rfl⟩
  obtain ⟨F, hF⟩ : ∃ F, F = fl.length := ⟨_, rfl⟩
  obtain ⟨at0, hat0⟩ : ∃ at0, at0 = c.at' := ⟨_, rfl⟩
  rw [List.length_cons, ← hF] at efv
  rw [efv, hF] at hff
  obtain ⟨fb, o, rfl, hpf, hfb, hcell, htl, hcf⟩ := hff.tail
  rw [← hF] at htl hcf
  rw [← hN] at egv hat
  rw [← hat0] at hat
  have hF9 : F ≤ 100000 := by rw [List.length_cons] at hfl; omega
  have c3 := Blk.cell hC (i := 3) rfl
  have c7 := Blk.cell hC (i := 7) rfl
  have c8 := Blk.cell hC (i := 8) rfl
  rw [egv] at c3
  rw [efv] at c8
  rw [← hat0] at c7
  have hcall : ∀ wx v, Fr [] w wx → RdS wx (fun b => w.heap.size ≤ b) v [x] → Calls Tryz.prog 45 #[.pointer (some ⟨kb, 0, none⟩), v] wx (ShadesPost L s A z obs g 0 0 U [x] wx) := fun wx v hF hv =>
    cShade L s A z obs g 0 0 0 0 U kb L.hb mb tb c (fun b => w.heap.size ≤ b) v [x] wx (hH.fr hF (by simp)) (Blk.fr hM hF (by simp)) h (hC.fr hF (by simp)) hkb hmb hv (fun b hb hc => by have := all_lt hH (show b ∈ L.all by simp [HL.all, hc]); omega) (fun y hy => by rw [List.mem_singleton.1 hy]; exact hp)
  have HCALL := hid hcall
  have HPC : Hid (fb ∉ L.fp ∧ fb ≠ kb) := hid (hP _ hpf)
  have HPP := hid hP
  have HC := hid hC
  have HK := hid hkb
  have HKA := hid hka
  have HFB := hid hfb
  have HCELL := hid hcell
  have HTL := hid htl
  have hc3 := hid c3
  have hc7 := hid c7
  have hc8 := hid c8
  have HHH := hid hH
  have eN : ¬ ((at0 : Int) < (N : Int)) := by omega
  clear hcall hgl hka hN hp hP hpf hH hM h hC hkb hmb egv efv hat0 hfb htl hff hat hfl
  have HCF1 := hid hcf
  have HFL := hid hF
  clear hcf hF
  go_enter Tryz.func74, Tryz.ntmps74
  go_wp2_with fail
  go_region
  go_wp2_with fail
  refine (HCALL.out _ _ ?_ ?_).mono ?_
  · exact (Fr.refl [] w).drew.alloc _
  · exact RdS.of_blk (l := [x]) (Blk.new w.drew [.int .i64 x] 2) (Nat.le_refl _) (by simp)
  rintro e wA ⟨rfl, hF, hres⟩
  have HFA : Hid (Fr L.fp w wA) := hid (((((Fr.refl [] w).drew).alloc _).here (by simp)).trans hF)
  have HRES := hid hres
  clear hF hres c3 c7 c8 hcell
  have hCA := HC.out.fr HFA.out HK.out
  have d8 := (cell_fr HFA.out HK.out (Blk.lt HC.out) 8).trans hc8.out
  have y8 := Blk.frozen hCA 8
  have fin : ∀ fv', RdS w P fv' fl → (∀ W', W' = wA.setCell ⟨kb, 8, none⟩ fv' → SUPost L s A z obs g U kb mb tb { c with fv := fv' } x w (.returned (.bool true)) W' ∧ RdS W' P fv' fl) := by
    intro fv' hfv W' hW'
    subst hW'
    have hFS : Fr [kb] wA (wA.setCell ⟨kb, 8, none⟩ fv') := (Fr.refl _ wA).set (by simp) _
    have hT : Fr (kb :: L.fp) w (wA.setCell ⟨kb, 8, none⟩ fv') := (HFA.out.here (fun x hx => List.mem_cons_of_mem _ hx)).trans (hFS.here (by simp))
    obtain ⟨s', A', h1, h2, h3', h4⟩ := HRES.out
    have h3 : MSu 14 s s' A A' obs := h3'.le (by simp)
    refine ⟨⟨rfl, hT, Blk.set hCA 8 fv', s', A', h1.fr hFS (fun b hb hc => HKA.out (List.mem_singleton.1 hb ▸ hc)), h2, h3, h4 x (List.mem_singleton.2 rfl)⟩, hfv.fr hT (fun b hb _ hc => ?_)⟩
    rcases List.mem_cons.1 hc with e | e
    · exact (HPP.out b hb).2 e
    · exact (HPP.out b hb).1 e
  have FIN := hid fin
  clear fin hCA
  by_cases hc1 : cf = 1
  · subst hc1
    have hF0 : F = 0 := by have := HCF1.out; omega
    subst hF0
    have hnil : fl = [] := by
      have := HFL.out
      exact List.length_eq_zero_iff.1 this.symm
    have HF0 := hid (FIN.out (.slice (some ⟨fb, o, none⟩) 0 0) (by rw [hnil]; exact RdS.nil _ _ _ _) _ rfl)
    clear hnil
    go_wp2_with fail
    go_ret
    exact ⟨_, HF0.out⟩
  · have HF0 := hid (FIN.out (.slice (some ⟨fb, o + 1, none⟩) F (cf - 1)) HTL.out _ rfl)
    go_wp2_with fail
    go_ret
    exact ⟨_, HF0.out⟩
def Scan3 (hb : Nat) (k : Sk) (P : Nat → Prop) (kb mb tb sb : Nat) (c : CS) (w : World) (e : Ending) (w' : World) : Prop :=
  Fr [kb, sb] w w' ∧ match topF k.fs k.todo with
    | none => e = .returned (.bool false) ∧ SkRep w' P sb k ∧ CBlk w' kb hb mb tb c
    | some f => ∃ g, e = .returned (.bool true) ∧ SkRep w' P sb { k with todo := k.todo - 1 } ∧ CBlk w' kb hb mb tb { c with fv := .slice (some ⟨g, 0, none⟩) f.l.length f.l.length } ∧ w.heap.size ≤ g ∧ Blk w' g (f.l.map (.int .i64)) 2
def RelS (hb : Nat) (k : Sk) (P : Nat → Prop) (kb mb tb sb : Nat) (c : CS) (ro : Option Fm) (i : Nat) (w wr : World) : Prop := (i = 0 ∧ Fr [] w wr) ∨ (i = 1 ∧ ro = none ∧ Fr [kb, sb] w wr ∧ SkRep wr P sb k ∧ CBlk wr kb hb mb tb c)
set_option maxRecDepth 100000 in
set_option maxHeartbeats 3200000 in
theorem cStack3 (hb kb mb tb sb lb o lc : Nat) (k : Sk) (c : CS) (P : Nat → Prop) (gl : List Int) (w : World) (hC : CBlk w kb hb mb tb c) (hg : RdS w P c.gv gl) (hf : RdS w P c.fv []) (hP : ∀ b, P b → b ≠ kb ∧ b ≠ sb) (hat : gl.length ≤ c.at') (hks : kb ≠ sb)
    (hlv : c.lv = .slice (some ⟨lb, o, none⟩) 1 lc) (hlp : P lb) (hll : lb < w.heap.size) (hlb : w.cell? ⟨lb, o, none⟩ = some (.pointer (some ⟨sb, 0, none⟩))) (hS : SkRep w P sb k) (hn : k.todo ≤ k.fs.length) :
    Calls Tryz.prog 74 #[.pointer (some ⟨kb, 0, none⟩)] w (Scan3 hb k P kb mb tb sb c w) := by
  obtain ⟨Ag, cg, egv, hgl, -⟩ := hg
  obtain ⟨Af, cf, efv, hfl, -⟩ := hf
  obtain ⟨N, hN⟩ : ∃ N, N = gl.length := ⟨_, rfl⟩
  obtain ⟨at0, hat0⟩ : ∃ at0, at0 = c.at' := ⟨_, rfl⟩
  rw [← hN] at egv hat
  rw [← hat0] at hat
  have c3 := Blk.cell hC (i := 3) rfl
  have c4 := Blk.cell hC (i := 4) rfl
  have c7 := Blk.cell hC (i := 7) rfl
  have c8 := Blk.cell hC (i := 8) rfl
  rw [egv] at c3
  rw [hlv] at c4
  rw [efv] at c8
  rw [← hat0] at c7
  have hPS : ¬ P sb := fun hc => (hP _ hc).2 rfl
  have hsc : ∀ wx, Fr [] w wx → Calls Tryz.prog 111 #[.pointer (some ⟨sb, 0, none⟩)] wx fun e w' => Fr [sb] wx w' ∧ match topF k.fs k.todo with
      | none => e = .returned (.tuple #[.agg #[.int .i64 0, .int .i64 0, .slice none 0 0], .bool false]) ∧ SkRep w' P sb k
      | some f => ∃ g, e = .returned (.tuple #[.agg #[.int .i64 f.k, .int .i64 f.n, .slice (some ⟨g, 0, none⟩) f.l.length f.l.length], .bool true]) ∧ wx.heap.size ≤ g ∧ Blk w' g (f.l.map (.int .i64)) 2 ∧ SkRep w' P sb { k with todo := k.todo - 1 } :=
    fun wx h => sScan sb k P wx (hS.fr h (by simp) (by simp)) hPS hn
  have Hsc := hid hsc
  have HLB := hid hlb
  have HLL := hid hll
  have HC := hid hC
  have HKS := hid hks
  have HLP : Hid (lb ≠ sb ∧ lb ≠ kb) := hid ⟨(hP _ hlp).2, (hP _ hlp).1⟩
  have HSB : Hid (sb < w.heap.size) := hid (by obtain ⟨_, h, _⟩ := hS; exact h.lt)
  have HPS := hid hPS
  have HPK : Hid (¬ P kb) := hid (fun hc => (hP _ hc).1 rfl)
  have eN : decide (at0 < N) = false := by simp; omega
  obtain ⟨ro, hro⟩ : ∃ ro, ro = topF k.fs k.todo := ⟨_, rfl⟩
  rw [← hro] at Hsc
  unfold Scan3
  rw [← hro]
  clear hN hat hat0 hC hlv hlp hll hS hn hP egv efv hgl hfl hro hPS hks hsc hlb
  go_enter Tryz.func74, Tryz.ntmps74
  go_wp2_with fail
  go_region
  go_wp2_with fail
  clear c3 c4 c7 c8
  go_loopw [67] (fun iv wr => ∃ i : Nat, i ≤ 1 ∧ iv = .int .i64 i ∧ RelS hb k P kb mb tb sb c ro i w wr) (fun iv _ => 1 - (intOf iv).toNat)
  case atStart => exact ⟨0, Nat.zero_le _, rfl, .inl ⟨rfl, (Fr.refl [] w).drew⟩⟩
  case round =>
    obtain ⟨i, hi, rfl, ⟨rfl, hF⟩ | ⟨rfl, rfl, hF, hS, hCC⟩⟩ := hrel
    · have hcl := (cell_fr hF (by simp) HLL.out o).trans HLB.out
      have HF := hid hF
      clear hF
      cases ro with
      | none =>
        go_wp2_with fail
        refine (Hsc.out _ HF.out).mono ?_
        rintro e w2 ⟨hF2, rfl, hS2⟩
        have HF2 : Hid (Fr [] w2 (w2.alloc (.cells #[.int .i64 0, .int .i64 0, .slice none 0 0] 95))) := hid ((Fr.refl [] w2).alloc _)
        have HT : Hid (Fr [kb, sb] w (w2.alloc (.cells #[.int .i64 0, .int .i64 0, .slice none 0 0] 95))) := hid (((HF.out.here (by simp)).trans (hF2.here (by simp))).alloc _)
        have HS2 := hid (hS2.fr HF2.out (by simp) (by simp))
        have HC2 := hid (((HC.out.fr HF.out (by simp)).fr hF2 (by simpa using HKS.out)).fr HF2.out (by simp))
        clear hF2 hS2 hcl
        go_wp2_with fail
        go_roundw
        case rel => exact ⟨1, Nat.le_refl _, by go_num, .inr ⟨rfl, rfl, HT.out, HS2.out, HC2.out⟩⟩
        case measure => simp [intOf]
      | some f =>
        go_wp2_with fail
        refine (Hsc.out _ HF.out).mono ?_
        rintro e w2 ⟨hF2, g, rfl, hg, hGB, hS2⟩
        have hC2 := ((HC.out.fr HF.out (by simp)).fr hF2 (by simpa using HKS.out)).alloc (.cells #[.int .i64 f.k, .int .i64 f.n, .slice (some ⟨g, 0, none⟩) f.l.length f.l.length] 95)
        have y8 := Blk.frozen hC2 8
        have d8 := Blk.cell hC2 (i := 8) rfl
        have HG : Hid (w.heap.size ≤ g) := hid (Nat.le_trans HF.out.size hg)
        have HFS : Hid (Fr [kb] (w2.alloc (.cells #[.int .i64 f.k, .int .i64 f.n, .slice (some ⟨g, 0, none⟩) f.l.length f.l.length] 95)) ((w2.alloc (.cells #[.int .i64 f.k, .int .i64 f.n, .slice (some ⟨g, 0, none⟩) f.l.length f.l.length] 95)).setCell ⟨kb, 8, none⟩ (.slice (some ⟨g, 0, none⟩) f.l.length f.l.length))) := hid ((Fr.refl _ _).set (by simp) _)
        have HT : Hid (Fr [kb, sb] w ((w2.alloc (.cells #[.int .i64 f.k, .int .i64 f.n, .slice (some ⟨g, 0, none⟩) f.l.length f.l.length] 95)).setCell ⟨kb, 8, none⟩ (.slice (some ⟨g, 0, none⟩) f.l.length f.l.length))) := hid ((((HF.out.here (by simp)).trans (hF2.here (by simp))).alloc _).trans (HFS.out.here (by simp)))
        have HS2 := hid ((hS2.fr ((Fr.refl [] w2).alloc _) (by simp) (by simp)).fr HFS.out (by simpa using fun h => HKS.out h.symm) (fun b hb _ hc => HPK.out (List.mem_singleton.1 hc ▸ hb)))
        have HCF := hid (Blk.set hC2 8 (.slice (some ⟨g, 0, none⟩) f.l.length f.l.length))
        have hgk : g ≠ kb := by have := Blk.lt HC.out; have := HG.out; omega
        have HGB := hid ((hGB.alloc _).fr HFS.out (by simpa using hgk))
        clear hF2 hS2 hcl hC2 hg hGB hgk
        go_wp2_with fail
        go_ret
        exact ⟨HT.out, rfl, HS2.out, g, HCF.out, HG.out, HGB.out⟩
    · have HF := hid hF
      have HS2 := hid hS
      have HC2 := hid hCC
      clear hF hS hCC
      go_wp2_with fail
      go_ret
      exact ⟨HF.out, rfl, HS2.out, HC2.out⟩
set_option maxRecDepth 100000 in
theorem cWeakNo (kb hb mb tb : Nat) (c : CS) (n : Int) (m : Bool) (Post : World → Prop) (w : World) (hC : CBlk w kb hb mb tb c)
    (hst : Calls Tryz.prog 113 #[.pointer (some ⟨tb, 0, none⟩)] w fun e w' => e = .returned (.tuple #[.int .i64 n, .bool false, .bool m]) ∧ Post w') :
    Calls Tryz.prog 76 #[.pointer (some ⟨kb, 0, none⟩)] w fun e w' => e = .returned (.bool m) ∧ Post w' := by
  have c2 := Blk.cell hC (i := 2) rfl
  have Hst := hid hst
  clear hC hst
  go_enter Tryz.func76, Tryz.ntmps76
  go_wp2_with fail
  refine Hst.out.mono ?_
  rintro e w1 ⟨rfl, hp⟩
  have HP := hid hp
  clear hp c2
  go_wp2_with fail
  go_ret
  exact ⟨rfl, HP.out⟩
set_option maxRecDepth 100000 in
set_option maxHeartbeats 1600000 in
theorem cWeakYes (kb hb mb tb B : Nat) (c : CS) (bl : List Int) (n : Int) (m : Bool) (Post : World → Prop) (w : World) (hC : CBlk w kb hb mb tb c) (hbl : bl.length ≤ 100000)
    (hst : Calls Tryz.prog 113 #[.pointer (some ⟨tb, 0, none⟩)] w fun e w' => e = .returned (.tuple #[.int .i64 n, .bool true, .bool m]) ∧ Post w' ∧ CBlk w' kb hb mb tb c ∧ Rowi w' B c.bv bl ∧ B ≤ w'.heap.size) :
    Calls Tryz.prog 76 #[.pointer (some ⟨kb, 0, none⟩)] w fun e w' => e = .returned (.bool m) ∧ ∃ w1 bv', Post w1 ∧ Rowi w' B bv' (bl ++ [n]) ∧ CBlk w' kb hb mb tb { c with bv := bv' } ∧ Fr (kb :: c.bv.ownBlock.toList) w1 w' ∧ (bv'.ownBlock = c.bv.ownBlock ∨ ∃ g, bv'.ownBlock = some g ∧ w1.heap.size ≤ g) := by
  have c2 := Blk.cell hC (i := 2) rfl
  have Hst := hid hst
  clear hC hst
  go_enter Tryz.func76, Tryz.ntmps76
  go_wp2_with fail
  refine Hst.out.mono ?_
  rintro e w1 ⟨rfl, hp, hC1, hR, hB⟩
  have d10 := Blk.cell hC1 (i := 10) rfl
  have HP := hid hp
  have hne := hR.ne hC1 (by decide)
  have HNE := hid hne
  have HC1 := hid hC1
  obtain ⟨A, cp, e⟩ := hR.form
  have HR := hid hR
  have HB := hid hB
  have HE := hid e
  rw [e] at d10
  clear hp c2 hC1 hR hB hne e
  go_wp2_with (at_builtin; refine wpList_appi rfl _ _ rfl B _ bl rfl (HE.out ▸ HR.out.alloc _) (some ⟨w1.heap.size, 0, none⟩) 1 1 [n] rfl ?c1 (by simp) (by simp; omega) (by rw [World.size_alloc]; have := HB.out; omega) ?c2)
  case c1 => exact (Rowi.one w1 n (Nat.le_refl _)).src
  case c2 =>
    intro v' w2 hR2 hF2 hown
    obtain ⟨A', c', e'⟩ := hR2.form
    have hbv : (Value.slice A bl.length cp).ownBlock = c.bv.ownBlock := by rw [HE.out]
    rw [hbv] at hF2 hown
    have hkn : kb ∉ c.bv.ownBlock.toList := fun hc => HNE.out kb (by simpa using hc) rfl
    have hC2 : CBlk w2 kb hb mb tb c := (Blk.alloc HC1.out (.cells #[.int .i64 n] 3)).fr hF2 hkn
    have y10 := Blk.frozen hC2 10
    have d10' := Blk.cell hC2 (i := 10) rfl
    have hFS : Fr [kb] w2 (w2.setCell ⟨kb, 10, none⟩ v') := (Fr.refl _ w2).set (by simp) _
    have HCF := hid (Blk.set hC2 10 v')
    have HFT : Hid (Fr (kb :: c.bv.ownBlock.toList) w1 (w2.setCell ⟨kb, 10, none⟩ v')) := hid (((((Fr.refl [] w1).alloc (.cells #[.int .i64 n] 3)).here (by simp)).trans (hF2.here (fun x hx => List.mem_cons_of_mem _ hx))).trans (hFS.here (by simp)))
    have HRF := hid (hR2.fr hFS (fun g hg hc => by
      have := List.mem_singleton.1 hc
      subst this
      rcases hown with h | h
      · rw [h] at hg; exact HNE.out _ hg rfl
      · rw [h] at hg
        cases hg
        have := Blk.lt HC1.out
        first | omega | (rw [World.size_alloc] at this; omega)))
    have HOW : Hid (v'.ownBlock = c.bv.ownBlock ∨ ∃ g, v'.ownBlock = some g ∧ w1.heap.size ≤ g) := hid (hown.imp id (fun h => ⟨_, h, by first | omega | (rw [World.size_alloc]; omega)⟩))
    rw [List.length_append, List.length_singleton] at e'
    subst e'
    clear hR2 hF2 hown hbv hkn hC2 hFS d10
    go_wp2_with fail
    go_ret
    exact ⟨rfl, w1, _, HP.out, HRF.out, HCF.out, HFT.out, HOW.out⟩
set_option maxRecDepth 100000 in
theorem tRootsY (tb hb : Nat) (sh : Value) (t : TS) (w : World) (hT : TRep w tb hb sh t) :
    Calls Tryz.prog 46 #[.pointer (some ⟨tb, 0, none⟩)] w fun e w' => ∃ g, e = .returned (.slice (some ⟨g, 0, none⟩) 2 2) ∧ w.heap.size ≤ g ∧ Blk w' g [.int .i64 t.row, .int .i64 t.first] 2 ∧ Fr [] w w' := by
  obtain ⟨-, -, c2, c3, -, -, -, -⟩ := hT.reads
  go_enter Tryz.func46, Tryz.ntmps46
  go_wp2_with fail
  go_region
  go_wp2_with fail
  go_ret
  exact ⟨w.heap.size, rfl, Nat.le_refl _, by first | exact Blk.new w _ _ | exact (Blk.new w _ _).drew, by first | exact ((Fr.refl [] w).alloc _).drew | exact ((Fr.refl [] w).drew).alloc _⟩
def RelB (P : Nat → Prop) (sb : Nat) (k : Sk) (i : Nat) (w wr : World) : Prop := (i = 0 ∧ Fr [] w wr) ∨ (i = 1 ∧ Fr [sb] w wr ∧ SkRep wr P sb { k with todo := k.fs.length })
theorem info_ptrS : (Tryz.prog.info? 31).map (fun i => (i.zero, i.size, i.bytes)) = some (some (.pointer none), 1, 8) := by kernel_rfl
set_option maxHeartbeats 800000 in
set_option maxRecDepth 20000 in
theorem cloneI (b o cap N : Nat) (cs : List Value) (w : World) (hN : cs.length = N) (h1 : 1 ≤ N) (h2 : N ≤ 1000) (hlt : b < w.heap.size) (hr : ∀ i v, cs[i]? = some v → w.cell? ⟨b, o + i, none⟩ = some v) (hone : ∀ v ∈ cs, v.oneCell' = true) :
    Calls Tryz.prog 69 #[.slice (some ⟨b, o, none⟩) N cap] w fun e w' => ∃ g cap', e = .returned (.slice (some ⟨g, 0, none⟩) N cap') ∧ w.heap.size ≤ g ∧ g < w'.heap.size ∧ N ≤ cap' ∧ (∀ i v, cs[i]? = some v → w'.cell? ⟨g, i, none⟩ = some v) ∧ Fr [] w w' := by
  have HI := hid (info_parts infoI64y)
  have hnil : ∀ w, (binOp .eql 67 (.slice (some ⟨b, o, none⟩) N cap) (.slice none 0 0)).run Tryz.prog w = .ok (.bool false) w := fun _ => by kernel_rfl
  have hown : (w.alloc (.cells #[] 2)).ownsRow w.heap.size 2 1 (.slice (some ⟨w.heap.size, 0, none⟩) 0 0) 0 [] :=
    ⟨rfl, .inr ⟨w.heap.size, 0, #[], rfl, Nat.le_refl _, heap_alloc_new w _, Nat.le_refl _, Nat.zero_le _, rfl, rfl⟩⟩
  have hnews : ∀ j u, cs[j]? = some u → (w.alloc (.cells #[] 2)).cell? (Addr.add ⟨b, o, none⟩ j) = some u := by
    intro j u hu
    rw [Addr.add_lit, World.cell?_alloc_past _ _ _ hlt]
    exact hr j u hu
  go_enter Tryz.func69, Tryz.ntmps69
  obtain ⟨i0, hi, hz0, hz1, hz2⟩ := HI.out
  have h1' := hid hi
  have h2' := hid hz0
  have h3' := hid hz1
  have h4' := hid hz2
  have h5' := hid hnews
  have h6' := hid hown
  have h7' := hid hN
  have h8' := hid hone
  clear hi hz0 hz1 hz2 hown hnews HI hN hone hr hlt
  go_wp2_with (at_builtin; refine wpList_append_own _ rfl _ _ 67 rfl w.heap.size 2 i0 (.int .i64 0) 1 8 Tryz.underlying67 h1'.out h2'.out h3'.out h4'.out rfl (by decide) _ 0 [] rfl h6'.out ⟨b, o, none⟩ N cap cs rfl ?c0 h5'.out h8'.out ?c2 ?c3 ?c4 ?c5)
  case c0 => have := h7'.out; omega
  case c2 => simp only [maxLen]; omega
  case c3 => omega
  case c4 => simp
  case c5 =>
    intro v' w1 hown' hgrow hniliff
    have hF : Fr [] w w1 := ((Fr.refl _ w).alloc _).step (Fr.of_grownBy (S := [w.heap.size]) hgrow (by intro k hk; simp [Value.ownBlock] at hk; subst hk; simp)) (by simp)
    obtain ⟨-, h | ⟨g, cap', cur, hv, hg, hh, hc, -, hcs, ht⟩⟩ := hown'
    · omega
    (try simp only [Nat.zero_add] at hv hc)
    have hcell : ∀ i v, cs[i]? = some v → w1.cell? ⟨g, i, none⟩ = some v := by
      intro i v hv'
      have ht2 : (cur.toList.take N) = cs := by simpa using ht
      rw [← ht2, List.getElem?_take] at hv'
      have : cur[i]? = some v := by
        split at hv'
        · simpa using hv'
        · cases hv'
      simp [World.cell?, hh, this]
    have hgl : g < w1.heap.size := (Array.getElem?_eq_some_iff.1 hh).1
    have HFI := hid (And.intro hg (And.intro hgl (And.intro hc (And.intro hcell hF))))
    subst hv
    clear hgrow hniliff h1' h2' h3' h4' h5' h6' h7' h8' hh hcs ht hg hgl hc hcell hF
    go_wp2_with fail
    go_ret
    exact ⟨g, cap', rfl, HFI.out.1, HFI.out.2.1, HFI.out.2.2.1, HFI.out.2.2.2.1, HFI.out.2.2.2.2⟩
set_option maxHeartbeats 800000 in
set_option maxRecDepth 20000 in
theorem cloneP (b o cap N : Nat) (cs : List Value) (w : World) (hN : cs.length = N) (h1 : 1 ≤ N) (h2 : N ≤ 1000) (hlt : b < w.heap.size) (hr : ∀ i v, cs[i]? = some v → w.cell? ⟨b, o + i, none⟩ = some v) (hone : ∀ v ∈ cs, v.oneCell' = true) :
    Calls Tryz.prog 70 #[.slice (some ⟨b, o, none⟩) N cap] w fun e w' => ∃ g cap', e = .returned (.slice (some ⟨g, 0, none⟩) N cap') ∧ w.heap.size ≤ g ∧ g < w'.heap.size ∧ N ≤ cap' ∧ (∀ i v, cs[i]? = some v → w'.cell? ⟨g, i, none⟩ = some v) ∧ Fr [] w w' := by
  have HI := hid (info_parts info_ptrS)
  have hnil : ∀ w, (binOp .eql 85 (.slice (some ⟨b, o, none⟩) N cap) (.slice none 0 0)).run Tryz.prog w = .ok (.bool false) w := fun _ => by kernel_rfl
  have hown : (w.alloc (.cells #[] 31)).ownsRow w.heap.size 31 1 (.slice (some ⟨w.heap.size, 0, none⟩) 0 0) 0 [] :=
    ⟨rfl, .inr ⟨w.heap.size, 0, #[], rfl, Nat.le_refl _, heap_alloc_new w _, Nat.le_refl _, Nat.zero_le _, rfl, rfl⟩⟩
  have hnews : ∀ j u, cs[j]? = some u → (w.alloc (.cells #[] 31)).cell? (Addr.add ⟨b, o, none⟩ j) = some u := by
    intro j u hu
    rw [Addr.add_lit, World.cell?_alloc_past _ _ _ hlt]
    exact hr j u hu
  go_enter Tryz.func70, Tryz.ntmps70
  obtain ⟨i0, hi, hz0, hz1, hz2⟩ := HI.out
  have h1' := hid hi
  have h2' := hid hz0
  have h3' := hid hz1
  have h4' := hid hz2
  have h5' := hid hnews
  have h6' := hid hown
  have h7' := hid hN
  have h8' := hid hone
  clear hi hz0 hz1 hz2 hown hnews HI hN hone hr hlt
  go_wp2_with (at_builtin; refine wpList_append_own _ rfl _ _ 85 rfl w.heap.size 31 i0 (.pointer none) 1 8 Tryz.underlying85 h1'.out h2'.out h3'.out h4'.out rfl (by decide) _ 0 [] rfl h6'.out ⟨b, o, none⟩ N cap cs rfl ?c0 h5'.out h8'.out ?c2 ?c3 ?c4 ?c5)
  case c0 => have := h7'.out; omega
  case c2 => simp only [maxLen]; omega
  case c3 => omega
  case c4 => simp
  case c5 =>
    intro v' w1 hown' hgrow hniliff
    have hF : Fr [] w w1 := ((Fr.refl _ w).alloc _).step (Fr.of_grownBy (S := [w.heap.size]) hgrow (by intro k hk; simp [Value.ownBlock] at hk; subst hk; simp)) (by simp)
    obtain ⟨-, h | ⟨g, cap', cur, hv, hg, hh, hc, -, hcs, ht⟩⟩ := hown'
    · omega
    (try simp only [Nat.zero_add] at hv hc)
    have hcell : ∀ i v, cs[i]? = some v → w1.cell? ⟨g, i, none⟩ = some v := by
      intro i v hv'
      have ht2 : (cur.toList.take N) = cs := by simpa using ht
      rw [← ht2, List.getElem?_take] at hv'
      have : cur[i]? = some v := by
        split at hv'
        · simpa using hv'
        · cases hv'
      simp [World.cell?, hh, this]
    have hgl : g < w1.heap.size := (Array.getElem?_eq_some_iff.1 hh).1
    have HFI := hid (And.intro hg (And.intro hgl (And.intro hc (And.intro hcell hF))))
    subst hv
    clear hgrow hniliff h1' h2' h3' h4' h5' h6' h7' h8' hh hcs ht hg hgl hc hcell hF
    go_wp2_with fail
    go_ret
    exact ⟨g, cap', rfl, HFI.out.1, HFI.out.2.1, HFI.out.2.2.1, HFI.out.2.2.2.1, HFI.out.2.2.2.2⟩
theorem cloneN (w : World) : Calls Tryz.prog 69 #[.slice none 0 0] w fun e w' => e = .returned (.slice none 0 0) ∧ w = w' := by
  have hnil : ∀ w, (binOp .eql 67 (.slice none 0 0) (.slice none 0 0)).run Tryz.prog w = .ok (.bool true) w := fun _ => by kernel_rfl
  go_enter Tryz.func69, Tryz.ntmps69
  go_wp2_with fail
  go_ret
  exact ⟨rfl, rfl⟩
theorem tNewY (hb kb : Nat) (w : World) :
    Calls Tryz.prog 71 #[.pointer (some ⟨hb, 0, none⟩), .func (.func 72) #[.pointer (some ⟨kb, 0, none⟩)] #[]] w fun e w' => e = .returned (.pointer (some ⟨w.heap.size, 0, none⟩)) ∧ TRep w' w.heap.size hb (.func (.func 72) #[.pointer (some ⟨kb, 0, none⟩)] #[]) ⟨0, 0, 0, 0, 0, false⟩ ∧ Fr [] w w' := by
  go_enter Tryz.func71, Tryz.ntmps71
  go_wp2_with fail
  go_ret
  refine ⟨rfl, ?_, (Fr.refl _ w).alloc _⟩
  exact Blk.new w (TS.cells ⟨0, 0, 0, 0, 0, false⟩ hb (.func (.func 72) #[.pointer (some ⟨kb, 0, none⟩)] #[])) 151
def CNewPost (hb : Nat) (gl : List Int) (sb : Nat) (rv : Value) (w : World) (e : Ending) (w' : World) : Prop :=
  ∃ kb mb tb gv lb lc, e = .returned (.pointer (some ⟨kb, 0, none⟩)) ∧ w.heap.size ≤ mb ∧ mb < kb ∧ kb < tb ∧ w.heap.size ≤ lb ∧ lb ≠ kb ∧ lb ≠ mb ∧ lb ≠ tb ∧ lb < w'.heap.size ∧ 1 ≤ lc ∧
    CBlk w' kb hb mb tb ⟨gv, .slice (some ⟨lb, 0, none⟩) 1 lc, rv, 0, 0, .slice none 0 0, 0, .slice none 0 0⟩ ∧
    Blk w' mb [.pointer (some ⟨hb, 0, none⟩), .int .i64 0, .int .i64 0] 177 ∧ TRep w' tb hb (.func (.func 72) #[.pointer (some ⟨kb, 0, none⟩)] #[]) ⟨0, 0, 0, 0, 0, false⟩ ∧
    RdS w' (fun b => w.heap.size ≤ b ∧ b ≠ kb ∧ b ≠ mb ∧ b ≠ tb) gv gl ∧ w'.cell? ⟨lb, 0, none⟩ = some (.pointer (some ⟨sb, 0, none⟩)) ∧ Fr [] w w'
set_option maxRecDepth 100000 in
set_option maxHeartbeats 1600000 in
theorem cNew (hb : Nat) (gv : Value) (gl : List Int) (l0 lo lc0 sb pb : Nat) (w : World) (hl0 : l0 < w.heap.size) (hlc : w.cell? ⟨l0, lo, none⟩ = some (.pointer (some ⟨sb, 0, none⟩)))
    (hcl : ∀ wx, Fr [] w wx → Calls Tryz.prog 69 #[gv] wx fun e w' => ∃ v', e = .returned v' ∧ RdS w' (fun b => wx.heap.size ≤ b) v' gl ∧ Fr [] wx w') :
    Calls Tryz.prog 32 #[.pointer (some ⟨hb, 0, none⟩), gv, .slice (some ⟨l0, lo, none⟩) 1 lc0, .func (.func 33) #[] #[.pointer (some ⟨pb, 0, none⟩)]] w (CNewPost hb gl sb (.func (.func 33) #[] #[.pointer (some ⟨pb, 0, none⟩)]) w) := by
  have HCL := hid hcl
  have HLC := hid hlc
  have HL0 := hid hl0
  clear hcl hlc hl0
  go_enter Tryz.func32, Tryz.ntmps32
  go_wp2_with fail
  refine (mkNew hb w).mono ?_
  rintro e w1 ⟨rfl, hB1, hF1, hs1⟩
  have HB1 := hid hB1
  have HF1 := hid hF1
  have HS1 := hid hs1
  clear hB1 hF1 hs1
  go_wp2_with fail
  refine (HCL.out w1 HF1.out).mono ?_
  rintro e w2 ⟨v2, rfl, hv2, hF2⟩
  have HB2 := hid (HB1.out.fr hF2 (by simp))
  have HF2 := hid (HF1.out.trans hF2)
  have HV2 := hid hv2
  obtain ⟨A2, c2, rfl, _, _⟩ := hv2
  have HSZ : Hid (w1.heap.size ≤ w2.heap.size) := hid hF2.size
  clear hF2
  go_wp2_with fail
  refine (cloneP l0 lo lc0 1 [.pointer (some ⟨sb, 0, none⟩)] w2 rfl (Nat.le_refl _) (by decide) (Nat.lt_of_lt_of_le HL0.out HF2.out.size) (fun i v hv => ?_) (by simp [Value.oneCell'])).mono ?_
  · cases i with
    | zero => cases hv; exact (cell_fr HF2.out (by simp) HL0.out lo).trans HLC.out
    | succ i => simp at hv
  rintro e w3 ⟨g3, c3, rfl, hg3, hgl3, hc3, hcell3, hF3⟩
  have HC3 := hid (hcell3 0 _ rfl)
  have HB3 := hid (HB2.out.fr hF3 (by simp))
  have HF3 := hid (HF2.out.trans hF3)
  have HV3 := hid (HV2.out.fr hF3 (by simp))
  have HG3 := hid (And.intro hg3 (And.intro hgl3 hc3))
  have HSZ3 : Hid (w2.heap.size ≤ w3.heap.size) := hid hF3.size
  clear hg3 hgl3 hc3 hcell3 hF3
  obtain ⟨kc, hkc⟩ : ∃ kc, kc = [Value.pointer (some ⟨hb, 0, none⟩), .pointer (some ⟨w.heap.size, 0, none⟩), .pointer none, .slice A2 gl.length c2, .slice (some ⟨g3, 0, none⟩) 1 c3, .func (.func 33) #[] #[.pointer (some ⟨pb, 0, none⟩)], .int .i64 0, .int .i64 0, .slice none 0 0, .int .i64 0, .slice none 0 0] := ⟨_, rfl⟩
  have hK := Blk.new w3 kc 91
  have HK := hid hK
  have HKC := hid hkc
  clear hK hkc
  go_wp2_with fail
  refine (tNewY hb w3.heap.size _).mono ?_
  rintro e w4 ⟨rfl, hT4, hF4⟩
  have hK4 := HK.out
  rw [HKC.out] at hK4
  have hK5 := hK4.fr hF4 (by simp)
  have y2 := hK5.frozen 2
  have d2 := hK5.cell (i := 2) rfl
  have hT5 : TRep w4 (w3.heap.size + 1) hb (.func (.func 72) #[.pointer (some ⟨w3.heap.size, 0, none⟩)] #[]) ⟨0, 0, 0, 0, 0, false⟩ := by rw [World.size_alloc] at hT4; exact hT4
  have hKF := hK5.set 2 (.pointer (some ⟨w3.heap.size + 1, 0, none⟩))
  have hFS : Fr [w3.heap.size] w4 (w4.setCell ⟨w3.heap.size, 2, none⟩ (.pointer (some ⟨w3.heap.size + 1, 0, none⟩))) := (Fr.refl _ w4).set (by simp) _
  have hF34 : Fr [] w3 w4 := ((Fr.refl [] w3).alloc _).trans hF4
  have hs23 := HSZ3.out
  have hs12 := HSZ.out
  have hs1 := HS1.out
  have hg := HG3.out
  have hFin : CNewPost hb gl sb (.func (.func 33) #[] #[.pointer (some ⟨pb, 0, none⟩)]) w (.returned (.pointer (some ⟨w3.heap.size, 0, none⟩))) (w4.setCell ⟨w3.heap.size, 2, none⟩ (.pointer (some ⟨w3.heap.size + 1, 0, none⟩))) := by
    refine ⟨w3.heap.size, w.heap.size, w3.heap.size + 1, .slice A2 gl.length c2, g3, c3, rfl, Nat.le_refl _, by omega, by omega, by omega, by omega, by omega, by omega, ?_, hg.2.2, hKF, ?_, ?_, ?_, ?_, ?_⟩
    · have := hF34.size
      have := hFS.size
      omega
    · exact (HB3.out.fr hF34 (by simp)).fr hFS (by simp; omega)
    · exact hT5.fr hFS (by simp)
    · obtain ⟨A', c', e, h1, h2⟩ := HV3.out
      cases e
      refine RdS.fr (w := w3) ⟨A2, c2, rfl, h1, fun i x hx => ?_⟩ (hF34.step hFS (by simp)) (by simp)
      obtain ⟨g, o, e, h3, h4, h5⟩ := h2 i x hx
      exact ⟨g, o, e, ⟨by omega, by omega, by omega, by omega⟩, h4, h5⟩
    · have h1 := (cell_fr hF34 (by simp) hg.2.1 0).trans HC3.out
      exact (cell_fr hFS (by simp; omega) (Nat.lt_of_lt_of_le hg.2.1 hF34.size) 0).trans h1
    · exact HF3.out.trans (hF34.step hFS (by simp))
  have HFIN := hid hFin
  clear hFin hT4 hT5 hF4 hKF hFS hF34 hs23 hs12 hs1 hg hK4 hK5
  go_wp2_with fail
  go_ret
  exact HFIN.out
theorem cBarrier0 (kb : Nat) (x : Int) (w : World) (h : w.cell? ⟨kb, 6, none⟩ = some (.int .i64 0)) :
    Calls Tryz.prog 72 #[.pointer (some ⟨kb, 0, none⟩), .int .i64 x] w fun e w' => e = .returned (.tuple #[]) ∧ w = w' := by
  have Hc := hid (cOpen kb 0 w h)
  clear h
  go_enter Tryz.func72, Tryz.ntmps72
  go_wp2_with fail
  refine Hc.out.mono ?_
  rintro e w1 ⟨rfl, rfl⟩
  go_wp2_with fail
  go_end0
  exact ⟨rfl, rfl⟩
theorem cLinks0 (kb : Nat) (x : Int) (w : World) (h : w.cell? ⟨kb, 6, none⟩ = some (.int .i64 0)) :
    Calls Tryz.prog 42 #[.pointer (some ⟨kb, 0, none⟩), .int .i64 x] w fun e w' => e = .returned (.tuple #[]) ∧ w = w' := by
  have Hc := hid (cOpen kb 0 w h)
  clear h
  go_enter Tryz.func42, Tryz.ntmps42
  go_wp2_with fail
  refine Hc.out.mono ?_
  rintro e w1 ⟨rfl, rfl⟩
  go_wp2_with fail
  go_end0
  exact ⟨rfl, rfl⟩
end Go.Proofs.YtklnpooninbogaaGreat
