import Derived.Test.YtifillpcphiblaaMMark
import Derived.Deep.QuietTactic
import Derived.BigQuiet
namespace Go.Proofs.Ytifillpcphiblaa
open Go Go.Proofs Go.RowKit

/-! Package mark: Work, Done, New. -/

/-- The marker, its heap, and what the marking is at. -/
structure MW (w : World) (L : HL) (mb : Nat) (s : HS) (A : Rg) (z : Int → Int) (obs : List Ob) (g : MG) (a : Int) (nx U : Nat) : Prop where
  hr : HRep w L s
  m : MBlk w mb L a nx
  i : MI s A z obs g a nx U
  z0 : a = 0 → nx = 0

def WorkState (L : HL) (s : HS) (A : Rg) (z : Int → Int) (obs : List Ob) (g : MG) (U mb d : Nat) (w' : World) (s' : HS) (A' : Rg) (a' : Int) (nx' : Nat) : Prop :=
  d ≤ U ∧ MW w' L mb s' A' z obs g a' nx' (U - d) ∧ MSt s s' A A' obs

set_option maxRecDepth 100000 in
set_option maxHeartbeats 3200000 in
theorem mDo (L : HL) (s : HS) (A : Rg) (z : Int → Int) (obs : List Ob) (g : MG) (a : Int) (nx U mb bm bd d : Nat) (w : World) (h : MW w L mb s A z obs g a nx U) (hmb : mb ∉ L.all) (hbm : Blk w bm [.pointer (some ⟨mb, 0, none⟩)] 97) (hbd : Blk w bd [.int .i64 d] 3)
    (hbdL : bd ∉ L.all ∧ bd ≠ mb ∧ bd ≠ bm) (hd : d ≤ 65536) :
    Calls Try.prog 106 #[.pointer (some ⟨bm, 0, none⟩), .pointer (some ⟨bd, 0, none⟩)] w fun e w' => Fr (bd :: mb :: L.fp) w w' ∧ ∃ b s' A' a' nx', e = .returned (.bool b) ∧ HRep w' L s' ∧ MBlk w' mb L a' nx' ∧ (a' = 0 → nx' = 0) ∧ MSt s s' A A' obs ∧ Blk w' bd [.int .i64 (if b then d + 1 else d : Nat)] 3 ∧
      ((b = true ∧ 1 ≤ U ∧ MI s' A' z obs g a' nx' (U - 1)) ∨ (b = false ∧ a' = 0 ∧ NoG A' ∧ MI s' A' z obs g 0 0 U)) := by
  have m0 := hbm.cell (i := 0) rfl
  have hbf : bd ∉ L.fp := fun hc => hbdL.1 (by simp [HL.all, hc])
  have HBF := hid hbf
  have HBL := hid hbdL
  have HBD := hid hbd
  have H := hid h
  clear hbf hbdL hbd h
  go_enter Try.func106, Try.ntmps106
  go_wp2_with fail
  refine (mUnit L s A z obs g a nx U mb w H.out.hr H.out.m hmb H.out.i H.out.z0).mono ?_
  rintro e w1 ⟨hF1, b, s1, A1, a1, nx1, rfl, hH1, hM1, hz1, hst1, hres⟩
  have hbd1 := HBD.out.fr hF1 (by intro hc; rcases List.mem_cons.1 hc with h | h; (· exact HBL.out.2.1 h); (· exact HBF.out h))
  have HH1 := hid hH1
  have HM1 := hid hM1
  have HZ1 := hid hz1
  have HST := hid hst1
  have HRES := hid hres
  have HBD1 := hid hbd1
  have HF1 := hid hF1
  have c0 := hbd1.cell (i := 0) rfl
  have f0 := hbd1.frozen 0
  clear hH1 hM1 hz1 hst1 hres hbd1 hF1
  have hin : ∀ x ∈ mb :: L.fp, x ∈ bd :: mb :: L.fp := fun x hx => List.mem_cons_of_mem _ hx
  cases b with
  | false =>
    go_wp2_with fail
    go_ret
    exact ⟨HF1.out.here hin, false, s1, A1, a1, nx1, rfl, HH1.out, HM1.out, HZ1.out, HST.out, HBD1.out, by simpa using HRES.out⟩
  | true =>
    have w0 : wrap64 ((d : Int) + 1) = ((d + 1 : Nat) : Int) := by unfold wrap64; omega
    go_wp2_with fail
    go_ret
    have hF2 : Fr [bd] w1 (w1.setCell ⟨bd, 0, none⟩ (.int .i64 (d + 1))) := (Fr.refl _ w1).set (by simp) _
    refine ⟨(HF1.out.here hin).trans (hF2.here (by simp)), true, s1, A1, a1, nx1, rfl, HH1.out.fr hF2 (by intro x hx hc; rw [List.mem_singleton.1 hx] at hc; exact HBL.out.1 hc), HM1.out.fr hF2 (by intro hc; exact HBL.out.2.1 (List.mem_singleton.1 hc).symm), HZ1.out, HST.out, ?_, by simpa using HRES.out⟩
    exact HBD1.out.set 0 (.int .i64 (d + 1))

def WorkPost (L : HL) (s : HS) (A : Rg) (z : Int → Int) (obs : List Ob) (g : MG) (U mb : Nat) (n : Int) (w : World) (e : Ending) (w' : World) : Prop :=
  Fr (mb :: L.fp) w w' ∧ ∃ (d : Nat) (s' : HS) (A' : Rg) (a' : Int) (nx' : Nat), e = .returned (.int .i64 d) ∧ (d : Int) ≤ max n 0 ∧ d ≤ U ∧ MW w' L mb s' A' z obs g a' nx' (U - d) ∧ MSt s s' A A' obs ∧
    ((d : Int) < n → a' = 0 ∧ NoG A')

set_option maxRecDepth 100000 in
set_option maxHeartbeats 3200000 in
theorem mWork (L : HL) (s : HS) (A : Rg) (z : Int → Int) (obs : List Ob) (g : MG) (a : Int) (nx U mb : Nat) (n : Int) (w : World) (h : MW w L mb s A z obs g a nx U) (hmb : mb ∉ L.all) (hU : U ≤ 60000) :
    Calls Try.prog 59 #[.pointer (some ⟨mb, 0, none⟩), .int .i64 n] w (WorkPost L s A z obs g U mb n w) := by
  have hmw : mb < w.heap.size := h.m.lt
  have hall : ∀ x ∈ L.all, x < w.heap.size := fun x hx => all_lt h.hr hx
  have B1 := (Blk.new w [.pointer (some ⟨mb, 0, none⟩)] 97).alloc (.cells #[.int .i64 0] 3)
  have B2 := Blk.new (w.alloc (.cells #[.pointer (some ⟨mb, 0, none⟩)] 97)) [.int .i64 0] 3
  have hsz : (w.alloc (.cells #[.pointer (some ⟨mb, 0, none⟩)] 97)).heap.size = w.heap.size + 1 := by simp
  rw [hsz] at B2
  have hF0 : Fr [] w ((w.alloc (.cells #[.pointer (some ⟨mb, 0, none⟩)] 97)).alloc (.cells #[.int .i64 0] 3)) := ((Fr.refl _ w).alloc _).alloc _
  have h0 : MW ((w.alloc (.cells #[.pointer (some ⟨mb, 0, none⟩)] 97)).alloc (.cells #[.int .i64 0] 3)) L mb s A z obs g a nx (U - 0) := ⟨h.hr.fr hF0 (by simp), h.m.fr hF0 (by simp), h.i, h.z0⟩
  have hbd : w.heap.size + 1 ∉ L.all ∧ w.heap.size + 1 ≠ mb ∧ w.heap.size + 1 ≠ w.heap.size := ⟨fun hc => by have := hall _ hc; omega, by omega, by omega⟩
  have HB1 := hid B1
  have HB2 := hid B2
  have HF0 := hid hF0
  have H0 := hid h0
  have HBD := hid hbd
  have HHR := hid h.hr
  have HHM := hid h.m
  have HHI := hid h.i
  clear B1 B2 hF0 h0 hbd h hall hsz
  by_cases hneg : n < 0
  · go_enter Try.func59, Try.ntmps59
    go_wp2_with fail
    go_loopw [10] (fun i wr => i = .int .i64 0 ∧ wr = ((w.alloc (.cells #[.pointer (some ⟨mb, 0, none⟩)] 97)).alloc (.cells #[.int .i64 0] 3))) (fun _ _ => 0)
    case atStart => exact ⟨rfl, rfl⟩
    case round =>
      obtain ⟨rfl, rfl⟩ := hrel
      have c0 := HB2.out.cell (i := 0) rfl
      go_wp2_with fail
      go_ret
      exact ⟨HF0.out.here (by simp), 0, s, A, a, nx, rfl, by omega, Nat.zero_le _, H0.out, MSt.refl s A obs, fun h0 => by omega⟩
  · obtain ⟨N, rfl⟩ := Int.eq_ofNat_of_zero_le (show 0 ≤ n by omega)
    clear hneg
    go_enter Try.func59, Try.ntmps59
    go_wp2_with fail
    go_loopw [10] (fun i wr => ∃ (k : Nat) (s' : HS) (A' : Rg) (a' : Int) (nx' : Nat), k ≤ N ∧ k ≤ U ∧ i = .int .i64 k ∧ MW wr L mb s' A' z obs g a' nx' (U - k) ∧ MSt s s' A A' obs ∧ Blk wr w.heap.size [.pointer (some ⟨mb, 0, none⟩)] 97 ∧ Blk wr (w.heap.size + 1) [.int .i64 k] 3 ∧ Fr (mb :: L.fp) w wr) (fun i _ => N - (intOf i).toNat)
    case atStart => exact ⟨0, s, A, a, nx, Nat.zero_le _, Nat.zero_le _, rfl, H0.out, MSt.refl s A obs, HB1.out, HB2.out, HF0.out.here (by simp)⟩
    case round =>
      obtain ⟨k, s', A', a', nx', hkN, hkU, rfl, hw, hst, hb1, hb2, hF⟩ := hrel
      have c0 := hb2.cell (i := 0) rfl
      have HW := hid hw
      have HST := hid hst
      have Hb1 := hid hb1
      have Hb2 := hid hb2
      have HF := hid hF
      clear hw hst hb1 hb2 hF
      by_cases hlt : (k : Int) < (N : Int)
      · go_wp2_with fail
        refine (mDo L s' A' z obs g a' nx' (U - k) mb w.heap.size (w.heap.size + 1) k wr HW.out hmb Hb1.out Hb2.out HBD.out (by omega)).mono ?_
        rintro e w2 ⟨hF2, b, s2, A2, a2, nx2, rfl, hH2, hM2, hz2, hst2, hb2, hres⟩
        have hb1' := Hb1.out.fr hF2 (by
          intro hc
          rcases List.mem_cons.1 hc with h | h
          · exact HBD.out.2.2 h.symm
          · rcases List.mem_cons.1 h with h | h
            · omega
            · have := all_lt HHR.out (b := w.heap.size) (by simp [HL.all, h]); omega)
        have hF2' : Fr (mb :: L.fp) w w2 := HF.out.step hF2 (fun x hx => by
          rcases List.mem_cons.1 hx with h | h
          · exact .inr (by omega)
          · exact .inl h)
        have HF2 := hid hF2'
        have HH2 := hid hH2
        have HM2 := hid hM2
        have HZ2 := hid hz2
        have HST2 := hid (hst2)
        have HRES := hid hres
        have HB1' := hid hb1'
        have HB2' := hid hb2
        have c2 := hb2.cell (i := 0) rfl
        clear hF2 hF2' hH2 hM2 hz2 hst2 hres hb1' hb2 c0
        cases b with
        | true =>
          go_wp2_with fail
          go_roundw
          case rel =>
            obtain ⟨-, h1, h2⟩ : true = true ∧ 1 ≤ U - k ∧ MI s2 A2 z obs g a2 nx2 (U - k - 1) := by
              rcases HRES.out with h | h
              · exact ⟨rfl, h.2⟩
              · simp at h
            refine ⟨k + 1, s2, A2, a2, nx2, by omega, by omega, by go_num, ⟨HH2.out, HM2.out, by rw [show U - (k + 1) = U - k - 1 by omega]; exact h2, HZ2.out⟩, HST.out.trans HST2.out, HB1'.out, HB2'.out, HF2.out⟩
          case measure => simp [intOf]; omega
        | false =>
          go_wp2_with fail
          go_ret
          obtain ⟨-, h1, h2, h3⟩ : false = false ∧ a2 = 0 ∧ NoG A2 ∧ MI s2 A2 z obs g 0 0 (U - k) := by
            rcases HRES.out with h | h
            · simp at h
            · exact ⟨rfl, h.2⟩
          have h4 := HZ2.out h1
          subst h1
          subst h4
          exact ⟨HF2.out, k, s2, A2, 0, 0, rfl, by omega, hkU, ⟨HH2.out, HM2.out, h3, fun _ => rfl⟩, HST.out.trans HST2.out, fun _ => ⟨rfl, h2⟩⟩
      · go_wp2_with fail
        go_ret
        exact ⟨HF.out, k, s', A', a', nx', rfl, by omega, hkU, HW.out, HST.out, fun h0 => by omega⟩

/-- Done, behind the work. -/
def FinW (w : World) (L : HL) (mb : Nat) (s : HS) (A : Rg) (z : Int → Int) (obs : List Ob) (g : MG) (U : Nat) : Prop := MW w L mb s A z obs g 0 0 U ∧ NoG A

set_option maxRecDepth 100000 in
set_option maxHeartbeats 3200000 in
theorem mDone (L : HL) (s : HS) (A : Rg) (z : Int → Int) (obs : List Ob) (g : MG) (U mb : Nat) (w : World) (h : FinW w L mb s A z obs g U) (hmb : mb ∉ L.all) :
    Calls Try.prog 60 #[.pointer (some ⟨mb, 0, none⟩)] w fun e w' => e = .returned (.bool true) ∧ FinW w' L mb s A z obs g U ∧ Fr [L.ab] w w' := by
  obtain ⟨hw, hno⟩ := h
  have m0 := hw.m.cell (i := 0) rfl
  have H := hid hw
  clear hw
  go_enter Try.func60, Try.ntmps60
  go_wp2_with fail
  refine (mOpen L s A z obs g 0 0 U mb w H.out.hr H.out.m hmb H.out.i (fun _ => rfl)).mono ?_
  rintro e w1 ⟨hF1, ⟨o, ho, hp, a0, -⟩ | ⟨s1, rfl, -, -, -, -, hs⟩⟩
  · exact absurd rfl a0
  obtain ⟨rfl, rfl⟩ := hs rfl
  have HNO := hid hno
  clear hF1 hno hs
  go_wp2_with fail
  refine (hNextRows L s1 A z w1 H.out.hr H.out.i.mh.hi).mono ?_
  rintro e w2 ⟨hF2, ⟨rfl, hH2, hno⟩ | ⟨q, G, c, hG, -⟩⟩
  · have hM2 := H.out.m.fr hF2 (fun hc => hmb (by simp [HL.all, ab_fp _ hc]))
    have HF2 := hid hF2
    have HM2 := hid hM2
    clear hF2 hM2 hno m0
    go_wp2_with fail
    go_ret
    exact ⟨rfl, ⟨⟨hH2, HM2.out, H.out.i, H.out.z0⟩, HNO.out⟩, HF2.out⟩
  · have := HNO.out q
    rw [hG] at this
    simp at this

set_option maxRecDepth 100000 in
theorem mkNew (hb : Nat) (w : World) :
    Calls Try.prog 55 #[.pointer (some ⟨hb, 0, none⟩)] w fun e w' => e = .returned (.pointer (some ⟨w.heap.size, 0, none⟩)) ∧ Blk w' w.heap.size [.pointer (some ⟨hb, 0, none⟩), .int .i64 0, .int .i64 0] 175 ∧ Fr [] w w' ∧ w'.heap.size = w.heap.size + 1 := by
  go_enter Try.func55, Try.ntmps55
  go_wp2_with fail
  go_ret
  exact ⟨rfl, Blk.new _ _ _, (Fr.refl _ w).alloc _, by simp⟩
end Go.Proofs.Ytifillpcphiblaa
