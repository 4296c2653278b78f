import Derived.Test.YtifillpcphiblaaWTab
import Derived.Test.YtifillpcphiblaaWObj
namespace Go.Proofs.Ytifillpcphiblaa
open Go Go.Proofs Go.RowKit

def TS.buried (t : TS) (p : Int) : TS := { t with row := if t.ahead = 0 then t.walk else t.row, first := if t.first = 0 then p else t.first, last := p }
/-- Words 0, 1, 3 set to nought, one behind the other. -/
def zsK (s : HS) (p : Int) : Nat → HS
  | 0 => s
  | 1 => s.put (p + 3 + 0) 0 2
  | 2 => (s.put (p + 3 + 0) 0 2).put (p + 3 + 1) 0 2
  | _ => ((s.put (p + 3 + 0) 0 2).put (p + 3 + 1) 0 2).put (p + 3 + 3) 0 2

set_option maxRecDepth 100000 in
set_option maxHeartbeats 6400000 in
theorem tBury (L : HL) (s : HS) (A : Rg) (z : Int → Int) (tb : Nat) (sh : Value) (t : TS) (o : Ob) (w : World) (hH : HRep w L s) (hI : HI s A z) (hT : TRep w tb L.hb sh t) (htb : tb ∉ L.all) (ho : o.In s A z) (hk : o.k = 9) (hn : o.n = 4)
    (hna : t.ahead ≠ 0 → o.p ≠ t.ahead) (hah : t.ahead = 0 ∨ ∃ oa : Ob, oa.In s A z ∧ oa.n = 4 ∧ oa.p = t.ahead) (hla : t.first = 0 ∨ ∃ ol : Ob, ol.In s A z ∧ ol.n = 4 ∧ ol.p = t.last ∧ ol.p ≠ o.p ∧ ol.p ≠ 0) :
    Calls Try.prog 94 #[.pointer (some ⟨tb, 0, none⟩), .int .i64 o.p, .int .i64 o.a] w fun e w' => e = .returned (.tuple #[]) ∧ (∃ s', HRep w' L s' ∧ Bur s s' A z o t.ahead t.walk t.first t.last) ∧ TRep w' tb L.hb sh (t.buried o.p) ∧ Fr (tb :: L.fp) w w' := by
  have bo := ho.bound hI
  have ohd := ho.hd
  rw [hk, hn] at ohd
  have hd9 : Hd 9 4 o.a o.m := ohd
  have hd10 : Hd 10 4 o.a o.m := ⟨by decide, by decide, hd9.m0, hd9.m1, hd9.s0, hd9.s1, hd9.a0, hd9.a1⟩
  have hfpa : ∀ x ∈ L.fp, x ∈ L.all := fun x hx => by simp only [HL.all, List.mem_cons]; exact .inr (.inr hx)
  have hnaw : tb ∉ [L.ab, L.wb] := fun hc => htb (hfpa _ (fpaw L _ hc))
  have hfpw : ∀ x ∈ [L.ab, L.wb], x ∈ tb :: L.fp := fun x hx => List.mem_cons_of_mem _ (fpaw L x hx)
  obtain ⟨-, -, c2, c3, c4, c5, c6, -⟩ := hT.reads
  have c0 := hT.reads.1
  have y2 := Blk.frozen hT 2
  have b1 := bo.1
  have b2 := bo.2
  rw [hn] at b2
  go_enter Try.func94, Try.ntmps94
  by_cases ha : t.ahead = 0
  · have HA := hid ha
    have c6' : w.cell? ⟨tb, 6, none⟩ = some (.int .i64 0) := by rw [c6]; exact congrArg (fun x => some (Value.int .i64 x)) ha
    have hB1 : Bu1 s s A z o t.ahead t.walk := by rw [ha]; exact Bu1.none hI o t.walk
    have hT1 : TRep (w.setCell ⟨tb, 2, none⟩ (.int .i64 t.walk)) tb L.hb sh { t with row := t.walk } := by
      have := Blk.set hT 2 (.int .i64 t.walk)
      simpa [TRep, TS.cells] using this
    have hH1 := hH.other (a := ⟨tb, 2, none⟩) htb (.int .i64 t.walk)
    have hF1 : Fr (tb :: L.fp) w (w.setCell ⟨tb, 2, none⟩ (.int .i64 t.walk)) := (Fr.refl _ w).set (by simp) _
    obtain ⟨s1, hs1⟩ : ∃ s1, s1 = s := ⟨_, rfl⟩
    rw [← hs1] at hH1
    have hB1' : Bu1 s s1 A z o t.ahead t.walk := by rw [hs1]; exact hB1
    replace hB1 := hB1'
    have hst1 := hB1.st.len
    have hL1 := ((hB1.oth o ho).1.lies hB1.hi).head
    rw [hk, hn] at hL1
    have HL1 := hid hL1
    clear ha c6 hs1 hB1' hL1
    go_wp2_with fail
    refine (hBecome L s1 o.p 9 4 o.a o.m 10 o.a _ hH1 (by omega) (by rw [hst1]; omega) HL1.out hd9 hd10).mono ?_
    rintro e w2 ⟨rfl, hH2, hF2⟩
    have hT2 := hT1.fr hF2 hnaw
    have hF2' : Fr (tb :: L.fp) w w2 := hF1.trans (hF2.here hfpw)
    obtain ⟨⟨x1, x2, x3, x4⟩, y2, y3, y4, hB0, hBl⟩ := Bur.of hB1 ho hn hna (by rw [hn]; exact hd10)
    have z2 := x2.lies y2
    have z3 := x3.lies y3
    have z4 := x4.lies y4
    rw [hn] at x2 x3 x4 y2 y3 y4 z2 z3 z4 hB0 hBl
    have HB := hid (And.intro hB0 hBl)
    have Z2 := hid z2
    have Z3 := hid z3
    have Z4 := hid z4
    have hlit := Blk.new w2 [.int .i64 0, .int .i64 1, .int .i64 3] 3
    have hH2' := hH2.alloc (.cells #[.int .i64 0, .int .i64 1, .int .i64 3] 3)
    have hT2' : TRep (w2.alloc (.cells #[.int .i64 0, .int .i64 1, .int .i64 3] 3)) tb L.hb sh _ := Blk.alloc hT2 _
    have hF2a : Fr (tb :: L.fp) w (w2.alloc (.cells #[.int .i64 0, .int .i64 1, .int .i64 3] 3)) := hF2'.alloc _
    have hnl := new_apart hH2
    have hnt : w2.heap.size ≠ tb := fun e => by have := Blk.lt hT2; omega
    clear x1 x2 x3 x4 y2 y3 y4 z2 z3 z4 hB0 hBl hH2 hT2 hF2 hF2'
    go_wp2_with fail
    go_loopw [42] (fun i wr => ∃ k : Nat, k ≤ 3 ∧ i = .int .i64 k ∧ HRep wr L (zsK (s1.put o.p (packed 10 4 o.a o.m) 2) o.p k) ∧ TRep wr tb L.hb sh { t with row := t.walk } ∧ Blk wr w2.heap.size [.int .i64 0, .int .i64 1, .int .i64 3] 3 ∧ Fr (tb :: L.fp) w wr) (fun i _ => 3 - (intOf i).toNat)
    case atStart => exact ⟨0, by omega, rfl, hH2', hT2', hlit, hF2a⟩
    case round =>
      obtain ⟨k, hk3, rfl, hH3, hT3, hl3, hF3⟩ := hrel
      clear hH2' hT2' hlit hF2a
      have hfpl : ∀ x ∈ [L.ab, L.wb], x ∈ tb :: L.fp := hfpw
      have hnl2 : w2.heap.size ∉ [L.ab, L.wb] := fun hc => hnl (hfpa _ (fpaw L _ hc))
      have g0 := hT3.reads.1
      rcases (by omega : k = 0 ∨ k = 1 ∨ k = 2 ∨ k = 3) with rfl | rfl | rfl | rfl
      · have e0 := hl3.cell (i := 0) rfl
        go_wp2_with fail
        refine (hSet L _ o.p 10 4 o.a o.m 0 0 _ hH3 (by omega) Z2.out.p1 Z2.out.head Z2.out.hd (by omega) (by omega)).mono ?_
        rintro e w4 ⟨rfl, hH4, hF4⟩
        clear e0 g0
        go_wp2_with fail
        go_roundw
        case rel => exact ⟨1, by omega, by go_num, hH4, hT3.fr hF4 hnaw, hl3.fr hF4 hnl2, hF3.trans (hF4.here hfpl)⟩
        case measure => simp [intOf]
      · have e1 := hl3.cell (i := 1) rfl
        go_wp2_with fail
        refine (hSet L _ o.p 10 4 o.a o.m 1 0 _ hH3 (by omega) Z3.out.p1 Z3.out.head Z3.out.hd (by omega) (by omega)).mono ?_
        rintro e w4 ⟨rfl, hH4, hF4⟩
        clear e1 g0
        go_wp2_with fail
        go_roundw
        case rel => exact ⟨2, by omega, by go_num, hH4, hT3.fr hF4 hnaw, hl3.fr hF4 hnl2, hF3.trans (hF4.here hfpl)⟩
        case measure => simp [intOf]
      · have e2 := hl3.cell (i := 2) rfl
        go_wp2_with fail
        refine (hSet L _ o.p 10 4 o.a o.m 3 0 _ hH3 (by omega) Z4.out.p1 Z4.out.head Z4.out.hd (by omega) (by omega)).mono ?_
        rintro e w4 ⟨rfl, hH4, hF4⟩
        clear e2 g0
        go_wp2_with fail
        go_roundw
        case rel => exact ⟨3, by omega, by go_num, hH4, hT3.fr hF4 hnaw, hl3.fr hF4 hnl2, hF3.trans (hF4.here hfpl)⟩
        case measure => simp [intOf]
      · obtain ⟨hB0, hBl⟩ := HB.out
        have g3 := hT3.reads.2.2.2.1
        have g4 := hT3.reads.2.2.2.2.1
        have y3 := Blk.frozen hT3 3
        have y4 := Blk.frozen hT3 4
        by_cases hf0 : t.first = 0
        · have g3' : wr.cell? ⟨tb, 3, none⟩ = some (.int .i64 0) := by rw [g3]; exact congrArg (fun x => some (Value.int .i64 x)) hf0
          have HF0 := hid hf0
          clear g3 hf0
          go_wp2_with fail
          go_end0
          refine ⟨rfl, ⟨_, (hH3.other (a := ⟨tb, 3, none⟩) htb _).other (a := ⟨tb, 4, none⟩) htb _, by rw [HF0.out]; exact hB0 _⟩, ?_, (hF3.set (by simp) _).set (by simp) _⟩
          have := (Blk.set hT3 3 (.int .i64 o.p)).set 4 (.int .i64 o.p)
          simpa [TRep, TS.cells, TS.buried, HA.out, HF0.out] using this
        · obtain ⟨ol, l1, l2, l3, l4, l5⟩ := hla.resolve_left hf0
          have hbl := hBl ol l1 l2 l4 l5 t.first hf0
          have b5 := ((hB0 0).oth ol l1 l4).1.lies (hB0 0).hi
          have HF0 := hid hf0
          have HBL := hid hbl
          have B5 := hid b5
          have hh5 := b5.head
          have hd5 := b5.hd
          have hp5 := b5.p1
          have hp50 := b5.p0
          rw [l2] at hh5 hd5 hp5
          rw [← l3] at g4
          have HH5 := hid hh5
          have HL2 := hid l2
          have HL3 := hid l3
          have hfne : (t.first == 0) = false := by simpa using hf0
          clear hbl b5 hf0 hh5 hB0 hBl l2 l3
          go_wp2_with fail
          refine wp_region_still_tail 9 (by kernel_rfl) (by kernel_rfl) ?_
          simp only [List.take_succ_cons, List.take_zero, List.drop_succ_cons, List.drop_zero]
          change wpStill _ _ wr.drew (fun a' => wpList _ _ _ _ a' wr.drew) _ _
          repeat still_step
          refine wpStill_nil ?_
          go_wp2_with fail
          refine (hSet L _ ol.p ol.k 4 ol.a ol.m 3 o.p _ hH3.drew (by omega) hp5 HH5.out hd5 (by omega) (by omega)).mono ?_
          rintro e w4 ⟨rfl, hH4, hF4⟩
          all_goals
            have hT4 := (show TRep wr.drew tb L.hb sh { t with row := t.walk } from Blk.drew hT3).fr hF4 hnaw
            have f4 := hT4.reads.2.2.2.2.1
            have y4' := Blk.frozen hT4 4
            clear g0 g3 g4 y3 y4
            go_wp2_with fail
            go_end0
            refine ⟨rfl, ⟨_, hH4.other (a := ⟨tb, 4, none⟩) htb _, by rw [← HL3.out]; exact HBL.out⟩, ?_, ((hF3.drew).trans (hF4.here hfpl)).set (by simp) _⟩
            have := Blk.set hT4 4 (.int .i64 o.p)
            simpa [TRep, TS.cells, TS.buried, HA.out, HF0.out] using this
  · obtain ⟨oa, a1, a2, a3⟩ := hah.resolve_left ha
    have bA := a1.lies hI
    have hA0 := bA.p0
    have hB1 : Bu1 s (s.put (oa.p + 3 + (3 : Nat)) t.walk 2) A z o t.ahead t.walk := by rw [← a3]; exact Bu1.some hI o t.walk a1 a2 (by omega)
    have hh5 := bA.head
    have hd5 := bA.hd
    have hp5 := bA.p1
    rw [a2] at hh5 hd5 hp5
    have c6' : w.cell? ⟨tb, 6, none⟩ = some (.int .i64 oa.p) := by rw [c6]; exact congrArg (fun x => some (Value.int .i64 x)) a3.symm
    have HH5 := hid hh5
    have HA := hid ha
    have HA3 := hid a3
    have hane : ¬ oa.p = 0 := by omega
    clear c6 hh5 ha a3 bA
    go_wp2_with fail
    refine wp_region_still_tail 12 (by kernel_rfl) (by kernel_rfl) ?_
    simp only [List.take_succ_cons, List.take_zero, List.drop_succ_cons, List.drop_zero]
    change wpStill _ _ w.drew (fun a' => wpList _ _ _ _ a' w.drew) _ _
    repeat still_step
    refine wpStill_nil ?_
    go_wp2_with fail
    refine (hSet L s oa.p oa.k 4 oa.a oa.m 3 t.walk _ hH.drew (by omega) hp5 HH5.out hd5 (by omega) (by omega)).mono ?_
    rintro e w1 ⟨rfl, hH1, hF1a⟩
    all_goals
      have hT1 := (show TRep w.drew tb L.hb sh t from Blk.drew hT).fr hF1a hnaw
      have hF1 : Fr (tb :: L.fp) w w1 := ((Fr.refl _ w).drew).trans (hF1a.here hfpw)
      obtain ⟨s1, hs1⟩ : ∃ s1, s1 = s.put (oa.p + 3 + 3) t.walk 2 := ⟨_, rfl⟩
      rw [← hs1] at hH1
      have hB1' : Bu1 s s1 A z o t.ahead t.walk := by rw [hs1]; exact hB1
      have hst1 := hB1'.st.len
      have hL1 := ((hB1'.oth o ho).1.lies hB1'.hi).head
      rw [hk, hn] at hL1
      have HL1 := hid hL1
      have g0' := hT1.reads.1
      clear hs1 hB1 hL1 hF1a c0 c2 c3 c4 c5 c6' y2
      replace hB1 := hB1'
      clear hB1'
      go_wp2_with fail
      refine (hBecome L s1 o.p 9 4 o.a o.m 10 o.a _ hH1 (by omega) (by rw [hst1]; omega) HL1.out hd9 hd10).mono ?_
      rintro e w2 ⟨rfl, hH2, hF2⟩
      have hT2 := hT1.fr hF2 hnaw
      have hF2' : Fr (tb :: L.fp) w w2 := hF1.trans (hF2.here hfpw)
      obtain ⟨⟨x1, x2, x3, x4⟩, y2, y3, y4, hB0, hBl⟩ := Bur.of hB1 ho hn hna (by rw [hn]; exact hd10)
      have z2 := x2.lies y2
      have z3 := x3.lies y3
      have z4 := x4.lies y4
      rw [hn] at x2 x3 x4 y2 y3 y4 z2 z3 z4 hB0 hBl
      have HB := hid (And.intro hB0 hBl)
      have Z2 := hid z2
      have Z3 := hid z3
      have Z4 := hid z4
      have hlit := Blk.new w2 [.int .i64 0, .int .i64 1, .int .i64 3] 3
      have hH2' := hH2.alloc (.cells #[.int .i64 0, .int .i64 1, .int .i64 3] 3)
      have hT2' : TRep (w2.alloc (.cells #[.int .i64 0, .int .i64 1, .int .i64 3] 3)) tb L.hb sh _ := Blk.alloc hT2 _
      have hF2a : Fr (tb :: L.fp) w (w2.alloc (.cells #[.int .i64 0, .int .i64 1, .int .i64 3] 3)) := hF2'.alloc _
      have hnl := new_apart hH2
      have hnt : w2.heap.size ≠ tb := fun e => by have := Blk.lt hT2; omega
      clear x1 x2 x3 x4 y2 y3 y4 z2 z3 z4 hB0 hBl hH2 hT2 hF2 hF2'
      go_wp2_with fail
      go_loopw [42] (fun i wr => ∃ k : Nat, k ≤ 3 ∧ i = .int .i64 k ∧ HRep wr L (zsK (s1.put o.p (packed 10 4 o.a o.m) 2) o.p k) ∧ TRep wr tb L.hb sh t ∧ Blk wr w2.heap.size [.int .i64 0, .int .i64 1, .int .i64 3] 3 ∧ Fr (tb :: L.fp) w wr) (fun i _ => 3 - (intOf i).toNat)
      case atStart => exact ⟨0, by omega, rfl, hH2', hT2', hlit, hF2a⟩
      case round =>
        obtain ⟨k, hk3, rfl, hH3, hT3, hl3, hF3⟩ := hrel
        clear hH2' hT2' hlit hF2a
        have hfpl : ∀ x ∈ [L.ab, L.wb], x ∈ tb :: L.fp := hfpw
        have hnl2 : w2.heap.size ∉ [L.ab, L.wb] := fun hc => hnl (hfpa _ (fpaw L _ hc))
        have g0 := hT3.reads.1
        rcases (by omega : k = 0 ∨ k = 1 ∨ k = 2 ∨ k = 3) with rfl | rfl | rfl | rfl
        · have e0 := hl3.cell (i := 0) rfl
          go_wp2_with fail
          refine (hSet L _ o.p 10 4 o.a o.m 0 0 _ hH3 (by omega) Z2.out.p1 Z2.out.head Z2.out.hd (by omega) (by omega)).mono ?_
          rintro e w4 ⟨rfl, hH4, hF4⟩
          clear e0 g0
          go_wp2_with fail
          go_roundw
          case rel => exact ⟨1, by omega, by go_num, hH4, hT3.fr hF4 hnaw, hl3.fr hF4 hnl2, hF3.trans (hF4.here hfpl)⟩
          case measure => simp [intOf]
        · have e1 := hl3.cell (i := 1) rfl
          go_wp2_with fail
          refine (hSet L _ o.p 10 4 o.a o.m 1 0 _ hH3 (by omega) Z3.out.p1 Z3.out.head Z3.out.hd (by omega) (by omega)).mono ?_
          rintro e w4 ⟨rfl, hH4, hF4⟩
          clear e1 g0
          go_wp2_with fail
          go_roundw
          case rel => exact ⟨2, by omega, by go_num, hH4, hT3.fr hF4 hnaw, hl3.fr hF4 hnl2, hF3.trans (hF4.here hfpl)⟩
          case measure => simp [intOf]
        · have e2 := hl3.cell (i := 2) rfl
          go_wp2_with fail
          refine (hSet L _ o.p 10 4 o.a o.m 3 0 _ hH3 (by omega) Z4.out.p1 Z4.out.head Z4.out.hd (by omega) (by omega)).mono ?_
          rintro e w4 ⟨rfl, hH4, hF4⟩
          clear e2 g0
          go_wp2_with fail
          go_roundw
          case rel => exact ⟨3, by omega, by go_num, hH4, hT3.fr hF4 hnaw, hl3.fr hF4 hnl2, hF3.trans (hF4.here hfpl)⟩
          case measure => simp [intOf]
        · obtain ⟨hB0, hBl⟩ := HB.out
          have g3 := hT3.reads.2.2.2.1
          have g4 := hT3.reads.2.2.2.2.1
          have y3 := Blk.frozen hT3 3
          have y4 := Blk.frozen hT3 4
          by_cases hf0 : t.first = 0
          · have g3' : wr.cell? ⟨tb, 3, none⟩ = some (.int .i64 0) := by rw [g3]; exact congrArg (fun x => some (Value.int .i64 x)) hf0
            have HF0 := hid hf0
            clear g3 hf0
            go_wp2_with fail
            go_end0
            refine ⟨rfl, ⟨_, (hH3.other (a := ⟨tb, 3, none⟩) htb _).other (a := ⟨tb, 4, none⟩) htb _, by rw [HF0.out]; exact hB0 _⟩, ?_, (hF3.set (by simp) _).set (by simp) _⟩
            have := (Blk.set hT3 3 (.int .i64 o.p)).set 4 (.int .i64 o.p)
            simpa [TRep, TS.cells, TS.buried, HA.out, HF0.out] using this
          · obtain ⟨ol, l1, l2, l3, l4, l5⟩ := hla.resolve_left hf0
            have hbl := hBl ol l1 l2 l4 l5 t.first hf0
            have b5 := ((hB0 0).oth ol l1 l4).1.lies (hB0 0).hi
            have HF0 := hid hf0
            have HBL := hid hbl
            have B5 := hid b5
            have hh5 := b5.head
            have hd5 := b5.hd
            have hp5 := b5.p1
            have hp50 := b5.p0
            rw [l2] at hh5 hd5 hp5
            rw [← l3] at g4
            have HH5 := hid hh5
            have HL2 := hid l2
            have HL3 := hid l3
            have hfne : (t.first == 0) = false := by simpa using hf0
            clear hbl b5 hf0 hh5 hB0 hBl l2 l3
            go_wp2_with fail
            refine wp_region_still_tail 9 (by kernel_rfl) (by kernel_rfl) ?_
            simp only [List.take_succ_cons, List.take_zero, List.drop_succ_cons, List.drop_zero]
            change wpStill _ _ wr.drew (fun a' => wpList _ _ _ _ a' wr.drew) _ _
            repeat still_step
            refine wpStill_nil ?_
            go_wp2_with fail
            refine (hSet L _ ol.p ol.k 4 ol.a ol.m 3 o.p _ hH3.drew (by omega) hp5 HH5.out hd5 (by omega) (by omega)).mono ?_
            rintro e w4 ⟨rfl, hH4, hF4⟩
            all_goals
              have hT4 := (show TRep wr.drew tb L.hb sh t from Blk.drew hT3).fr hF4 hnaw
              have f4 := hT4.reads.2.2.2.2.1
              have y4' := Blk.frozen hT4 4
              clear g0 g3 g4 y3 y4
              go_wp2_with fail
              go_end0
              refine ⟨rfl, ⟨_, hH4.other (a := ⟨tb, 4, none⟩) htb _, by rw [← HL3.out]; exact HBL.out⟩, ?_, ((hF3.drew).trans (hF4.here hfpl)).set (by simp) _⟩
              have := Blk.set hT4 4 (.int .i64 o.p)
              simpa [TRep, TS.cells, TS.buried, HA.out, HF0.out] using this
end Go.Proofs.Ytifillpcphiblaa
