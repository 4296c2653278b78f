import Derived.Test.YtifillpcphiblaaHRings
import Derived.Test.YtifillpcphiblaaPObj
namespace Go.Proofs.Ytifillpcphiblaa
open Go Go.Proofs Go.RowKit

/-- A table of weak pointers. -/
structure TS where
  row : Int
  first : Int
  last : Int
  walk : Int
  ahead : Int
  walking : Bool
def TS.cells (t : TS) (hb : Nat) (sh : Value) : List Value := [.pointer (some ⟨hb, 0, none⟩), sh, .int .i64 t.row, .int .i64 t.first, .int .i64 t.last, .int .i64 t.walk, .int .i64 t.ahead, .bool t.walking]
def TRep (w : World) (tb hb : Nat) (sh : Value) (t : TS) : Prop := Blk w tb (t.cells hb sh) 151
theorem TRep.fr {S : List Nat} {w w' : World} {tb hb : Nat} {sh : Value} {t : TS} (h : TRep w tb hb sh t) (hf : Fr S w w') (hS : tb ∉ S) : TRep w' tb hb sh t := Blk.fr h hf hS
theorem TRep.reads {w : World} {tb hb : Nat} {sh : Value} {t : TS} (h : TRep w tb hb sh t) :
    w.cell? ⟨tb, 0, none⟩ = some (.pointer (some ⟨hb, 0, none⟩)) ∧ w.cell? ⟨tb, 1, none⟩ = some sh ∧ w.cell? ⟨tb, 2, none⟩ = some (.int .i64 t.row) ∧ w.cell? ⟨tb, 3, none⟩ = some (.int .i64 t.first) ∧ w.cell? ⟨tb, 4, none⟩ = some (.int .i64 t.last) ∧ w.cell? ⟨tb, 5, none⟩ = some (.int .i64 t.walk) ∧ w.cell? ⟨tb, 6, none⟩ = some (.int .i64 t.ahead) ∧ w.cell? ⟨tb, 7, none⟩ = some (.bool t.walking) :=
  ⟨Blk.cell h rfl, Blk.cell h rfl, Blk.cell h rfl, Blk.cell h rfl, Blk.cell h rfl, Blk.cell h rfl, Blk.cell h rfl, Blk.cell h rfl⟩

/-- The cells of an object, in a heap that is so. -/
structure Ob.Lies (o : Ob) (s : HS) : Prop where
  p0 : 1 ≤ o.p
  p1 : o.p + 3 + o.n ≤ s.ws.length
  head : gw s.ws o.p = packed o.k o.n o.a o.m
  hd : Hd o.k o.n o.a o.m
theorem Ob.In.lies {o : Ob} {s : HS} {A : Rg} {z : Int → Int} (h : o.In s A z) (hI : HI s A z) : o.Lies s := ⟨(h.bound hI).1, (h.bound hI).2, h.head, h.hd⟩
theorem Ob.Lies.tick {o : Ob} {s : HS} (h : o.Lies s) (n : Int) : o.Lies (s.tick n) := ⟨h.p0, h.p1, h.head, h.hd⟩

theorem tWord (L : HL) (s : HS) (tb : Nat) (sh : Value) (t : TS) (o : Ob) (j : Nat) (w : World) (hH : HRep w L s) (hT : TRep w tb L.hb sh t) (ho : o.Lies s) (hj : j < o.n) :
    Calls Try.prog 92 #[.pointer (some ⟨tb, 0, none⟩), .int .i64 o.p, .int .i64 j] w fun e w' => e = .returned (.int .i64 (s.wd o j)) ∧ HRep w' L (s.tick 2) ∧ Fr [L.ab] w w' := by
  have c0 := hT.reads.1
  have h0 := ho.p0
  have hd := ho.hd
  go_enter Try.func92, Try.ntmps92
  go_wp2_with fail
  refine (hGet L s o.p o.k o.n o.a o.m j _ hH (by omega) ho.p1 ho.head ho.hd (by omega) (by omega)).mono ?_
  rintro e w1 ⟨rfl, hH1, hF1⟩
  clear c0
  go_wp2_with fail
  go_ret
  exact ⟨rfl, hH1, hF1⟩

theorem hParityQ (L : HL) (s : HS) (pr : Int) (hpr : s.parity = pr) (w : World) (hH : HRep w L s) :
    Calls Try.prog 34 #[.pointer (some ⟨L.hb, 0, none⟩)] w fun e w' => e = .returned (.int .i64 pr) ∧ w' = w := by
  subst hpr
  refine (hParity L s w hH).mono ?_
  rintro e w' ⟨rfl, rfl⟩
  exact ⟨rfl, rfl⟩

set_option maxHeartbeats 1600000 in
theorem tMarked (L : HL) (s : HS) (tb : Nat) (sh : Value) (t : TS) (o : Ob) (pr : Int) (w : World) (hH : HRep w L s) (hT : TRep w tb L.hb sh t) (htb : tb ∉ L.all) (ho : o.Lies s) (hpr : s.parity = pr) :
    Calls Try.prog 93 #[.pointer (some ⟨tb, 0, none⟩), .int .i64 o.p] w fun e w' => e = .returned (.bool (o.m == pr)) ∧ HRep w' L (s.tick 1) ∧ Fr [L.ab] w w' := by
  have c0 := hT.reads.1
  have h0 := ho.p0
  have h1 := ho.p1
  have hnab : tb ∉ [L.ab] := fun hc => htb (by simp at hc; subst hc; simp [HL.all, HL.fp])
  have HPR := hid hpr
  clear hpr
  go_enter Try.func93, Try.ntmps93
  go_wp2_with fail
  refine (hCell L s o.p o.k o.n o.a o.m _ hH (by omega) (by omega) ho.head ho.hd).mono ?_
  rintro e w1 ⟨rfl, hH1, hF1⟩
  have C1 := Blk.new w1 [.int .i64 o.k, .int .i64 o.n, .int .i64 o.a, .int .i64 o.m] 40
  have hH1' := hH1.alloc (.cells #[.int .i64 o.k, .int .i64 o.n, .int .i64 o.a, .int .i64 o.m] 40)
  have hT1 : TRep (w1.alloc (.cells #[.int .i64 o.k, .int .i64 o.n, .int .i64 o.a, .int .i64 o.m] 40)) tb L.hb sh t := Blk.alloc (hT.fr hF1 hnab) _
  have d3 := C1.cell (i := 3) rfl
  have q0 := hT1.reads.1
  have hF1' : Fr [L.ab] w (w1.alloc (.cells #[.int .i64 o.k, .int .i64 o.n, .int .i64 o.a, .int .i64 o.m] 40)) := hF1.alloc _
  obtain ⟨W1, hW1⟩ : ∃ W1, W1 = w1.alloc (.cells #[.int .i64 o.k, .int .i64 o.n, .int .i64 o.a, .int .i64 o.m] 40) := ⟨_, rfl⟩
  rw [← hW1] at d3 q0 hH1' hF1'
  clear c0 C1
  go_wp2_with fail
  rw [← hW1]
  clear hW1
  go_quiet ((go_at_call 34; exact Calls.quiet_of_same (hParityQ L (s.tick 1) pr HPR.out _ (hH1'.drewN _))))
  go_wp2_with fail
  go_ret
  exact ⟨rfl, hH1'.drewN nq, hF1'.drewN nq⟩

def TS.added (t : TS) (p : Int) : TS := { t with row := p, ahead := if t.walking = true ∧ t.ahead = 0 then p else t.ahead }

set_option maxHeartbeats 3200000 in
theorem tAdd (L : HL) (s : HS) (tb : Nat) (sh : Value) (t : TS) (o : Ob) (w : World) (hH : HRep w L s) (hT : TRep w tb L.hb sh t) (htb : tb ∉ L.all) (ho : o.Lies s) (hk : o.k = 9) (hn : o.n = 4) :
    Calls Try.prog 49 #[.pointer (some ⟨tb, 0, none⟩), .int .i64 o.p] w fun e w' => e = .returned (.int .i64 0) ∧ HRep w' L ((s.tick 1).put (o.p + 3 + 3) t.row 2) ∧ TRep w' tb L.hb sh (t.added o.p) ∧ Fr [L.ab, L.wb, tb] w w' := by
  have c0 := hT.reads.1
  have h0 := ho.p0
  have h1 := ho.p1
  have hnab : tb ∉ [L.ab] := fun hc => htb (by simp at hc; subst hc; simp [HL.all, HL.fp])
  have hnaw : tb ∉ [L.ab, L.wb] := fun hc => htb (by simp at hc; rcases hc with rfl | rfl <;> simp [HL.all, HL.fp])
  obtain ⟨q, p, k, n, a, m⟩ := o
  simp only at hk hn
  subst hk
  subst hn
  have hhead := ho.head
  have hhd := ho.hd
  simp only at hhead hhd h0 h1
  have HH := hid hhead
  clear ho hhead
  go_enter Try.func49, Try.ntmps49
  go_wp2_with fail
  refine (hCell L s p 9 4 a m _ hH (by omega) (by omega) HH.out hhd).mono ?_
  rintro e w1 ⟨rfl, hH1, hF1⟩
  have C1 := Blk.new w1 [.int .i64 9, .int .i64 4, .int .i64 a, .int .i64 m] 40
  have hH1' := hH1.alloc (.cells #[.int .i64 9, .int .i64 4, .int .i64 a, .int .i64 m] 40)
  have hT1 : TRep (w1.alloc (.cells #[.int .i64 9, .int .i64 4, .int .i64 a, .int .i64 m] 40)) tb L.hb sh t := Blk.alloc (hT.fr hF1 hnab) _
  have d0 := C1.cell (i := 0) rfl
  have d1 := C1.cell (i := 1) rfl
  have q0 := hT1.reads.1
  have q2 := hT1.reads.2.2.1
  have hF1' : Fr [L.ab] w (w1.alloc (.cells #[.int .i64 9, .int .i64 4, .int .i64 a, .int .i64 m] 40)) := hF1.alloc _
  obtain ⟨W1, hW1⟩ : ∃ W1, W1 = w1.alloc (.cells #[.int .i64 9, .int .i64 4, .int .i64 a, .int .i64 m] 40) := ⟨_, rfl⟩
  rw [← hW1] at d0 d1 q0 q2 hH1' hF1' hT1
  clear c0 C1 hT
  go_wp2_with fail
  rw [← hW1]
  clear hW1
  go_region_with ((go_at_call 23; refine (hSet L (s.tick 1) p 9 4 a m 3 t.row _ hH1'.drew (by omega) h1 HH.out hhd (by omega) (by omega)).mono ?_; rintro e w2 ⟨rfl, hH2, hF2⟩))
  all_goals
    have hT2 := (show TRep W1.drew tb L.hb sh t from Blk.drew hT1).fr hF2 hnaw
    have g2 := hT2.reads.2.2.1
    have f2 := Blk.frozen hT2 2
    have hT3 : TRep (w2.setCell ⟨tb, 2, none⟩ (.int .i64 p)) tb L.hb sh { t with row := p } := by
      have := Blk.set hT2 2 (.int .i64 p)
      simpa [TRep, TS.cells] using this
    have hH3 := hH2.other (a := ⟨tb, 2, none⟩) htb (.int .i64 p)
    have hF3 : Fr [L.ab, L.wb, tb] w (w2.setCell ⟨tb, 2, none⟩ (.int .i64 p)) := (((hF1'.drew).here (by simp)).trans (hF2.here (by simp))).set (by simp) _
    have g6 := hT2.reads.2.2.2.2.2.2.1
    have g7 := hT2.reads.2.2.2.2.2.2.2
    have f6 := Blk.frozen hT2 6
    have HT3 := hid hT3
    clear d0 d1 q0 q2 hT2
    cases hw : t.walking with
    | false =>
      rw [hw] at g7
      have HW := hid hw
      clear hw
      go_wp2_with fail
      go_ret
      refine ⟨rfl, hH3, ?_, hF3⟩
      have := HT3.out
      simpa [TRep, TS.cells, TS.added, HW.out] using this
    | true =>
      rw [hw] at g7
      have HW := hid hw
      clear hw
      by_cases ha : t.ahead = 0
      · rw [ha] at g6
        have HA := hid ha
        clear ha
        go_wp2_with fail
        go_ret
        refine ⟨rfl, hH3.other (a := ⟨tb, 6, none⟩) htb _, ?_, hF3.set (by simp) _⟩
        have := Blk.set HT3.out 6 (.int .i64 p)
        simpa [TRep, TS.cells, TS.added, HW.out, HA.out] using this
      · have HA := hid ha
        go_wp2_with fail
        go_ret
        refine ⟨rfl, hH3, ?_, hF3⟩
        have := HT3.out
        simpa [TRep, TS.cells, TS.added, HW.out, HA.out] using this

theorem tBegin (L : HL) (tb : Nat) (sh : Value) (t : TS) (w : World) (hT : TRep w tb L.hb sh t) :
    Calls Try.prog 39 #[.pointer (some ⟨tb, 0, none⟩)] w fun e w' => e = .returned (.tuple #[]) ∧ TRep w' tb L.hb sh { t with walk := t.row, ahead := 0, walking := true } ∧ Fr [tb] w w' := by
  obtain ⟨-, -, c2, -, -, c5, c6, c7⟩ := hT.reads
  have y5 := Blk.frozen hT 5
  have y6 := Blk.frozen hT 6
  have y7 := Blk.frozen hT 7
  go_enter Try.func39, Try.ntmps39
  go_wp2_with fail
  go_end0
  refine ⟨rfl, ?_, (((Fr.refl _ w).set (by simp) _).set (by simp) _).set (by simp) _⟩
  have := ((Blk.set hT 5 (.int .i64 t.row)).set 6 (.int .i64 0)).set 7 (.bool true)
  simpa [TRep, TS.cells] using this
end Go.Proofs.Ytifillpcphiblaa
