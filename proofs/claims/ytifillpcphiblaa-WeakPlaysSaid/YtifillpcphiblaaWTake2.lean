import Derived.Test.YtifillpcphiblaaWTake
import Derived.Deep.RegionHeld3
namespace Go.Proofs.Ytifillpcphiblaa
open Go Go.Proofs Go.RowKit

theorem cellA {w : World} {b i : Nat} {v : Value} (o : Obj) (h : w.cell? ⟨b, i, none⟩ = some v) : (w.alloc o).cell? ⟨b, i, none⟩ = some v := (cell_fr ((Fr.refl [] w).alloc o) (by simp) (World.block_lt_of_cell? w _ h) i).trans h

theorem tWordI (L : HL) (s : HS) (tb : Nat) (sh : Value) (t : TS) (o : Ob) (j : Nat) (i : Int) (hi : i = (j : Int)) (w : World) (hH : HRep w L s) (hT : TRep w tb L.hb sh t) (ho : o.Lies s) (hj : j < o.n) :
    Calls Try.prog 92 #[.pointer (some ⟨tb, 0, none⟩), .int .i64 o.p, .int .i64 i] w fun e w' => e = .returned (.int .i64 (s.wd o j)) ∧ HRep w' L (s.tick 2) ∧ Fr [L.ab] w w' := by
  subst hi; exact tWord L s tb sh t o j w hH hT ho hj

theorem i2 : (2 : Int) = ((2 : Nat) : Int) := rfl
theorem i3 : (3 : Int) = ((3 : Nat) : Int) := rfl

theorem tTake0 (L : HL) (tb : Nat) (sh : Value) (t : TS) (w : World) (hT : TRep w tb L.hb sh t) (h0 : t.first = 0) :
    Calls Try.prog 41 #[.pointer (some ⟨tb, 0, none⟩)] w fun e w' => e = .returned (.tuple #[.int .i64 0, .int .i64 0, .int .i64 0, .bool false]) ∧ Fr [] w w' := by
  have hT2 : TRep ((w.alloc (.cells #[.pointer (some ⟨tb, 0, none⟩)] 65)).alloc (.cells #[.int .i64 0] 3)) tb L.hb sh t := Blk.alloc (Blk.alloc hT _) _
  have c3 := hT2.reads.2.2.2.1
  rw [h0] at c3
  have HT := hid hT
  have H0 := hid h0
  clear hT h0 hT2
  go_enter Try.func41, Try.ntmps41
  go_wp2_with fail
  exact bodyPost_ret (v := .tuple #[.int .i64 0, .int .i64 0, .int .i64 0, .bool false]) (by simp [results, Try.results41, go_sem]) rfl ⟨rfl, ((Fr.refl _ w).alloc _).alloc _⟩

set_option maxRecDepth 100000 in
set_option maxHeartbeats 4000000 in
theorem tTake (L : HL) (s : HS) (tb vb bx base : Nat) (t : TS) (cs : List Value) (l : List Int) (o : Ob) (fin nx : Int) (w : World) (hap : Apt L tb vb bx base) (hH : HRep w L s) (hT : TRep w tb L.hb (shv bx) t) (hP : ShP w bx vb base cs l) (hl : l.length + 1 ≤ 65536)
    (ho : o.Lies s) (hn : 4 ≤ o.n) (hf : t.first = o.p) (hfin : s.wd o 2 = fin) (hnx : s.wd o 3 = nx) (hlies : o.Lies (((s.tick 5).put (o.p + 3 + (2 : Nat)) 0 2))) :
    Calls Try.prog 41 #[.pointer (some ⟨tb, 0, none⟩)] w fun e w' => e = .returned (.tuple #[.int .i64 o.p, .int .i64 o.a, .int .i64 fin, .bool true]) ∧ HRep w' L ((((s.tick 5).put (o.p + 3 + (2 : Nat)) 0 2)).put (o.p + 3 + (3 : Nat)) 0 2) ∧ TRep w' tb L.hb (shv bx) { t with first := nx } ∧ ShP w' bx vb base cs (l ++ [fin] ++ [nx]) ∧ FrQ L tb vb base w w' := by
  have ho0 := ho.p0
  have hne : ¬ o.p = 0 := by omega
  have hfpa : ∀ x ∈ L.fp, x ∈ L.all := fun x hx => by simp only [HL.all, List.mem_cons]; exact .inr (.inr hx)
  have lt := Blk.lt hT
  have hT2 : TRep ((w.alloc (.cells #[.pointer (some ⟨tb, 0, none⟩)] 65)).alloc (.cells #[.int .i64 0] 3)) tb L.hb (shv bx) t := Blk.alloc (Blk.alloc hT _) _
  have c3 := hT2.reads.2.2.2.1
  rw [hf] at c3
  have HF := hid hf
  have HFI := hid hfin
  have HNX := hid hnx
  clear hf hfin hnx
  go_enter Try.func41, Try.ntmps41
  go_wp2_with fail
  have X0 := (Blk.new w [.pointer (some ⟨tb, 0, none⟩)] 65).alloc (.cells #[.int .i64 o.p] 3)
  have Y0 := Blk.new (w.alloc (.cells #[.pointer (some ⟨tb, 0, none⟩)] 65)) [.int .i64 o.p] 3
  have hT0 : TRep ((w.alloc (.cells #[.pointer (some ⟨tb, 0, none⟩)] 65)).alloc (.cells #[.int .i64 o.p] 3)) tb L.hb (shv bx) t := Blk.alloc (Blk.alloc hT _) _
  have hH0 := (hH.alloc (.cells #[.pointer (some ⟨tb, 0, none⟩)] 65)).alloc (.cells #[.int .i64 o.p] 3)
  have hF0 : Fr [] w ((w.alloc (.cells #[.pointer (some ⟨tb, 0, none⟩)] 65)).alloc (.cells #[.int .i64 o.p] 3)) := ((Fr.refl [] w).alloc _).alloc _
  obtain ⟨W0, hW0⟩ : ∃ W0, W0 = (w.alloc (.cells #[.pointer (some ⟨tb, 0, none⟩)] 65)).alloc (.cells #[.int .i64 o.p] 3) := ⟨_, rfl⟩
  have hsz : W0.heap.size = w.heap.size + 2 := by rw [hW0]; simp
  rw [World.size_alloc] at Y0
  rw [← hW0] at X0 Y0 hT0 hH0 hF0 ⊢
  have hP0 : ShP W0 bx vb base cs l := hP.fr hF0 (by simp) (by simp) (by simp)
  clear hW0 c3 hT2
  have hbw := hP.hb
  have xa : w.heap.size ∉ L.all ∧ w.heap.size ≠ vb ∧ w.heap.size ≠ tb := ⟨fun h => by have := hap.lb _ h; omega, by have := hP.b2; omega, by have := hap.tl; omega⟩
  have ya : w.heap.size + 1 ∉ L.all ∧ w.heap.size + 1 ≠ vb ∧ w.heap.size + 1 ≠ tb := ⟨fun h => by have := hap.lb _ h; omega, by have := hP.b2; omega, by have := hap.tl; omega⟩
  have hab : ∀ {b : Nat}, b ∉ L.all → b ∉ [L.ab] := fun hb hc => hb (hfpa _ (fpab L _ hc))
  have q0 := X0.cell (i := 0) rfl
  have q1 := Y0.cell (i := 0) rfl
  have q2 := hT0.reads.1
  have hlp := ho.p1
  have p0 := (X0.alloc (.cells #[.int .i64 0, .int .i64 0, .int .i64 0, .int .i64 0] 40)).cell (i := 0) rfl
  have p1 := (Y0.alloc (.cells #[.int .i64 0, .int .i64 0, .int .i64 0, .int .i64 0] 40)).cell (i := 0) rfl
  have p2 := (show TRep (W0.alloc (.cells #[.int .i64 0, .int .i64 0, .int .i64 0, .int .i64 0] 40)) tb L.hb (shv bx) t from Blk.alloc hT0 _).reads.1
  have hn0 := new_apart hH0
  have hnC : W0.heap.size ∉ [L.ab] := hab hn0
  have HSZ := hid hsz
  clear hsz
  go_region_held3 (fun w' => w'.cell? ⟨w.heap.size, 0, none⟩ = some (.pointer (some ⟨tb, 0, none⟩)) ∧ w'.cell? ⟨w.heap.size + 1, 0, none⟩ = some (.int .i64 o.p) ∧ w'.cell? ⟨tb, 0, none⟩ = some (.pointer (some ⟨L.hb, 0, none⟩)))
    (first
      | ((with_reducible refine ⟨Eq.trans (cell_fr hF1 (hab xa.1) (by have := HSZ.out; simp; omega) 0) ?_, Eq.trans (cell_fr hF1 (hab ya.1) (by have := HSZ.out; simp; omega) 0) ?_, Eq.trans (cell_fr hF1 (hab hap.nt) (by have := HSZ.out; simp; omega) 0) ?_⟩); exact q0; exact q1; exact q2)
      | ((with_reducible refine ⟨Eq.trans (cell_fr hF1 (hab xa.1) (by have := HSZ.out; simp; omega) 0) ?_, Eq.trans (cell_fr hF1 (hab ya.1) (by have := HSZ.out; simp; omega) 0) ?_, Eq.trans (cell_fr hF1 (hab hap.nt) (by have := HSZ.out; simp; omega) 0) ?_⟩); exact p0; exact p1; exact p2)
      | ((with_reducible refine ⟨cellA _ (Eq.trans (cell_fr hF1 (hab xa.1) (by have := HSZ.out; simp; omega) 0) ?_), cellA _ (Eq.trans (cell_fr hF1 (hab ya.1) (by have := HSZ.out; simp; omega) 0) ?_), cellA _ (Eq.trans (cell_fr hF1 (hab hap.nt) (by have := HSZ.out; simp; omega) 0) ?_)⟩); exact q0; exact q1; exact q2)
      | (have hsz := HSZ.out; (refine ⟨?_, ?_, ?_⟩ <;> (repeat rw [cell_set_ne _ (by simp; omega)])); (with_reducible refine Eq.trans (cell_fr hF1 (hab xa.1) (by have := HSZ.out; simp; omega) 0) ?_); exact p0; (with_reducible refine Eq.trans (cell_fr hF1 (hab ya.1) (by have := HSZ.out; simp; omega) 0) ?_); exact p1; (with_reducible refine Eq.trans (cell_fr hF1 (hab hap.nt) (by have := HSZ.out; simp; omega) 0) ?_); exact p2)
      | go_keep)
    (first
    | (go_at_call 25; (with_reducible refine (hCell L s o.p o.k o.n o.a o.m W0.drew hH0.drew (by omega) (by omega) ho.head ho.hd).mono ?_); rintro e w1 ⟨rfl, hH1, hF1⟩)
    | (go_at_call 25; (with_reducible refine (hCell L s o.p o.k o.n o.a o.m ((W0.alloc (.cells #[.int .i64 0, .int .i64 0, .int .i64 0, .int .i64 0] 40)).drew) ((hH0.alloc (.cells #[.int .i64 0, .int .i64 0, .int .i64 0, .int .i64 0] 40)).drew) (by omega) (by omega) ho.head ho.hd).mono ?_); rintro e w1 ⟨rfl, hH1, hF1⟩; have C1 := ((Blk.new W0 [.int .i64 0, .int .i64 0, .int .i64 0, .int .i64 0] 40).drew).fr hF1 hnC; have e0 := C1.cell (i := 0) rfl; have e1 := C1.cell (i := 1) rfl; have e2 := C1.cell (i := 2) rfl; have e3 := C1.cell (i := 3) rfl; have f0 := C1.frozen 0; have f1 := C1.frozen 1; have f2 := C1.frozen 2; have f3 := C1.frozen 3))
  all_goals first
    | (have C2 := Blk.new w1 [.int .i64 o.k, .int .i64 o.n, .int .i64 o.a, .int .i64 o.m] 40
       have hH2 := hH1.alloc (.cells #[.int .i64 o.k, .int .i64 o.n, .int .i64 o.a, .int .i64 o.m] 40)
       have hF2 : Fr [L.ab] W0 (w1.alloc (.cells #[.int .i64 o.k, .int .i64 o.n, .int .i64 o.a, .int .i64 o.m] 40)) := (((Fr.refl [L.ab] W0).drew).trans hF1).alloc _
       have hcb : W0.heap.size ≤ w1.heap.size := by have := hF1.size; simpa using this
       have hn2 : w1.heap.size ∉ L.all := new_apart hH1
       obtain ⟨W2, hW2⟩ : ∃ W2, W2 = w1.alloc (.cells #[.int .i64 o.k, .int .i64 o.n, .int .i64 o.a, .int .i64 o.m] 40) := ⟨_, rfl⟩
       rw [← hW2] at C2 hH2 hF2 ⊢
       obtain ⟨cb, hcbe⟩ : ∃ cb, cb = w1.heap.size := ⟨_, rfl⟩
       rw [← hcbe] at C2 hcb hn2 ⊢
       clear hcbe hW2 hF1 hH1)
    | (have C2 := (((C1.set 0 (.int .i64 o.k)).set 1 (.int .i64 o.n)).set 2 (.int .i64 o.a)).set 3 (.int .i64 o.m)
       simp only [List.set_cons_zero, List.set_cons_succ] at C2
       have hH2 := (((hH1.other (a := ⟨W0.heap.size, 0, none⟩) hn0 (.int .i64 o.k)).other (a := ⟨W0.heap.size, 1, none⟩) hn0 (.int .i64 o.n)).other (a := ⟨W0.heap.size, 2, none⟩) hn0 (.int .i64 o.a)).other (a := ⟨W0.heap.size, 3, none⟩) hn0 (.int .i64 o.m)
       have hF2 : Fr [L.ab] W0 ((((w1.setCell ⟨W0.heap.size, 0, none⟩ (.int .i64 o.k)).setCell ⟨W0.heap.size, 1, none⟩ (.int .i64 o.n)).setCell ⟨W0.heap.size, 2, none⟩ (.int .i64 o.a)).setCell ⟨W0.heap.size, 3, none⟩ (.int .i64 o.m)) := by
         have h1 : Fr [L.ab, W0.heap.size] W0 w1 := (((Fr.refl [L.ab, W0.heap.size] W0).alloc _).drew).trans (hF1.here (by simp))
         have h2 : Fr [L.ab, W0.heap.size] W0 ((((w1.setCell ⟨W0.heap.size, 0, none⟩ (.int .i64 o.k)).setCell ⟨W0.heap.size, 1, none⟩ (.int .i64 o.n)).setCell ⟨W0.heap.size, 2, none⟩ (.int .i64 o.a)).setCell ⟨W0.heap.size, 3, none⟩ (.int .i64 o.m)) := (((h1.set (by simp) _).set (by simp) _).set (by simp) _).set (by simp) _
         exact ⟨h2.os, h2.tape, h2.output, h2.size, fun k hk hn => h2.block k hk (by simp at hn ⊢; exact ⟨hn, by omega⟩)⟩
       have hcb : W0.heap.size ≤ W0.heap.size := Nat.le_refl _
       have hn2 : W0.heap.size ∉ L.all := hn0
       obtain ⟨W2, hW2⟩ : ∃ W2, W2 = (((w1.setCell ⟨W0.heap.size, 0, none⟩ (.int .i64 o.k)).setCell ⟨W0.heap.size, 1, none⟩ (.int .i64 o.n)).setCell ⟨W0.heap.size, 2, none⟩ (.int .i64 o.a)).setCell ⟨W0.heap.size, 3, none⟩ (.int .i64 o.m) := ⟨_, rfl⟩
       rw [← hW2] at C2 hH2 hF2 ⊢
       generalize hcbe : W0.heap.size = cb at C2 hn2 ⊢
       have hcb : W0.heap.size ≤ cb := by omega
       clear hcbe hW2 hF1 hH1 C1 e0 e1 e2 e3 f0 f1 f2 f3)
  all_goals (
    have hX2 := X0.fr hF2 (hab xa.1)
    have hY2 := Y0.fr hF2 (hab ya.1)
    have hT3 := hT0.fr hF2 (hab hap.nt)
    have hP2 : ShP W2 bx vb base cs l := hP0.fr hF2 (hab hap.nx) (hab hap.nv) (fun b hb => .inl (hap.lb b (hfpa _ (by simp at hb; subst hb; exact fpab L _ (by simp)))))
    have hQ2 : FrQ L tb vb base w W2 := ((FrQ.refl L tb vb base w).step hF0 (by simp)).step hF2 (fun x hx => .inl (fpab L x hx))
    clear q0 q1 q2 p0 p1 p2
    go_wp2_with fail)
  all_goals (
    have hT3d : TRep W2.drew tb L.hb (shv bx) t := Blk.drew hT3
    have x3 := hX2.drew.cell (i := 0) rfl
    have y3 := hY2.drew.cell (i := 0) rfl
    go_region_held3 (fun w' => w'.cell? ⟨w.heap.size, 0, none⟩ = some (.pointer (some ⟨tb, 0, none⟩)) ∧ w'.cell? ⟨w.heap.size + 1, 0, none⟩ = some (.int .i64 o.p))
      (first
        | assumption
        | (with_reducible exact ⟨x3, y3⟩)
        | (with_reducible exact ⟨((hX2.drew.fr hF3 (hab xa.1)).fr hF4 (hab xa.1)).cell (i := 0) rfl, ((hY2.drew.fr hF3 (hab ya.1)).fr hF4 (hab ya.1)).cell (i := 0) rfl⟩)
        | (with_reducible exact ⟨(hX2.drew.fr hF3 (hab xa.1)).cell (i := 0) rfl, (hY2.drew.fr hF3 (hab ya.1)).cell (i := 0) rfl⟩)
        | go_keep)
      (first
      | (go_at_call 92; (with_reducible refine (tWordI L (s.tick 1) tb (shv bx) t o 2 2 i2 _ (hH2.drew) hT3d (ho.tick 1) (by omega)).mono ?_); rintro e w3 ⟨rfl, hH3, hF3⟩; rw [show ((s.tick 1)).wd o 2 = fin from HFI.out])
      | (go_at_call 92; (with_reducible refine (tWordI L (s.tick 1) tb (shv bx) t o 3 3 i3 _ (hH2.drew) hT3d (ho.tick 1) (by omega)).mono ?_); rintro e w3 ⟨rfl, hH3, hF3⟩; rw [show ((s.tick 1)).wd o 3 = nx from HNX.out])
      | (go_at_call 92; have hT4 : TRep w3 tb L.hb (shv bx) t := Blk.fr hT3d hF3 (hab hap.nt); (with_reducible refine (tWordI L ((s.tick 1).tick 2) tb (shv bx) t o 3 3 i3 _ (hH3) hT4 ((ho.tick 1).tick 2) (by omega)).mono ?_); rintro e w4 ⟨rfl, hH4, hF4⟩; rw [show (((s.tick 1).tick 2)).wd o 3 = nx from HNX.out])
      | (go_at_call 92; have hT4 : TRep w3 tb L.hb (shv bx) t := Blk.fr hT3d hF3 (hab hap.nt); (with_reducible refine (tWordI L ((s.tick 1).tick 2) tb (shv bx) t o 2 2 i2 _ (hH3) hT4 ((ho.tick 1).tick 2) (by omega)).mono ?_); rintro e w4 ⟨rfl, hH4, hF4⟩; rw [show (((s.tick 1).tick 2)).wd o 2 = fin from HFI.out])))
  all_goals (
    have hF24 : Fr [L.ab] W2 w4 := ((Fr.refl [L.ab] W2).drew.trans hF3).trans hF4
    have hX4 := hX2.fr hF24 (hab xa.1)
    have hY4 := hY2.fr hF24 (hab ya.1)
    have hT5 : TRep w4 tb L.hb (shv bx) t := Blk.fr hT3 hF24 (hab hap.nt)
    have C4 := C2.fr hF24 (hab hn2)
    have hP4 : ShP w4 bx vb base cs l := hP2.fr hF24 (hab hap.nx) (hab hap.nv) (fun b hb => .inl (hap.lb b (hfpa _ (fpab L b hb))))
    have hQ4 := hQ2.step hF24 (fun x hx => .inl (fpab L x hx))
    have hH5 : HRep w4 L (s.tick 5) := hH4.cast (by simp [HS.tick, Int.add_assoc])
    have ho5 := ho.tick 5
    have hcn : cb ≠ tb ∧ cb ≠ vb := ⟨by have := HSZ.out; have := hap.tl; omega, by have := HSZ.out; have := hP.b2; omega⟩
    have hcf : cb ∉ L.fp := fun h => hn2 (hfpa _ h)
    clear hH2 hH3 hH4 hF2 hF3 hF4 hT3 hT3d hX2 hY2 C2 hP2 x3 y3
    go_wp2_with fail
    refine (takeDrop L (s.tick 5) tb vb bx base w.heap.size (w.heap.size + 1) t cs l o 2 fin _ hap hH5 hT5 hP4 (by omega) hX4 hY4 xa ya ho5 (by omega)).mono ?_
    rintro e w5 ⟨rfl, hH6, hT6, hP6, hX6, hY6, hQ6⟩
    have C6 := hQ6.cell C4 hcf hcn.1 hcn.2 (by decide)
    go_wp2_with fail
    refine (takeDrop L ((s.tick 5).put (o.p + 3 + (2 : Nat)) 0 2) tb vb bx base w.heap.size (w.heap.size + 1) t cs (l ++ [fin]) o 3 nx _ hap hH6 hT6 hP6 (by simp; omega) hX6 hY6 xa ya hlies (by omega)).mono ?_
    rintro e w6 ⟨rfl, hH7, hT7, hP7, hX7, hY7, hQ7⟩
    have C7 := hQ7.cell C6 hcf hcn.1 hcn.2 (by decide)
    have hQ := (hQ4.trans hQ6).trans hQ7
    have x7 := hX7.cell (i := 0) rfl
    have f3 := Blk.frozen hT7 3
    have t3 := hT7.reads.2.2.2.1
    have yf := (hY7.other (a := ⟨tb, 3, none⟩) ya.2.2 (.int .i64 nx)).frozen 0
    have y8 := (hY7.other (a := ⟨tb, 3, none⟩) ya.2.2 (.int .i64 nx)).cell (i := 0) rfl
    have c8 := (C7.other (a := ⟨tb, 3, none⟩) hcn.1 (.int .i64 nx)).cell (i := 2) rfl
    go_wp2_with fail)
  all_goals (go_region)
  all_goals (
    have z8 := ((hY7.other (a := ⟨tb, 3, none⟩) ya.2.2 (.int .i64 nx)).set 0 (.int .i64 o.p)).cell (i := 0) rfl
    go_wp2_with fail
    have hFz : Fr [tb, w.heap.size + 1] w6 (((w6.setCell ⟨tb, 3, none⟩ (.int .i64 nx)).setCell ⟨w.heap.size + 1, 0, none⟩ (.int .i64 o.p)).drew) := (((Fr.refl _ w6).set (by simp) _).set (by simp) _).drew
    refine bodyPost_ret (v := .tuple #[.int .i64 o.p, .int .i64 o.a, .int .i64 fin, .bool true]) (by simp [results, Try.results41, go_sem, z8]) rfl ⟨rfl, ?_, ?_, ?_, ?_⟩
    · exact hH7.fr hFz (by simp; exact ⟨hap.nt, ya.1⟩)
    · have h1 : Blk (w6.setCell ⟨tb, 3, none⟩ (.int .i64 nx)) _ _ _ := Blk.set hT7 3 (.int .i64 nx)
      have h2 := (h1.other (a := ⟨w.heap.size + 1, 0, none⟩) (by simpa using (Ne.symm ya.2.2)) (.int .i64 o.p)).drew
      simpa [TRep, TS.cells] using h2
    · exact hP7.fr hFz (by simp; exact ⟨Ne.symm hap.tx, by have := hP.b1; omega⟩) (by simp; exact ⟨Ne.symm hap.tv, Ne.symm ya.2.1⟩) (fun b hb => by have := HSZ.out; have := hX7.lt; have := hY7; simp at hb; rcases hb with h | h; (· exact .inl (by have := hap.tl; omega)); (· exact .inr (fun c f hc => by subst h; unfold Blk at this; rw [hY7] at hc; simp at hc)))
    · exact hQ.step hFz (fun x hx => by
        simp at hx
        rcases hx with h | h
        · exact .inr (.inl h)
        · exact .inr (.inr (.inr (.inl (by omega))))))
end Go.Proofs.Ytifillpcphiblaa
