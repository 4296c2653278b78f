import Derived.Test.YtifillpcphiblaaWBury
namespace Go.Proofs.Ytifillpcphiblaa
open Go Go.Proofs Go.RowKit

theorem Ob.In.tick {o : Ob} {s : HS} {A : Rg} {z : Int → Int} (h : o.In s A z) (n : Int) : o.In (s.tick n) A z := ⟨h.mem, h.room, h.head, h.hd, h.ring⟩
theorem Ob.In.untick {o : Ob} {s : HS} {A : Rg} {z : Int → Int} {n : Int} (h : o.In (s.tick n) A z) : o.In s A z := ⟨h.mem, h.room, h.head, h.hd, h.ring⟩
theorem Bur.untick {s s' : HS} {A : Rg} {z : Int → Int} {o : Ob} {ahead walk first last n : Int} (h : Bur (s.tick n) s' A z o ahead walk first last) : Bur s s' A z o ahead walk first last :=
  ⟨h.hi, ⟨h.st.cls, h.st.parity, h.st.edge, h.st.top, h.st.x, h.st.len⟩, h.ob, h.w0, h.w1, h.w2, h.w3, fun o' h' hne => h.oth o' (h'.tick n) hne⟩

theorem tStep0 (L : HL) (tb : Nat) (sh : Value) (t : TS) (w : World) (hT : TRep w tb L.hb sh t) (h0 : t.walk = 0) :
    Calls Try.prog 40 #[.pointer (some ⟨tb, 0, none⟩)] w fun e w' => e = .returned (.tuple #[.int .i64 0, .bool false, .bool false]) ∧ TRep w' tb L.hb sh { t with walking := false } ∧ Fr [tb] w w' := by
  obtain ⟨-, -, -, -, -, c5, -, c7⟩ := hT.reads
  rw [h0] at c5
  have y7 := Blk.frozen hT 7
  have H0 := hid h0
  clear h0
  go_enter Try.func40, Try.ntmps40
  go_wp2_with fail
  go_ret3
  refine ⟨rfl, ?_, (Fr.refl _ w).set (by simp) _⟩
  have := Blk.set hT 7 (.bool false)
  simpa [TRep, TS.cells] using this

set_option maxRecDepth 100000 in
set_option maxHeartbeats 3200000 in
theorem tStepKeep (L : HL) (s : HS) (tb : Nat) (sh : Value) (t : TS) (o ko : Ob) (nx : Int) (w : World) (hH : HRep w L s) (hT : TRep w tb L.hb sh t) (htb : tb ∉ L.all) (ho : o.Lies s) (hn : 4 ≤ o.n) (hw : t.walk = o.p) (hk : ko.Lies s) (hkp : s.wd o 0 = ko.p) (hnx : s.wd o 3 = nx) (hm : ko.m = s.parity) :
    Calls Try.prog 40 #[.pointer (some ⟨tb, 0, none⟩)] w fun e w' => e = .returned (.tuple #[.int .i64 o.a, .bool false, .bool true]) ∧ HRep w' L (s.tick 6) ∧ TRep w' tb L.hb sh { t with walk := nx, ahead := o.p } ∧ Fr [L.ab, tb] w w' := by
  obtain ⟨c0, -, -, -, -, c5, c6, -⟩ := hT.reads
  rw [hw] at c5
  have h0 := ho.p0
  have h1 := ho.p1
  have hne : ¬ o.p = 0 := by omega
  have hpab : tb ∉ [L.ab] := fun hc => htb (by simp at hc; subst hc; simp [HL.all, HL.fp])
  have HW := hid hw
  have HK := hid hkp
  have HN := hid hnx
  have HM := hid hm
  clear hw hkp hnx hm
  go_enter Try.func40, Try.ntmps40
  go_wp2_with fail
  refine (hCell L s o.p o.k o.n o.a o.m _ hH (by omega) (by omega) ho.head ho.hd).mono ?_
  rintro e w1 ⟨rfl, hH1, hF1⟩
  have C1 := Blk.new w1 [.int .i64 o.k, .int .i64 o.n, .int .i64 o.a, .int .i64 o.m] 40
  have hH1' := hH1.alloc (.cells #[.int .i64 o.k, .int .i64 o.n, .int .i64 o.a, .int .i64 o.m] 40)
  have hT1 : TRep (w1.alloc (.cells #[.int .i64 o.k, .int .i64 o.n, .int .i64 o.a, .int .i64 o.m] 40)) tb L.hb sh t := Blk.alloc (hT.fr hF1 hpab) _
  have hF1' : Fr [L.ab, tb] w (w1.alloc (.cells #[.int .i64 o.k, .int .i64 o.n, .int .i64 o.a, .int .i64 o.m] 40)) := (hF1.here (by simp)).alloc _
  have hn1 := new_apart hH1
  have hcb : w1.heap.size ∉ [L.ab] := fun hc => hn1 (by simp at hc; rw [hc]; simp [HL.all, HL.fp])
  have hct : w1.heap.size ≠ tb := fun e => by have := Blk.lt (hT.fr hF1 hpab); omega
  clear c0 c5 c6
  go_wp2_with fail
  refine (tWord L (s.tick 1) tb sh t o 3 _ hH1' hT1 (ho.tick 1) (by omega)).mono ?_
  rintro e w2 ⟨rfl, hH2, hF2⟩
  rw [show (s.tick 1).wd o 3 = nx from HN.out]
  have hT2 := hT1.fr hF2 hpab
  have C2 := C1.fr hF2 hcb
  have g5 := hT2.reads.2.2.2.2.2.1
  have y5 := Blk.frozen hT2 5
  have hT3 : TRep (w2.setCell ⟨tb, 5, none⟩ (.int .i64 nx)) tb L.hb sh { t with walk := nx } := by
    have := Blk.set hT2 5 (.int .i64 nx)
    simpa [TRep, TS.cells] using this
  have hH3 := hH2.other (a := ⟨tb, 5, none⟩) htb (.int .i64 nx)
  have C3 := C2.other (a := ⟨tb, 5, none⟩) hct (.int .i64 nx)
  have hF3 : Fr [L.ab, tb] w (w2.setCell ⟨tb, 5, none⟩ (.int .i64 nx)) := (hF1'.trans (hF2.here (by simp))).set (by simp) _
  go_wp2_with fail
  refine (tWord L ((s.tick 1).tick 2) tb sh _ o 0 _ hH3 hT3 ((ho.tick 1).tick 2) (by omega)).mono ?_
  rintro e w4 ⟨rfl, hH4, hF4⟩
  rw [show ((s.tick 1).tick 2).wd o 0 = ko.p from HK.out]
  have hT4 := hT3.fr hF4 hpab
  have C4 := C3.fr hF4 hcb
  clear g5 y5
  go_wp2_with fail
  refine (tMarked L (((s.tick 1).tick 2).tick 2) tb sh _ ko s.parity _ hH4 hT4 htb (((hk.tick 1).tick 2).tick 2) rfl).mono ?_
  rintro e w5 ⟨rfl, hH5, hF5⟩
  have hT5 := hT4.fr hF5 hpab
  have C5 := C4.fr hF5 hcb
  rw [show (ko.m == s.parity) = true by rw [HM.out]; simp]
  have g6 := hT5.reads.2.2.2.2.2.2.1
  have y6 := Blk.frozen hT5 6
  have d2 := (C5.other (a := ⟨tb, 6, none⟩) hct (.int .i64 o.p)).cell (i := 2) rfl
  go_wp2_with fail
  go_ret3
  refine ⟨rfl, ?_, ?_, ?_⟩
  · exact (hH5.other (a := ⟨tb, 6, none⟩) htb _).cast (by simp [HS.tick, Int.add_assoc])
  · have := Blk.set hT5 6 (.int .i64 o.p)
    simpa [TRep, TS.cells] using this
  · exact ((hF3.trans (hF4.here (by simp))).trans (hF5.here (by simp))).set (by simp) _

set_option maxRecDepth 100000 in
set_option maxHeartbeats 3200000 in
theorem tStepBury (L : HL) (s : HS) (A : Rg) (z : Int → Int) (tb : Nat) (sh : Value) (t : TS) (o ko : Ob) (nx : Int) (w : World) (hH : HRep w L s) (hI : HI s A z) (hT : TRep w tb L.hb sh t) (htb : tb ∉ L.all) (hoI : o.In s A z) (hk9 : o.k = 9) (hn4 : o.n = 4) (hw : t.walk = o.p) (hk : ko.Lies s) (hkp : s.wd o 0 = ko.p) (hnx : s.wd o 3 = nx) (hm : ko.m ≠ s.parity)
    (hna : t.ahead ≠ 0 → o.p ≠ t.ahead) (hah : t.ahead = 0 ∨ ∃ oa : Ob, oa.In s A z ∧ oa.n = 4 ∧ oa.p = t.ahead) (hla : t.first = 0 ∨ ∃ ol : Ob, ol.In s A z ∧ ol.n = 4 ∧ ol.p = t.last ∧ ol.p ≠ o.p ∧ ol.p ≠ 0) :
    Calls Try.prog 40 #[.pointer (some ⟨tb, 0, none⟩)] w fun e w' => e = .returned (.tuple #[.int .i64 o.a, .bool true, .bool true]) ∧ (∃ s', HRep w' L s' ∧ Bur s s' A z o t.ahead nx t.first t.last) ∧ TRep w' tb L.hb sh (({ t with walk := nx } : TS).buried o.p) ∧ Fr (tb :: L.fp) w w' := by
  obtain ⟨c0, -, -, -, -, c5, c6, -⟩ := hT.reads
  rw [hw] at c5
  have ho := hoI.lies hI
  have h0 := ho.p0
  have h1 := ho.p1
  have hne : ¬ o.p = 0 := by omega
  have hfpa : ∀ x ∈ L.fp, x ∈ L.all := fun x hx => by simp only [HL.all, List.mem_cons]; exact .inr (.inr hx)
  have hpab : tb ∉ [L.ab] := fun hc => htb (by simp at hc; subst hc; simp [HL.all, HL.fp])
  have hab1 : ∀ x ∈ [L.ab], x ∈ tb :: L.fp := fun x hx => List.mem_cons_of_mem _ (fpab L x hx)
  have HW := hid hw
  have HK := hid hkp
  have HN := hid hnx
  have hmb : (ko.m == s.parity) = false := by simpa using hm
  have HMB := hid hmb
  have hon : 3 < o.n := by omega
  have hon0 : 0 < o.n := by omega
  have HA := hid (And.intro hk9 (And.intro hn4 (And.intro hna (And.intro hah hla))))
  clear hw hkp hnx hm hmb hk9 hn4 hna hah hla
  go_enter Try.func40, Try.ntmps40
  go_wp2_with fail
  refine (hCell L s o.p o.k o.n o.a o.m _ hH (by omega) (by omega) ho.head ho.hd).mono ?_
  rintro e w1 ⟨rfl, hH1, hF1⟩
  have C1 := Blk.new w1 [.int .i64 o.k, .int .i64 o.n, .int .i64 o.a, .int .i64 o.m] 40
  have hH1' := hH1.alloc (.cells #[.int .i64 o.k, .int .i64 o.n, .int .i64 o.a, .int .i64 o.m] 40)
  have hT1 : TRep (w1.alloc (.cells #[.int .i64 o.k, .int .i64 o.n, .int .i64 o.a, .int .i64 o.m] 40)) tb L.hb sh t := Blk.alloc (hT.fr hF1 hpab) _
  have hF1' : Fr (tb :: L.fp) w (w1.alloc (.cells #[.int .i64 o.k, .int .i64 o.n, .int .i64 o.a, .int .i64 o.m] 40)) := (hF1.here hab1).alloc _
  have hn1 := new_apart hH1
  have hcb : w1.heap.size ∉ [L.ab] := fun hc => hn1 (by simp at hc; rw [hc]; simp [HL.all, HL.fp])
  have hct : w1.heap.size ≠ tb := fun e => by have := Blk.lt (hT.fr hF1 hpab); omega
  have hcf : w1.heap.size ∉ tb :: L.fp := fun hc => by
    rcases List.mem_cons.1 hc with h | h
    · exact hct h
    · exact hn1 (hfpa _ h)
  clear c0 c5 c6
  go_wp2_with fail
  refine (tWord L (s.tick 1) tb sh t o 3 _ hH1' hT1 (ho.tick 1) hon).mono ?_
  rintro e w2 ⟨rfl, hH2, hF2⟩
  rw [show (s.tick 1).wd o 3 = nx from HN.out]
  have hT2 := hT1.fr hF2 hpab
  have C2 := C1.fr hF2 hcb
  have g5 := hT2.reads.2.2.2.2.2.1
  have y5 := Blk.frozen hT2 5
  have hT3 : TRep (w2.setCell ⟨tb, 5, none⟩ (.int .i64 nx)) tb L.hb sh { t with walk := nx } := by
    have := Blk.set hT2 5 (.int .i64 nx)
    simpa [TRep, TS.cells] using this
  have hH3 := hH2.other (a := ⟨tb, 5, none⟩) htb (.int .i64 nx)
  have C3 := C2.other (a := ⟨tb, 5, none⟩) hct (.int .i64 nx)
  have hF3 : Fr (tb :: L.fp) w (w2.setCell ⟨tb, 5, none⟩ (.int .i64 nx)) := (hF1'.trans (hF2.here hab1)).set (by simp) _
  go_wp2_with fail
  refine (tWord L ((s.tick 1).tick 2) tb sh _ o 0 _ hH3 hT3 ((ho.tick 1).tick 2) hon0).mono ?_
  rintro e w4 ⟨rfl, hH4, hF4⟩
  rw [show ((s.tick 1).tick 2).wd o 0 = ko.p from HK.out]
  have hT4 := hT3.fr hF4 hpab
  have C4 := C3.fr hF4 hcb
  clear g5 y5
  go_wp2_with fail
  refine (tMarked L (((s.tick 1).tick 2).tick 2) tb sh _ ko s.parity _ hH4 hT4 htb (((hk.tick 1).tick 2).tick 2) rfl).mono ?_
  rintro e w5 ⟨rfl, hH5, hF5⟩
  have hT5 := hT4.fr hF5 hpab
  have C5 := C4.fr hF5 hcb
  rw [HMB.out]
  have d2 := C5.cell (i := 2) rfl
  have hH5' : HRep w5 L (s.tick 6) := hH5.cast (by simp [HS.tick, Int.add_assoc])
  obtain ⟨hk9, hn4, hna, hah, hla⟩ := HA.out
  have key := tBury L (s.tick 6) A z tb sh { t with walk := nx } o w5 hH5' (hI.tick 6) hT5 htb (hoI.tick 6) hk9 hn4 hna (hah.imp id (fun ⟨oa, a1, a2⟩ => ⟨oa, a1.tick 6, a2⟩)) (hla.imp id (fun ⟨ol, a1, a2⟩ => ⟨ol, a1.tick 6, a2⟩))
  clear hk9 hn4 hna hah hla
  have KEY := hid key
  clear key
  go_wp2_with fail
  refine KEY.out.mono ?_
  rintro e w6 ⟨rfl, ⟨s', hH6, hB6⟩, hT6, hF6⟩
  have d2' := (C5.fr hF6 hcf).cell (i := 2) rfl
  clear d2
  go_wp2_with fail
  go_ret3
  exact ⟨rfl, ⟨s', hH6, hB6.untick⟩, hT6, ((hF3.trans (hF4.here hab1)).trans (hF5.here hab1)).trans hF6⟩
end Go.Proofs.Ytifillpcphiblaa
