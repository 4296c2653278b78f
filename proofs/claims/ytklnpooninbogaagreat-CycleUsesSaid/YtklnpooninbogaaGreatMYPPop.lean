
import Derived.Test.YtklnpooninbogaaGreatMYInv2
import Derived.WalkSmall
import Derived.Test.YtklnpooninbogaaGreatMYPick
import Derived.Deep.QuietTactic
import Derived.BigQuiet
namespace Go.Proofs.YtklnpooninbogaaGreat
open Go Go.Proofs Go.RowKit
theorem PQ.calm {E : CE} {a : DA} {nn : Nat} {S : CY} {D : DPs} {w w' : World} (h : PQ E a nn S D w) (hf : Fr [] w w') : PQ E a nn S D w' :=
  ⟨⟨h.j.cr.fr hf (by simp), h.j.ci, h.j.dr.fr hf (by simp) (fun _ _ _ _ => rfl) (fun _ _ h => h), h.j.ah, h.j.asb, h.j.ak, h.j.fr2, h.j.room, h.j.used, h.j.fcnt, h.j.todo, h.j.qu, h.j.wkg, h.j.bl, h.j.hkp, h.j.rvv⟩, h.t⟩
theorem PQ.le {E : CE} {a : DA} {nn nn' : Nat} {S : CY} {D : DPs} {w : World} (h : PQ E a nn S D w) (hn : nn ≤ nn') : PQ E a nn' S D w := ⟨h.j, h.t.le hn⟩
set_option maxRecDepth 100000 in
theorem tTake0Y (L : HL) (tb : Nat) (sh : Value) (t : TS) (w : World) (hT : TRep w tb L.hb sh t) (h0 : t.first = 0) :
    Calls Tryz.prog 86 #[.pointer (some ⟨tb, 0, none⟩)] w fun e w' => e = .returned (.tuple #[.int .i64 0, .int .i64 0, .int .i64 0, .bool false]) ∧ Fr [] w w' := by
  have hT2 : TRep ((w.alloc (.cells #[.pointer (some ⟨tb, 0, none⟩)] 87)).alloc (.cells #[.int .i64 0] 3)) tb L.hb sh t := Blk.alloc (Blk.alloc hT _) _
  have c3 := hT2.reads.2.2.2.1
  rw [h0] at c3
  clear hT h0 hT2
  go_enter Tryz.func86, Tryz.ntmps86
  go_wp2_with fail
  exact bodyPost_ret (v := .tuple #[.int .i64 0, .int .i64 0, .int .i64 0, .bool false]) (by simp [results, Tryz.results86, go_sem]) rfl ⟨rfl, ((Fr.refl _ w).alloc _).alloc _⟩
set_option maxRecDepth 100000 in
set_option maxHeartbeats 1600000 in
theorem yTake (E : CE) (a : DA) (nn : Nat) (S : CY) (D : DPs) (w : World) (h : PQ E a nn S D w) (r : Int) :
    Calls Tryz.prog 41 #[.pointer (some ⟨a.pb, 0, none⟩), .int .i64 r] w fun e w' => e = .returned (.bool true) ∧ PQ E a nn S D w' := by
  have c2 := Blk.cell h.j.dr.p (i := 2) rfl
  rw [h.j.ak] at c2
  have hf0 : S.t.first = 0 := by have := h.j.ci.qch; rw [h.j.qu] at this; exact this
  have HT := hid (cTable E.kb E.hb E.mb E.tb S.c w (by have := h.j.cr.c; rw [h.j.cr.hb] at this; exact this))
  have HK := hid (tTake0Y S.L E.tb E.sh S.t w h.j.cr.t hf0)
  have HH := hid h
  clear h hf0
  go_enter Tryz.func41, Tryz.ntmps41
  go_wp2_with fail
  refine HT.out.mono ?_
  rintro e w1 ⟨rfl, rfl⟩
  go_wp2_with fail
  refine HK.out.mono ?_
  rintro e w2 ⟨rfl, hF2⟩
  have h2 := HH.out.calm hF2
  have d3 := Blk.cell h2.j.dr.p (i := 3) rfl
  have d5 := Blk.cell h2.j.dr.wb (i := 5) rfl
  rw [h2.j.dr.qv] at d5
  have H2 := hid h2
  clear hF2 h2 c2
  go_wp2_with fail
  go_ret
  exact ⟨rfl, H2.out⟩
theorem FrV.pop {w : World} {P : Nat → Prop} {A : Option Addr} {N c : Nat} {ls : List (List Int)} {l : List Int} (h : FrV w P (.slice A (N + 1) c) (ls ++ [l])) : FrV w P (.slice A N c) ls ∧ ∃ g x, A = some ⟨g, 0, none⟩ ∧ g < w.heap.size ∧ N + 1 ≤ c ∧ N = ls.length ∧ w.cell? ⟨g, N, none⟩ = some (sval x) ∧ RdS w P (sval x) l := by
  obtain ⟨vs, h1, h2, h3⟩ := h
  have hl : ls.length + 1 = vs.length := by rw [h2]; simp
  have hpos : 0 < vs.length := by omega
  obtain ⟨g, e1, -, e3, e4, e5, e6, e7⟩ := h1.at hpos
  subst e1
  have hN : N = ls.length := by omega
  obtain ⟨x, x1, x2⟩ := h3 ls.length l (by simp)
  refine ⟨⟨vs.dropLast, ?_, by rw [List.length_dropLast]; omega, fun i m hm => ?_⟩, g, x, rfl, e3, by omega, hN, ?_, x2⟩
  · have hNv : vs.length = N + 1 := by omega
    have hv : vvs vs = vvs vs.dropLast ++ vvs (vs.drop N) := by
      unfold vvs
      rw [← List.map_append]
      congr 1
      rw [List.dropLast_eq_take, show vs.length - 1 = N by omega, List.take_append_drop]
    unfold Rowv at h1 ⊢
    rw [hNv, hv] at h1
    have := ownsRow_pop (by rw [vvs_len, List.length_dropLast]; omega) h1
    rw [show vs.dropLast.length = N by rw [List.length_dropLast]; omega]
    exact this
  · have hi : i < ls.length := (List.getElem?_eq_some_iff.1 hm).1
    obtain ⟨y, y1, y2⟩ := h3 i m (by rw [List.getElem?_append_left hi]; exact hm)
    refine ⟨y, ?_, y2⟩
    rw [List.getElem?_dropLast, if_pos (by omega)]
    exact y1
  · rw [hN]
    exact e7 _ x x1
theorem DR.setFv {F : Nat → Prop} {a : DA} {obs : List Ob} {wd : Ob → Nat → Int} {gl : List Int} {fs fs' : List (List Int)} {row wks : List Int} {D : DPs} {w w9 : World} (h : DR F a obs wd gl fs row wks D w) (hFl : ∀ b, F b → b < w.heap.size) (hf : Fr D.c.fv.ownBlock.toList w w9) {v' : Value} {P' : Nat → Prop} (hV : FrV w9 P' v' fs') (hP' : ∀ b, P' b → D.lab b = 2 ∨ (w.heap.size ≤ b ∧ b < w9.heap.size ∧ v'.ownBlock ≠ some b)) (hown : v'.ownBlock = D.c.fv.ownBlock ∨ ∃ g, v'.ownBlock = some g ∧ w.heap.size ≤ g ∧ g < w9.heap.size) :
    ∃ lab', DR F a obs wd gl fs' row wks { D with c := { D.c with fv := v' }, lab := lab' } (w9.setCell ⟨a.wb, 3, none⟩ v') := by
  have hS5 : ∀ x ∈ D.c.fv.ownBlock.toList, D.lab x = 5 := fun x hx => h.lf x (by simpa using hx)
  have k9 := h.keep hf 5 (fun x hx => .inl (hS5 x hx))
  have hset : Fr [a.wb] w9 (w9.setCell ⟨a.wb, 3, none⟩ v') := (Fr.refl _ w9).set (by simp) _
  have hne : ∀ b l, D.lab b = l → l ≠ 7 → b ∉ [a.wb] := fun b l e hl hc => hl (by rw [← e, List.mem_singleton.1 hc]; exact h.lw)
  have hwlt : a.wb < w.heap.size := (h.sep a.wb (by rw [h.lw]; decide)).1
  have hlt : ∀ b, D.lab b ≠ 0 → b < w.heap.size := fun b hb => (h.sep b hb).1
  obtain ⟨lab', h1, h2, h3, h4⟩ : ∃ lab' : Nat → Int, (∀ b, D.lab b ≠ 0 → lab' b = D.lab b) ∧ (∀ g, v'.ownBlock = some g → lab' g = 5) ∧ (∀ b, lab' b ≠ 0 → D.lab b ≠ 0 ∨ (w.heap.size ≤ b ∧ b < w9.heap.size)) ∧ (∀ b, P' b → lab' b = 2) := by
    have key : ∀ o : Option Nat, (o = v'.ownBlock ∧ ∀ g, o = some g → w.heap.size ≤ g ∧ g < w9.heap.size) ∨ (o = none ∧ ∀ g, v'.ownBlock = some g → D.lab g = 5) → ∃ lab' : Nat → Int, (∀ b, D.lab b ≠ 0 → lab' b = D.lab b) ∧ (∀ g, v'.ownBlock = some g → lab' g = 5) ∧ (∀ b, lab' b ≠ 0 → D.lab b ≠ 0 ∨ (w.heap.size ≤ b ∧ b < w9.heap.size)) ∧ (∀ b, P' b → lab' b = 2) := by
      intro o ho
      refine ⟨fun b => if D.lab b ≠ 0 then D.lab b else if o = some b then 5 else if w.heap.size ≤ b ∧ b < w9.heap.size then 2 else 0, fun b hb => if_pos hb, fun g hg => ?_, fun b hb => ?_, fun b hb => ?_⟩
      · rcases ho with ⟨e, hh⟩ | ⟨-, hh⟩
        · show (if D.lab g ≠ 0 then D.lab g else if o = some g then 5 else if w.heap.size ≤ g ∧ g < w9.heap.size then 2 else 0) = 5
          have hg0 : D.lab g = 0 := Classical.byContradiction fun hc => by have := hlt g hc; have := (hh g (e.trans hg)).1; omega
          rw [if_neg (fun k => k hg0), if_pos (e.trans hg)]
        · show (if D.lab g ≠ 0 then D.lab g else if o = some g then 5 else if w.heap.size ≤ g ∧ g < w9.heap.size then 2 else 0) = 5
          rw [if_pos (by rw [hh g hg]; decide)]; exact hh g hg
      · have hb : (if D.lab b ≠ 0 then D.lab b else if o = some b then 5 else if w.heap.size ≤ b ∧ b < w9.heap.size then 2 else 0) ≠ 0 := hb
        by_cases e1 : D.lab b ≠ 0
        · exact .inl e1
        · rw [if_neg e1] at hb
          right
          by_cases e2 : o = some b
          · rcases ho with ⟨-, hh⟩ | ⟨e, -⟩
            · exact hh b e2
            · rw [e] at e2; cases e2
          · rw [if_neg e2] at hb
            by_cases e3 : w.heap.size ≤ b ∧ b < w9.heap.size
            · exact e3
            · rw [if_neg e3] at hb; exact absurd rfl hb
      · show (if D.lab b ≠ 0 then D.lab b else if o = some b then 5 else if w.heap.size ≤ b ∧ b < w9.heap.size then 2 else 0) = 2
        rcases hP' b hb with e | ⟨e1, e2, e3⟩
        · rw [if_pos (by rw [e]; decide)]; exact e
        · have hb0 : D.lab b = 0 := Classical.byContradiction fun hc => by have := hlt b hc; omega
          rw [if_neg (fun k => k hb0), if_neg ?_, if_pos ⟨e1, e2⟩]
          intro ho2
          rcases ho with ⟨e, -⟩ | ⟨e, -⟩
          · exact e3 (e.symm.trans ho2)
          · rw [e] at ho2; cases ho2
    rcases hown with e | ⟨g, e, e1, e2⟩
    · exact key none (.inr ⟨rfl, fun g hg => h.lf g (e.symm.trans hg)⟩)
    · exact key (some g) (.inl ⟨e.symm, fun g' hg' => by cases hg'; exact ⟨e1, e2⟩⟩)
  have hl : ∀ b l, D.lab b = l → l ≠ 0 → lab' b = l := fun b l e hl => (h1 b (by rw [e]; exact hl)).trans e
  refine ⟨lab', ?_⟩
  refine ⟨Blk.fr (k9.p (by decide)) hset (hne _ _ h.lp (by decide)), Blk.set (k9.wb (by decide)) 3 v', (k9.im (by decide)).fr hset (hne _ _ h.lm (by decide)), (k9.kim (by decide)).fr hset (hne _ _ h.lk (by decide)), ⟨h.dob.get, fun o ho => ⟨Nat.zero_le _, (k9.ob o ho (by have := h.pos o ho; omega)).fr hset (hne _ _ (h.lG o ho) (by have := h.pos o ho; omega))⟩, h.dob.inj, h.dob.only⟩, (k9.rb (by decide)).fr hset (hne _ _ h.lr (by decide)), h.rv, h.rl, (k9.gv (by decide)).fr hset (fun g hg => hne _ _ (h.lg g hg) (by decide)), ?_, (k9.row (by decide)).fr hset (fun g hg => hne _ _ (h.lo g hg) (by decide)), h.qv, (k9.wk (by decide)).fr hset (fun g hg => hne _ _ (h.lx g hg) (by decide)), hl _ _ h.lp (by decide), hl _ _ h.lw (by decide), hl _ _ h.lr (by decide), hl _ _ h.lm (by decide), hl _ _ h.lk (by decide), fun o ho => hl _ _ (h.lG o ho) (by have := h.pos o ho; omega), fun x hx => hl _ _ (h.lg x hx) (by decide), h2, fun x hx => hl _ _ (h.lo x hx) (by decide), fun x hx => hl _ _ (h.lx x hx) (by decide), h.pos, fun b hb => ?_, ((k9.bx (by decide)).fr hset (fun x hx e => by rw [List.mem_singleton.1 hx, h.lw] at e; exact absurd e (by decide)) (fun b hb => Nat.lt_of_lt_of_le (h.sep b hb).1 hf.size)).lab h1⟩
  · refine (hV.fr hset (fun g hg hc => ?_) (fun g hg _ hc => ?_)).mono h4
    · rcases hown with e | ⟨g', e, e1, -⟩
      · exact hne g 5 (h.lf g (e.symm.trans hg)) (by decide) hc
      · rw [e] at hg; cases hg
        have := List.mem_singleton.1 hc
        omega
    · rcases hP' g hg with e | ⟨e, -⟩
      · exact hne g 2 e (by decide) hc
      · have := List.mem_singleton.1 hc
        omega
  · have hsz := hset.size
    rcases h3 b hb with h4 | ⟨h4, h5⟩
    · exact ⟨Nat.lt_of_lt_of_le (h.sep b h4).1 (Nat.le_trans hf.size hsz), (h.sep b h4).2⟩
    · exact ⟨Nat.lt_of_lt_of_le h5 hsz, fun hc => by have := hFl b hc; omega⟩
def StartPost2 (L : HL) (z : Int → Int) (obs : List Ob) (g : MG) (U kb mb tb sb : Nat) (sh : Value) (c : CS) (t : TS) (k : Sk) (P : Nat → Prop) (regs : List Int) (Q : HS → Prop) (A0 : Rg) (w : World) (e : Ending) (w' : World) : Prop :=
  e = .returned (.int .i64 0) ∧ Fr (kb :: sb :: L.fp) w w' ∧ CBlk w' kb L.hb mb tb { c with ph := 1, at' := 0, fv := .slice none 0 0 } ∧ TRep w' tb L.hb sh t ∧ MBlk w' mb L 0 0 ∧ SkRep w' P sb { k with todo := k.fs.length } ∧
  ∃ s0 s' A', Q s0 ∧ HRep w' L s' ∧ MI s' A' z obs g 0 0 U ∧ MSt s0 s' A0 A' obs ∧ ∀ x ∈ regs ++ [t.row, t.first], ∀ o ∈ obs, o.p = x → Mkd A' o
set_option maxRecDepth 100000 in
set_option maxHeartbeats 3200000 in
theorem cStart2 (L : HL) (z : Int → Int) (obs : List Ob) (g : MG) (U kb mb tb sb pb lb o lc : Nat) (sh : Value) (c : CS) (t : TS) (k : Sk) (P : Nat → Prop) (regs : List Int) (Q : HS → Prop) (A0 : Rg) (w : World)
    (hC : CBlk w kb L.hb mb tb c) (hph : c.ph = 0) (hT : TRep w tb L.hb sh t) (hM : MBlk w mb L 0 0) (hS : SkRep w P sb k) (hrv : c.rv = .func (.func 33) #[] #[.pointer (some ⟨pb, 0, none⟩)])
    (hlv : c.lv = .slice (some ⟨lb, o, none⟩) 1 lc) (hlp : P lb) (hll : lb < w.heap.size) (hlb : w.cell? ⟨lb, o, none⟩ = some (.pointer (some ⟨sb, 0, none⟩)))
    (hall : ∀ x ∈ L.all, x < w.heap.size) (hka : kb ∉ L.all) (hma : mb ∉ L.fp) (hta : tb ∉ L.fp) (hsa : sb ∉ L.all) (hP : ∀ b, P b → b ∉ L.fp ∧ b ≠ kb ∧ b ≠ sb) (hne : kb ≠ sb ∧ tb ≠ kb ∧ tb ≠ sb ∧ mb ≠ kb ∧ mb ≠ sb)
    (hbegin : Calls Tryz.prog 44 #[.pointer (some ⟨L.hb, 0, none⟩)] w fun e w' => e = .returned (.int .i64 0) ∧ Fr L.fp w w' ∧ ∃ s0, Q s0 ∧ HRep w' L s0 ∧ MI s0 A0 z obs g 0 0 U)
    (hregs : ∀ wx, Fr L.fp w wx → Calls Tryz.prog 33 #[.pointer (some ⟨pb, 0, none⟩)] wx fun e w' => ∃ v, e = .returned v ∧ RdS w' (fun b => wx.heap.size ≤ b) v regs ∧ Fr [] wx w')
    (hroots : ∀ x ∈ regs ++ [t.row, t.first], x = 0 ∨ ∃ o ∈ obs, o.p = x ∧ g.S o.p) :
    Calls Tryz.prog 14 #[.pointer (some ⟨kb, 0, none⟩)] w (StartPost2 L z obs g U kb mb tb sb sh c t k P regs Q A0 w) := by
  have hkf : kb ∉ L.fp := fun hc => hka (by simp [HL.all, hc])
  have hsf : sb ∉ L.fp := fun hc => hsa (by simp [HL.all, hc])
  have c6 := Blk.cell hC (i := 6) rfl
  rw [hph] at c6
  have c0 := Blk.cell hC (i := 0) rfl
  have HC := hid hC
  have HT := hid hT
  have HM := hid hM
  have HS := hid hS
  have HRV := hid hrv
  have HLV := hid hlv
  have HLP := hid (hP _ hlp)
  have HLL := hid hll
  have HLB := hid hlb
  have HALL := hid hall
  have HKA := hid hka
  have HMA := hid hma
  have HTA := hid hta
  have HSA := hid hsa
  have HPP := hid hP
  have HNE := hid hne
  have HKF := hid hkf
  have HSF := hid hsf
  have Hb := hid hbegin
  have Hr := hid hregs
  have HRO := hid hroots
  clear hC hph hT hM hS hrv hlv hlp hll hlb hall hka hma hta hsa hP hne hkf hsf hbegin hregs hroots
  go_enter Tryz.func14, Tryz.ntmps14
  go_wp2_with fail
  refine Hb.out.mono ?_
  rintro e w1 ⟨rfl, hF1, s0, hQ0, hH1, hI1⟩
  have HQ0 := hid hQ0
  clear hQ0
  have hC1 := HC.out.fr hF1 HKF.out
  have d5 := Blk.cell hC1 (i := 5) rfl
  rw [HRV.out] at d5
  have HF1 := hid hF1
  have HH1 := hid hH1
  have HI1 := hid hI1
  clear hF1 hH1 hI1 hC1 c6 c0
  go_wp2_with fail
  refine (Hr.out _ HF1.out).mono ?_
  rintro e w2 ⟨v, rfl, hv, hF2⟩
  have HF2 := hid (HF1.out.trans (hF2.here (by simp)))
  have HH2 := hid (HH1.out.fr hF2 (by simp))
  have hge : w.heap.size ≤ w1.heap.size := HF1.out.size
  have HV : Hid (RdS w2 (fun b => w.heap.size ≤ b) v regs) := hid (hv.mono (fun b hb => Nat.le_trans hge hb))
  clear hv hF2 d5 hge
  go_wp2_with fail
  refine (cShade L s0 A0 z obs g 0 0 0 0 U kb L.hb mb tb c (fun b => w.heap.size ≤ b) v regs w2 HH2.out (Blk.fr HM.out HF2.out HMA.out) HI1.out (HC.out.fr HF2.out HKF.out) HKF.out HMA.out HV.out (fun b hb hc => by have := HALL.out b (by simp [HL.all, hc]); omega) (fun y hy => HRO.out y (List.mem_append_left _ hy))).mono ?_
  rintro e w3 ⟨rfl, hF3, s3, A3, hH3, hI3, hst3, hmk3⟩
  have hC3 := HC.out.fr (HF2.out.trans hF3) HKF.out
  have d2 := Blk.cell hC3 (i := 2) rfl
  have HF3 := hid (HF2.out.trans hF3)
  have HH3 := hid hH3
  have HI3 := hid hI3
  have HST3 := hid hst3.toMSt
  have HMK3 := hid hmk3
  clear hF3 hH3 hI3 hst3 hmk3 hC3
  go_wp2_with fail
  refine (tRootsY tb L.hb sh t w3 (HT.out.fr HF3.out HTA.out)).mono ?_
  rintro e w4 ⟨g4, rfl, hg4, hB4, hF4⟩
  have HF4 := hid (HF3.out.trans (hF4.here (by simp)))
  have HH4 := hid (HH3.out.fr hF4 (by simp))
  have HV4 : Hid (RdS w4 (fun b => w.heap.size ≤ b) (.slice (some ⟨g4, 0, none⟩) 2 2) [t.row, t.first]) := hid (RdS.of_blk (l := [t.row, t.first]) hB4 (Nat.le_trans HF3.out.size hg4) (by simp))
  clear hF4 hg4 hB4 d2
  go_wp2_with fail
  refine (cShade L s3 A3 z obs g 0 0 0 0 U kb L.hb mb tb c (fun b => w.heap.size ≤ b) _ [t.row, t.first] w4 HH4.out (Blk.fr HM.out HF4.out HMA.out) HI3.out (HC.out.fr HF4.out HKF.out) HKF.out HMA.out HV4.out (fun b hb hc => by have := HALL.out b (by simp [HL.all, hc]); omega) (fun y hy => HRO.out y (List.mem_append_right _ hy))).mono ?_
  rintro e w5 ⟨rfl, hF5, s5, A5, hH5, hI5, hst5, hmk5⟩
  have hC5 := HC.out.fr (HF4.out.trans hF5) HKF.out
  have d4 := Blk.cell hC5 (i := 4) rfl
  rw [HLV.out] at d4
  have dl := (cell_fr (HF4.out.trans hF5) HLP.out.1 HLL.out o).trans HLB.out
  have HF5 := hid (HF4.out.trans hF5)
  have HH5 := hid hH5
  have HI5 := hid hI5
  have HST5 := hid (HST3.out.trans hst5.toMSt)
  have HMO5 := hid hst5.mono
  have HMK5 := hid hmk5
  have HC5 := hid hC5
  have HS5 := hid (HS.out.fr HF5.out HSF.out (fun b hb _ => (HPP.out b hb).1))
  clear hF5 hH5 hI5 hst5 hmk5 hC5
  go_wp2_with fail
  clear d4
  go_loopw [38] (fun iv wr => ∃ i : Nat, i ≤ 1 ∧ iv = .int .i64 i ∧ RelB P sb k i w5 wr) (fun iv _ => 1 - (intOf iv).toNat)
  case atStart => exact ⟨0, Nat.zero_le _, rfl, .inl ⟨rfl, Fr.refl [] w5⟩⟩
  case round =>
    obtain ⟨i, hi, rfl, ⟨rfl, hF⟩ | ⟨rfl, hF, hSr⟩⟩ := hrel
    · have dl' := (cell_fr hF (by simp) (Nat.lt_of_lt_of_le HLL.out HF5.out.size) o).trans dl
      have HF := hid hF
      clear hF dl
      go_wp2_with fail
      refine (sBegin sb k P _ (HS5.out.fr HF.out (by simp) (by simp)) (fun hc => (HPP.out sb hc).2.2 rfl)).mono ?_
      rintro e w6 ⟨rfl, hS6, hF6⟩
      have HS6 := hid hS6
      have HF6 := hid ((HF.out.here (by simp)).trans hF6)
      clear hS6 hF6 dl'
      go_wp2_with fail
      go_roundw
      case rel => exact ⟨1, Nat.le_refl _, by go_num, .inr ⟨rfl, HF6.out, HS6.out⟩⟩
      case measure => simp [intOf]
    · have hC6 := HC5.out.fr hF (by simpa using HNE.out.1)
      have y6 := Blk.frozen hC6 6
      have y7 := Blk.frozen hC6 7
      have y8 := Blk.frozen hC6 8
      have d6 := Blk.cell hC6 (i := 6) rfl
      have d7 := Blk.cell hC6 (i := 7) rfl
      have d8 := Blk.cell hC6 (i := 8) rfl
      have hCF := Blk.set (Blk.set (Blk.set hC6 6 (.int .i64 1)) 7 (.int .i64 0)) 8 (.slice none 0 0)
      have hFK : Fr [kb] wr (((wr.setCell ⟨kb, 6, none⟩ (.int .i64 1)).setCell ⟨kb, 7, none⟩ (.int .i64 0)).setCell ⟨kb, 8, none⟩ (.slice none 0 0)) := (((Fr.refl _ wr).set (by simp) _).set (by simp) _).set (by simp) _
      have hT : Fr (kb :: sb :: L.fp) w (((wr.setCell ⟨kb, 6, none⟩ (.int .i64 1)).setCell ⟨kb, 7, none⟩ (.int .i64 0)).setCell ⟨kb, 8, none⟩ (.slice none 0 0)) := ((HF5.out.here (fun x hx => List.mem_cons_of_mem _ (List.mem_cons_of_mem _ hx))).trans (hF.here (by simp))).trans (hFK.here (by simp))
      have hSF := hSr.fr hFK (by simpa using fun h => HNE.out.1 h.symm) (fun b hb _ hc => (HPP.out b hb).2.1 (List.mem_singleton.1 hc))
      have hHF := (HH5.out.fr hF (fun b hb hc => HSA.out (List.mem_singleton.1 hb ▸ hc))).fr hFK (fun b hb hc => HKA.out (List.mem_singleton.1 hb ▸ hc))
      have hnn := HNE.out
      have hTF := HT.out.fr hT (fun hc => by
        rcases List.mem_cons.1 hc with e | hc
        · exact hnn.2.1 e
        · rcases List.mem_cons.1 hc with e | hc
          · exact hnn.2.2.1 e
          · exact HTA.out hc)
      have hMF := Blk.fr HM.out hT (fun hc => by
        rcases List.mem_cons.1 hc with e | hc
        · exact hnn.2.2.2.1 e
        · rcases List.mem_cons.1 hc with e | hc
          · exact hnn.2.2.2.2 e
          · exact HMA.out hc)
      have HFIN : Hid (StartPost2 L z obs g U kb mb tb sb sh c t k P regs Q A0 w (.returned (.int .i64 0)) (((wr.setCell ⟨kb, 6, none⟩ (.int .i64 1)).setCell ⟨kb, 7, none⟩ (.int .i64 0)).setCell ⟨kb, 8, none⟩ (.slice none 0 0))) := hid ⟨rfl, hT, hCF, hTF, hMF, hSF, s0, s5, A5, HQ0.out, hHF, HI5.out, HST5.out, fun x hx o ho e => by
        rcases List.mem_append.1 hx with h | h
        · exact HMO5.out o ho (HMK3.out x h o ho e)
        · exact HMK5.out x h o ho e⟩
      clear hC6 hCF hFK hT hSF hHF hnn hTF hMF hF hSr
      go_wp2_with fail
      go_ret
      exact HFIN.out
def rootsS (E : CE) (S : CY) (regs : List Int) : List Int := E.gl ++ (regs ++ [S.t.row, S.t.first]) ++ scanW S.k.fs S.k.fs.length
def XB (E : CE) (S : CY) (T : Prop) (regs : List Int) : CX := ⟨T, nz (rootsS E S regs), [], S.obs, S.rw, [], S.bl, S.t.row, S.t.first, S.qu, S.c.cyc, S.k.fs, S.c.rv, S.s.cls, none⟩
noncomputable def M0 (E : CE) (S : CY) (g : MG) : Nat := E.gl.length + scanN S.k.fs S.k.fs.length + (pot S.A.begun g S.obs + S.rw.length + (S.A none).B.length)
def BeginQ (s : HS) (s' : HS) : Prop := s'.ws = s.ws ∧ s'.cls = s.cls ∧ s'.edge = s.edge ∧ s'.top = s.top ∧ s'.x = s.x ∧ s'.u = s.u ∧ s'.parity = 1 - s.parity
theorem eStart (E : CE) (S : CY) (w : World) (hC : CR E S w) (hI : CI S) (bx : Nat) (regs : List Int) (hrv : S.c.rv = .func (.func 33) #[] #[.pointer (some ⟨bx, 0, none⟩)])
    (hregs : ∀ wx, Fr S.L.fp w wx → Calls Tryz.prog 33 #[.pointer (some ⟨bx, 0, none⟩)] wx fun e w' => ∃ v, e = .returned v ∧ RdS w' (fun b => wx.heap.size ≤ b) v regs ∧ Fr [] wx w')
    (T : Prop) (g : MG) (hR : g.R = Rch S.obs (W0of S.s) (nz (rootsS E S regs))) (hW : g.W0 = W0of S.s)
    (hrt : ∀ x ∈ rootsS E S regs, x = 0 ∨ ∃ o ∈ S.obs, o.p = x ∧ g.S o.p)
    (hTS : T → ∀ o ∈ S.obs, g.S o.p → g.R o.p)
    (hcS : ∀ o ∈ S.obs, g.S o.p → ∀ j, Lk o j → ∀ o' ∈ S.obs, o'.p = S.s.wd o j → g.S o'.p)
    (hcy : S.c.cyc ≤ 900) (hM : M0 E S g ≤ 60000) :
    Calls Tryz.prog 14 #[.pointer (some ⟨E.kb, 0, none⟩)] w fun e w' => e = .returned (.int .i64 0) ∧ FrP (FB E S) w w' ∧ CXK g (XB E S T regs) ∧ EInv E g (XB E S T regs) (FB E S) (M0 E S g) 1 w' := by
  obtain ⟨f1, f2, f3, f4⟩ := hC.mf
  have hmh := hI.mh
  have hpar := hmh.par
  have hm0 : MBlk w E.mb S.L 0 0 := by
    have := hC.m
    rw [hI.a0, hI.nx0] at this
    exact this
  have hbegin : Calls Tryz.prog 44 #[.pointer (some ⟨S.L.hb, 0, none⟩)] w fun e w' => e = .returned (.int .i64 0) ∧ Fr S.L.fp w w' ∧ ∃ s0, BeginQ S.s s0 ∧ HRep w' S.L s0 ∧ MI s0 S.A.begun S.z S.obs g 0 0 (pot S.A.begun g S.obs) := by
    refine (hBeginRows S.L S.s S.A S.z w hC.hr hmh.hi (by omega) (by omega)).mono ?_
    rintro e w' ⟨hF1, ⟨hno, _⟩ | ⟨_, rfl, s', hH, hI1, e1, e2, e3, e4, e5, e6, e7⟩⟩
    · exact absurd hI.black hno
    · refine ⟨rfl, hF1, s', ⟨e1, e2, e3, e4, e5, e6, e7⟩, hH, MI.begin hI1 hpar e7 e1 e2 hI.inB hI.black (fun q c hc => hmh.rows q c (.inr (.inr hc))) hmh.nd hI.cl g (fun o _ j _ => by rw [hW]; rfl) hcS⟩
  refine (cStart2 S.L S.z S.obs g _ E.kb E.mb E.tb E.sb bx E.lb E.lo E.lc E.sh S.c S.t S.k S.P regs (BeginQ S.s) S.A.begun w hC.c hI.ph hC.t hm0 hC.k hrv hC.lv hC.lp hC.ll hC.lcell (fun x hx => hC.all_lt hx) hC.ka f2 f3 hC.sa hC.hpl ⟨hC.ks, fun e => hC.kt e.symm, hC.ts, fun e => hC.km e.symm, hC.ms⟩ hbegin hregs (fun x hx => hrt x (by
    unfold rootsS
    rw [List.mem_append, List.mem_append]
    exact .inl (.inr hx)))).mono ?_
  rintro e w' ⟨rfl, hF, hc, ht, hm, hk, s0, s', A', ⟨q1, q2, q3, q4, q5, q6, q7⟩, hr', hi', hst, hmk⟩
  have hsub : ∀ x ∈ E.kb :: E.sb :: S.L.fp, CO E S x := fun x hx => by
    rcases List.mem_cons.1 hx with e | hx
    · exact .inl e
    · rcases List.mem_cons.1 hx with e | hx
      · exact .inr (.inr (.inr (.inl e)))
      · exact .inr (.inr (.inr (.inr (.inl hx))))
  obtain ⟨k1, k2⟩ := CQ.start (gl := E.gl) hI T regs g hR hW hrt hTS q1 q3 q5 hi' hst hmk (.slice none 0 0)
  have hx' : s'.x = S.s.x := hst.sta.x.trans q5
  obtain ⟨r1, r2, r3⟩ := hC.go (S' := { S with s := s', A := A', U := pot S.A.begun g S.obs, c := { S.c with ph := 1, at' := 0, fv := .slice none 0 0 }, k := { S.k with todo := S.k.fs.length }, fl := [], dn := [], td := S.rw }) hF hsub rfl (fun x hx => .inl hx) (fun x hx => .inl hx)
    (fun hx => hC.x0 (by have h2 : s'.x.places ≠ 0 := hx; rw [hx'] at h2; exact h2)) rfl rfl hr'
    (by show MBlk w' E.mb S.L S.a S.nx; rw [hI.a0, hI.nx0]; exact hm) hc ht hk (RdS.nil _ _ none 0)
    (hC.b.fr hF (hC.bfr fun x hx => by
      rcases List.mem_cons.1 hx with e | hx
      · exact .inl e
      · rcases List.mem_cons.1 hx with e | hx
        · exact .inr (.inr (.inr (.inl e)))
        · exact .inr (.inr (.inr (.inr (fp_all hx)))))) (.inl rfl) (fun b hb => hb) (fun b hb => .inl hb) hC.cyc (Nat.le_refl _)
  have hlf : (A' none).F.length ≤ (S.A none).B.length := hst.lf
  refine ⟨rfl, FrP.of hF (fun x hx => .inl (.inl (hsub x hx))), k1, _, r1, k2, rfl, rfl, ?_, hM, ⟨hcy, rfl, rfl, hst.sta.cls.trans q2, fun _ o ho => ⟨o, ho, rfl, rfl, rfl, rfl⟩, fun _ _ o ho => ho⟩, fun _ h => by cases h⟩
  unfold meas M0
  rw [if_pos rfl]
  show E.gl.length - 0 + 0 + scanN S.k.fs S.k.fs.length + (pot S.A.begun g S.obs + S.rw.length + (A' none).F.length) ≤ _
  omega
theorem sub_len {l : List Int} : ∀ {m : List Int}, l.Nodup → (∀ x ∈ l, x ∈ m) → l.length ≤ m.length := by
  induction l with
  | nil => intro m _ _; exact Nat.zero_le _
  | cons a r ih =>
    intro m hn hs
    rw [List.nodup_cons] at hn
    have ha := hs a (List.mem_cons_self ..)
    have h1 := ih (m := m.erase a) hn.2 (fun x hx => (List.mem_erase_of_ne (fun e => hn.1 (by rw [← e]; exact hx))).2 (hs x (List.mem_cons_of_mem _ hx)))
    rw [List.length_erase_of_mem ha] at h1
    have := List.length_pos_of_mem ha
    simp only [List.length_cons]
    omega
theorem CI.bLen {S : CY} (h : CI S) (q : Option Nat) : (S.A q).B.length ≤ S.obs.length := by
  have h1 := rowsNd (h.mh.hi.allNd q)
  have := sub_len (m := S.obs.map Ob.p) h1.1.2.2.2 (fun c hc => by
    obtain ⟨o, ho, -, e⟩ := h.mh.rows q c (.inr (.inr hc))
    exact List.mem_map.2 ⟨o, ho, e⟩)
  simpa using this
theorem PQ.regs {E : CE} {a : DA} {nn : Nat} {S : CY} {D : DPs} {w : World} (h : PQ E a nn S D w) {wx : World} {Sl : List Nat} (hf : Fr Sl w wx) (hS : ∀ x ∈ Sl, FB E S x) :
    Calls Tryz.prog 33 #[.pointer (some ⟨a.bx, 0, none⟩)] wx fun e w' => ∃ v, e = .returned v ∧ RdS w' (fun b => wx.heap.size ≤ b) v D.regs ∧ Fr [] wx w' := by
  have hh := h.j.dr.fr hf (fun x hx => h.j.fp0 x (hS x hx)) (wd' := S.s.wd) (fun _ _ _ _ => rfl) (F' := FB E S) (fun _ _ h => h)
  have h4 := h.j.dr.rl
  have hr : RdS wx (fun b => D.lab b ≠ 0) D.c.rv D.regs := by
    rw [h.j.dr.rv]
    have := RdS.of_blk (P := fun b => D.lab b ≠ 0) (l := D.regs) hh.rb (by show D.lab a.rb ≠ 0; rw [h.j.dr.lr]; decide) (by omega)
    rw [h4] at this
    exact this
  exact yRegs a.bx a.pb a.wb D.c (fun b => D.lab b ≠ 0) D.regs wx (hh.bx.1 _ _ _ h.j.hkp).1 (Blk.cell hh.p (i := 3) rfl) hh.wb hr (by omega) (by omega)
def gOf (E : CE) (S : CY) (regs : List Int) (f : (Int → Prop) → Int → Prop) : MG := ⟨Rch S.obs (W0of S.s) (nz (rootsS E S regs)), W0of S.s, f (Rch S.obs (W0of S.s) (nz (rootsS E S regs)))⟩
def gAll (E : CE) (S : CY) (regs : List Int) : MG := gOf E S regs fun _ _ => True
def gExact (E : CE) (S : CY) (regs : List Int) : MG := gOf E S regs fun R => R
theorem PQ.roots {E : CE} {a : DA} {nn : Nat} {S : CY} {D : DPs} {w : World} (h : PQ E a nn S D w) : ∀ x ∈ rootsS E S D.regs, x = 0 ∨ ∃ o ∈ S.obs, o.p = x := by
  intro x hx
  unfold rootsS at hx
  rw [List.mem_append, List.mem_append, List.mem_append] at hx
  have hch : ∀ {l : List Ob} {p : Int}, Chn S.s p l → (∀ o ∈ l, o ∈ S.obs) → p = 0 ∨ ∃ o ∈ S.obs, o.p = p := by
    intro l p hc hl
    cases l with
    | nil => exact .inl hc
    | cons o r => exact .inr ⟨o, hl o (List.mem_cons_self ..), hc.1.symm⟩
  rcases hx with (hx | hx | hx) | hx
  · exact (h.t.glv x hx).ob
  · exact (h.t.rgs x hx).ob
  · rcases List.mem_cons.1 hx with rfl | hx
    · exact hch h.j.ci.rch (fun o ho => (h.j.ci.rin o ho).1)
    · rw [List.mem_singleton.1 hx]
      exact hch h.j.ci.qch (fun o ho => (h.j.ci.qin o ho).1)
  · unfold scanW at hx
    rw [List.mem_flatten] at hx
    obtain ⟨l, h1, h2⟩ := hx
    obtain ⟨f, h3, rfl⟩ := List.mem_map.1 h1
    exact (h.t.fs f (List.mem_of_mem_take h3) x h2).ob
theorem scanN_two {fs : List Fm} (h : ∀ f ∈ fs, f.l.length = 2) (n : Nat) : scanN fs n ≤ 3 * fs.length := by
  unfold scanN
  have h1 : ∀ (q : List Fm), (∀ f ∈ q, f.l.length = 2) → (q.map fun f => 1 + f.l.length).sum = 3 * q.length := by
    intro q
    induction q with
    | nil => intro _; rfl
    | cons b r ih =>
      intro hq
      have hb := hq b (List.mem_cons_self ..)
      have := ih (fun l hl => hq l (List.mem_cons_of_mem _ hl))
      simp only [List.map_cons, List.sum_cons, List.length_cons]
      omega
  rw [h1 _ (fun f hf => h f (List.mem_of_mem_take hf)), List.length_take]
  omega
theorem PQ.m0 {E : CE} {a : DA} {nn : Nat} {S : CY} {D : DPs} {w : World} (h : PQ E a nn S D w) (g : MG) : M0 E S g ≤ 10 + 34 * nn := by
  unfold M0
  have h1 := pot_le (A := S.A.begun) (g := g) (obs := S.obs) (fun o ho => by have := h.t.small o ho; omega)
  have h2 := h.j.ci.bLen none
  have h3 := h.t.cnt
  have h4 := h.t.rwl
  have h5 := h.t.gll
  have h6 := scanN_two (fun f hf => (h.j.fr2 f hf).2.2) S.k.fs.length
  omega
theorem pStart {E : CE} {a : DA} {nn : Nat} {S : CY} {D : DPs} {w : World} (h : PQ E a nn S D w) (hn : nn ≤ 110) (T : Prop) (f : (Int → Prop) → Int → Prop) (hf1 : ∀ R x, R x → f R x) (hfT : T → ∀ R x, f R x → R x)
    (hcS : ∀ o ∈ S.obs, (gOf E S D.regs f).S o.p → ∀ j, Lk o j → ∀ o' ∈ S.obs, o'.p = S.s.wd o j → (gOf E S D.regs f).S o'.p) :
    Calls Tryz.prog 14 #[.pointer (some ⟨E.kb, 0, none⟩)] w fun e w' => e = .returned (.int .i64 0) ∧ FrP (FB E S) w w' ∧ CXK (gOf E S D.regs f) (XB E S T D.regs) ∧ EInv E (gOf E S D.regs f) (XB E S T D.regs) (FB E S) (M0 E S (gOf E S D.regs f)) 1 w' := by
  have hm := h.m0 (gOf E S D.regs f)
  refine eStart E S w h.j.cr h.j.ci a.bx D.regs h.j.rvv.1 (fun wx hx => h.regs hx (fun x hx => fb_fp hx)) T _ rfl rfl (fun x hx => ?_) (fun hT o _ hS => hfT hT _ _ hS) hcS (by rw [h.j.rvv.2]; decide) (by omega)
  by_cases h0 : x = 0
  · exact .inl h0
  · obtain ⟨o, ho, e⟩ := (h.roots x hx).resolve_left h0
    refine .inr ⟨o, ho, e, hf1 _ _ ?_⟩
    rw [e]
    exact .root x (by unfold nz; rw [List.mem_filter]; exact ⟨hx, by simpa using h0⟩)
theorem pStartAll {E : CE} {a : DA} {nn : Nat} {S : CY} {D : DPs} {w : World} (h : PQ E a nn S D w) (hn : nn ≤ 110) :
    Calls Tryz.prog 14 #[.pointer (some ⟨E.kb, 0, none⟩)] w fun e w' => e = .returned (.int .i64 0) ∧ FrP (FB E S) w w' ∧ CXK (gAll E S D.regs) (XB E S False D.regs) ∧ EInv E (gAll E S D.regs) (XB E S False D.regs) (FB E S) (M0 E S (gAll E S D.regs)) 1 w' :=
  pStart h hn False _ (fun _ _ _ => trivial) (fun h => h.elim) (fun _ _ _ _ _ _ _ _ => trivial)
structure Fst (E : CE) (S : CY) (regs : List Int) (S5 : CY) : Prop where
  ci : CI S5
  fs : S5.k.fs = S.k.fs
  rv : S5.c.rv = S.c.rv
  cls : S5.s.cls = S.s.cls
  cyc : S5.c.cyc = S.c.cyc + 1
  from0 : ∀ o ∈ S5.obs, ∃ o0 ∈ S.obs, o0.p = o.p ∧ o0.q = o.q ∧ o0.n = o.n ∧ o0.a = o.a
  same : S5.bl = S.bl → (∀ o ∈ S5.obs, o ∈ S.obs) ∧ (∀ o ∈ S5.obs, ∀ j, j < o.n → S5.s.wd o j = S.s.wd o j) ∧ S5.t.row = S.t.row ∧ S5.t.first = S.t.first
  reach : ∀ o ∈ S5.obs, Rch S.obs (W0of S.s) (nz (rootsS E S regs)) o.p
  fin : ∀ x, Rch S.obs (W0of S.s) (nz (rootsS E S regs)) x → ∃ o ∈ S5.obs, o.p = x
theorem EInv.fst {E : CE} {S : CY} {regs : List Int} {O : Nat → Prop} {M : Nat} {w : World} (h : EInv E (gExact E S regs) (XB E S True regs) O M 0 w) : ∃ S5, CR E S5 w ∧ CQ E.gl (gExact E S regs) (XB E S True regs) S5 ∧ O = FB E S5 ∧ Fst E S regs S5 := by
  obtain ⟨S5, hC, hQ, hp, rfl, -, -, ⟨c1, c2, c3, c4, c5, c6⟩, -⟩ := h
  have hci := hQ.rest trivial hp
  refine ⟨S5, hC, hQ, rfl, hci, c2, c3, c4, ?_, c5 trivial, fun hb => ?_, fun o ho => hQ.mS o ho (.inr (hci.inB o ho).1), fun x hx => ?_⟩
  · have := hQ.cyc
    rw [hp] at this
    exact this
  · obtain ⟨dec, d1, d2, d3, d4⟩ := hQ.hist
    have hf : S5.dn.filter dec = [] := by
      have e : S5.bl = S.bl ++ (S5.dn.filter dec).map Ob.a := d2
      rw [hb] at e
      have := List.self_eq_append_right.1 e
      exact List.map_eq_nil_iff.1 this
    obtain ⟨e1, e2, e3, -⟩ := d4 trivial hf
    exact ⟨c6 trivial hb, e1, e2, e3⟩
  · obtain ⟨o, h1, h2, -⟩ := hQ.fin (by omega) (by omega) x hx
    exact ⟨o, h1, h2⟩
def CY.again (S : CY) (k : Nat) : CY := { S with s := S.s.tick k, c := { S.c with bv := .slice none 0 0 }, bl := [] }
theorem CI.again {S : CY} (h : CI S) (k : Nat) : CI (S.again k) :=
  ⟨h.ph, h.mh.tick k, h.xok, h.wn, h.black, h.a0, h.nx0, h.cl, h.rch.congr fun _ _ => rfl, h.qch.congr fun _ _ => rfl, h.last, h.rin, h.qin, h.rnd, h.qnd, h.key, by
    have := h.blen
    show ([] : List Int).length + S.rw.length ≤ 10000
    simp only [List.length_nil]
    omega⟩
theorem CR.again {E : CE} {S : CY} {w w1 w2 : World} (h : CR E S w) {k : Nat} (hc : CBlk w1 E.kb S.L.hb E.mb E.tb { S.c with bv := .slice none 0 0 }) (hf1 : Fr [E.kb] w w1) (hr : HRep w2 S.L (S.s.tick k)) (hf2 : Fr [S.L.ab] w1 w2) : CR E (S.again k) w2 ∧ FrP (FB E S) w w2 ∧ ∀ x, FB E (S.again k) x → FB E S x := by
  have hab : S.L.ab ∈ S.L.fp := by simp [HL.fp]
  have haba : S.L.ab ∈ S.L.all := fp_all hab
  have hne : ∀ b, b ∉ S.L.all → b ∉ [S.L.ab] := fun b hb hc => hb (by rw [List.mem_singleton.1 hc]; exact haba)
  obtain ⟨f1, f2, f3, f4⟩ := h.mf
  have hP1 : ∀ b, S.P b → b < w.heap.size → b ∉ [E.kb] := fun b hb _ hc => (h.hpl b hb).2.1 (List.mem_singleton.1 hc)
  have hP2 : ∀ b, S.P b → b < w1.heap.size → b ∉ [S.L.ab] := fun b hb _ hc => (h.hpl b hb).1 (by rw [List.mem_singleton.1 hc]; exact hab)
  have hsub : ∀ x, FB E (S.again k) x → FB E S x := by
    rintro x ((e | e | e | e | e | e) | e | e)
    · exact .inl (.inl e)
    · exact .inl (.inr (.inl e))
    · exact .inl (.inr (.inr (.inl e)))
    · exact .inl (.inr (.inr (.inr (.inl e))))
    · exact .inl (.inr (.inr (.inr (.inr (.inl e)))))
    · cases e
    · exact .inr (.inl e)
    · exact .inr (.inr e)
  have hsz := Nat.le_trans hf1.size hf2.size
  refine ⟨⟨hr, ?_, hc.fr hf2 (hne _ h.ka), ?_, (h.k.fr hf1 (by simpa using fun e => h.ks e.symm) hP1).fr hf2 (hne _ h.sa) hP2, (h.g.fr hf1 hP1).fr hf2 hP2, (h.f.fr hf1 hP1).fr hf2 hP2, Rowi.nil _ _, Nat.le_trans h.bB hsz, h.lv, h.lp, Nat.lt_of_lt_of_le h.ll hsz, ?_, fun b hb => ⟨Nat.lt_of_lt_of_le (h.hP b hb).1 hsz, fun hc => (h.hP b hb).2 ?_⟩, h.ka, h.ma, h.ta, h.sa, h.km, h.kt, h.ks, h.mt, h.ms, h.ts, fun b hb => (by cases hb), h.x0, h.cyc, h.todo, h.hb⟩, ?_, hsub⟩
  · exact Blk.fr (Blk.fr h.m hf1 (by simpa using fun e => h.km e.symm)) hf2 (hne _ h.ma)
  · exact (h.t.fr hf1 (by simpa using fun e => h.kt e.symm)).fr hf2 (hne _ h.ta)
  · exact (cell_fr hf2 (hP2 _ h.lp (Nat.lt_of_lt_of_le h.ll hf1.size)) (Nat.lt_of_lt_of_le h.ll hf1.size) _).trans ((cell_fr hf1 (hP1 _ h.lp h.ll) h.ll _).trans h.lcell)
  · rcases hc with e | e | e | e | e | e
    · exact .inl e
    · exact .inr (.inl e)
    · exact .inr (.inr (.inl e))
    · exact .inr (.inr (.inr (.inl e)))
    · exact .inr (.inr (.inr (.inr (.inl e))))
    · cases e
  · exact (FrP.of hf1 (fun x hx => .inl (.inl (.inl (List.mem_singleton.1 hx))))).step (FrP.of (S := fun x => x = S.L.ab) hf2 (fun x hx => .inl (List.mem_singleton.1 hx))) (fun x hx => .inl (.inl (.inr (.inr (.inr (.inr (.inl (by rw [hx]; exact hab))))))))
theorem Fst.roots {E : CE} {a : DA} {nn : Nat} {S : CY} {D : DPs} {w : World} (_hq : PQ E a nn S D w) {S5 : CY} (h : Fst E S D.regs S5) (k : Nat) : ∀ x ∈ rootsS E (S5.again k) D.regs, x = 0 ∨ ∃ o ∈ S5.obs, o.p = x := by
  intro x hx
  have up : x ∈ rootsS E S D.regs → x = 0 ∨ ∃ o ∈ S5.obs, o.p = x := by
    intro hx
    by_cases h0 : x = 0
    · exact .inl h0
    · exact .inr (h.fin x (.root x (by unfold nz; rw [List.mem_filter]; exact ⟨hx, by simpa using h0⟩)))
  have hch : ∀ {l : List Ob} {p : Int}, Chn S5.s p l → (∀ o ∈ l, o ∈ S5.obs) → p = 0 ∨ ∃ o ∈ S5.obs, o.p = p := by
    intro l p hc hl
    cases l with
    | nil => exact .inl hc
    | cons o r => exact .inr ⟨o, hl o (List.mem_cons_self ..), hc.1.symm⟩
  unfold rootsS at hx
  rw [List.mem_append, List.mem_append, List.mem_append] at hx
  rcases hx with (hx | hx | hx) | hx
  · exact up (by unfold rootsS; exact List.mem_append_left _ (List.mem_append_left _ hx))
  · exact up (by unfold rootsS; exact List.mem_append_left _ (List.mem_append_right _ (List.mem_append_left _ hx)))
  · rcases List.mem_cons.1 hx with rfl | hx
    · exact hch h.ci.rch (fun o ho => (h.ci.rin o ho).1)
    · rw [List.mem_singleton.1 hx]
      exact hch h.ci.qch (fun o ho => (h.ci.qin o ho).1)
  · refine up ?_
    unfold rootsS
    have e : (S5.again k).k.fs = S.k.fs := h.fs
    rw [e] at hx
    exact List.mem_append_right _ hx
theorem Fst.len {E : CE} {S : CY} {regs : List Int} {S5 : CY} (h : Fst E S regs S5) : S5.obs.length ≤ S.obs.length := by
  have := sub_len (m := S.obs.map Ob.p) h.ci.mh.nd (fun c hc => by
    obtain ⟨o, ho, rfl⟩ := List.mem_map.1 hc
    obtain ⟨o0, h1, h2, -⟩ := h.from0 o ho
    exact List.mem_map.2 ⟨o0, h1, h2⟩)
  simpa using this
theorem CI.rwLen {S : CY} (h : CI S) : S.rw.length ≤ S.obs.length := by
  have h1 := map_nodup_of h.rnd (fun x hx => (h.rin x hx).1) (fun x hx y hy e => h.mh.one hx hy e)
  have := sub_len (m := S.obs.map Ob.p) h1 (fun c hc => by
    obtain ⟨o, ho, rfl⟩ := List.mem_map.1 hc
    exact List.mem_map_of_mem (h.rin o ho).1)
  simpa using this
theorem Fst.m0 {E : CE} {a : DA} {nn : Nat} {S : CY} {D : DPs} {w : World} (hq : PQ E a nn S D w) {S5 : CY} (h : Fst E S D.regs S5) (k : Nat) (g : MG) : M0 E (S5.again k) g ≤ 10 + 34 * nn := by
  have h1 : pot (S5.again k).A.begun g (S5.again k).obs ≤ 32 * S5.obs.length := pot_le (A := (S5.again k).A.begun) (g := g) (obs := S5.obs) (fun o ho => by
    obtain ⟨o0, e1, -, -, e4, -⟩ := h.from0 o ho
    have := hq.t.small o0 e1
    omega)
  have h2 : ((S5.again k).A none).B.length ≤ S5.obs.length := h.ci.bLen none
  have h3 := hq.t.cnt
  have h4 : (S5.again k).rw.length ≤ S5.obs.length := h.ci.rwLen
  have h5 := hq.t.gll
  have h6 := scanN_two (fun f hf => (hq.j.fr2 f hf).2.2) S.k.fs.length
  have h7 := h.len
  have e : (S5.again k).k.fs = S.k.fs := h.fs
  unfold M0
  rw [e]
  omega
theorem yLoadUses (ab : Nat) (x : Int) (w : World) (hc : w.cell? ⟨ab, 1, none⟩ = some (.int .i64 x)) :
    Calls Tryz.prog 48 #[.pointer (some ⟨ab, 1, none⟩)] w fun e w' => e = .returned (.int .i64 x) ∧ w = w' := by
  have hld := run_call_load (P := Tryz.prog) Tryz.func94 (by kernel_rfl) (by kernel_rfl) (by kernel_rfl) .i64 (by kernel_rfl) hc
  go_enter Tryz.func48, Tryz.ntmps48
  go_wp2
  go_ret
  exact ⟨rfl, rfl⟩
theorem yUses (L : HL) (s : HS) (w : World) (hH : HRep w L s) :
    Calls Tryz.prog 15 #[.pointer (some ⟨L.ab, 0, none⟩)] w fun e w' => e = .returned (.int .i64 (wrap64 s.u)) ∧ w = w' := by
  have hc : w.cell? ⟨L.ab, 1, none⟩ = some (.int .i64 (wrap64 s.u)) := hH.a.s.cell (i := 1) rfl
  have hl : w.cell? ⟨L.ab, 0, none⟩ = some (.slice (some ⟨L.wb, 0, none⟩) s.ws.length s.ws.length) := hH.a.s.cell (i := 0) rfl
  go_enter Tryz.func15, Tryz.ntmps15
  go_wp2_with fail
  refine (yLoadUses _ _ _ hc).mono ?_
  rintro e w' ⟨rfl, rfl⟩
  go_wp2_with fail
  go_ret
  exact ⟨rfl, rfl⟩
theorem CQ.count {gl : List Int} {g : MG} {X : CX} {S : CY} (h : CQ gl g X S) (v : Option (Int × Nat)) : CQ gl g { X with ub := v } S := by
  cases h
  constructor <;> assumption
theorem CXK.count {g : MG} {X : CX} (h : CXK g X) (v : Option (Int × Nat)) : CXK g { X with ub := v } := ⟨h.r1, h.r2, h.nd⟩
theorem pwU_le (ph : Nat) : 0 ≤ pwU ph ∧ pwU ph ≤ 36 := by
  unfold pwU
  split
  · omega
  · split <;> omega
theorem EInv.count {E : CE} {g : MG} {X : CX} {O : Nat → Prop} {M ph : Nat} {w : World} (h : EInv E g X O M ph w) :
    ∃ L s, HRep w L s ∧ L.hb = E.hb ∧ EInv E g { X with ub := some (s.u, M) } O M ph w := by
  obtain ⟨S, hC, hQ, hp, hO, hm, hM, hcy⟩ := h
  refine ⟨S.L, S.s, hC.hr, hC.hb, S, hC, hQ.count _, hp, hO, hm, hM, hcy.1, fun p hp => ?_⟩
  cases hp
  have := pwU_le ph
  exact ⟨Int.le_refl _, by show S.s.u ≤ S.s.u + 40 * ((M : Int) - M) + _; omega⟩
theorem EInv.told {E : CE} {g : MG} {X : CX} {O : Nat → Prop} {M ph : Nat} {w : World} {u : Int} {M0 : Nat} (h : EInv E g { X with ub := some (u, M0) } O M ph w) (v : Option (Int × Nat)) (hv : v = none) :
    ∃ L s, HRep w L s ∧ L.hb = E.hb ∧ u ≤ s.u ∧ s.u ≤ u + 40 * ((M0 : Int) - M) + 36 ∧ EInv E g { X with ub := v } O M ph w := by
  obtain ⟨S, hC, hQ, hp, hO, hm, hM, hcy⟩ := h
  obtain ⟨h1, h2⟩ := hcy.2 _ rfl
  have := pwU_le ph
  refine ⟨S.L, S.s, hC.hr, hC.hb, h1, ?_, S, hC, hQ.count _, hp, hO, hm, hM, hcy.1, fun p hp => ?_⟩
  · have h3 : S.s.u ≤ u + 40 * ((M0 : Int) - M) + pwU ph := h2
    omega
  · rw [hv] at hp; cases hp
theorem cStartBusy (kb : Nat) (ph : Nat) (hp : ph ≠ 0) (w : World) (h : w.cell? ⟨kb, 6, none⟩ = some (.int .i64 ph)) :
    Calls Tryz.prog 14 #[.pointer (some ⟨kb, 0, none⟩)] w fun e w' => e = .returned (.int .i64 18) ∧ w = w' := by
  have hp' : ¬ (ph : Int) = 0 := by omega
  go_enter Tryz.func14, Tryz.ntmps14
  go_wp2_with fail
  go_ret
  exact ⟨rfl, rfl⟩
def IdI (kb hb : Nat) (w0 : World) (O : Nat → Prop) (_ : Nat) (ph : Nat) (w : World) : Prop := ph = 0 ∧ (∀ b, ¬ O b) ∧ Fr [] w0 w ∧ kb < w0.heap.size ∧ w0.cell? ⟨kb, 6, none⟩ = some (.int .i64 0) ∧ w0.cell? ⟨kb, 0, none⟩ = some (.pointer (some ⟨hb, 0, none⟩))
theorem idEng (kb hb : Nat) (w0 : World) : Eng kb hb (IdI kb hb w0) (fun _ _ _ _ => False) where
  lt := fun O M ph w h => ⟨fun b hb => absurd hb (h.2.1 b), by have := h.1; omega⟩
  k := fun O M ph w h => ⟨by rw [h.1]; exact (cell_fr h.2.2.1 (by simp) h.2.2.2.1 6).trans h.2.2.2.2.1, (cell_fr h.2.2.1 (by simp) h.2.2.2.1 0).trans h.2.2.2.2.2⟩
  calm := fun O M ph w w' h hF => ⟨h.1, h.2.1, h.2.2.1.trans hF, h.2.2.2⟩
  way1 := fun O M w h => absurd h.1 (by decide)
  way2 := fun O M w h => absurd h.1 (by decide)
  way3 := fun O M w h => absurd h.1 (by decide)
  way4 := fun O M w h => absurd h.1 (by decide)
  next := fun O M ph w h => absurd h (fun h => h)
theorem cIdle (kb hb N : Nat) (hN : N ≤ 100000) (w : World) (hk : kb < w.heap.size) (h6 : w.cell? ⟨kb, 6, none⟩ = some (.int .i64 0)) (h0 : w.cell? ⟨kb, 0, none⟩ = some (.pointer (some ⟨hb, 0, none⟩))) :
    Calls Tryz.prog 11 #[.pointer (some ⟨kb, 0, none⟩), .int .i64 N] w fun e w' => e = .returned (.int .i64 0) ∧ Fr [] w w' := by
  refine (cWork (idEng kb hb w) (fun _ => False) 0 0 N hN w ⟨rfl, fun _ h => h, Fr.refl _ _, hk, h6, h0⟩).mono ?_
  rintro e w' ⟨d, O', M', ph', rfl, -, hF, -, hi, -, -, -, hz⟩
  obtain ⟨-, rfl⟩ := hz rfl
  exact ⟨rfl, hi.2.2.1⟩
theorem PQ.nco {E : CE} {a : DA} {nn : Nat} {S : CY} {D : DPs} {w : World} (h : PQ E a nn S D w) {b : Nat} (hb : D.lab b ≠ 0) : ¬ FB E S b ∧ b < w.heap.size := by
  obtain ⟨h1, h2⟩ := h.j.dr.sep b hb
  exact ⟨h2, h1⟩
theorem PQ.frame {E : CE} {a : DA} {nn : Nat} {S : CY} {D : DPs} {w w' : World} (h : PQ E a nn S D w) (hf : FrP (FB E S) w w') : Fr [] a.w0 w' := by
  obtain ⟨-, h1, h2⟩ := h.j.dr.bx
  refine ⟨hf.os.trans h1.os, hf.tape.trans h1.tape, hf.output.trans h1.output, Nat.le_trans h1.size hf.size, fun k hk _ => ?_⟩
  obtain ⟨h3, h4⟩ := h.nco (b := k) (by rw [h2 k hk]; decide)
  exact (hf.block k h4 h3).trans (h1.block k hk (by simp))
theorem PQ.pb {E : CE} {a : DA} {nn : Nat} {S : CY} {D : DPs} {w w' : World} (h : PQ E a nn S D w) (hf : FrP (FB E S) w w') : PlBlk w' a.pb E.hb E.sb (.pointer (some ⟨E.kb, 0, none⟩)) a.wb D.wv D.km D.full := by
  have hp := h.j.dr.p
  rw [h.j.ah, h.j.asb, h.j.ak] at hp
  exact Blk.frp hp hf (h.nco (b := a.pb) (by rw [h.j.dr.lp]; decide)).1
theorem M0_none {E : CE} {a : DA} {S : CY} {D : DPs} {w : World} (h : PQ E a 0 S D w) (hgl : E.gl = []) (g : MG) : M0 E S g = 0 := by
  have h0 : S.obs = [] := List.eq_nil_of_length_eq_zero (by have := h.t.cnt; omega)
  have h1 : S.k.fs = [] := List.eq_nil_of_length_eq_zero (by have := h.t.cnt; omega)
  have h2 := h.j.ci.bLen none
  have h3 := h.t.rwl
  rw [h0] at h2 h3
  have h4 : (S.A none).B.length = 0 := by simpa using h2
  have h5 : S.rw.length = 0 := by simpa using h3
  unfold M0
  rw [hgl, h1, h0, h4, h5]
  rfl
set_option maxRecDepth 100000 in
set_option maxHeartbeats 3200000 in
theorem yAwake (w : World) : Calls Tryz.prog 8 #[] w fun e w' => e = .returned (.bool true) ∧ Fr [] w w' := by
  have hR : RightC ((60 : Nat) : Int) ((0 : Nat) : Int) [4] := ⟨by decide, by decide, by decide, by decide, by decide, by decide, by simp [Inc]⟩
  have hB := Blk.new w [.int .i64 4] 3
  have hr : RdAt (w.alloc (.cells #[.int .i64 4] 3)) w.heap.size 0 ([4].map (.int .i64)) := ⟨hB.lt, fun i v h => by rw [Nat.zero_add]; exact hB.cell h⟩
  have HK0 := hid ((Fr.refl [] w).alloc (.cells #[.int .i64 4] 3))
  have Hc := hid (yMade 60 0 0 0 0 0 [4] w.heap.size 0 1 0 _ hR hr (by decide) (fun _ _ => none) (List.range _) (fun _ _ _ h => by cases h) (fun b hb => List.mem_range.1 hb) (fun k hk => List.mem_range.2 hk))
  clear hR hB hr
  go_enter Tryz.func8, Tryz.ntmps8
  go_wp2_with fail
  refine Hc.out.mono ?_
  rintro e w1 ⟨E, a, S, D, rfl, hq, hkp, hgl, hw0⟩
  have hgl0 : E.gl = [] := List.eq_nil_of_length_eq_zero (by omega)
  have HQ := hid hq
  have HM := hid (M0_none hq hgl0 (gAll E S D.regs))
  have c2 := Blk.cell (hq.pb (FrP.refl _ _)) (i := 2) rfl
  have HW0 := hid hw0
  clear hq hkp hgl hgl0 Hc hw0
  go_wp2_with fail
  refine (pStartAll HQ.out (by decide)).mono ?_
  rintro e w2 ⟨rfl, hF2, hx, hinv⟩
  have c2b := Blk.cell (HQ.out.pb hF2) (i := 2) rfl
  have HF2 := hid hF2
  have HX := hid hx
  have HI := hid hinv
  clear hF2 hx hinv c2
  go_wp2_with fail
  refine (cWork (eEng E _ _ HX.out) _ _ _ 9 (by decide) w2 HI.out).mono ?_
  rintro e w3 ⟨d, O3, M3, ph3, rfl, hd, hF3, hO3, hI3, hM3, hd9, -⟩
  rw [HM.out] at hM3
  obtain rfl : d = 0 := by omega
  obtain rfl : ph3 = 0 := hd9 (by decide)
  have hF23 := HF2.out.step hF3 (fun x hx => .inl hx)
  have c2c := Blk.cell (HQ.out.pb hF23) (i := 2) rfl
  have HKF : Hid (Fr [] w w3) := hid (HK0.out.trans (by rw [← HW0.out]; exact HQ.out.frame hF23))
  obtain ⟨S3, hC3, hQ3, hp3, -⟩ := hI3
  have hcy := hQ3.cyc
  have hph : w3.cell? ⟨E.kb, 6, none⟩ = some (.int .i64 ((0 : Nat) : Int)) := by
    have := Blk.cell hC3.c (i := 6) rfl
    rw [this]
    show some (Value.int .i64 (S3.c.ph : Nat)) = _
    rw [hp3]
  have HPH := hid hph
  have HC3 := hid hC3.c
  have HCY : Hid (S3.c.cyc = 1) := hid (by
    rw [hcy, hp3]
    show S.c.cyc + 1 = 1
    rw [HQ.out.j.rvv.2])
  clear hM3 hd9 hd hF3 hO3 hF23 hC3 hQ3 hp3 hcy hph c2b
  go_wp2_with fail
  refine (cPhase E.kb 0 w3 HPH.out).mono ?_
  rintro e w4 ⟨rfl, he⟩
  subst he
  go_wp2_with fail
  have hcc := cCycles _ _ _ _ _ w3 HC3.out
  rw [HCY.out] at hcc
  refine hcc.mono ?_
  rintro e w4 ⟨rfl, he⟩
  subst he
  go_wp2_with fail
  go_ret
  exact ⟨rfl, HKF.out⟩
theorem CR.stack {E : CE} {S : CY} {w w' : World} (h : CR E S w) (hf : Fr [E.sb] w w') {k' : Sk} {P' : Nat → Prop} (hk : SkRep w' P' E.sb k') (hPm : ∀ b, S.P b → P' b) (hP' : ∀ b, P' b → S.P b ∨ (w.heap.size ≤ b ∧ b < w'.heap.size)) (htd : k'.todo ≤ k'.fs.length) : CR E { S with k := k', P := P' } w' := by
  have hsub : ∀ x ∈ [E.sb], CO E S x := fun x hx => .inr (.inr (.inr (.inl (List.mem_singleton.1 hx))))
  have hPn : ∀ b, S.P b → b < w.heap.size → b ∉ [E.sb] := fun b hb _ hc => (h.hP b hb).2 (hsub b hc)
  exact (h.go (S' := { S with k := k', P := P' }) hf hsub rfl (fun x hx => .inl hx) (fun x hx => .inl hx) h.x0 rfl rfl (h.hr.fr hf (fun x hx => by rw [List.mem_singleton.1 hx]; exact h.sa)) (Blk.fr h.m hf (by simpa using h.ms)) (h.c.fr hf (by simpa using h.ks)) (h.t.fr hf (by simpa using h.ts))
    hk ((h.f.fr hf hPn).mono hPm) (h.b.fr hf (h.bfr fun x hx => .inr (.inr (.inr (.inl (List.mem_singleton.1 hx)))))) (.inl rfl) hPm (fun b hb => (hP' b hb).imp id (fun k => ⟨k.1, k.2, fun hc => by have := h.all_lt (fp_all hc); omega, fun hc => by have := (h.b.lt b hc).2; omega⟩)) h.cyc htd).1
theorem CI.stack {S : CY} (h : CI S) (k' : Sk) (P' : Nat → Prop) : CI { S with k := k', P := P' } :=
  ⟨h.ph, h.mh, h.xok, h.wn, h.black, h.a0, h.nx0, h.cl, h.rch, h.qch, h.last, h.rin, h.qin, h.rnd, h.qnd, h.key, h.blen⟩
set_option maxRecDepth 100000 in
set_option maxHeartbeats 3200000 in
theorem yPop (E : CE) (a : DA) (nn : Nat) (S : CY) (D : DPs) (w : World) (h : PQ E a nn S D w) (r : Nat) (hr : r < 4) :
    Calls Tryz.prog 39 #[.pointer (some ⟨a.pb, 0, none⟩), .int .i64 r] w fun e w' => e = .returned (.bool true) ∧ ∃ S' D', PQ E a nn S' D' w' := by
  obtain ⟨hj, ht⟩ := h
  have c1 := Blk.cell hj.dr.p (i := 1) rfl
  rw [hj.asb] at c1
  have hsp : ¬ S.P E.sb := fun hc => (hj.cr.hP _ hc).2 (.inr (.inr (.inr (.inl rfl))))
  have Hsp := hid (sPop E.sb S.k S.P w hj.cr.k hsp (by rw [hj.used]; have := hj.fcnt; omega) (by rw [hj.todo]; exact Nat.zero_le _) (fun f hf => by rw [(hj.fr2 f hf).2.2]; decide))
  obtain ⟨AF, cF, eF⟩ : ∃ A c, D.c.fv = .slice A S.k.fs.length c := by
    obtain ⟨vs, v1, v2, -⟩ := hj.dr.fv
    obtain ⟨A, c, e⟩ := v1.form
    exact ⟨A, c, by rw [e, v2, List.length_map]⟩
  rcases List.eq_nil_or_concat S.k.fs with hfs | ⟨fs', f, hfs⟩
  · have htop : topF S.k.fs S.k.fs.length = none := by rw [hfs]; rfl
    rw [htop] at Hsp
    have HJ := hid hj
    have HT := hid ht
    have HFS := hid hfs
    rw [hfs] at eF
    have HEF := hid eF
    clear hj ht hfs htop hsp eF
    go_enter Tryz.func39, Tryz.ntmps39
    go_wp2_with fail
    refine Hsp.out.mono ?_
    rintro e w1 ⟨hF1, rfl, hk1⟩
    have hF2 : Fr [E.sb] w (w1.alloc (.cells #[.int .i64 0, .int .i64 0, .slice none 0 0] 95)) := hF1.alloc _
    have hk2 := hk1.fr ((Fr.refl [] w1).alloc (.cells #[.int .i64 0, .int .i64 0, .slice none 0 0] 95)) (by simp) (by simp)
    have hcr := HJ.out.cr.stack hF2 hk2 (fun b hb => hb) (fun b hb => .inl hb) (by rw [HJ.out.todo]; exact Nat.zero_le _)
    have hdr := HJ.out.dr.fr hF2 (fun x hx => HJ.out.fp0 x (.inl (.inr (.inr (.inr (.inl (List.mem_singleton.1 hx))))))) (wd' := S.s.wd) (fun _ _ _ _ => rfl) (F' := FB E S) (fun _ _ h => h)
    have d3 := Blk.cell hdr.p (i := 3) rfl
    have e3 := Blk.cell hdr.wb (i := 3) rfl
    rw [HEF.out] at e3
    have HFIN : Hid (PQ E a nn S D (w1.alloc (.cells #[.int .i64 0, .int .i64 0, .slice none 0 0] 95))) := hid ⟨⟨hcr, HJ.out.ci, hdr, HJ.out.ah, HJ.out.asb, HJ.out.ak, HJ.out.fr2, HJ.out.room, HJ.out.used, HJ.out.fcnt, HJ.out.todo, HJ.out.qu, HJ.out.wkg, HJ.out.bl, HJ.out.hkp, HJ.out.rvv⟩, HT.out⟩
    clear hF1 hk1 hF2 hk2 hcr hdr c1
    go_wp2_with fail
    go_ret
    exact ⟨rfl, S, D, HFIN.out⟩
  · have hfs' : S.k.fs = fs' ++ [f] := by rw [hfs, List.concat_eq_append]
    obtain ⟨fk, fn, fl⟩ := hj.fr2 f (by rw [hfs']; simp)
    obtain ⟨x, y, hxy⟩ : ∃ x y, f.l = [x, y] := by
      match hq : f.l, fl with
      | [x, y], _ => exact ⟨x, y, rfl⟩
    have htop : topF S.k.fs S.k.fs.length = some f := by
      unfold topF
      rw [hfs', List.length_append, List.length_singleton, if_neg (by omega)]
      simp
    rw [htop] at Hsp
    have hfl2 : f.l.length = 2 := by rw [hxy]; rfl
    simp only [fk, fn, hfl2] at Hsp
    simp only [hxy] at Hsp
    clear hfl2
    obtain ⟨N, hN⟩ : ∃ N, N = fs'.length := ⟨_, rfl⟩
    have hlen : S.k.fs.length = N + 1 := by rw [hfs', hN]; simp
    rw [hlen] at eF
    have hd0 : decide (S.k.fs.length - 1 < S.k.todo) = false := by rw [hj.todo]; simp
    simp only [hd0] at Hsp
    have hfv := hj.dr.fv
    rw [hfs', List.map_append, eF] at hfv
    obtain ⟨hfv1, gF, xF, rfl, hgF, hcF, hNl, hcell, hrd⟩ := hfv.pop
    rw [hxy] at hrd
    obtain ⟨Al, cl, el, hl1, hl2⟩ := hrd
    rw [el] at hcell
    obtain ⟨gl, ol, rfl, hgll, hglt, hx0⟩ := hl2 0 x rfl
    obtain ⟨_, _, e1, -, -, hy0⟩ := hl2 1 y rfl
    cases e1
    have hN9 : N ≤ 100 := by have := hj.fcnt; omega
    have HJ := hid hj
    have HT := hid ht
    have HFS := hid hfs'
    have HEF := hid eF
    have HFV1 := hid hfv1
    have HN := hid hN
    have HCELL := hid hcell
    have HX0 := hid hx0
    have HY0 := hid hy0
    have HGF := hid hgF
    have HGL : Hid (D.lab gl = 2 ∧ gl < w.heap.size) := hid ⟨hgll, hglt⟩
    have HXY := hid hxy
    have HFK : Hid (f.k = 2 ∧ f.n = 0) := hid ⟨fk, fn⟩
    have HLEN := hid hlen
    have HCF := hid hcF
    clear hj ht hfs hfs' htop hsp eF hfv hfv1 hN hcell hx0 hy0 hgF hgll hglt hl1 hl2 el fk fn fl hxy hlen hd0 hNl hcF
    go_enter Tryz.func39, Tryz.ntmps39
    go_wp2_with fail
    refine Hsp.out.mono ?_
    rintro e w1 ⟨hF1, g, rfl, hg, hGB, hk1⟩
    have hF2 : Fr [E.sb] w (w1.alloc (.cells #[.int .i64 2, .int .i64 0, .slice (some ⟨g, 0, none⟩) 2 2] 95)) := hF1.alloc _
    have hk2 : SkRep (w1.alloc (.cells #[.int .i64 2, .int .i64 0, .slice (some ⟨g, 0, none⟩) 2 2] 95)) S.P E.sb (S.k.pop f) := hk1.fr ((Fr.refl [] w1).alloc _) (by simp) (by simp)
    have hBox : Blk (w1.alloc (.cells #[.int .i64 2, .int .i64 0, .slice (some ⟨g, 0, none⟩) 2 2] 95)) w1.heap.size [.int .i64 2, .int .i64 0, .slice (some ⟨g, 0, none⟩) 2 2] 95 := Blk.new w1 _ _
    have hGB2 : Blk (w1.alloc (.cells #[.int .i64 2, .int .i64 0, .slice (some ⟨g, 0, none⟩) 2 2] 95)) g ([x, y].map (.int .i64)) 2 := hGB.alloc _
    have hcr := HJ.out.cr.stack hF2 hk2 (fun b hb => hb) (fun b hb => .inl hb) (by show min S.k.todo _ ≤ _; rw [HJ.out.todo]; simp)
    have hdr := HJ.out.dr.fr hF2 (fun x hx => HJ.out.fp0 x (.inl (.inr (.inr (.inr (.inl (List.mem_singleton.1 hx))))))) (wd' := S.s.wd) (fun _ _ _ _ => rfl) (F' := FB E S) (fun _ _ h => h)
    have d3 := Blk.cell hdr.p (i := 3) rfl
    have e3 := Blk.cell hdr.wb (i := 3) rfl
    rw [HEF.out] at e3
    have f0 := hBox.cell (i := 2) rfl
    have HCR := hid hcr
    have HDR := hid hdr
    have HBOX := hid hBox
    have HGB := hid hGB2
    have HF2 := hid hF2
    have hgw : w.heap.size ≤ g := hg
    have HG := hid hgw
    have hw1 : w.heap.size ≤ w1.heap.size := hF1.size
    have HW1 := hid hw1
    have HSF := hid (cell_fr hF2 (b := gF) (fun hc => (HJ.out.nfb (HJ.out.dr.lf gF (by rw [HEF.out]; rfl)) (by decide)) (.inl (.inr (.inr (.inr (.inl (List.mem_singleton.1 hc))))))) HGF.out N)
    clear hF1 hg hGB hk1 hF2 hk2 hBox hGB2 hcr hdr c1 hgw hw1
    have k1 := HSF.out.trans HCELL.out
    simp only [List.length_cons, List.length_nil, Nat.zero_add] at k1
    go_wp2_with fail
    obtain ⟨W2, hW2⟩ : ∃ W2, W2 = (w1.alloc (.cells #[.int .i64 2, .int .i64 0, .slice (some ⟨g, 0, none⟩) 2 2] 95)) := ⟨_, rfl⟩
    rw [← hW2] at HCR HDR HBOX HGB HF2 d3 e3 f0 k1 ⊢
    clear hW2
    have y3 := Blk.frozen HDR.out.wb 3
    have i1 : (0 : Int) ≤ (N : Int) := by omega
    have i2 : (N : Int) ≤ (cF : Int) := by have := HCF.out; omega
    have ew : IntKind.i64.wrap (N : Int) = (N : Int) := by rw [IntKind.wrap_i64]; omega
    go_region
    obtain ⟨W3, hW3⟩ : ∃ W3, W3 = (W2.setCell ⟨a.wb, 3, none⟩ (.slice (some ⟨gF, 0, none⟩) N cF)).drew := ⟨_, rfl⟩
    have hfvW : FrV W2 (fun b => D.lab b = 2) (.slice (some ⟨gF, 0, none⟩) N cF) (fs'.map Fm.l) := HFV1.out.fr HF2.out (fun g' hg' hc => by
        cases hg'
        exact (HJ.out.nfb (HJ.out.dr.lf gF (by rw [HEF.out]; rfl)) (by decide)) (.inl (.inr (.inr (.inr (.inl (List.mem_singleton.1 hc)))))))
      (fun b hb _ hc => (HJ.out.nfb hb (by decide)) (.inl (.inr (.inr (.inr (.inl (List.mem_singleton.1 hc)))))))
    obtain ⟨lab', hdr3⟩ := HDR.out.setFv (w9 := W2) (fun b hb => by have := HJ.out.cr.fbl b hb; have := HF2.out.size; omega) (Fr.refl _ W2) hfvW (fun b hb => .inl hb) (.inl (by rw [HEF.out]; rfl))
    have hdr3' := hdr3.fr ((Fr.refl [] _).drew) (by simp) (wd' := S.s.wd) (fun _ _ _ _ => rfl) (F' := FB E S) (fun _ _ h => h)
    have hFs : Fr [a.wb] W2 W3 := by rw [hW3]; exact ((Fr.refl _ W2).set (by simp) _).drew
    rw [← hW3] at hdr3' ⊢
    clear hdr3 hW3 hfvW e3 k1 d3
    have hwfb := HJ.out.nfb HJ.out.dr.lw (by decide)
    have hcr3 := HCR.out.fr hFs (fun x hx => by
      rw [List.mem_singleton.1 hx]
      exact ⟨fun hc => hwfb (.inl hc), fun hc => hwfb (.inr (.inl hc)), fun hc => hwfb (.inr (.inr hc))⟩)
    have hwlt : a.wb < w.heap.size := (HJ.out.dr.sep a.wb (by rw [HJ.out.dr.lw]; decide)).1
    have hbx := HBOX.out.fr hFs (by simp; have := HW1.out; omega)
    have f0 := hbx.cell (i := 2) rfl
    have hgb3 := HGB.out.fr hFs (by simp; have := HG.out; omega)
    have m0 := hgb3.cell (i := 0) (v := .int .i64 x) rfl
    have m1 := hgb3.cell (i := 1) (v := .int .i64 y) rfl
    have hlw : gl ∉ [E.sb] := fun hc => (HJ.out.nfb HGL.out.1 (by decide)) (.inl (.inr (.inr (.inr (.inl (List.mem_singleton.1 hc))))))
    have hlw2 : gl ∉ [a.wb] := fun hc => by have h1 := HGL.out.1; rw [List.mem_singleton.1 hc, HJ.out.dr.lw] at h1; exact absurd h1 (by decide)
    have hgl2 : gl < W2.heap.size := Nat.lt_of_lt_of_le HGL.out.2 HF2.out.size
    have n0 := (cell_fr hFs hlw2 hgl2 (ol + 0)).trans ((cell_fr HF2.out hlw HGL.out.2 (ol + 0)).trans HX0.out)
    have n1 := (cell_fr hFs hlw2 hgl2 (ol + 1)).trans ((cell_fr HF2.out hlw HGL.out.2 (ol + 1)).trans HY0.out)
    rw [Nat.add_zero] at n0
    have d3 := Blk.cell hdr3'.p (i := 3) rfl
    have e2 := Blk.cell hdr3'.wb (i := 2) rfl
    rw [HJ.out.dr.rv] at e2
    have HCR3 := hid hcr3
    have HDR3 := hid hdr3'
    have HR4 : Hid (r < 4) := hid hr
    clear hcr3 hdr3' hFs hbx hgb3 hlw hlw2 hgl2 hwlt hwfb y3
    go_wp2_with fail
    go_quiet (fail)
    go_wp2_with fail
    have hrl := HDR3.out.rl
    obtain ⟨u, hu⟩ : ∃ u, D.regs[r]? = some u := ⟨_, List.getElem?_eq_getElem (by have := HR4.out; show r < D.regs.length; rw [show D.regs.length = 4 from hrl]; exact this)⟩
    have q1 := Blk.cell HDR3.out.rb (i := r) (v := .int .i64 u) (by rw [List.getElem?_map]; show (D.regs[r]?).map _ = _; rw [hu]; rfl)
    have q2 := Blk.frozen HDR3.out.rb r
    have g1 : decide ((r : Int) < 0) = false := by simp
    have g2 : decide ((4 : Int) ≤ (r : Int)) = false := by have := HR4.out; simp; omega
    have j1 : (0 : Int) ≤ (r : Int) := by omega
    have j2 : (r : Int) < 4 := by have := HR4.out; omega
    clear hrl hu hr
    have hpf : (S.k.pop f).fs = fs' := by
      show S.k.fs.dropLast = fs'
      rw [HFS.out, List.dropLast_concat]
    have hvx : Val S.obs x ∧ Val S.obs y := by
      have := HT.out.fs f (by rw [HFS.out]; simp)
      exact ⟨this x (by rw [HXY.out]; simp), this y (by rw [HXY.out]; simp)⟩
    have hrest : ∀ W4, Fr [a.rb] W3 W4 → Blk W4 a.rb ((D.regs.set r x).map (.int .i64)) 2 → ∃ S' D', PQ E a nn S' D' W4 := by
      intro W4 hF4 hB4
      have hdr4 := HDR3.out.setReg hF4 hB4 (by rw [List.length_set]; exact HJ.out.dr.rl)
      have hrn := HJ.out.nfb HJ.out.dr.lr (by decide)
      have hcr4 := HCR3.out.fr hF4 (fun z hz => by
        rw [List.mem_singleton.1 hz]
        exact ⟨fun hc => hrn (.inl hc), fun hc => hrn (.inr (.inl hc)), fun hc => hrn (.inr (.inr hc))⟩)
      have hpt1 := HT.out.frames (S.k.pop f) S.P (nn' := nn) (by rw [hpf]; exact fun f' hf' z hz => HT.out.fs f' (by rw [HFS.out]; simp [hf']) z hz) (by rw [hpf]; have := HT.out.cnt; rw [HFS.out, List.length_append] at this; omega)
      have hpt := hpt1.reg (regs' := D.regs.set r x) (fun z hz => by
        rcases List.mem_or_eq_of_mem_set hz with h1 | h1
        · exact HT.out.rgs z h1
        · rw [h1]; exact hvx.1) (by rw [List.length_set]; exact HT.out.rl)
      refine ⟨{ S with k := S.k.pop f, P := S.P }, { D with c := { D.c with fv := .slice (some ⟨gF, 0, none⟩) N cF }, lab := lab', regs := D.regs.set r x }, ⟨hcr4, HJ.out.ci.stack _ _, ?_, HJ.out.ah, HJ.out.asb, HJ.out.ak, ?_, HJ.out.room, ?_, ?_, ?_, HJ.out.qu, HJ.out.wkg, HJ.out.bl, HJ.out.hkp, HJ.out.rvv⟩, hpt⟩
      · show DR (FB E S) a S.obs S.s.wd E.gl ((S.k.pop f).fs.map Fm.l) (S.rw.map Ob.p) (S.rw.reverse.map Ob.p) _ W4
        rw [hpf]
        exact hdr4
      · intro f' hf'
        exact HJ.out.fr2 f' (by rw [HFS.out]; rw [show ({ S with k := S.k.pop f, P := S.P } : CY).k.fs = fs' from hpf] at hf'; simp [hf'])
      · show S.k.used - (f.l.length + 2) = 4 * (S.k.pop f).fs.length
        rw [hpf, HJ.out.used, HLEN.out, HXY.out, HN.out]
        simp
        omega
      · show (S.k.pop f).fs.length ≤ 100
        rw [hpf]; have := HJ.out.fcnt; rw [HLEN.out, HN.out] at this; omega
      · show min S.k.todo _ = 0
        rw [HJ.out.todo]; simp
    have HREST := hid hrest
    clear hpf hvx hrest
    go_region
    obtain ⟨W4, hW4⟩ : ∃ W4, W4 = (W3.drewN (nq + 1)).setCell ⟨a.rb, r, none⟩ (.int .i64 x) := ⟨_, rfl⟩
    have HFIN := hid (HREST.out W4 (by rw [hW4]; exact ((Fr.refl _ W3).drewN _).set (by simp) _) (by
      rw [hW4, List.map_set]
      exact (HDR3.out.rb.fr ((Fr.refl [] W3).drewN (nq + 1)) (by simp)).set r _))
    rw [← hW4]
    clear hW4
    go_wp2_with fail
    go_ret
    exact ⟨rfl, HFIN.out⟩
end Go.Proofs.YtklnpooninbogaaGreat
