
import Derived.Test.YtklnpooninbogaaGreatMYPPop
import Derived.Test.YtklnpooninbogaaGreatYPWeak2
import Derived.IntWalk
namespace Go.Proofs.YtklnpooninbogaaGreat
open Go Go.Proofs Go.RowKit
def pkN (n : Int) (of : Nat) : Nat := (pk n of).toNat
theorem pkN_lt (n : Int) {of : Nat} (h : 0 < of) : pkN n of < of := by
  obtain ⟨k, h1, h2⟩ := pk_in n h
  unfold pkN; omega
theorem yPickN (n : Int) (of : Nat) (h0 : 0 < of) (h1 : of ≤ 1000) (w : World) :
    Calls Tryz.prog 26 #[.int .i64 n, .int .i64 of] w fun e w' => e = .returned (.int .i64 (pkN n of)) ∧ w' = w := by
  refine (yPick n of h0 h1 w).mono ?_
  rintro e w' ⟨rfl, h⟩
  obtain ⟨k, h2, h3⟩ := pk_in n h0
  refine ⟨?_, h⟩
  unfold pkN
  rw [h2]; simp
theorem RdS.cut {w : World} {P : Nat → Prop} {v : Value} {l : List Int} (h : RdS w P v l) : RdS w (fun b => P b ∧ b < w.heap.size) v l := by
  obtain ⟨A, c, e, hl, h⟩ := h
  exact ⟨A, c, e, hl, fun i x hx => by obtain ⟨g, o, e, p, h1, h2⟩ := h i x hx; exact ⟨g, o, e, ⟨p, h1⟩, h1, h2⟩⟩
theorem SkRep.cut {w : World} {P : Nat → Prop} {sb : Nat} {s : Sk} (h : SkRep w P sb s) : SkRep w (fun b => P b ∧ b < w.heap.size) sb s := by
  obtain ⟨lv, h1, A, c, e, h2, h3, h4⟩ := h
  refine ⟨lv, h1, A, c, e, h2, h3, fun i f hf => ?_⟩
  obtain ⟨g, o, e1, e2, e3, e4, e5, sv, e6, e7⟩ := h4 i f hf
  exact ⟨g, o, e1, ⟨e2, e3⟩, e3, e4, e5, sv, e6, e7.cut⟩
theorem and255 (x : Int) : ∃ m : Int, bits BinOp.and IntKind.i64 x 255 = m ∧ 0 ≤ m ∧ m < 256 := by
  have h : ((BitVec.ofInt 64 x &&& BitVec.ofInt 64 255).toNat) ≤ 255 := by
    rw [BitVec.toNat_and]
    exact Nat.and_le_right
  refine ⟨((BitVec.ofInt 64 x &&& BitVec.ofInt 64 255).toNat : Int), ?_, by omega, by omega⟩
  show IntKind.i64.wrap ((BitVec.ofInt 64 x &&& BitVec.ofInt 64 255).toNat : Int) = _
  rw [IntKind.wrap_i64]
  omega
theorem fieldKd (k n a mk : Int) (w : World) : (Instr.field 73 (.agg #[.int .i64 k, .int .i64 n, .int .i64 a, .int .i64 mk]) 0).run Tryz.prog w = .ok (.int .i64 k) w := by kernel_rfl
def StPost (E : CE) (a : DA) (nn : Nat) (e : Ending) (w' : World) : Prop := e = .returned (.bool true) ∧ ∃ S' D', PQ E a (nn + 1) S' D' w'
set_option maxRecDepth 100000 in
set_option maxHeartbeats 6400000 in
theorem yStep (E : CE) (a : DA) (nn : Nat) (S : CY) (D : DPs) (w : World) (h : PQ E a nn S D w) (hnn : nn ≤ 110) (x : Int) (hx : -9223372036854775808 ≤ x ∧ x ≤ 9223372036854775807) :
    Calls Tryz.prog 13 #[.pointer (some ⟨a.pb, 0, none⟩), .int .i64 x] w (StPost E a nn) := by
  obtain ⟨hj, ht⟩ := h
  have hx10 : IntKind.i64.wrap (x.tdiv 10) = x.tdiv 10 := IntWalk.i64_quo' x 10 ⟨hx.1, hx.2, by decide⟩
  have hx40 : IntKind.i64.wrap (x.tdiv 40) = x.tdiv 40 := IntWalk.i64_quo' x 40 ⟨hx.1, hx.2, by decide⟩
  have hx160 : IntKind.i64.wrap (x.tdiv 160) = x.tdiv 160 := IntWalk.i64_quo' x 160 ⟨hx.1, hx.2, by decide⟩
  have hx200 : IntKind.i64.wrap (x.tdiv 200) = x.tdiv 200 := IntWalk.i64_quo' x 200 ⟨hx.1, hx.2, by decide⟩
  obtain ⟨r, hr⟩ : ∃ r, r = pkN (x.tdiv 10) 4 := ⟨_, rfl⟩
  obtain ⟨rb, hrb⟩ : ∃ rb, rb = pkN (x.tdiv 40) 4 := ⟨_, rfl⟩
  obtain ⟨kk, hkk⟩ : ∃ kk, kk = pkN (x.tdiv 160) 3 := ⟨_, rfl⟩
  obtain ⟨cc, hcc⟩ : ∃ cc, cc = pkN x 10 := ⟨_, rfl⟩
  have hr4 : r < 4 := hr ▸ pkN_lt _ (by decide)
  have hrb4 : rb < 4 := hrb ▸ pkN_lt _ (by decide)
  have hkk3 : kk < 3 := hkk ▸ pkN_lt _ (by decide)
  have hcc10 : cc < 10 := hcc ▸ pkN_lt _ (by decide)
  have P1 := hid (fun wx => yPickN (x.tdiv 10) 4 (by decide) (by decide) wx)
  have P2 := hid (fun wx => yPickN (x.tdiv 40) 4 (by decide) (by decide) wx)
  have P3 := hid (fun wx => yPickN (x.tdiv 160) 3 (by decide) (by decide) wx)
  have P4 := hid (fun wx => yPickN x 10 (by decide) (by decide) wx)
  rw [← hr] at P1
  rw [← hrb] at P2
  rw [← hkk] at P3
  rw [← hcc] at P4
  have hrl := hj.dr.rl
  obtain ⟨ra, hra⟩ : ∃ u, D.regs[r]? = some u := ⟨_, List.getElem?_eq_getElem (by omega)⟩
  obtain ⟨va, hva⟩ : ∃ u, D.regs[rb]? = some u := ⟨_, List.getElem?_eq_getElem (by omega)⟩
  have c3 := Blk.cell hj.dr.p (i := 3) rfl
  have c2 := Blk.cell hj.dr.wb (i := 2) rfl
  rw [hj.dr.rv] at c2
  have q1 := Blk.cell hj.dr.rb (i := r) (v := .int .i64 ra) (by rw [List.getElem?_map, hra]; rfl)
  have q2 := Blk.cell hj.dr.rb (i := rb) (v := .int .i64 va) (by rw [List.getElem?_map, hva]; rfl)
  have hav : Val S.obs ra := ht.rgs ra (List.mem_of_getElem? hra)
  have hbv : Val S.obs va := ht.rgs va (List.mem_of_getElem? hva)
  have i1 : (0 : Int) ≤ (r : Int) := by omega
  have i2 : (r : Int) < 4 := by omega
  have i3 : (0 : Int) ≤ (rb : Int) := by omega
  have i4 : (rb : Int) < 4 := by omega
  have HJ := hid hj
  have HT := hid ht
  have HAV := hid hav
  have HBV := hid hbv
  have HR4 := hid hr4
  have HKK := hid hkk3
  have HRA := hid hra
  have HX := hid hx
  clear hj ht hav hbv hr hrb hkk hcc hr4 hrb4 hkk3 hrl hra hva hx
  go_enter Tryz.func13, Tryz.ntmps13
  go_wp2_with fail
  refine (P1.out _).mono ?_
  rintro e w1 ⟨rfl, rfl⟩
  go_wp2_with fail
  go_quiet (first | (go_at_call 26; exact Calls.quiet_of_same (P2.out _)))
  go_wp2_with fail
  refine (P3.out _).mono ?_
  rintro e w2 ⟨rfl, rfl⟩
  obtain ⟨W0, hW0⟩ : ∃ W0, W0 = w1.drewN nq := ⟨_, rfl⟩
  have hq0 : PQ E a nn S D W0 := (PQ.calm ⟨HJ.out, HT.out⟩ (by rw [hW0]; exact (Fr.refl [] _).drewN _))
  rw [← hW0]
  have HQ0 := hid hq0
  clear hq0 hW0 c3 c2 q1 q2
  go_wp2_with fail
  refine (P4.out _).mono ?_
  rintro e w3 ⟨rfl, hw3⟩
  have hw3' := hw3.symm
  subst hw3'
  clear hw3
  have p3 := Blk.cell HQ0.out.j.dr.p (i := 3) rfl
  have p2 := Blk.cell HQ0.out.j.dr.p (i := 2) rfl
  have p0 := Blk.cell HQ0.out.j.dr.p (i := 0) rfl
  have p1 := Blk.cell HQ0.out.j.dr.p (i := 1) rfl
  have v2 := Blk.cell HQ0.out.j.dr.wb (i := 2) rfl
  rw [HJ.out.dr.rv] at v2
  rw [HJ.out.ak] at p2
  rw [HJ.out.ah] at p0
  rw [HJ.out.asb] at p1
  have v0 := Blk.cell HQ0.out.j.dr.wb (i := 0) rfl
  obtain rfl | rfl | rfl | rfl | rfl | rfl | rfl | rfl | rfl | rfl : cc = 0 ∨ cc = 1 ∨ cc = 2 ∨ cc = 3 ∨ cc = 4 ∨ cc = 5 ∨ cc = 6 ∨ cc = 7 ∨ cc = 8 ∨ cc = 9 := by omega
  · -- a constructor comes
    have P5 := hid (fun wx => yPickN (x.tdiv 40) 5 (by decide) (by decide) wx)
    have P6 := hid (fun wx => yPickN (x.tdiv 200) 9 (by decide) (by decide) wx)
    obtain ⟨k5, hk5⟩ : ∃ k, k = pkN (x.tdiv 40) 5 := ⟨_, rfl⟩
    obtain ⟨k9, hk9⟩ : ∃ k, k = pkN (x.tdiv 200) 9 := ⟨_, rfl⟩
    have hk5l : k5 < 5 := hk5 ▸ pkN_lt _ (by decide)
    rw [← hk5] at P5
    rw [← hk9] at P6
    obtain ⟨aux, haux, ha0, ha1⟩ := and255 x
    clear hk5 hk9
    go_wp2_with fail
    refine (P5.out _).mono ?_
    rintro e w4 ⟨rfl, hw4⟩
    have hw4' := hw4.symm
    subst hw4'
    clear hw4
    go_wp2_with fail
    refine (P6.out _).mono ?_
    rintro e w4 ⟨rfl, hw4⟩
    have hw4' := hw4.symm
    subst hw4'
    clear hw4
    by_cases h9 : k9 = 0
    · subst h9
      have hd : Hd 1 (10 : Nat) aux S.s.parity := ⟨by decide, by decide, by have := HJ.out.ci.mh.par; omega, by have := HJ.out.ci.mh.par; omega, by omega, by omega, by omega, by omega⟩
      have HA := hid (jAlloc E a S _ _ D W0 HQ0.out.j (HT.out.rg HJ.out.ci (by omega) (fun f hf => (HJ.out.fr2 f hf).2.2)) 1 aux 10 hd)
      rw [← haux] at HA
      have e9 : (0 : Nat) = 0 := rfl
      have HAUX := hid (And.intro haux (And.intro ha0 ha1))
      clear hd haux ha0 ha1 p0 p1 p2 p3 v0 v2
      go_wp2_with fail
      refine HA.out.mono ?_
      rintro e w4 (⟨rfl, hj4⟩ | ⟨q, p, s1, A1, z1, g, rfl, hne, hw1, hz1, hp1, hj4⟩)
      · have c6 := Blk.cell hj4.dr.p (i := 6) rfl
        have HFIN : Hid (StPost E a nn (.returned (.bool true)) w4) := hid ⟨rfl, S, _, hj4, HT.out.le (Nat.le_succ nn)⟩
        clear hj4
        go_wp2_with fail
        go_ret
        exact HFIN.out
      · rw [HAUX.out.1] at hz1 hj4
        have hpt4 := HT.out.new (q := q) (A' := A1) (z' := z1) HJ.out.ci (by omega) (by have := HAUX.out.2; omega) hne hw1 hz1
        have HJ4 := hid hj4
        have HT4 := hid hpt4
        have HNE := hid hne
        clear hj4 hpt4 hne hw1 hz1 hp1
        go_wp2_with fail
        go_loopw [12] (fun jv wr => ∃ (j : Nat) (s2 : HS), jv = .int .i64 j ∧ j ≤ 4 ∧ j ≤ 10 ∧ PJ E a { S with s := s2, A := A1, z := z1, obs := S.obs ++ [⟨q, p, 1, (10 : Nat), aux, 0⟩] } (S.rw.map Ob.p) (S.rw.reverse.map Ob.p) { D with m := mput D.m p (obV 1 ((10 : Nat) : Int) aux 0 g 10), G := fun x => if x = p then g else D.G x, lab := labU D.lab g (10 + p) } wr ∧ PT { S with s := s2, A := A1, z := z1, obs := S.obs ++ [⟨q, p, 1, (10 : Nat), aux, 0⟩] } E.gl D.regs D.kml (nn + 1)) (fun jv _ => 4 - (intOf jv).toNat)
        case atStart => exact ⟨0, s1, rfl, by omega, by omega, HJ4.out, HT4.out⟩
        case round =>
          obtain ⟨j, s2, rfl, hj4, hjs, hjr, htr⟩ := hrel
          have p3 := Blk.cell hjr.dr.p (i := 3) rfl
          have v2 := Blk.cell hjr.dr.wb (i := 2) rfl
          rw [show ({ D with m := mput D.m p (obV 1 ((10 : Nat) : Int) aux 0 g 10), G := fun x => if x = p then g else D.G x, lab := labU D.lab g (10 + p) } : DPs).c.rv = .slice (some ⟨a.rb, 0, none⟩) 4 4 from HJ.out.dr.rv] at v2
          have HJR := hid hjr
          have HTR := hid htr
          clear hjr htr
          by_cases hlt : j < 10 ∧ j < 4
          · obtain ⟨h1, h2⟩ := hlt
            have h1' : (j : Int) < 10 := by omega
            have h2' : (j : Int) < 4 := by omega
            have h3' : (0 : Int) ≤ (j : Int) := by omega
            obtain ⟨u, hu⟩ : ∃ u, D.regs[j]? = some u := ⟨_, List.getElem?_eq_getElem (by have := HJ.out.dr.rl; omega)⟩
            have n1 := Blk.cell HJR.out.dr.rb (i := j) (v := .int .i64 u) (by rw [List.getElem?_map]; show (D.regs[j]?).map _ = _; rw [hu]; rfl)
            have ho1 : (⟨q, p, 1, (10 : Nat), aux, 0⟩ : Ob) ∈ S.obs ++ [⟨q, p, 1, (10 : Nat), aux, 0⟩] := List.mem_append_right _ (List.mem_singleton.2 rfl)
            have hvu : Val (S.obs ++ [⟨q, p, 1, (10 : Nat), aux, 0⟩]) u := (HT.out.rgs u (List.mem_of_getElem? hu)).app _
            have HS := hid (jSet E a _ _ _ _ wr HJR.out ⟨q, p, 1, (10 : Nat), aux, 0⟩ ho1 j h1 u hvu.ob (fun hc => absurd rfl (HNE.out _ (HJ.out.ci.rin _ hc).1)))
            have HO1 := hid (And.intro ho1 hvu)
            have HLT := hid (And.intro h1 h2)
            clear hu ho1 hvu h1 h2
            go_wp2_with fail
            refine HS.out.mono ?_
            rintro e w5 ⟨rfl, s5, hw5, -, hj5⟩
            have HJ5 := hid hj5
            have HT5 := hid (HTR.out.put HJR.out.ci HO1.out.1 (.inl rfl) HO1.out.2 hw5)
            clear hw5 hj5
            go_wp2_with fail
            go_roundw
            case rel => exact ⟨j + 1, s5, by go_num, by have := HLT.out; omega, by have := HLT.out; omega, HJ5.out, HT5.out⟩
            case measure => have := HLT.out; simp [intOf]; omega
          · have n1 := Blk.cell HJR.out.dr.rb (i := r) (v := .int .i64 ra) (by rw [List.getElem?_map]; show (D.regs[r]?).map _ = _; rw [HRA.out]; rfl)
            have n2 := Blk.frozen HJR.out.dr.rb r
            have hrest : StPost E a nn (.returned (.bool true)) (wr.setCell ⟨a.rb, r, none⟩ (.int .i64 p)) := by
              have hF : Fr [a.rb] wr (wr.setCell ⟨a.rb, r, none⟩ (.int .i64 p)) := (Fr.refl _ wr).set (by simp) _
              have hdr := HJR.out.dr.setReg (regs' := D.regs.set r p) hF (by rw [List.map_set]; exact HJR.out.dr.rb.set r _) (by rw [List.length_set]; exact HJ.out.dr.rl)
              have hrn := HJR.out.nfb HJR.out.dr.lr (by decide)
              have hcr := HJR.out.cr.fr hF (fun z hz => by
                rw [List.mem_singleton.1 hz]
                exact ⟨fun hc => hrn (.inl hc), fun hc => hrn (.inr (.inl hc)), fun hc => hrn (.inr (.inr hc))⟩)
              have hpt := HTR.out.reg (regs' := D.regs.set r p) (fun z hz => by
                rcases List.mem_or_eq_of_mem_set hz with h1 | h1
                · exact (HT.out.rgs z h1).app _
                · rw [h1]; exact .inr ⟨_, List.mem_append_right _ (List.mem_singleton.2 rfl), rfl, .inl rfl⟩) (by rw [List.length_set]; exact HT.out.rl)
              exact ⟨rfl, _, { D with m := mput D.m p (obV 1 ((10 : Nat) : Int) aux 0 g 10), G := fun x => if x = p then g else D.G x, lab := labU D.lab g (10 + p), regs := D.regs.set r p }, ⟨hcr, HJR.out.ci, hdr, HJ.out.ah, HJ.out.asb, HJ.out.ak, HJ.out.fr2, HJ.out.room, HJ.out.used, HJ.out.fcnt, HJ.out.todo, HJ.out.qu, HJ.out.wkg, HJ.out.bl, HJ.out.hkp, HJ.out.rvv⟩, hpt⟩
            have HREST := hid hrest
            clear hrest
            by_cases h1 : j < 10
            · have h1' : (j : Int) < 10 := by omega
              have h2' : ¬ (j : Int) < 4 := by omega
              clear hlt h1
              go_wp2_with fail
              go_ret
              exact HREST.out
            · have h1' : ¬ (j : Int) < 10 := by omega
              exfalso; omega
    · have h9' : ¬ (k9 : Int) = 0 := by omega
      have hd : Hd 1 (1 + k5 : Nat) aux S.s.parity := ⟨by decide, by decide, by have := HJ.out.ci.mh.par; omega, by have := HJ.out.ci.mh.par; omega, by omega, by omega, by omega, by omega⟩
      have HA := hid (jAlloc E a S _ _ D W0 HQ0.out.j (HT.out.rg HJ.out.ci (by omega) (fun f hf => (HJ.out.fr2 f hf).2.2)) 1 aux (1 + k5) hd)
      rw [← haux] at HA
      rw [show ((1 + k5 : Nat) : Int) = 1 + (k5 : Int) by omega] at HA
      have HAUX := hid (And.intro haux (And.intro ha0 ha1))
      clear hd haux ha0 ha1 p0 p1 p2 p3 v0 v2
      go_wp2_with fail
      refine HA.out.mono ?_
      rintro e w4 (⟨rfl, hj4⟩ | ⟨q, p, s1, A1, z1, g, rfl, hne, hw1, hz1, hp1, hj4⟩)
      · have c6 := Blk.cell hj4.dr.p (i := 6) rfl
        have HFIN : Hid (StPost E a nn (.returned (.bool true)) w4) := hid ⟨rfl, S, _, hj4, HT.out.le (Nat.le_succ nn)⟩
        clear hj4
        go_wp2_with fail
        go_ret
        exact HFIN.out
      · rw [HAUX.out.1] at hz1 hj4
        have hpt4 := HT.out.new (q := q) (A' := A1) (z' := z1) HJ.out.ci (by omega) (by have := HAUX.out.2; omega) hne hw1 hz1
        have HJ4 := hid hj4
        have HT4 := hid hpt4
        have HNE := hid hne
        clear hj4 hpt4 hne hw1 hz1 hp1
        go_wp2_with fail
        go_loopw [12] (fun jv wr => ∃ (j : Nat) (s2 : HS), jv = .int .i64 j ∧ j ≤ 4 ∧ j ≤ 1 + k5 ∧ PJ E a { S with s := s2, A := A1, z := z1, obs := S.obs ++ [⟨q, p, 1, (1 + k5 : Nat), aux, 0⟩] } (S.rw.map Ob.p) (S.rw.reverse.map Ob.p) { D with m := mput D.m p (obV 1 ((1 + k5 : Nat) : Int) aux 0 g (1 + k5)), G := fun x => if x = p then g else D.G x, lab := labU D.lab g (10 + p) } wr ∧ PT { S with s := s2, A := A1, z := z1, obs := S.obs ++ [⟨q, p, 1, (1 + k5 : Nat), aux, 0⟩] } E.gl D.regs D.kml (nn + 1)) (fun jv _ => 4 - (intOf jv).toNat)
        case atStart => exact ⟨0, s1, rfl, by omega, by omega, HJ4.out, HT4.out⟩
        case round =>
          obtain ⟨j, s2, rfl, hj4, hjs, hjr, htr⟩ := hrel
          have p3 := Blk.cell hjr.dr.p (i := 3) rfl
          have v2 := Blk.cell hjr.dr.wb (i := 2) rfl
          rw [show ({ D with m := mput D.m p (obV 1 ((1 + k5 : Nat) : Int) aux 0 g (1 + k5)), G := fun x => if x = p then g else D.G x, lab := labU D.lab g (10 + p) } : DPs).c.rv = .slice (some ⟨a.rb, 0, none⟩) 4 4 from HJ.out.dr.rv] at v2
          have HJR := hid hjr
          have HTR := hid htr
          clear hjr htr
          by_cases hlt : j < 1 + k5 ∧ j < 4
          · obtain ⟨h1, h2⟩ := hlt
            have h1' : (j : Int) < 1 + (k5 : Int) := by omega
            have h2' : (j : Int) < 4 := by omega
            have h3' : (0 : Int) ≤ (j : Int) := by omega
            obtain ⟨u, hu⟩ : ∃ u, D.regs[j]? = some u := ⟨_, List.getElem?_eq_getElem (by have := HJ.out.dr.rl; omega)⟩
            have n1 := Blk.cell HJR.out.dr.rb (i := j) (v := .int .i64 u) (by rw [List.getElem?_map]; show (D.regs[j]?).map _ = _; rw [hu]; rfl)
            have ho1 : (⟨q, p, 1, (1 + k5 : Nat), aux, 0⟩ : Ob) ∈ S.obs ++ [⟨q, p, 1, (1 + k5 : Nat), aux, 0⟩] := List.mem_append_right _ (List.mem_singleton.2 rfl)
            have hvu : Val (S.obs ++ [⟨q, p, 1, (1 + k5 : Nat), aux, 0⟩]) u := (HT.out.rgs u (List.mem_of_getElem? hu)).app _
            have HS := hid (jSet E a _ _ _ _ wr HJR.out ⟨q, p, 1, (1 + k5 : Nat), aux, 0⟩ ho1 j h1 u hvu.ob (fun hc => absurd rfl (HNE.out _ (HJ.out.ci.rin _ hc).1)))
            have HO1 := hid (And.intro ho1 hvu)
            have HLT := hid (And.intro h1 h2)
            clear hu ho1 hvu h1 h2
            go_wp2_with fail
            refine HS.out.mono ?_
            rintro e w5 ⟨rfl, s5, hw5, -, hj5⟩
            have HJ5 := hid hj5
            have HT5 := hid (HTR.out.put HJR.out.ci HO1.out.1 (.inl rfl) HO1.out.2 hw5)
            clear hw5 hj5
            go_wp2_with fail
            go_roundw
            case rel => exact ⟨j + 1, s5, by go_num, by have := HLT.out; omega, by have := HLT.out; omega, HJ5.out, HT5.out⟩
            case measure => have := HLT.out; simp [intOf]; omega
          · have n1 := Blk.cell HJR.out.dr.rb (i := r) (v := .int .i64 ra) (by rw [List.getElem?_map]; show (D.regs[r]?).map _ = _; rw [HRA.out]; rfl)
            have n2 := Blk.frozen HJR.out.dr.rb r
            have hrest : StPost E a nn (.returned (.bool true)) (wr.setCell ⟨a.rb, r, none⟩ (.int .i64 p)) := by
              have hF : Fr [a.rb] wr (wr.setCell ⟨a.rb, r, none⟩ (.int .i64 p)) := (Fr.refl _ wr).set (by simp) _
              have hdr := HJR.out.dr.setReg (regs' := D.regs.set r p) hF (by rw [List.map_set]; exact HJR.out.dr.rb.set r _) (by rw [List.length_set]; exact HJ.out.dr.rl)
              have hrn := HJR.out.nfb HJR.out.dr.lr (by decide)
              have hcr := HJR.out.cr.fr hF (fun z hz => by
                rw [List.mem_singleton.1 hz]
                exact ⟨fun hc => hrn (.inl hc), fun hc => hrn (.inr (.inl hc)), fun hc => hrn (.inr (.inr hc))⟩)
              have hpt := HTR.out.reg (regs' := D.regs.set r p) (fun z hz => by
                rcases List.mem_or_eq_of_mem_set hz with h1 | h1
                · exact (HT.out.rgs z h1).app _
                · rw [h1]; exact .inr ⟨_, List.mem_append_right _ (List.mem_singleton.2 rfl), rfl, .inl rfl⟩) (by rw [List.length_set]; exact HT.out.rl)
              exact ⟨rfl, _, { D with m := mput D.m p (obV 1 ((1 + k5 : Nat) : Int) aux 0 g (1 + k5)), G := fun x => if x = p then g else D.G x, lab := labU D.lab g (10 + p), regs := D.regs.set r p }, ⟨hcr, HJR.out.ci, hdr, HJ.out.ah, HJ.out.asb, HJ.out.ak, HJ.out.fr2, HJ.out.room, HJ.out.used, HJ.out.fcnt, HJ.out.todo, HJ.out.qu, HJ.out.wkg, HJ.out.bl, HJ.out.hkp, HJ.out.rvv⟩, hpt⟩
            have HREST := hid hrest
            clear hrest
            by_cases h1 : j < 1 + k5
            · have h1' : (j : Int) < 1 + (k5 : Int) := by omega
              have h2' : ¬ (j : Int) < 4 := by omega
              clear hlt h1
              go_wp2_with fail
              go_ret
              exact HREST.out
            · have h1' : ¬ (j : Int) < 1 + (k5 : Int) := by omega
              clear hlt h1
              go_wp2_with fail
              go_ret
              exact HREST.out
  · -- a constructor comes
    have P5 := hid (fun wx => yPickN (x.tdiv 40) 5 (by decide) (by decide) wx)
    have P6 := hid (fun wx => yPickN (x.tdiv 200) 9 (by decide) (by decide) wx)
    obtain ⟨k5, hk5⟩ : ∃ k, k = pkN (x.tdiv 40) 5 := ⟨_, rfl⟩
    obtain ⟨k9, hk9⟩ : ∃ k, k = pkN (x.tdiv 200) 9 := ⟨_, rfl⟩
    have hk5l : k5 < 5 := hk5 ▸ pkN_lt _ (by decide)
    rw [← hk5] at P5
    rw [← hk9] at P6
    obtain ⟨aux, haux, ha0, ha1⟩ := and255 x
    clear hk5 hk9
    go_wp2_with fail
    refine (P5.out _).mono ?_
    rintro e w4 ⟨rfl, hw4⟩
    have hw4' := hw4.symm
    subst hw4'
    clear hw4
    go_wp2_with fail
    refine (P6.out _).mono ?_
    rintro e w4 ⟨rfl, hw4⟩
    have hw4' := hw4.symm
    subst hw4'
    clear hw4
    by_cases h9 : k9 = 0
    · subst h9
      have hd : Hd 1 (10 : Nat) aux S.s.parity := ⟨by decide, by decide, by have := HJ.out.ci.mh.par; omega, by have := HJ.out.ci.mh.par; omega, by omega, by omega, by omega, by omega⟩
      have HA := hid (jAlloc E a S _ _ D W0 HQ0.out.j (HT.out.rg HJ.out.ci (by omega) (fun f hf => (HJ.out.fr2 f hf).2.2)) 1 aux 10 hd)
      rw [← haux] at HA
      have e9 : (0 : Nat) = 0 := rfl
      have HAUX := hid (And.intro haux (And.intro ha0 ha1))
      clear hd haux ha0 ha1 p0 p1 p2 p3 v0 v2
      go_wp2_with fail
      refine HA.out.mono ?_
      rintro e w4 (⟨rfl, hj4⟩ | ⟨q, p, s1, A1, z1, g, rfl, hne, hw1, hz1, hp1, hj4⟩)
      · have c6 := Blk.cell hj4.dr.p (i := 6) rfl
        have HFIN : Hid (StPost E a nn (.returned (.bool true)) w4) := hid ⟨rfl, S, _, hj4, HT.out.le (Nat.le_succ nn)⟩
        clear hj4
        go_wp2_with fail
        go_ret
        exact HFIN.out
      · rw [HAUX.out.1] at hz1 hj4
        have hpt4 := HT.out.new (q := q) (A' := A1) (z' := z1) HJ.out.ci (by omega) (by have := HAUX.out.2; omega) hne hw1 hz1
        have HJ4 := hid hj4
        have HT4 := hid hpt4
        have HNE := hid hne
        clear hj4 hpt4 hne hw1 hz1 hp1
        go_wp2_with fail
        go_loopw [12] (fun jv wr => ∃ (j : Nat) (s2 : HS), jv = .int .i64 j ∧ j ≤ 4 ∧ j ≤ 10 ∧ PJ E a { S with s := s2, A := A1, z := z1, obs := S.obs ++ [⟨q, p, 1, (10 : Nat), aux, 0⟩] } (S.rw.map Ob.p) (S.rw.reverse.map Ob.p) { D with m := mput D.m p (obV 1 ((10 : Nat) : Int) aux 0 g 10), G := fun x => if x = p then g else D.G x, lab := labU D.lab g (10 + p) } wr ∧ PT { S with s := s2, A := A1, z := z1, obs := S.obs ++ [⟨q, p, 1, (10 : Nat), aux, 0⟩] } E.gl D.regs D.kml (nn + 1)) (fun jv _ => 4 - (intOf jv).toNat)
        case atStart => exact ⟨0, s1, rfl, by omega, by omega, HJ4.out, HT4.out⟩
        case round =>
          obtain ⟨j, s2, rfl, hj4, hjs, hjr, htr⟩ := hrel
          have p3 := Blk.cell hjr.dr.p (i := 3) rfl
          have v2 := Blk.cell hjr.dr.wb (i := 2) rfl
          rw [show ({ D with m := mput D.m p (obV 1 ((10 : Nat) : Int) aux 0 g 10), G := fun x => if x = p then g else D.G x, lab := labU D.lab g (10 + p) } : DPs).c.rv = .slice (some ⟨a.rb, 0, none⟩) 4 4 from HJ.out.dr.rv] at v2
          have HJR := hid hjr
          have HTR := hid htr
          clear hjr htr
          by_cases hlt : j < 10 ∧ j < 4
          · obtain ⟨h1, h2⟩ := hlt
            have h1' : (j : Int) < 10 := by omega
            have h2' : (j : Int) < 4 := by omega
            have h3' : (0 : Int) ≤ (j : Int) := by omega
            obtain ⟨u, hu⟩ : ∃ u, D.regs[j]? = some u := ⟨_, List.getElem?_eq_getElem (by have := HJ.out.dr.rl; omega)⟩
            have n1 := Blk.cell HJR.out.dr.rb (i := j) (v := .int .i64 u) (by rw [List.getElem?_map]; show (D.regs[j]?).map _ = _; rw [hu]; rfl)
            have ho1 : (⟨q, p, 1, (10 : Nat), aux, 0⟩ : Ob) ∈ S.obs ++ [⟨q, p, 1, (10 : Nat), aux, 0⟩] := List.mem_append_right _ (List.mem_singleton.2 rfl)
            have hvu : Val (S.obs ++ [⟨q, p, 1, (10 : Nat), aux, 0⟩]) u := (HT.out.rgs u (List.mem_of_getElem? hu)).app _
            have HS := hid (jSet E a _ _ _ _ wr HJR.out ⟨q, p, 1, (10 : Nat), aux, 0⟩ ho1 j h1 u hvu.ob (fun hc => absurd rfl (HNE.out _ (HJ.out.ci.rin _ hc).1)))
            have HO1 := hid (And.intro ho1 hvu)
            have HLT := hid (And.intro h1 h2)
            clear hu ho1 hvu h1 h2
            go_wp2_with fail
            refine HS.out.mono ?_
            rintro e w5 ⟨rfl, s5, hw5, -, hj5⟩
            have HJ5 := hid hj5
            have HT5 := hid (HTR.out.put HJR.out.ci HO1.out.1 (.inl rfl) HO1.out.2 hw5)
            clear hw5 hj5
            go_wp2_with fail
            go_roundw
            case rel => exact ⟨j + 1, s5, by go_num, by have := HLT.out; omega, by have := HLT.out; omega, HJ5.out, HT5.out⟩
            case measure => have := HLT.out; simp [intOf]; omega
          · have n1 := Blk.cell HJR.out.dr.rb (i := r) (v := .int .i64 ra) (by rw [List.getElem?_map]; show (D.regs[r]?).map _ = _; rw [HRA.out]; rfl)
            have n2 := Blk.frozen HJR.out.dr.rb r
            have hrest : StPost E a nn (.returned (.bool true)) (wr.setCell ⟨a.rb, r, none⟩ (.int .i64 p)) := by
              have hF : Fr [a.rb] wr (wr.setCell ⟨a.rb, r, none⟩ (.int .i64 p)) := (Fr.refl _ wr).set (by simp) _
              have hdr := HJR.out.dr.setReg (regs' := D.regs.set r p) hF (by rw [List.map_set]; exact HJR.out.dr.rb.set r _) (by rw [List.length_set]; exact HJ.out.dr.rl)
              have hrn := HJR.out.nfb HJR.out.dr.lr (by decide)
              have hcr := HJR.out.cr.fr hF (fun z hz => by
                rw [List.mem_singleton.1 hz]
                exact ⟨fun hc => hrn (.inl hc), fun hc => hrn (.inr (.inl hc)), fun hc => hrn (.inr (.inr hc))⟩)
              have hpt := HTR.out.reg (regs' := D.regs.set r p) (fun z hz => by
                rcases List.mem_or_eq_of_mem_set hz with h1 | h1
                · exact (HT.out.rgs z h1).app _
                · rw [h1]; exact .inr ⟨_, List.mem_append_right _ (List.mem_singleton.2 rfl), rfl, .inl rfl⟩) (by rw [List.length_set]; exact HT.out.rl)
              exact ⟨rfl, _, { D with m := mput D.m p (obV 1 ((10 : Nat) : Int) aux 0 g 10), G := fun x => if x = p then g else D.G x, lab := labU D.lab g (10 + p), regs := D.regs.set r p }, ⟨hcr, HJR.out.ci, hdr, HJ.out.ah, HJ.out.asb, HJ.out.ak, HJ.out.fr2, HJ.out.room, HJ.out.used, HJ.out.fcnt, HJ.out.todo, HJ.out.qu, HJ.out.wkg, HJ.out.bl, HJ.out.hkp, HJ.out.rvv⟩, hpt⟩
            have HREST := hid hrest
            clear hrest
            by_cases h1 : j < 10
            · have h1' : (j : Int) < 10 := by omega
              have h2' : ¬ (j : Int) < 4 := by omega
              clear hlt h1
              go_wp2_with fail
              go_ret
              exact HREST.out
            · have h1' : ¬ (j : Int) < 10 := by omega
              exfalso; omega
    · have h9' : ¬ (k9 : Int) = 0 := by omega
      have hd : Hd 1 (1 + k5 : Nat) aux S.s.parity := ⟨by decide, by decide, by have := HJ.out.ci.mh.par; omega, by have := HJ.out.ci.mh.par; omega, by omega, by omega, by omega, by omega⟩
      have HA := hid (jAlloc E a S _ _ D W0 HQ0.out.j (HT.out.rg HJ.out.ci (by omega) (fun f hf => (HJ.out.fr2 f hf).2.2)) 1 aux (1 + k5) hd)
      rw [← haux] at HA
      rw [show ((1 + k5 : Nat) : Int) = 1 + (k5 : Int) by omega] at HA
      have HAUX := hid (And.intro haux (And.intro ha0 ha1))
      clear hd haux ha0 ha1 p0 p1 p2 p3 v0 v2
      go_wp2_with fail
      refine HA.out.mono ?_
      rintro e w4 (⟨rfl, hj4⟩ | ⟨q, p, s1, A1, z1, g, rfl, hne, hw1, hz1, hp1, hj4⟩)
      · have c6 := Blk.cell hj4.dr.p (i := 6) rfl
        have HFIN : Hid (StPost E a nn (.returned (.bool true)) w4) := hid ⟨rfl, S, _, hj4, HT.out.le (Nat.le_succ nn)⟩
        clear hj4
        go_wp2_with fail
        go_ret
        exact HFIN.out
      · rw [HAUX.out.1] at hz1 hj4
        have hpt4 := HT.out.new (q := q) (A' := A1) (z' := z1) HJ.out.ci (by omega) (by have := HAUX.out.2; omega) hne hw1 hz1
        have HJ4 := hid hj4
        have HT4 := hid hpt4
        have HNE := hid hne
        clear hj4 hpt4 hne hw1 hz1 hp1
        go_wp2_with fail
        go_loopw [12] (fun jv wr => ∃ (j : Nat) (s2 : HS), jv = .int .i64 j ∧ j ≤ 4 ∧ j ≤ 1 + k5 ∧ PJ E a { S with s := s2, A := A1, z := z1, obs := S.obs ++ [⟨q, p, 1, (1 + k5 : Nat), aux, 0⟩] } (S.rw.map Ob.p) (S.rw.reverse.map Ob.p) { D with m := mput D.m p (obV 1 ((1 + k5 : Nat) : Int) aux 0 g (1 + k5)), G := fun x => if x = p then g else D.G x, lab := labU D.lab g (10 + p) } wr ∧ PT { S with s := s2, A := A1, z := z1, obs := S.obs ++ [⟨q, p, 1, (1 + k5 : Nat), aux, 0⟩] } E.gl D.regs D.kml (nn + 1)) (fun jv _ => 4 - (intOf jv).toNat)
        case atStart => exact ⟨0, s1, rfl, by omega, by omega, HJ4.out, HT4.out⟩
        case round =>
          obtain ⟨j, s2, rfl, hj4, hjs, hjr, htr⟩ := hrel
          have p3 := Blk.cell hjr.dr.p (i := 3) rfl
          have v2 := Blk.cell hjr.dr.wb (i := 2) rfl
          rw [show ({ D with m := mput D.m p (obV 1 ((1 + k5 : Nat) : Int) aux 0 g (1 + k5)), G := fun x => if x = p then g else D.G x, lab := labU D.lab g (10 + p) } : DPs).c.rv = .slice (some ⟨a.rb, 0, none⟩) 4 4 from HJ.out.dr.rv] at v2
          have HJR := hid hjr
          have HTR := hid htr
          clear hjr htr
          by_cases hlt : j < 1 + k5 ∧ j < 4
          · obtain ⟨h1, h2⟩ := hlt
            have h1' : (j : Int) < 1 + (k5 : Int) := by omega
            have h2' : (j : Int) < 4 := by omega
            have h3' : (0 : Int) ≤ (j : Int) := by omega
            obtain ⟨u, hu⟩ : ∃ u, D.regs[j]? = some u := ⟨_, List.getElem?_eq_getElem (by have := HJ.out.dr.rl; omega)⟩
            have n1 := Blk.cell HJR.out.dr.rb (i := j) (v := .int .i64 u) (by rw [List.getElem?_map]; show (D.regs[j]?).map _ = _; rw [hu]; rfl)
            have ho1 : (⟨q, p, 1, (1 + k5 : Nat), aux, 0⟩ : Ob) ∈ S.obs ++ [⟨q, p, 1, (1 + k5 : Nat), aux, 0⟩] := List.mem_append_right _ (List.mem_singleton.2 rfl)
            have hvu : Val (S.obs ++ [⟨q, p, 1, (1 + k5 : Nat), aux, 0⟩]) u := (HT.out.rgs u (List.mem_of_getElem? hu)).app _
            have HS := hid (jSet E a _ _ _ _ wr HJR.out ⟨q, p, 1, (1 + k5 : Nat), aux, 0⟩ ho1 j h1 u hvu.ob (fun hc => absurd rfl (HNE.out _ (HJ.out.ci.rin _ hc).1)))
            have HO1 := hid (And.intro ho1 hvu)
            have HLT := hid (And.intro h1 h2)
            clear hu ho1 hvu h1 h2
            go_wp2_with fail
            refine HS.out.mono ?_
            rintro e w5 ⟨rfl, s5, hw5, -, hj5⟩
            have HJ5 := hid hj5
            have HT5 := hid (HTR.out.put HJR.out.ci HO1.out.1 (.inl rfl) HO1.out.2 hw5)
            clear hw5 hj5
            go_wp2_with fail
            go_roundw
            case rel => exact ⟨j + 1, s5, by go_num, by have := HLT.out; omega, by have := HLT.out; omega, HJ5.out, HT5.out⟩
            case measure => have := HLT.out; simp [intOf]; omega
          · have n1 := Blk.cell HJR.out.dr.rb (i := r) (v := .int .i64 ra) (by rw [List.getElem?_map]; show (D.regs[r]?).map _ = _; rw [HRA.out]; rfl)
            have n2 := Blk.frozen HJR.out.dr.rb r
            have hrest : StPost E a nn (.returned (.bool true)) (wr.setCell ⟨a.rb, r, none⟩ (.int .i64 p)) := by
              have hF : Fr [a.rb] wr (wr.setCell ⟨a.rb, r, none⟩ (.int .i64 p)) := (Fr.refl _ wr).set (by simp) _
              have hdr := HJR.out.dr.setReg (regs' := D.regs.set r p) hF (by rw [List.map_set]; exact HJR.out.dr.rb.set r _) (by rw [List.length_set]; exact HJ.out.dr.rl)
              have hrn := HJR.out.nfb HJR.out.dr.lr (by decide)
              have hcr := HJR.out.cr.fr hF (fun z hz => by
                rw [List.mem_singleton.1 hz]
                exact ⟨fun hc => hrn (.inl hc), fun hc => hrn (.inr (.inl hc)), fun hc => hrn (.inr (.inr hc))⟩)
              have hpt := HTR.out.reg (regs' := D.regs.set r p) (fun z hz => by
                rcases List.mem_or_eq_of_mem_set hz with h1 | h1
                · exact (HT.out.rgs z h1).app _
                · rw [h1]; exact .inr ⟨_, List.mem_append_right _ (List.mem_singleton.2 rfl), rfl, .inl rfl⟩) (by rw [List.length_set]; exact HT.out.rl)
              exact ⟨rfl, _, { D with m := mput D.m p (obV 1 ((1 + k5 : Nat) : Int) aux 0 g (1 + k5)), G := fun x => if x = p then g else D.G x, lab := labU D.lab g (10 + p), regs := D.regs.set r p }, ⟨hcr, HJR.out.ci, hdr, HJ.out.ah, HJ.out.asb, HJ.out.ak, HJ.out.fr2, HJ.out.room, HJ.out.used, HJ.out.fcnt, HJ.out.todo, HJ.out.qu, HJ.out.wkg, HJ.out.bl, HJ.out.hkp, HJ.out.rvv⟩, hpt⟩
            have HREST := hid hrest
            clear hrest
            by_cases h1 : j < 1 + k5
            · have h1' : (j : Int) < 1 + (k5 : Int) := by omega
              have h2' : ¬ (j : Int) < 4 := by omega
              clear hlt h1
              go_wp2_with fail
              go_ret
              exact HREST.out
            · have h1' : ¬ (j : Int) < 1 + (k5 : Int) := by omega
              clear hlt h1
              go_wp2_with fail
              go_ret
              exact HREST.out
  · -- a link is followed
    have HSAME : Hid (StPost E a nn (.returned (.bool true)) W0) := hid ⟨rfl, S, D, HQ0.out.le (Nat.le_succ nn)⟩
    by_cases h0 : ra = 0
    · subst h0
      go_wp2_with fail
      go_ret
      exact HSAME.out
    · obtain ⟨o, ho, hop, hok⟩ := HAV.out.resolve_left h0
      have hget := HQ0.out.j.dr.dob.get o ho
      have HL := hid (yLink a.wb D.c D.m o.p o.k o.a o.n (D.G o.p) kk W0 HQ0.out.j.dr.wb HQ0.out.j.dr.im hget (HJ.out.ci.mh.hd ho 0 (.inl rfl)))
      rw [hop] at HL hget
      obtain ⟨lb, hlb⟩ : ∃ lb, lb = lkB o.k o.n kk := ⟨_, rfl⟩
      rw [← hlb] at HL
      obtain ⟨gw0, hgw⟩ : ∃ g, g = D.G ra := ⟨_, rfl⟩
      obtain ⟨ok, hoke⟩ : ∃ k, k = o.k := ⟨_, rfl⟩
      obtain ⟨oa, hoa⟩ : ∃ k, k = o.a := ⟨_, rfl⟩
      obtain ⟨on, hon⟩ : ∃ k, k = o.n := ⟨_, rfl⟩
      rw [← hgw, ← hoke, ← hoa, ← hon] at hget
      have hlk : ∀ wx, Fr [] W0 wx → (Instr.lookup 66 (.map (some D.c.mp)) (.int .i64 ra) false).run Tryz.prog wx = .ok (.agg #[.int .i64 ok, .int .i64 on, .int .i64 oa, .int .i64 0, .slice (some ⟨gw0, 0, none⟩) on on]) wx := by
        intro wx hF
        have := run_lookup_im (P := Tryz.prog) (HQ0.out.j.dr.im.fr hF (by simp)) Tryz.underlying66 Tryz.underlying3 (obZero wx) ra false
        rw [hget] at this
        simp only [Option.getD_some, obV, if_neg (show ¬ false = true by decide)] at this
        exact this
      have hfw := fieldW ok on oa 0 gw0 on
      have HLB := hid hlb
      have HO := hid (And.intro ho (And.intro hop hok))
      have HON := hid hon
      have HGW := hid hgw
      have HLK := hid hlk
      have l0 := hlk W0 (Fr.refl _ _)
      clear hget ho hop hok hlb hgw hoke hoa hon hlk
      by_cases hkn : kk < on
      · have hkn' : (kk : Int) < (on : Int) := by omega
        have HKN := hid hkn
        clear hkn
        cases lb with
        | false =>
          go_wp2_with fail
          refine HL.out.mono ?_
          rintro e w4 ⟨rfl, hF4⟩
          have HFIN : Hid (StPost E a nn (.returned (.bool true)) w4) := hid ⟨rfl, S, D, (HQ0.out.calm hF4).le (Nat.le_succ nn)⟩
          clear hF4
          go_wp2_with fail
          go_ret
          exact HFIN.out
        | true =>
          go_wp2_with fail
          refine HL.out.mono ?_
          rintro e w4 ⟨rfl, hF4⟩
          have HF4 := hid hF4
          have hq4 := HQ0.out.calm hF4
          have HQ4 := hid hq4
          clear hF4 hq4 p3 v2 v0 l0
          go_wp2_with fail
          have p3 := Blk.cell HQ4.out.j.dr.p (i := 3) rfl
          have v2 := Blk.cell HQ4.out.j.dr.wb (i := 2) rfl
          rw [HJ.out.dr.rv] at v2
          have v0 := Blk.cell HQ4.out.j.dr.wb (i := 0) rfl
          have l1 := HLK.out w4.drew (HF4.out.drew)
          obtain ⟨vx, hvx⟩ : ∃ vx, vx = S.s.wd o kk := ⟨_, rfl⟩
          have hblk := (HQ4.out.j.dr.dob.blk o HO.out.1).2
          rw [HO.out.2.1, ← HGW.out] at hblk
          have m1 := hblk.cell (i := kk) (v := .int .i64 vx) (by unfold wcs; rw [List.getElem?_map, List.getElem?_range (by have := HKN.out; have := HON.out; omega), hvx]; rfl)
          have hvv : Val S.obs vx := by rw [hvx]; exact HT.out.con o HO.out.1 HO.out.2.2 kk (by have := HKN.out; have := HON.out; omega)
          obtain ⟨u, hu⟩ : ∃ u, D.regs[rb]? = some u := ⟨_, List.getElem?_eq_getElem (by have := HJ.out.dr.rl; omega)⟩
          have n1 := Blk.cell HQ4.out.j.dr.rb (i := rb) (v := .int .i64 u) (by rw [List.getElem?_map, hu]; rfl)
          have n2 := Blk.frozen HQ4.out.j.dr.rb rb
          have k1 : (0 : Int) ≤ (kk : Int) := by omega
          have HVV := hid hvv
          have HREST : Hid (∀ W4, Fr [a.rb] w4 W4 → Blk W4 a.rb ((D.regs.set rb vx).map (.int .i64)) 2 → StPost E a nn (.returned (.bool true)) W4) := hid (by
            intro W4 hF hB
            have hdr := HQ4.out.j.dr.setReg (regs' := D.regs.set rb vx) hF hB (by rw [List.length_set]; exact HJ.out.dr.rl)
            have hrn := HJ.out.nfb HJ.out.dr.lr (by decide)
            have hcr := HQ4.out.j.cr.fr hF (fun z hz => by
              rw [List.mem_singleton.1 hz]
              exact ⟨fun hc => hrn (.inl hc), fun hc => hrn (.inr (.inl hc)), fun hc => hrn (.inr (.inr hc))⟩)
            have hpt := (HT.out.reg (regs' := D.regs.set rb vx) (fun z hz => by
              rcases List.mem_or_eq_of_mem_set hz with h1 | h1
              · exact HT.out.rgs z h1
              · rw [h1]; exact HVV.out) (by rw [List.length_set]; exact HT.out.rl)).le (Nat.le_succ nn)
            exact ⟨rfl, S, { D with regs := D.regs.set rb vx }, ⟨hcr, HJ.out.ci, hdr, HJ.out.ah, HJ.out.asb, HJ.out.ak, HJ.out.fr2, HJ.out.room, HJ.out.used, HJ.out.fcnt, HJ.out.todo, HJ.out.qu, HJ.out.wkg, HJ.out.bl, HJ.out.hkp, HJ.out.rvv⟩, hpt⟩)
          clear hblk hvx hvv hu
          have n1d := (cell_fr ((Fr.refl [] w4).drew) (by simp) (Blk.lt HQ4.out.j.dr.rb) rb).trans n1
          have n2d : w4.drew.frozen? ⟨a.rb, rb, none⟩ = false := n2
          refine wp_region_still_tail 24 (by kernel_rfl) (by kernel_rfl) ?_
          simp only [List.take_succ_cons, List.take_zero, List.drop_succ_cons, List.drop_zero]
          change wpStill _ _ w4.drew (fun a' => wpList _ _ _ _ a' w4.drew) _ _
          iterate 9 still_step
          still_call (P2.out _)
          repeat still_step
          refine wpStill_nil ?_
          go_wp2_with fail
          go_ret
          refine HREST.out _ ?_ ?_
          · first | exact ((Fr.refl _ w4).drew).set (by simp) _ | exact ((Fr.refl _ w4).set (by simp) _).drew
          · rw [List.map_set]
            first | exact HQ4.out.j.dr.rb.drew.set rb _ | exact (HQ4.out.j.dr.rb.set rb _).drew
      · have hkn' : ¬ (kk : Int) < (on : Int) := by omega
        clear hkn
        go_wp2_with fail
        go_ret
        exact HSAME.out
  · -- a word is set
    have HSAME : Hid (StPost E a nn (.returned (.bool true)) W0) := hid ⟨rfl, S, D, HQ0.out.le (Nat.le_succ nn)⟩
    by_cases h0 : ra = 0
    · subst h0
      go_wp2_with fail
      go_ret
      exact HSAME.out
    · obtain ⟨o, ho, hop, hok⟩ := HAV.out.resolve_left h0
      have hget := HQ0.out.j.dr.dob.get o ho
      have HL := hid (yLink a.wb D.c D.m o.p o.k o.a o.n (D.G o.p) kk W0 HQ0.out.j.dr.wb HQ0.out.j.dr.im hget (HJ.out.ci.mh.hd ho 0 (.inl rfl)))
      rw [hop] at HL
      obtain ⟨lb, hlb⟩ : ∃ lb, lb = lkB o.k o.n kk := ⟨_, rfl⟩
      rw [← hlb] at HL
      have HLB := hid hlb
      have HO := hid (And.intro ho (And.intro hop hok))
      clear hget ho hop hok hlb
      cases lb with
      | false =>
        go_wp2_with fail
        refine HL.out.mono ?_
        rintro e w4 ⟨rfl, hF4⟩
        have HFIN : Hid (StPost E a nn (.returned (.bool true)) w4) := hid ⟨rfl, S, D, (HQ0.out.calm hF4).le (Nat.le_succ nn)⟩
        clear hF4
        go_wp2_with fail
        go_ret
        exact HFIN.out
      | true =>
        go_wp2_with fail
        refine HL.out.mono ?_
        rintro e w4 ⟨rfl, hF4⟩
        have hq4 := HQ0.out.calm hF4
        have hkn := (lkB_iff.1 HLB.out.symm).lt
        have hnr : o ∉ S.rw := fun hc => by
          have h1 := (HJ.out.ci.rin o hc).2.1
          have h2 := HO.out.2.2
          omega
        have HS := hid (jSet E a S _ _ D w4 hq4.j o HO.out.1 kk hkn va HBV.out.ob (fun hc => absurd hc hnr))
        rw [HO.out.2.1] at HS
        clear hF4 hq4 hkn hnr
        go_wp2_with fail
        refine HS.out.mono ?_
        rintro e w5 ⟨rfl, s5, hw5, -, hj5⟩
        have HFIN : Hid (StPost E a nn (.returned (.bool true)) w5) := hid ⟨rfl, _, D, ⟨hj5, (HT.out.put HJ.out.ci HO.out.1 HO.out.2.2 HBV.out (by rw [HO.out.2.1]; exact hw5)).le (Nat.le_succ nn)⟩⟩
        clear hw5 hj5
        go_wp2_with fail
        go_ret
        exact HFIN.out
  · -- a frame
    obtain ⟨W1, hW1⟩ : ∃ W1, W1 = (W0.alloc (.cells #[.int .i64 ra, .int .i64 va] 2)).alloc (.cells #[.int .i64 2, .int .i64 0, .slice (some ⟨W0.heap.size, 0, none⟩) 2 2] 95) := ⟨_, rfl⟩
    have hF1 : Fr [] W0 W1 := by rw [hW1]; exact ((Fr.refl _ W0).alloc _).alloc _
    have hB1 : Blk W1 W0.heap.size [.int .i64 ra, .int .i64 va] 2 := by rw [hW1]; exact (Blk.new W0 [.int .i64 ra, .int .i64 va] 2).alloc _
    have hB2 : Blk W1 (W0.heap.size + 1) [.int .i64 2, .int .i64 0, .slice (some ⟨W0.heap.size, 0, none⟩) 2 2] 95 := by
      rw [hW1]
      have := Blk.new (W0.alloc (.cells #[.int .i64 ra, .int .i64 va] 2)) [.int .i64 2, .int .i64 0, .slice (some ⟨W0.heap.size, 0, none⟩) 2 2] 95
      rw [World.size_alloc] at this
      exact this
    have HF1 := hid hF1
    have HB1 := hid hB1
    have HB2 := hid hB2
    have HW1 := hid hW1
    clear hF1 hB1 hB2 hW1
    go_wp2_with fail
    rw [← HW1.out]
    have hq1 := HQ0.out.calm HF1.out
    have s1 := Blk.cell hq1.j.dr.p (i := 1) rfl
    rw [HJ.out.asb] at s1
    have t0 := HB2.out.cell (i := 0) rfl
    have t1 := HB2.out.cell (i := 1) rfl
    have t2 := HB2.out.cell (i := 2) rfl
    have hsp : ¬ S.P E.sb := fun hc => (HJ.out.cr.hP _ hc).2 (.inr (.inr (.inr (.inl rfl))))
    have hsl : E.sb < W0.heap.size := HQ0.out.j.cr.k.lt
    have hPU := hid (sPush E.sb S.k (fun b => S.P b ∨ W1.heap.size ≤ b) (fun b => b = W0.heap.size) ⟨2, 0, [ra, va]⟩ (.agg #[.int .i64 2, .int .i64 0, .slice (some ⟨W0.heap.size, 0, none⟩) 2 2]) W1.drew ((hq1.j.cr.k.fr ((Fr.refl [] W1).drew) (by simp) (by simp)).mono (fun b hb => .inl hb)) (by
        rintro (hc | hc)
        · exact hsp hc
        · have := HF1.out.size; omega) (fun g hg => .inr hg) ⟨_, rfl, (RdS.of_blk (l := [ra, va]) HB1.out.drew rfl (by simp))⟩ (by rw [HJ.out.used]; have := HJ.out.fcnt; omega) (by rw [HJ.out.room]; omega) (by simp) (by have := HJ.out.fcnt; omega) (fun k n g o m c e => by cases e; omega))
    have HQ1 := hid hq1
    have HSL := hid hsl
    clear hq1 hsp hsl p0 p1 p2 p3 v0 v2
    refine wp_region_still_tail 5 (by kernel_rfl) (by kernel_rfl) ?_
    simp only [List.take_succ_cons, List.take_zero, List.drop_succ_cons, List.drop_zero]
    change wpStill _ _ W1.drew (fun a' => wpList _ _ _ _ a' W1.drew) _ _
    repeat still_step
    refine wpStill_nil ?_
    go_wp2_with fail
    refine hPU.out.mono ?_
    rintro e w2 ⟨hF2, hres⟩
    have HF2 := hid (((Fr.refl [] W1).drew.here (by simp)).trans hF2)
    have hcr2 : ∀ k' : Sk, SkRep w2 (fun b => S.P b ∨ W1.heap.size ≤ b) E.sb k' → k'.todo ≤ k'.fs.length → CR E { S with k := k', P := fun b => S.P b ∨ (W1.heap.size ≤ b ∧ b < w2.heap.size) } w2 := fun k' hk' ht' =>
      HQ1.out.j.cr.stack HF2.out (hk'.cut.mono (fun b hb => hb.1.imp id (fun h => ⟨h, hb.2⟩))) (fun b hb => .inl hb) (fun b hb => hb) ht'
    have hdr2 : DR (FB E { S with P := fun b => S.P b ∨ (W1.heap.size ≤ b ∧ b < w2.heap.size) }) a S.obs S.s.wd E.gl (S.k.fs.map Fm.l) (S.rw.map Ob.p) (S.rw.reverse.map Ob.p) D w2 := HQ1.out.j.dr.fr HF2.out (fun z hz => HJ.out.fp0 z (.inl (.inr (.inr (.inr (.inl (List.mem_singleton.1 hz))))))) (fun _ _ _ _ => rfl) (fun b hb hc => by
      rcases hc with hc | hc | hc
      · exact .inl hc
      · exact .inr (.inl hc)
      · rcases hc with hc | hc
        · exact .inr (.inr hc)
        · omega)
    have HCR2 := hid hcr2
    have HDR2 := hid hdr2
    clear hF2 hcr2 hdr2 s1 t0 t1 t2
    rcases hres with ⟨-, rfl, hk2⟩ | ⟨hroom, rfl, hk2⟩
    · have HFIN : Hid (StPost E a nn (.returned (.bool true)) w2) := hid ⟨rfl, { S with P := fun b => S.P b ∨ (W1.heap.size ≤ b ∧ b < w2.heap.size) }, D, ⟨HCR2.out S.k hk2 (by rw [HJ.out.todo]; exact Nat.zero_le _), HJ.out.ci.stack _ _, HDR2.out, HJ.out.ah, HJ.out.asb, HJ.out.ak, HJ.out.fr2, HJ.out.room, HJ.out.used, HJ.out.fcnt, HJ.out.todo, HJ.out.qu, HJ.out.wkg, HJ.out.bl, HJ.out.hkp, HJ.out.rvv⟩, HT.out.frames S.k _ HT.out.fs (by have := HT.out.cnt; omega)⟩
      clear hk2
      go_wp2_with fail
      go_ret
      exact HFIN.out
    · have HK2 := hid hk2
      have HROOM := hid hroom
      clear hk2 hroom
      go_wp2_with fail
      obtain ⟨vs, hvs1, hvs2, hvs3⟩ := HDR2.out.fv
      obtain ⟨AF, cF, eF⟩ := hvs1.form
      obtain ⟨NF, hNF⟩ : ∃ NF, NF = vs.length := ⟨_, rfl⟩
      rw [← hNF] at eF
      have hNFb : NF ≤ 100 := by have := HJ.out.fcnt; rw [List.length_map] at hvs2; omega
      have hFa : Fr [] w2 (w2.alloc (.cells #[.int .i64 ra, .int .i64 va] 2)).drew := ((Fr.refl _ w2).alloc _).drew
      have hFb : Fr [] w2 ((w2.alloc (.cells #[.int .i64 ra, .int .i64 va] 2)).alloc (.cells #[.slice (some ⟨w2.heap.size, 0, none⟩) 2 2] 67)).drew := (((Fr.refl _ w2).alloc _).alloc _).drew
      have hFd : Fr [] w2 w2.drew := (Fr.refl _ w2).drew
      have x3 := Blk.cell HDR2.out.p (i := 3) rfl
      have x4 := Blk.cell HDR2.out.wb (i := 3) rfl
      rw [eF] at x4
      have plt := Blk.lt HDR2.out.p
      have wlt := Blk.lt HDR2.out.wb
      have xd3 := (cell_fr hFd (by simp) plt 3).trans x3
      have xd4 := (cell_fr hFd (by simp) wlt 3).trans x4
      have xa3 := (cell_fr hFa (by simp) plt 3).trans x3
      have xa4 := (cell_fr hFa (by simp) wlt 3).trans x4
      have xb3 := (cell_fr hFb (by simp) plt 3).trans x3
      have xb4 := (cell_fr hFb (by simp) wlt 3).trans x4
      have hrowb : Rowv ((w2.alloc (.cells #[.int .i64 ra, .int .i64 va] 2)).alloc (.cells #[.slice (some ⟨w2.heap.size, 0, none⟩) 2 2] 67)).drew 0 (.slice AF NF cF) vs := by rw [← eF]; exact hvs1.fr hFb (by simp)
      have hsrc : Srcv ((w2.alloc (.cells #[.int .i64 ra, .int .i64 va] 2)).alloc (.cells #[.slice (some ⟨w2.heap.size, 0, none⟩) 2 2] 67)).drew (some ⟨w2.heap.size + 1, 0, none⟩) 1 [((some ⟨w2.heap.size, 0, none⟩, 2, 2) : SV)] := by
        refine ⟨rfl, fun _ => ⟨_, rfl, fun j x hx => ?_⟩⟩
        have hb := (Blk.new (w2.alloc (.cells #[.int .i64 ra, .int .i64 va] 2)) [.slice (some ⟨w2.heap.size, 0, none⟩) 2 2] 67).drew
        rw [World.size_alloc] at hb
        have hj : j = 0 := by have := (List.getElem?_eq_some_iff.1 hx).1; simp at this; omega
        subst hj
        cases hx
        exact hb.cell (i := 0) rfl
      have hb9 : Blk ((w2.alloc (.cells #[.int .i64 ra, .int .i64 va] 2)).alloc (.cells #[.slice (some ⟨w2.heap.size, 0, none⟩) 2 2] 67)).drew w2.heap.size [.int .i64 ra, .int .i64 va] 2 := ((Blk.new w2 [.int .i64 ra, .int .i64 va] 2).alloc _).drew
      have HROWB := hid hrowb
      have HSRC := hid hsrc
      have HB9 := hid hb9
      have HFB9 := hid hFb
      have HPLT := hid plt
      have HWLT := hid wlt
      have HX3 := hid x3
      have HX4 := hid x4
      have HEF := hid eF
      have HNF := hid hNF
      have HVS2 := hid hvs2
      have HVS3 := hid hvs3
      have HNB := hid hNFb
      have HOW5 : Hid (∀ g, D.c.fv.ownBlock = some g → g < w2.heap.size ∧ D.lab g = 5) := hid (fun g hg => ⟨(HDR2.out.sep g (by rw [HDR2.out.lf g hg]; decide)).1, HDR2.out.lf g hg⟩)
      have hrest : ∀ (A9 : Option Addr) (n9 c9 : Nat) (w9 : World), Rowv w9 0 (.slice A9 n9 c9) (vs ++ [((some ⟨w2.heap.size, 0, none⟩, 2, 2) : SV)]) → Fr D.c.fv.ownBlock.toList w2 w9 → ((Value.slice A9 n9 c9).ownBlock = D.c.fv.ownBlock ∨ ∃ g, (Value.slice A9 n9 c9).ownBlock = some g ∧ w2.heap.size < g) → Blk w9 w2.heap.size [.int .i64 ra, .int .i64 va] 2 → StPost E a nn (.returned (.bool true)) (w9.setCell ⟨a.wb, 3, none⟩ (.slice A9 n9 c9)) := by
        intro A9 n9 c9 w9 hR9 hF29 how9 hB99
        refine ⟨rfl, ?_⟩
        have hV : FrV w9 (fun b => D.lab b = 2 ∨ b = w2.heap.size) (.slice A9 n9 c9) (S.k.fs.map Fm.l ++ [[ra, va]]) := by
          refine ⟨_, hR9, by rw [List.length_append, List.length_append, HVS2.out]; rfl, fun i l hl => ?_⟩
          by_cases hi : i < (S.k.fs.map Fm.l).length
          · rw [List.getElem?_append_left hi] at hl
            obtain ⟨y, y1, y2⟩ := HVS3.out i l hl
            refine ⟨y, by rw [List.getElem?_append_left (by rw [HVS2.out]; exact hi)]; exact y1, (y2.mono (fun b hb => (.inl hb : D.lab b = 2 ∨ b = w2.heap.size))).fr hF29 (fun g hg hgl hc => ?_)⟩
            have h1 := (HOW5.out g (by simpa using hc)).2
            rcases hg with hg | hg
            · rw [hg] at h1; exact absurd h1 (by decide)
            · omega
          · have hi0 : i = (S.k.fs.map Fm.l).length := by
              have := (List.getElem?_eq_some_iff.1 hl).1
              simp at this hi ⊢
              omega
            subst hi0
            simp at hl
            subst hl
            refine ⟨(some ⟨w2.heap.size, 0, none⟩, 2, 2), ?_, RdS.of_blk (l := [ra, va]) hB99 (.inr rfl) (by simp)⟩
            rw [← HVS2.out]
            simp
        obtain ⟨lab', hdr3⟩ := HDR2.out.setFv (fun b hb => (HCR2.out _ HK2.out (by show S.k.todo ≤ _; rw [HJ.out.todo]; exact Nat.zero_le _)).fbl b hb) hF29 hV (fun b hb => hb.imp id (fun e => by
          refine ⟨by omega, by rw [e]; exact hB99.lt, fun hc => ?_⟩
          rcases how9 with h1 | ⟨g9, h1, h2⟩
          · rw [h1] at hc
            have := (HOW5.out b hc).1
            omega
          · rw [h1] at hc
            have hc' := Option.some.inj hc
            omega)) (by
          rcases how9 with h1 | ⟨g9, h1, h2⟩
          · exact .inl h1
          · have hl9 := hR9.lt _ h1
            exact .inr ⟨_, h1, by omega, hl9.2⟩)
        have hwfb := HJ.out.nfb HJ.out.dr.lw (by decide)
        have hcr3 := (HCR2.out _ HK2.out (by show S.k.todo ≤ _; rw [HJ.out.todo]; exact Nat.zero_le _)).fr (Sl := a.wb :: D.c.fv.ownBlock.toList) (w' := w9.setCell ⟨a.wb, 3, none⟩ (.slice A9 n9 c9)) ((hF29.here (fun z hz => List.mem_cons_of_mem _ hz)).set (by simp) _) (fun z hz => by
          have hz0 : D.lab z ≠ 0 := by
            rcases List.mem_cons.1 hz with e | hz
            · rw [e, HDR2.out.lw]; decide
            · rw [(HOW5.out z (by simpa using hz)).2]; decide
          have hn := (HDR2.out.sep z hz0).2
          exact ⟨fun hc => hn (.inl hc), fun hc => hn (.inr (.inl hc)), fun hc => hn (.inr (.inr hc))⟩)
        have hpt := HT.out.frames (S.k.push ⟨2, 0, [ra, va]⟩) (fun b => S.P b ∨ (W1.heap.size ≤ b ∧ b < w2.heap.size)) (nn' := nn + 1) (fun f hf z hz => by
          have hf' : f ∈ S.k.fs ++ [(⟨2, 0, [ra, va]⟩ : Fm)] := hf
          rcases List.mem_append.1 hf' with h1 | h1
          · exact HT.out.fs f h1 z hz
          · rw [List.mem_singleton.1 h1] at hz
            have hz' : z ∈ [ra, va] := hz
            simp at hz'
            rcases hz' with e | e
            · rw [e]; exact HAV.out
            · rw [e]; exact HBV.out) (by show S.obs.length + (S.k.fs ++ [(⟨2, 0, [ra, va]⟩ : Fm)]).length ≤ nn + 1; rw [List.length_append, List.length_singleton]; have := HT.out.cnt; omega)
        refine ⟨{ S with k := S.k.push ⟨2, 0, [ra, va]⟩, P := fun b => S.P b ∨ (W1.heap.size ≤ b ∧ b < w2.heap.size) }, { D with c := { D.c with fv := .slice A9 n9 c9 }, lab := lab' }, ⟨hcr3, HJ.out.ci.stack _ _, ?_, HJ.out.ah, HJ.out.asb, HJ.out.ak, ?_, HJ.out.room, ?_, ?_, HJ.out.todo, HJ.out.qu, HJ.out.wkg, HJ.out.bl, HJ.out.hkp, HJ.out.rvv⟩, hpt⟩
        · show DR _ a S.obs S.s.wd E.gl ((S.k.fs ++ [(⟨2, 0, [ra, va]⟩ : Fm)]).map Fm.l) (S.rw.map Ob.p) (S.rw.reverse.map Ob.p) _ _
          rw [List.map_append]
          exact hdr3
        · intro f hf
          have hf' : f ∈ S.k.fs ++ [(⟨2, 0, [ra, va]⟩ : Fm)] := hf
          rcases List.mem_append.1 hf' with h1 | h1
          · exact HJ.out.fr2 f h1
          · rw [List.mem_singleton.1 h1]; exact ⟨rfl, rfl, rfl⟩
        · show S.k.used + (([ra, va].length : Nat) + 2) = 4 * ((S.k.fs ++ [(⟨2, 0, [ra, va]⟩ : Fm)]).length : Nat)
          rw [HJ.out.used, List.length_append]
          simp
          omega
        · show (S.k.fs ++ [(⟨2, 0, [ra, va]⟩ : Fm)]).length ≤ 100
          have h1 := HROOM.out
          rw [HJ.out.room, HJ.out.used] at h1
          simp at h1 ⊢
          omega
      have HREST := hid hrest
      clear hrest hrowb hsrc hb9 hFa hFb hFd plt wlt x3 x4 eF hNF hvs1 hvs2 hvs3 hNFb
      go_region_law (first
        | (refine step_appv (by rfl) _ _ (by rfl) 0 _ vs (by rfl) HROWB.out (some ⟨w2.heap.size + 1, 0, none⟩) 1 1 [((some ⟨w2.heap.size, 0, none⟩, 2, 2) : SV)] (by rfl) HSRC.out (by simp) (by have := HNF.out; have := HNB.out; omega) (Nat.zero_le _) ?_; intro v9 w9 hR9 hF9 hown9; obtain ⟨A9, c9, n9, e9⟩ : ∃ A9 c9 n9, v9 = .slice A9 n9 c9 := (by obtain ⟨A9, c9, e⟩ := hR9.form; exact ⟨A9, c9, _, e⟩); subst e9; have hF29 : Fr D.c.fv.ownBlock.toList w2 w9 := (HFB9.out.here (by simp)).trans (by rw [HEF.out]; exact hF9); have hwn : a.wb ∉ D.c.fv.ownBlock.toList := (fun hc => by have h1 := (HOW5.out a.wb (by simpa using hc)).2; rw [HDR2.out.lw] at h1; exact absurd h1 (by decide)); have y9 := Blk.frozen (Blk.fr HDR2.out.wb hF29 hwn) 3; have y94 := (cell_fr hF29 hwn HWLT.out 3).trans HX4.out; have y93 := (cell_fr hF29 (fun hc => by have h1 := (HOW5.out a.pb (by simpa using hc)).2; rw [HDR2.out.lp] at h1; exact absurd h1 (by decide)) HPLT.out 3).trans HX3.out; have HFIN := hid (HREST.out A9 n9 c9 w9 hR9 hF29 (hown9.elim (fun h => .inl (by rw [h, HEF.out])) (fun h => .inr ⟨_, h, by simp; omega⟩)) (HB9.out.fr hF9 (fun hc => by have h1 := (HOW5.out w2.heap.size (by rw [HEF.out]; simpa using hc)).1; omega))); clear hR9 hF9 hown9 hF29 hwn))
      all_goals
        go_wp2_with fail
        go_ret
        exact HFIN.out
  · -- pop
    have HP := hid (yPop E a nn S D W0 HQ0.out r HR4.out)
    clear p0 p1 p2 p3 v0 v2
    go_wp2_with fail
    refine HP.out.mono ?_
    rintro e w4 ⟨rfl, S', D', h'⟩
    have HFIN : Hid (StPost E a nn (.returned (.bool true)) w4) := hid ⟨rfl, S', D', h'.le (by omega)⟩
    clear h'
    go_wp2_with fail
    go_ret
    exact HFIN.out
  · -- a register is nought
    have q1 := Blk.cell HQ0.out.j.dr.rb (i := r) (v := .int .i64 ra) (by rw [List.getElem?_map, HRA.out]; rfl)
    have q2 := Blk.frozen HQ0.out.j.dr.rb r
    have hrest : Hid (StPost E a nn (.returned (.bool true)) (W0.setCell ⟨a.rb, r, none⟩ (.int .i64 0))) := hid (by
      have hF : Fr [a.rb] W0 (W0.setCell ⟨a.rb, r, none⟩ (.int .i64 0)) := (Fr.refl _ W0).set (by simp) _
      have hdr := HQ0.out.j.dr.setReg (regs' := D.regs.set r 0) hF (by rw [List.map_set]; exact HQ0.out.j.dr.rb.set r _) (by rw [List.length_set]; exact HJ.out.dr.rl)
      have hrn := HJ.out.nfb HJ.out.dr.lr (by decide)
      have hcr := HQ0.out.j.cr.fr hF (fun z hz => by
        rw [List.mem_singleton.1 hz]
        exact ⟨fun hc => hrn (.inl hc), fun hc => hrn (.inr (.inl hc)), fun hc => hrn (.inr (.inr hc))⟩)
      have hpt := (HT.out.reg (regs' := D.regs.set r 0) (fun z hz => by
        rcases List.mem_or_eq_of_mem_set hz with h1 | h1
        · exact HT.out.rgs z h1
        · rw [h1]; exact .inl rfl) (by rw [List.length_set]; exact HT.out.rl)).le (Nat.le_succ nn)
      exact ⟨rfl, S, { D with regs := D.regs.set r 0 }, ⟨hcr, HJ.out.ci, hdr, HJ.out.ah, HJ.out.asb, HJ.out.ak, HJ.out.fr2, HJ.out.room, HJ.out.used, HJ.out.fcnt, HJ.out.todo, HJ.out.qu, HJ.out.wkg, HJ.out.bl, HJ.out.hkp, HJ.out.rvv⟩, hpt⟩)
    clear p0 p1 p2 v0
    go_wp2_with fail
    go_ret
    exact hrest.out
  · -- a weak pointer
    have HP := hid (yWeak E a nn S D W0 HQ0.out (by omega) ra va HAV.out HBV.out)
    clear p0 p1 p2 p3 v0 v2
    go_wp2_with fail
    refine HP.out.mono ?_
    rintro e w4 ⟨rfl, S', D', h'⟩
    have HFIN : Hid (StPost E a nn (.returned (.bool true)) w4) := hid ⟨rfl, S', D', h'⟩
    clear h'
    go_wp2_with fail
    go_ret
    exact HFIN.out
  · -- a finaliser
    have HP := hid (yTake E a nn S D W0 HQ0.out r)
    clear p0 p1 p2 p3 v0 v2
    go_wp2_with fail
    refine HP.out.mono ?_
    rintro e w4 ⟨rfl, h'⟩
    have HFIN : Hid (StPost E a nn (.returned (.bool true)) w4) := hid ⟨rfl, S, D, h'.le (by omega)⟩
    clear h'
    go_wp2_with fail
    go_ret
    exact HFIN.out
  · -- a constructor becomes a Hole
    have HSAME : Hid (StPost E a nn (.returned (.bool true)) W0) := hid ⟨rfl, S, D, HQ0.out.le (Nat.le_succ nn)⟩
    by_cases h0 : ra = 0
    · subst h0
      go_wp2_with fail
      go_ret
      exact HSAME.out
    · obtain ⟨o, ho, hop, hok⟩ := HAV.out.resolve_left h0
      have hget := HQ0.out.j.dr.dob.get o ho
      rw [hop] at hget
      obtain ⟨gw0, hgw⟩ : ∃ g, g = D.G ra := ⟨_, rfl⟩
      obtain ⟨oa, hoa⟩ : ∃ k, k = o.a := ⟨_, rfl⟩
      obtain ⟨on, hon⟩ : ∃ k, k = o.n := ⟨_, rfl⟩
      obtain ⟨ok, hoke⟩ : ∃ k, k = o.k := ⟨_, rfl⟩
      rw [← hgw, ← hoke, ← hoa, ← hon] at hget
      have hlk : ∀ wx, Fr [] W0 wx → (Instr.lookup 66 (.map (some D.c.mp)) (.int .i64 ra) false).run Tryz.prog wx = .ok (.agg #[.int .i64 ok, .int .i64 on, .int .i64 oa, .int .i64 0, .slice (some ⟨gw0, 0, none⟩) on on]) wx := by
        intro wx hF
        have := run_lookup_im (P := Tryz.prog) (HQ0.out.j.dr.im.fr hF (by simp)) Tryz.underlying66 Tryz.underlying3 (obZero wx) ra false
        rw [hget] at this
        simp only [Option.getD_some, obV, if_neg (show ¬ false = true by decide)] at this
        exact this
      have hfc := fieldC ok on oa 0 gw0 on
      have hfk := fieldKd ok on oa 0
      have HO := hid (And.intro ho (And.intro hop hok))
      have HON := hid hon
      have HGW := hid hgw
      have HOK := hid hoke
      have HOA := hid hoa
      have HLK := hid hlk
      have l0 := hlk W0 (Fr.refl _ _)
      have hok2 : ok = 1 ∨ ok = 6 := by rw [hoke]; exact hok
      clear hget ho hop hok hgw hoke hoa hon hlk
      rcases hok2 with rfl | rfl
      · -- a constructor
        have hk6 := Blk.cell HQ0.out.j.cr.c (i := 6) rfl
        rw [HJ.out.ci.ph] at hk6
        have HLI := hid (cLinks0 E.kb ra W0 hk6)
        have hin := (HJ.out.ci.inB o HO.out.1).2
        have hbd := hin.bound HJ.out.ci.mh.hi
        simp only [Ob.wm] at hbd
        have hhd : ∀ m, (m = 0 ∨ m = 1) → Hd 6 o.n 0 m := fun m hm => by
          have := HJ.out.ci.mh.hd HO.out.1 m hm
          exact ⟨by decide, by decide, this.m0, this.m1, this.s0, this.s1, by decide, by decide⟩
        have HBE := hid (hBecome S.L S.s o.p o.k o.n o.a S.s.parity 6 0 W0 HQ0.out.j.cr.hr (by omega) (by omega) hin.head hin.hd (hhd _ HJ.out.ci.mh.par))
        rw [HO.out.2.1, HJ.out.cr.hb] at HBE
        have hnr : o ∉ S.rw := fun hc => by
          have h1 := (HJ.out.ci.rin o hc).2.1
          have h2 := HO.out.2.2
          omega
        obtain ⟨ci1, ci2⟩ := HJ.out.ci.turn HO.out.1 (k' := 6) (a' := 0) hhd hnr (by rw [HJ.out.qu]; exact List.not_mem_nil) (fun j hj => by
          exfalso
          obtain ⟨j1, j2⟩ := hj
          simp [Ob.t, lkT] at j2) 2
        have HCI1 := hid ci1
        have HCI2 := hid ci2
        clear hk6 hin hbd hhd hnr ci1 ci2
        go_wp2_with fail
        refine HLI.out.mono ?_
        rintro e w4 ⟨rfl, hw4⟩
        subst hw4
        go_wp2_with fail
        refine HBE.out.mono ?_
        rintro e w5 ⟨rfl, hr5, hF5⟩
        have hF5' : Fr S.L.fp W0 w5 := hF5.here (fun z hz => by
          simp only [List.mem_cons, List.not_mem_nil, or_false] at hz
          rcases hz with e | e <;> rw [e] <;> simp [HL.fp])
        have hdr5 := HQ0.out.j.dr.fr hF5' (fun z hz => HJ.out.fp0 z (fb_fp hz)) (wd' := S.s.wd) (fun _ _ _ _ => rfl) (F' := FB E S) (fun _ _ h => h)
        have hget5 := hdr5.dob.get o HO.out.1
        rw [HO.out.2.1, ← HGW.out, ← HOK.out, ← HOA.out, ← HON.out] at hget5
        have l5 := run_lookup_im (P := Tryz.prog) hdr5.im Tryz.underlying66 Tryz.underlying3 (obZero w5) ra false
        rw [hget5] at l5
        simp only [Option.getD_some, obV, if_neg (show ¬ false = true by decide)] at l5
        have p3 := Blk.cell hdr5.p (i := 3) rfl
        have v0 := Blk.cell hdr5.wb (i := 0) rfl
        have HC5 := hid (HQ0.out.j.cr.heap hF5' (fun z hz => hz) S.A S.z (hO S.obs o.p 6 0) S.rw (s' := S.s.put o.p (packed 6 o.n 0 S.s.parity) 2) (by rw [HO.out.2.1]; exact hr5) rfl)
        have HDR5 := hid hdr5
        clear hr5 hF5 hF5' hdr5 hget5 l0 p2 p1 p0 v2
        go_wp2_with fail
        obtain ⟨W6, hW6⟩ : ∃ W6, W6 = w5.alloc (.cells #[.int .i64 6, .int .i64 on, .int .i64 0, .int .i64 0, .slice (some ⟨gw0, 0, none⟩) on on] 75) := ⟨_, rfl⟩
        have hbx := Blk.new w5 [.int .i64 6, .int .i64 on, .int .i64 0, .int .i64 0, .slice (some ⟨gw0, 0, none⟩) on on] 75
        have hF6 : Fr [] w5 W6 := by rw [hW6]; exact (Fr.refl _ w5).alloc _
        rw [← hW6] at hbx
        rw [← hW6]
        have b0 := hbx.cell (i := 0) rfl
        have b1 := hbx.cell (i := 1) rfl
        have b2 := hbx.cell (i := 2) rfl
        have b3 := hbx.cell (i := 3) rfl
        have b4 := hbx.cell (i := 4) rfl
        have hdr6 := HDR5.out.fr hF6 (by simp) (wd' := S.s.wd) (fun _ _ _ _ => rfl) (F' := FB E S) (fun _ _ h => h)
        have p3 := Blk.cell hdr6.p (i := 3) rfl
        have v0 := Blk.cell hdr6.wb (i := 0) rfl
        obtain ⟨w7, hrun, hI7, hF7⟩ := run_mapUpdate_im (P := Tryz.prog) hdr6.im.drew Tryz.underlying66 Tryz.underlying3 ra (.agg #[.int .i64 6, .int .i64 on, .int .i64 0, .int .i64 0, .slice (some ⟨gw0, 0, none⟩) on on])
        have HC6 := hid (HC5.out.fr hF6 (by simp))
        have HDR6 := hid hdr6
        have HI7 := hid hI7
        have HF7 : Hid (Fr [D.c.mp] W6 w7) := hid (((Fr.refl _ W6).drew).trans hF7)
        have HREST : Hid (StPost E a nn (.returned (.bool true)) w7) := hid (by
          have hmn := HJ.out.nfb HJ.out.dr.lm (by decide)
          have hcr := HC6.out.fr HF7.out (fun z hz => by
            rw [List.mem_singleton.1 hz]
            exact ⟨fun hc => hmn (.inl hc), fun hc => hmn (.inr (.inl hc)), fun hc => hmn (.inr (.inr hc))⟩)
          have hone : ∀ z ∈ S.obs, ∀ y ∈ S.obs, z.p = y.p → z = y := fun z hz y hy e => HJ.out.ci.mh.one hz hy e
          have hpt := (HT.out.turn HJ.out.ci (s' := S.s.put o.p (packed 6 o.n 0 S.s.parity) 2) HO.out.1 HO.out.2.2 HCI2.out).le (Nat.le_succ nn)
          refine ⟨rfl, { S with s := S.s.put o.p (packed 6 o.n 0 S.s.parity) 2, obs := hO S.obs o.p 6 0 }, { D with m := mput D.m ra (obV 6 o.n 0 0 (D.G ra) o.n) }, ⟨hcr, HCI1.out, ?_, HJ.out.ah, HJ.out.asb, HJ.out.ak, HJ.out.fr2, HJ.out.room, HJ.out.used, HJ.out.fcnt, HJ.out.todo, HJ.out.qu, HJ.out.wkg, HJ.out.bl, HJ.out.hkp, HJ.out.rvv⟩, hpt⟩
          have kk := HDR6.out.keep HF7.out 8 (fun z hz => by rw [List.mem_singleton.1 hz]; exact .inl HDR6.out.lm)
          have hup : ∀ o' ∈ hO S.obs o.p 6 0, ∃ z ∈ S.obs, o'.p = z.p := by
            intro o' ho'
            obtain ⟨z, hz, rfl⟩ := mem_updO.1 ho'
            refine ⟨z, hz, ?_⟩
            split <;> rfl
          refine ⟨kk.p (by decide), kk.wb (by decide), by have := HI7.out; rw [HON.out, HGW.out] at this; exact this, kk.kim (by decide), ?_, kk.rb (by decide), HDR6.out.rv, HDR6.out.rl, kk.gv (by decide), kk.fv (by decide) (by decide), kk.row (by decide), HDR6.out.qv, kk.wk (by decide), HDR6.out.lp, HDR6.out.lw, HDR6.out.lr, HDR6.out.lm, HDR6.out.lk, ?_, HDR6.out.lg, HDR6.out.lf, HDR6.out.lo, HDR6.out.lx, ?_, fun b hb => ⟨Nat.lt_of_lt_of_le (HDR6.out.sep b hb).1 HF7.out.size, (HDR6.out.sep b hb).2⟩, kk.bx (by decide)⟩
          · have hd6 := HDR6.out.dob
            rw [← HO.out.2.1]
            refine ⟨fun o' ho' => ?_, fun o' ho' => ?_, fun o1 h1 o2 h2 e => ?_, fun z hz => ?_⟩
            · obtain ⟨z, hz, rfl⟩ := mem_updO.1 ho'
              by_cases e : z.p = o.p
              · have := hone z hz o HO.out.1 e
                subst this
                rw [if_pos rfl]
                exact mget_mput_same _ _ _
              · rw [if_neg e]
                show mget (mput D.m o.p _) z.p = _
                rw [mget_mput_ne _ e]
                exact hd6.get z hz
            · obtain ⟨z, hz, rfl⟩ := mem_updO.1 ho'
              refine ⟨Nat.zero_le _, ?_⟩
              have hb := kk.ob z hz (by have := HDR6.out.pos z hz; omega)
              have e1 : ∀ j, j < z.n → (S.s.put o.p (packed 6 o.n 0 S.s.parity) 2).wd z j = S.s.wd z j := fun j hj => HCI2.out z hz j hj
              by_cases e : z.p = o.p
              · rw [if_pos e]
                have e2 : wcs ({ z with k := 6, a := 0 } : Ob) ((S.s.put o.p (packed 6 o.n 0 S.s.parity) 2).wd { z with k := 6, a := 0 }) = wcs z (S.s.wd z) := wcs_congr z (fun j hj => e1 j hj)
                show Blk w7 (D.G z.p) (wcs ({ z with k := 6, a := 0 } : Ob) ((S.s.put o.p (packed 6 o.n 0 S.s.parity) 2).wd { z with k := 6, a := 0 })) _
                rw [e2]; exact hb
              · rw [if_neg e, wcs_congr z e1]; exact hb
            · obtain ⟨z1, hz1, e1⟩ := hup o1 h1
              obtain ⟨z2, hz2, e2⟩ := hup o2 h2
              have e' : D.G o1.p = D.G o2.p := e
              rw [e1, e2] at e' ⊢
              exact hd6.inj z1 hz1 z2 hz2 e'
            · have hz' : (mget (mput D.m o.p (obV 6 o.n 0 0 (D.G o.p) o.n)) z).isSome = true := hz
              by_cases e : z = o.p
              · refine ⟨_, mem_updO.2 ⟨o, HO.out.1, rfl⟩, ?_⟩
                rw [if_pos rfl]; exact e.symm
              · rw [mget_mput_ne _ e] at hz'
                obtain ⟨y, hy, hyp⟩ := hd6.only z hz'
                refine ⟨_, mem_updO.2 ⟨y, hy, rfl⟩, ?_⟩
                split <;> exact hyp
          · intro o' ho'
            obtain ⟨z, hz, e⟩ := hup o' ho'
            show D.lab (D.G o'.p) = 10 + o'.p
            rw [e]; exact HDR6.out.lG z hz
          · intro o' ho'
            obtain ⟨z, hz, e⟩ := hup o' ho'
            rw [e]; exact HDR6.out.pos z hz)
        clear hI7 hF7 hF6 hbx hdr6 hW6 l5
        go_region
        all_goals
          go_wp2_with fail
          go_ret
          exact HREST.out
      · go_wp2_with fail
        go_ret
        exact HSAME.out
end Go.Proofs.YtklnpooninbogaaGreat
