import Derived.Test.YtifillpcphiblaaDReach2
import Derived.Test.YtifillpcphiblaaMAwake
namespace Go.Proofs.Ytifillpcphiblaa
open Go Go.Proofs Go.RowKit

/-! law16.MarkReaches: plain. -/

structure DV (w : World) (D : DL) (m : List (Int × Value)) (obs : List Ob) (G : Int → Nat) (s0 : HS) : Prop where
  im : IM w D.mp m
  ob : DObs w D.B m 0 obs G s0.wd
  hb : ∃ cs, Blk w D.mb cs 107 ∧ cs[7]? = some (.map (some D.mp))
  lo : D.B ≤ D.mb ∧ D.B ≤ D.mp
theorem JB.dv {w : World} {L : HL} {D : DL} {W Lg : Int} {cls : List Int} {s : HS} {A : Rg} {z : Int → Int} {bits : List Bool} {m : List (Int × Value)} {obs : List Ob} {G : Int → Nat} (h : JB w L D W Lg cls s A z bits m obs G) (hpar : s.parity = 0) : DV w D m obs G s :=
  ⟨h.jh.dh.im, by have := h.dob; rw [hpar] at this; exact this, ⟨_, h.jh.dh.s, rfl⟩, h.jh.dh.lo.1, h.jh.dh.lo.2.2⟩
theorem DV.fr {S : List Nat} {w w' : World} {D : DL} {m : List (Int × Value)} {obs : List Ob} {G : Int → Nat} {s0 : HS} (h : DV w D m obs G s0) (hF : Fr S w w') (h1 : D.mp ∉ S) (h2 : D.mb ∉ S) (h3 : ∀ o ∈ obs, G o.p ∉ S) : DV w' D m obs G s0 := by
  obtain ⟨cs, hb, hc⟩ := h.hb
  exact ⟨h.im.fr hF h1, h.ob.fr hF h3 (fun _ _ _ _ => rfl), ⟨cs, hb.fr hF h2, hc⟩, h.lo⟩
theorem DV.tick {w w' : World} {D : DL} {m : List (Int × Value)} {obs : List Ob} {G : Int → Nat} {s0 : HS} (h : DV w D m obs G s0) (hF : Fr [] w w') : DV w' D m obs G s0 := h.fr hF (by simp) (by simp) (by simp)
theorem DV.step {w0 w w' : World} {L : HL} {D : DL} {mb : Nat} {m : List (Int × Value)} {obs : List Ob} {G : Int → Nat} {s0 : HS} {a : Int} {nx : Nat} (h : DV w D m obs G s0) (q : QS w0 L D mb) (hM : MBlk w mb L a nx) (hF : Fr (mb :: L.fp) w w') : DV w' D m obs G s0 := by
  obtain ⟨cs, hb, hc⟩ := h.hb
  have key : ∀ x, D.B ≤ x → x ≠ mb → x ∉ mb :: L.fp := fun x hx hne hc => by
    rcases List.mem_cons.1 hc with h1 | h1
    · exact hne h1
    · have := q.lw x (fp_all h1); omega
  refine h.fr hF (key _ h.lo.2 (Ne.symm (nomap h.im hM))) (key _ h.lo.1 (blk_ne' hb hM (by decide))) (fun o ho => key _ (h.ob.blk o ho).1 (blk_ne' (h.ob.blk o ho).2 hM (by decide)))
/-- A row of ints has grown. -/
theorem DV.row {w w' : World} {D : DL} {m : List (Int × Value)} {obs : List Ob} {G : Int → Nat} {s0 : HS} {v : Value} {l : List Int} (h : DV w D m obs G s0) (hr : Rowi w D.B v l) (hF : Fr v.ownBlock.toList w w') : DV w' D m obs G s0 := by
  obtain ⟨cs, hb, hc⟩ := h.hb
  exact h.fr hF (fun hc => rowi_nomap hr h.im _ (by simpa using hc) rfl) (fun hc => hr.ne hb (by decide) _ (by simpa using hc) rfl) (fun o ho hc => hr.ne (h.ob.blk o ho).2 (by decide) _ (by simpa using hc) rfl)
theorem LS.app {w wr w' : World} {L : HL} {D : DL} {atv : Value} {mb : Nat} {s : HS} {A : Rg} {z : Int → Int} {obs : List Ob} {g : MG} {a : Int} {nx U : Nat} (h : LS w wr L D atv mb s A z obs g a nx U) (q : QS w L D mb) {v : Value} {l : List Int} (hr : Rowi wr D.B v l) (hsep : ∀ g, v.ownBlock = some g → atv.ownBlock ≠ some g) (hF : Fr v.ownBlock.toList wr w') : LS w w' L D atv mb s A z obs g a nx U := by
  have hlo : ∀ x ∈ v.ownBlock.toList, D.B ≤ x := fun x hx => (hr.lt x (by simpa using hx)).1
  refine ⟨⟨h.mw.hr.fr hF (fun x hx hc => by have := hlo x hx; have := q.lw x hc; omega), h.mw.m.fr hF (fun hc => hr.ne h.mw.m (by decide) _ (by simpa using hc) rfl), h.mw.i, h.mw.z0⟩, h.row.fr hF (fun b hb hc => hsep b (by simpa using hc) hb), h.fr0.step hF (fun x hx => .inr (by have := hlo x hx; have := q.dB; omega))⟩
theorem LS.tick {w wr w' : World} {L : HL} {D : DL} {atv : Value} {mb : Nat} {s : HS} {A : Rg} {z : Int → Int} {obs : List Ob} {g : MG} {a : Int} {nx U : Nat} (h : LS w wr L D atv mb s A z obs g a nx U) (hF : Fr [] wr w') : LS w w' L D atv mb s A z obs g a nx U :=
  ⟨⟨h.mw.hr.fr hF (by simp), h.mw.m.fr hF (by simp), h.mw.i, h.mw.z0⟩, h.row.fr hF (by simp), h.fr0.trans hF⟩

theorem rts_take {obs : List Ob} {roots : List Int} {j : Nat} {t : Int} (ht : roots[j]? = some t) : rts obs (roots.take (j + 1)) = rts obs (roots.take j) ++ (rootAt obs t).toList := by
  unfold rts
  rw [List.take_add_one, ht, List.filterMap_append]
  congr 1
theorem rts_len (obs : List Ob) (roots : List Int) : (rts obs roots).length ≤ roots.length := List.length_filterMap_le _ _
theorem rootAt_yes {obs : List Ob} {tn : Nat} {o : Ob} (h : obs[tn]? = some o) : rootAt obs ((tn : Int) + 1) = some o.p := by
  have hl := (List.getElem?_eq_some_iff.1 h).1
  unfold rootAt
  rw [if_pos (by omega), show ((tn : Int) + 1 - 1).toNat = tn by omega, h]
  rfl
theorem rootAt_no {obs : List Ob} {t : Int} (h : ¬ (1 ≤ t ∧ t ≤ obs.length)) : rootAt obs t = none := by
  unfold rootAt; rw [if_neg h]

/-- The units ahead: as many as there are objects reached, and links of theirs. -/
theorem pot_eq {A : Rg} {s : HS} {obs Lv : List Ob} {fr : List Int} (hnd : obs.Nodup) (hn : Lv.Nodup) (hs : ∀ o ∈ Lv, o ∈ obs) (hr : ∀ o ∈ obs, o ∈ Lv ↔ Rch obs (W0of s) fr o.p) : pot A.begun (MGof obs s fr) obs = Lv.length + (Lv.map nl).sum := by
  classical
  have h1 : pot A.begun (MGof obs s fr) obs = ((obs.filter (fun o => decide (o ∈ Lv))).map (fun o => 1 + nl o)).sum := by
    unfold pot
    have key : ∀ l : List Ob, (∀ o ∈ l, o ∈ obs) → (l.map fun o => open Classical in if (MGof obs s fr).S o.p ∧ o.p ∉ (A.begun o.q).B then 1 + nl o else 0).sum = ((l.filter (fun o => decide (o ∈ Lv))).map (fun o => 1 + nl o)).sum := by
      intro l
      induction l with
      | nil => intro _; rfl
      | cons a l ih =>
        intro hl
        have ha := hr a (hl a List.mem_cons_self)
        rw [List.map_cons, List.sum_cons, ih (fun o ho => hl o (List.mem_cons_of_mem _ ho)), List.filter_cons]
        by_cases hm : a ∈ Lv
        · rw [if_pos ⟨ha.1 hm, by simp [Rg.begun]⟩, if_pos (by simpa using hm)]
          simp
        · rw [if_neg (fun hc => hm (ha.2 hc.1)), if_neg (by simpa using hm)]
          simp
    exact key obs (fun _ h => h)
  have hp : (obs.filter (fun o => decide (o ∈ Lv))).Perm Lv := (List.perm_ext_iff_of_nodup (hnd.filter _) hn).2 (fun o => by simp; exact hs o)
  rw [h1, (hp.map _).sum_nat]
  clear h1 hp hn hs hr
  induction Lv with
  | nil => rfl
  | cons a l ih => simp only [List.map_cons, List.sum_cons, List.length_cons]; omega

/-! Runs with their frames told. -/
theorem rowi_step {w0 w w' : World} {L : HL} {D : DL} {mb : Nat} {a : Int} {nx : Nat} {v : Value} {l : List Int} (hr : Rowi w D.B v l) (q : QS w0 L D mb) (hM : MBlk w mb L a nx) (hF : Fr (mb :: L.fp) w w') : Rowi w' D.B v l :=
  hr.fr hF (fun b hb hc => by
    rcases List.mem_cons.1 hc with h1 | h1
    · exact hr.ne hM (by decide) b hb h1
    · have := (hr.lt b hb).1
      have := q.lw b (fp_all h1)
      omega)
theorem lShade2 {w wr : World} {L : HL} {D : DL} {atv : Value} {mb : Nat} {s : HS} {A : Rg} {z : Int → Int} {obs : List Ob} {g : MG} {a : Int} {nx U : Nat} (h : LS w wr L D atv mb s A z obs g a nx U) (q : QS w L D mb) (p : Int) (hp : p = 0 ∨ ∃ o ∈ obs, o.p = p ∧ g.S o.p) :
    Calls Try.prog 57 #[.pointer (some ⟨mb, 0, none⟩), .int .i64 p] wr fun e w' => e = .returned (.int .i64 0) ∧ Fr (mb :: L.fp) wr w' ∧ ∃ s' A', LS w w' L D atv mb s' A' z obs g a nx U ∧ MSt s s' A A' obs ∧ ∀ o ∈ obs, o.p = p → Mkd A' o := by
  refine (mShade L s A z obs g a a nx nx U mb p wr h.mw.hr h.mw.m h.mw.i hp).mono ?_
  rintro e w' ⟨rfl, hF, s', A', hH, hi, hst, hm⟩
  have hF' : Fr (mb :: L.fp) wr w' := hF.here (fun y hy => List.mem_cons_of_mem _ hy)
  exact ⟨rfl, hF', s', A', h.step q hF' ⟨hH, h.mw.m.fr hF (fun hc => q.mbL (fp_all hc)), hi, h.mw.z0⟩, hst, hm⟩

/-- A run, and a map that Reached told. -/
structure LR (w wr : World) (L : HL) (D : DL) (atv : Value) (mb : Nat) (s : HS) (A : Rg) (z : Int → Int) (obs : List Ob) (g : MG) (a : Int) (nx U om : Nat) (tr : List (Int × Value)) : Prop where
  ls : LS w wr L D atv mb s A z obs g a nx U
  im : IM wr om tr
  om : om ∉ mb :: L.fp
theorem LR.tick {w wr w' : World} {L : HL} {D : DL} {atv : Value} {mb : Nat} {s : HS} {A : Rg} {z : Int → Int} {obs : List Ob} {g : MG} {a : Int} {nx U om : Nat} {tr : List (Int × Value)} (h : LR w wr L D atv mb s A z obs g a nx U om tr) (hF : Fr [] wr w') : LR w w' L D atv mb s A z obs g a nx U om tr :=
  ⟨h.ls.tick hF, h.im.fr hF (by simp), h.om⟩
theorem lrWork {w wr : World} {L : HL} {D : DL} {atv : Value} {mb : Nat} {s : HS} {A : Rg} {z : Int → Int} {obs : List Ob} {g : MG} {a : Int} {nx U om : Nat} {tr : List (Int × Value)} (h : LR w wr L D atv mb s A z obs g a nx U om tr) (q : QS w L D mb) (n : Int) (hU : U ≤ 60000) :
    Calls Try.prog 59 #[.pointer (some ⟨mb, 0, none⟩), .int .i64 n] wr fun e w' => ∃ (d : Nat) (s' : HS) (A' : Rg) (a' : Int) (nx' : Nat), e = .returned (.int .i64 d) ∧ (d : Int) ≤ max n 0 ∧ d ≤ U ∧ LR w w' L D atv mb s' A' z obs g a' nx' (U - d) om tr ∧ MSt s s' A A' obs ∧ ((d : Int) < n → a' = 0 ∧ NoG A') := by
  refine (mWork L s A z obs g a nx U mb n wr h.ls.mw q.mbL hU).mono ?_
  rintro e w' ⟨hF, d, s', A', a', nx', rfl, h1, h2, h3, h4, h5⟩
  exact ⟨d, s', A', a', nx', rfl, h1, h2, ⟨h.ls.step q hF h3, h.im.fr hF h.om, h.om⟩, h4, h5⟩
theorem lrDone {w wr : World} {L : HL} {D : DL} {atv : Value} {mb : Nat} {s : HS} {A : Rg} {z : Int → Int} {obs : List Ob} {g : MG} {U om : Nat} {tr : List (Int × Value)} (h : LR w wr L D atv mb s A z obs g 0 0 U om tr) (q : QS w L D mb) (hno : NoG A) :
    Calls Try.prog 60 #[.pointer (some ⟨mb, 0, none⟩)] wr fun e w' => e = .returned (.bool true) ∧ LR w w' L D atv mb s A z obs g 0 0 U om tr := by
  refine (mDone L s A z obs g U mb wr ⟨h.ls.mw, hno⟩ q.mbL).mono ?_
  rintro e w' ⟨rfl, ⟨h1, _⟩, hF⟩
  have hF' : Fr (mb :: L.fp) wr w' := hF.here (fun y hy => List.mem_cons_of_mem _ (ab_fp y hy))
  exact ⟨rfl, ⟨h.ls.step q hF' h1, h.im.fr hF' h.om, h.om⟩⟩
theorem mark_iff {s : HS} {A : Rg} {z : Int → Int} {obs : List Ob} (h : MH s A z obs) {o : Ob} (ho : o ∈ obs) : ∃ m, (o.wm m).In s A z ∧ (m = s.parity ↔ Mkd A o) := by
  rcases h.inn o ho with ⟨h1, h2⟩ | ⟨h1, h2⟩
  · refine ⟨_, h2, ⟨fun e => ?_, fun hm => ?_⟩⟩
    · have := h.par; omega
    · have := rows_fm h.hi h1
      rcases hm with hm | hm
      · exact absurd hm this.1
      · exact absurd hm this.2
  · exact ⟨_, h2, ⟨fun _ => h1, fun _ => rfl⟩⟩
/-- An object's cell, and its mark. -/
theorem lCell {w wr : World} {L : HL} {D : DL} {atv : Value} {mb : Nat} {s : HS} {A : Rg} {z : Int → Int} {obs : List Ob} {g : MG} {a : Int} {nx U : Nat} (h : LS w wr L D atv mb s A z obs g a nx U) (q : QS w L D mb) {o : Ob} (ho : o ∈ obs) :
    Calls Try.prog 25 #[.pointer (some ⟨L.hb, 0, none⟩), .int .i64 o.p] wr fun e w' => Fr (mb :: L.fp) wr w' ∧ ∃ m, e = .returned (.tuple #[.agg #[.int .i64 o.k, .int .i64 o.n, .int .i64 o.a, .int .i64 m], .int .i64 0]) ∧ (m = s.parity ↔ Mkd A o) ∧ LS w w' L D atv mb (s.tick 1) A z obs g a nx U := by
  obtain ⟨m, hin, hm⟩ := mark_iff h.mw.i.mh ho
  have hb := hin.bound h.mw.i.mh.hi
  simp only [Ob.wm] at hb
  refine (hCell L s o.p o.k o.n o.a m wr h.mw.hr (by omega) (by omega) hin.head hin.hd).mono ?_
  rintro e w' ⟨rfl, hH, hF⟩
  have hF' : Fr (mb :: L.fp) wr w' := hF.here (fun y hy => List.mem_cons_of_mem _ (ab_fp y hy))
  exact ⟨hF', m, rfl, hm, h.step q hF' ⟨hH, h.mw.m.fr hF (fun hc => q.mbL (fp_all (ab_fp _ hc))), h.mw.i.tick 1, h.mw.z0⟩⟩
theorem lrCell {w wr : World} {L : HL} {D : DL} {atv : Value} {mb : Nat} {s : HS} {A : Rg} {z : Int → Int} {obs : List Ob} {g : MG} {a : Int} {nx U om : Nat} {tr : List (Int × Value)} (h : LR w wr L D atv mb s A z obs g a nx U om tr) (q : QS w L D mb) {o : Ob} (ho : o ∈ obs) :
    Calls Try.prog 25 #[.pointer (some ⟨L.hb, 0, none⟩), .int .i64 o.p] wr fun e w' => ∃ m, e = .returned (.tuple #[.agg #[.int .i64 o.k, .int .i64 o.n, .int .i64 o.a, .int .i64 m], .int .i64 0]) ∧ (m = s.parity ↔ Mkd A o) ∧ LR w w' L D atv mb (s.tick 1) A z obs g a nx U om tr := by
  refine (lCell h.ls q ho).mono ?_
  rintro e w' ⟨hF, m, he, hm, hl⟩
  exact ⟨m, he, hm, ⟨hl, h.im.fr hF h.om, h.om⟩⟩

theorem run_len_im {P : Program} {w : World} {t k e : TypeId} {b : Nat} {m : List (Int × Value)} (h : IM w b m) (ht : P.underlying t = some (.map k e)) (ty : TypeId) : (Builtin.len_ #[t] ty #[.map (some b)]).run P w = .ok (.int .i64 m.length) w := by
  obtain ⟨es, ck, hb, he, _⟩ := h
  have hl : es.size = m.length := by have := congrArg List.length he; simpa using this
  simp [Builtin.len_, run_underlying ht, MapKept.run_getObj_map hb, goInt, Result.andThen, hl]
theorem wpList_len_im {P : Program} {w : World} {ops : Array Oper} {rest : List Oper} {o : Oper} {a : Act} {Q : Exit → Act → World → Prop}
    (hg : o.guard = none) (m : Operand) (t : TypeId) (hop : o.op = Op.call { callee := Callee.builtin Builtin.len, args := #[m], argTypes := #[t] })
    (k e : TypeId) (ht : P.underlying t = some (.map k e)) (b : Nat) (l : List (Int × Value)) (hm : a.eval m = .map (some b)) (h : IM w b l)
    (hK : wpList P ops Q rest (a.put o.dst (.int .i64 l.length)) w) :
    wpList P ops Q (o :: rest) a w := by
  refine wpList_plain hg fun K' hK' => ?_
  unfold Oper.wp
  simp [execOp, hop, resolve, invoke, builtin, hm, run_len_im h ht o.type, Result.andThen]
  exact hK' _ _ hK
end Go.Proofs.Ytifillpcphiblaa
