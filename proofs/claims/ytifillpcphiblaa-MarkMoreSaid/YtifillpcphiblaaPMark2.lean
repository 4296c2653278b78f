import Derived.Test.YtifillpcphiblaaPBuilt3
import Derived.Test.YtifillpcphiblaaMWork
namespace Go.Proofs.Ytifillpcphiblaa
open Go Go.Proofs Go.RowKit

/-! law16: what the laws hold. -/

def W0of (s : HS) : Int → Nat → Int := fun p j => gw s.ws (p + 3 + j)
def MGof (obs : List Ob) (s : HS) (fr : List Int) : MG := ⟨Rch obs (W0of s) fr, W0of s, Rch obs (W0of s) fr⟩

theorem JB.mi {w : World} {L : HL} {D : DL} {W Lg : Int} {cls : List Int} {s s' : HS} {A : Rg} {z : Int → Int} {bits : List Bool} {m : List (Int × Value)} {obs : List Ob} {G : Int → Nat} (h : JB w L D W Lg cls s A z bits m obs G)
    (hw : ∀ o ∈ obs, ∀ j, j < o.n → s.wd o j = 0 ∨ ∃ o' ∈ obs, o'.p = s.wd o j) (fr : List Int) (hi : HI s' A.begun z) (e1 : s'.ws = s.ws) (e2 : s'.cls = s.cls) (e3 : s'.parity = 1 - s.parity) : MI s' A.begun z obs (MGof obs s fr) 0 0 (pot A.begun (MGof obs s fr) obs) :=
  MI.begin hi h.jh.par e3 e1 e2 h.inn h.nofg h.rows h.nd (fun o ho j hj => hw o ho j hj.lt) _ (fun _ _ _ _ => rfl) (fun o ho hS j hj o' ho' e => Rch.step o o' j hS ho hj ho' e)

theorem nl_le {o : Ob} (h : o.n < 32) : nl o ≤ 31 := by
  unfold nl Ob.t
  have := lkT_le o.k o.n
  omega
theorem sum_le {f : Ob → Nat} {c : Nat} : ∀ {l : List Ob}, (∀ o ∈ l, f o ≤ c) → (l.map f).sum ≤ c * l.length := by
  intro l
  induction l with
  | nil => intro _; simp
  | cons a l ih =>
    intro h
    have h1 := ih (fun o ho => h o (List.mem_cons_of_mem _ ho))
    have h2 := h a List.mem_cons_self
    simp only [List.map_cons, List.sum_cons, List.length_cons, Nat.mul_add, Nat.mul_one]
    omega
theorem pot_le {A : Rg} {g : MG} {obs : List Ob} (h : ∀ o ∈ obs, o.n < 32) : pot A g obs ≤ 32 * obs.length := by
  unfold pot
  refine sum_le (fun o ho => ?_)
  have := nl_le (h o ho)
  split <;> omega

/-- Behind the work. -/
theorem MI.all {s s' : HS} {A' : Rg} {z : Int → Int} {obs : List Ob} {fr : List Int} {U : Nat} (h : MI s' A' z obs (MGof obs s fr) 0 0 U) (hno : NoG A') (hroot : ∀ o ∈ obs, o.p ∈ fr → Mkd A' o) :
    (∀ o ∈ obs, Mkd A' o ↔ Rch obs (W0of s) fr o.p) ∧ U = 0 := by
  have h1 : ∀ o ∈ obs, Rch obs (W0of s) fr o.p → Mkd A' o := h.fin hno (obs0 := obs) (fr := fr) (fun _ h => h) (fun _ _ h => h) hroot
  refine ⟨fun o ho => ⟨h.mS o ho, h1 o ho⟩, ?_⟩
  obtain ⟨r, hr, hu⟩ := h.u
  have hr0 : r = 0 := by
    rcases hr with ⟨_, e⟩ | ⟨o, ho, e, hb, _⟩
    · exact e
    · have := (h.mh.hi.bound (q := o.q) (c := o.p) (by simp [Rows.all, hb])).1
      omega
  rw [pot_zero (fun o ho hS => by
    rcases h1 o ho hS with h2 | h2
    · rw [hno o.q] at h2; cases h2
    · exact h2)] at hu
  omega

/-- The roots that a list names. -/
def rootAt (obs : List Ob) (t : Int) : Option Int := if 1 ≤ t ∧ t ≤ obs.length then (obs[(t - 1).toNat]?).map Ob.p else none
def rts (obs : List Ob) (roots : List Int) : List Int := roots.filterMap (rootAt obs)
theorem rts_mem {obs : List Ob} {roots : List Int} {i : Nat} {t : Int} {o : Ob} (ht : roots[i]? = some t) (h : 1 ≤ t ∧ t ≤ obs.length) (ho : obs[(t - 1).toNat]? = some o) : o.p ∈ rts obs roots :=
  List.mem_filterMap.2 ⟨t, List.mem_of_getElem? ht, by unfold rootAt; rw [if_pos h, ho]; rfl⟩
theorem rts_of {obs : List Ob} {roots : List Int} {p : Int} (h : p ∈ rts obs roots) : ∃ (i : Nat) (t : Int) (o : Ob), roots[i]? = some t ∧ (1 ≤ t ∧ t ≤ obs.length) ∧ obs[(t - 1).toNat]? = some o ∧ o.p = p := by
  obtain ⟨t, ht, hr⟩ := List.mem_filterMap.1 h
  obtain ⟨i, hi, he⟩ := List.getElem_of_mem ht
  unfold rootAt at hr
  split at hr
  · rename_i hc
    cases ho : obs[(t - 1).toNat]? with
    | none => rw [ho] at hr; cases hr
    | some o =>
      rw [ho] at hr
      exact ⟨i, t, o, by rw [List.getElem?_eq_getElem hi, he], hc, ho, Option.some.inj hr⟩
  · cases hr

/-- Where things lie. -/
structure QS (w : World) (L : HL) (D : DL) (mb : Nat) : Prop where
  mbL : mb ∉ L.all
  lo : ∀ x ∈ L.all, w.heap.size ≤ x
  lw : ∀ x ∈ L.all, x < D.B
  mlo : w.heap.size ≤ mb
  dB : w.heap.size ≤ D.B

structure LS (w wr : World) (L : HL) (D : DL) (atv : Value) (mb : Nat) (s : HS) (A : Rg) (z : Int → Int) (obs : List Ob) (g : MG) (a : Int) (nx U : Nat) : Prop where
  mw : MW wr L mb s A z obs g a nx U
  row : Rowi wr D.B atv (obs.map Ob.p)
  fr0 : Fr [] w wr

theorem LS.step {w wr w' : World} {L : HL} {D : DL} {atv : Value} {mb : Nat} {s s' : HS} {A A' : Rg} {z : Int → Int} {obs : List Ob} {g : MG} {a a' : Int} {nx nx' U U' : Nat} (h : LS w wr L D atv mb s A z obs g a nx U) (q : QS w L D mb) (hF : Fr (mb :: L.fp) wr w') (hm : MW w' L mb s' A' z obs g a' nx' U') : LS w w' L D atv mb s' A' z obs g a' nx' U' :=
  ⟨hm, h.row.fr hF (fun b hb hc => by
    rcases List.mem_cons.1 hc with h1 | h1
    · exact h.row.ne h.mw.m (by decide) b hb h1
    · have := (h.row.lt b hb).1
      have := q.lw b (fp_all h1)
      omega), h.fr0.step hF (fun y hy => by
    rcases List.mem_cons.1 hy with h1 | h1
    · exact .inr (by rw [h1]; exact q.mlo)
    · exact .inr (q.lo y (fp_all h1)))⟩

theorem lShade {w wr : World} {L : HL} {D : DL} {atv : Value} {mb : Nat} {s : HS} {A : Rg} {z : Int → Int} {obs : List Ob} {g : MG} {a : Int} {nx U : Nat} (h : LS w wr L D atv mb s A z obs g a nx U) (q : QS w L D mb) (p : Int) (hp : p = 0 ∨ ∃ o ∈ obs, o.p = p ∧ g.S o.p) :
    Calls Try.prog 57 #[.pointer (some ⟨mb, 0, none⟩), .int .i64 p] wr fun e w' => e = .returned (.int .i64 0) ∧ ∃ s' A', LS w w' L D atv mb s' A' z obs g a nx U ∧ MSt s s' A A' obs ∧ ∀ o ∈ obs, o.p = p → Mkd A' o := by
  refine (mShade L s A z obs g a a nx nx U mb p wr h.mw.hr h.mw.m h.mw.i hp).mono ?_
  rintro e w' ⟨rfl, hF, s', A', hH, hi, hst, hm⟩
  have hF' : Fr (mb :: L.fp) wr w' := hF.here (fun y hy => List.mem_cons_of_mem _ hy)
  exact ⟨rfl, s', A', h.step q hF' ⟨hH, h.mw.m.fr hF (fun hc => q.mbL (fp_all hc)), hi, h.mw.z0⟩, hst, hm⟩

theorem lWork {w wr : World} {L : HL} {D : DL} {atv : Value} {mb : Nat} {s : HS} {A : Rg} {z : Int → Int} {obs : List Ob} {g : MG} {a : Int} {nx U : Nat} (h : LS w wr L D atv mb s A z obs g a nx U) (q : QS w L D mb) (n : Int) (hU : U ≤ 60000) :
    Calls Try.prog 59 #[.pointer (some ⟨mb, 0, none⟩), .int .i64 n] wr fun e w' => ∃ (d : Nat) (s' : HS) (A' : Rg) (a' : Int) (nx' : Nat), e = .returned (.int .i64 d) ∧ (d : Int) ≤ max n 0 ∧ d ≤ U ∧ LS w w' L D atv mb s' A' z obs g a' nx' (U - d) ∧ MSt s s' A A' obs ∧ ((d : Int) < n → a' = 0 ∧ NoG A') := by
  refine (mWork L s A z obs g a nx U mb n wr h.mw q.mbL hU).mono ?_
  rintro e w' ⟨hF, d, s', A', a', nx', rfl, h1, h2, h3, h4, h5⟩
  exact ⟨d, s', A', a', nx', rfl, h1, h2, h.step q hF h3, h4, h5⟩

theorem lDone {w wr : World} {L : HL} {D : DL} {atv : Value} {mb : Nat} {s : HS} {A : Rg} {z : Int → Int} {obs : List Ob} {g : MG} {U : Nat} (h : LS w wr L D atv mb s A z obs g 0 0 U) (q : QS w L D mb) (hno : NoG A) :
    Calls Try.prog 60 #[.pointer (some ⟨mb, 0, none⟩)] wr fun e w' => e = .returned (.bool true) ∧ LS w w' L D atv mb s A z obs g 0 0 U := by
  refine (mDone L s A z obs g U mb wr ⟨h.mw, hno⟩ q.mbL).mono ?_
  rintro e w' ⟨rfl, ⟨h1, _⟩, hF⟩
  exact ⟨rfl, h.step q (hF.here (fun y hy => List.mem_cons_of_mem _ (ab_fp y hy))) h1⟩
end Go.Proofs.Ytifillpcphiblaa
