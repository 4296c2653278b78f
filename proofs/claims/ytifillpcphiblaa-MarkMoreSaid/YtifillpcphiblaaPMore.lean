import Derived.Test.YtifillpcphiblaaPReach
import Derived.Test.YtifillpcphiblaaDRowb
namespace Go.Proofs.Ytifillpcphiblaa
open Go Go.Proofs Go.RowKit

/-! Plain laws for MarkMore: runs of one list are alike; marks from more roots. -/

theorem LS.fr {S : List Nat} {w wr w' : World} {L : HL} {D : DL} {atv : Value} {mb : Nat} {s : HS} {A : Rg} {z : Int → Int} {obs : List Ob} {g : MG} {a : Int} {nx U : Nat} (h : LS w wr L D atv mb s A z obs g a nx U) (hF : Fr S wr w') (hS : ∀ x ∈ S, x ∉ L.all ∧ x ≠ mb ∧ atv.ownBlock ≠ some x ∧ w.heap.size ≤ x) : LS w w' L D atv mb s A z obs g a nx U :=
  ⟨⟨h.mw.hr.fr hF (fun x hx => (hS x hx).1), h.mw.m.fr hF (fun hc => (hS _ hc).2.1 rfl), h.mw.i, h.mw.z0⟩, h.row.fr hF (fun b hb hc => (hS b hc).2.2.1 hb), h.fr0.step hF (fun x hx => .inr (hS x hx).2.2.2)⟩
theorem LS.tick' {w wr w' : World} {L : HL} {D : DL} {atv : Value} {mb : Nat} {s : HS} {A : Rg} {z : Int → Int} {obs : List Ob} {g : MG} {a : Int} {nx U : Nat} (h : LS w wr L D atv mb s A z obs g a nx U) (hF : Fr [] wr w') : LS w w' L D atv mb s A z obs g a nx U := h.fr hF (by simp)
/-- The run began earlier. -/
theorem LS.base {w0 w wr : World} {L : HL} {D : DL} {atv : Value} {mb : Nat} {s : HS} {A : Rg} {z : Int → Int} {obs : List Ob} {g : MG} {a : Int} {nx U : Nat} (h : LS w wr L D atv mb s A z obs g a nx U) (hF : Fr [] w0 w) : LS w0 wr L D atv mb s A z obs g a nx U := ⟨h.mw, h.row, hF.trans h.fr0⟩
theorem QS.base {w0 w : World} {L : HL} {D : DL} {mb : Nat} (q : QS w L D mb) (hF : Fr [] w0 w) : QS w0 L D mb :=
  ⟨q.mbL, fun x hx => Nat.le_trans hF.size (q.lo x hx), q.lw, Nat.le_trans hF.size q.mlo, Nat.le_trans hF.size q.dB⟩

def wantP (obs : List Ob) (ms : List Mk) (p : Int) (j : Nat) : Int := match obs.find? (fun o => decide (o.p = p)) with
  | some o => want obs ms o j
  | none => 0
theorem wantP_at {obs : List Ob} (hone : ∀ o ∈ obs, ∀ o' ∈ obs, o.p = o'.p → o = o') (ms : List Mk) {o : Ob} (ho : o ∈ obs) (j : Nat) : wantP obs ms o.p j = want obs ms o j := by
  unfold wantP
  cases h : obs.find? (fun x => decide (x.p = o.p)) with
  | none =>
    have := List.find?_eq_none.1 h o ho
    simp at this
  | some o' =>
    have h1 := List.find?_some h
    have h2 := List.mem_of_find?_eq_some h
    simp only [decide_eq_true_eq] at h1
    have := hone o' h2 o ho h1
    subst this
    rfl
theorem rch_congr {obs : List Ob} {W W' : Int → Nat → Int} {fr : List Int} (h : ∀ o ∈ obs, ∀ j, Lk o j → W' o.p j = W o.p j) {p : Int} (hr : Rch obs W fr p) : Rch obs W' fr p := by
  induction hr with
  | root p hp => exact Rch.root p hp
  | step o o' j hr ho hj ho' e ih => exact Rch.step o o' j ih ho hj ho' (e.trans (h o ho j hj).symm)
theorem rch_iff {obs : List Ob} {s : HS} {ms : List Mk} {fr : List Int} (hone : ∀ o ∈ obs, ∀ o' ∈ obs, o.p = o'.p → o = o') (hwd : ∀ o ∈ obs, ∀ j, j < o.n → s.wd o j = want obs ms o j) (p : Int) : Rch obs (W0of s) fr p ↔ Rch obs (wantP obs ms) fr p := by
  have key : ∀ o ∈ obs, ∀ j, Lk o j → wantP obs ms o.p j = W0of s o.p j := fun o ho j hj => by
    rw [wantP_at hone ms ho j, ← hwd o ho j hj.lt]; rfl
  exact ⟨rch_congr key, rch_congr (fun o ho j hj => (key o ho j hj).symm)⟩
theorem rch_app {obs : List Ob} {W : Int → Nat → Int} {f1 f2 : List Int} (p : Int) : Rch obs W (f1 ++ f2) p ↔ Rch obs W f1 p ∨ Rch obs W f2 p := by
  constructor
  · intro h
    induction h with
    | root p hp => exact (List.mem_append.1 hp).imp (Rch.root p) (Rch.root p)
    | step o o' j hr ho hj ho' e ih => exact ih.imp (fun h => Rch.step o o' j h ho hj ho' e) (fun h => Rch.step o o' j h ho hj ho' e)
  · have key : ∀ f, (∀ x ∈ f, x ∈ f1 ++ f2) → Rch obs W f p → Rch obs W (f1 ++ f2) p := by
      intro f hf h
      induction h with
      | root p hp => exact Rch.root p (hf p hp)
      | step o o' j hr ho hj ho' e ih => exact Rch.step o o' j ih ho hj ho' e
    rintro (h | h)
    · exact key f1 (fun x hx => List.mem_append.2 (.inl hx)) h
    · exact key f2 (fun x hx => List.mem_append.2 (.inr hx)) h
theorem rts_app (obs : List Ob) (a b : List Int) : rts obs (a ++ b) = rts obs a ++ rts obs b := List.filterMap_append
open Classical in
/-- The marks. -/
noncomputable def mkB (obs : List Ob) (ms : List Mk) (rl : List Int) : List Bool := obs.map fun o => decide (Rch obs (wantP obs ms) (rts obs rl) o.p)
open Classical in
noncomputable def mdB (A : Rg) (obs : List Ob) : List Bool := obs.map fun o => decide (Mkd A o)
theorem mkB_len (obs : List Ob) (ms : List Mk) (rl : List Int) : (mkB obs ms rl).length = obs.length := by simp [mkB]
theorem mkB_or (obs : List Ob) (ms : List Mk) (a b : List Int) (i : Nat) (x y z : Bool) (hx : (mkB obs ms a)[i]? = some x) (hy : (mkB obs ms b)[i]? = some y) (hz : (mkB obs ms (a ++ b))[i]? = some z) : z = (x || y) := by
  classical
  unfold mkB at hx hy hz
  rw [List.getElem?_map] at hx hy hz
  cases ho : obs[i]? with
  | none => rw [ho] at hx; cases hx
  | some o =>
    rw [ho] at hx hy hz
    simp only [Option.map_some, Option.some.injEq] at hx hy hz
    rw [← hx, ← hy, ← hz, rts_app, Bool.eq_iff_iff]
    simp only [decide_eq_true_eq, Bool.or_eq_true]
    exact rch_app o.p
theorem mdB_eq {obs : List Ob} {A : Rg} {ms : List Mk} {rl : List Int} (h : ∀ o ∈ obs, Mkd A o ↔ Rch obs (wantP obs ms) (rts obs rl) o.p) : mdB A obs = mkB obs ms rl := by
  classical
  unfold mdB mkB
  exact List.map_congr_left (fun o ho => by rw [Bool.eq_iff_iff]; simp only [decide_eq_true_eq]; exact h o ho)
theorem mdB_take {A : Rg} {obs : List Ob} {j : Nat} {o : Ob} (ho : obs[j]? = some o) {b : Bool} (hb : b = true ↔ Mkd A o) : mdB A (obs.take (j + 1)) = mdB A (obs.take j) ++ [b] := by
  classical
  unfold mdB
  rw [List.take_add_one, ho, List.map_append]
  congr 1
  show [decide (Mkd A o)] = [b]
  congr 1
  rw [Bool.eq_iff_iff]
  simp only [decide_eq_true_eq]
  exact hb.symm

/-- A row that is read: one that came in, or one that was made. -/
def RL (w wr : World) (B : Nat) (v : Value) (l : List Int) : Prop := SlArg w v l ∨ Rowi wr B v l
theorem RL.form {w wr : World} {B : Nat} {v : Value} {l : List Int} (h : RL w wr B v l) : ∃ p cap, v = .slice p l.length cap := by
  rcases h with h | h
  · exact slForm h
  · exact h.form
theorem RL.cell {w wr : World} {B : Nat} {p : Option Addr} {cap : Nat} {l : List Int} (h : RL w wr B (.slice p l.length cap) l) (hF : Fr [] w wr) (hl : 0 < l.length) : ∃ b o, p = some ⟨b, o, none⟩ ∧ ∀ j x, l[j]? = some x → wr.cell? ⟨b, o + j, none⟩ = some (.int .i64 x) := by
  rcases h with h | h
  · obtain ⟨b, o, e, hr⟩ := slRead h hl
    exact ⟨b, o, e, fun j x hx => (hr.fr hF (by simp)).2 j _ (by rw [List.getElem?_map, hx]; rfl)⟩
  · obtain ⟨g, e, _, _, _, _, _, hc⟩ := h.at hl
    exact ⟨g, 0, e, fun j x hx => by rw [Nat.zero_add]; exact hc j x hx⟩
theorem RL.step {w0 w wr w' : World} {L : HL} {D : DL} {mb : Nat} {a : Int} {nx : Nat} {v : Value} {l : List Int} (h : RL w wr D.B v l) (q : QS w0 L D mb) (hM : MBlk wr mb L a nx) (hF : Fr (mb :: L.fp) wr w') : RL w w' D.B v l := h.imp id (fun h => rowi_step h q hM hF)
theorem RL.tick {w wr w' : World} {B : Nat} {v : Value} {l : List Int} (h : RL w wr B v l) (hF : Fr [] wr w') : RL w w' B v l := h.imp id (fun h => h.fr hF (by simp))
theorem SlArg.srci {w : World} {p : Option Addr} {n cap : Nat} {l : List Int} (h : SlArg w (.slice p n cap) l) : Srci w p n l ∧ (p = none → n = 0) := by
  rcases h with ⟨e, rfl⟩ | ⟨a, c, e, rfl⟩ | ⟨b, o, c, e, hr, _⟩
  · cases e; exact ⟨⟨rfl, fun h => by omega⟩, fun _ => rfl⟩
  · cases e; exact ⟨⟨rfl, fun h => by omega⟩, fun _ => rfl⟩
  · cases e
    refine ⟨⟨rfl, fun _ => ⟨_, rfl, fun j x hx => ?_⟩⟩, fun e => by cases e⟩
    rw [Addr.add_lit]
    exact hr.2 j _ (by rw [List.getElem?_map, hx]; rfl)

/-- What was got: three rows of bools, in a block. -/
structure GS (wr : World) (gb B : Nat) (xs : List Value) (ls : List (List Bool)) : Prop where
  blk : Blk wr gb xs 109
  len : xs.length = 3 ∧ ls.length = 3
  row : ∀ (i : Nat) (x : Value) (l : List Bool), xs[i]? = some x → ls[i]? = some l → Rowb wr B x l
theorem GS.fr {S : List Nat} {wr w' : World} {gb B : Nat} {xs : List Value} {ls : List (List Bool)} (h : GS wr gb B xs ls) (hF : Fr S wr w') (h1 : gb ∉ S) (h2 : ∀ x ∈ xs, ∀ g, x.ownBlock = some g → g ∉ S) : GS w' gb B xs ls :=
  ⟨h.blk.fr hF h1, h.len, fun i x l hx hl => (h.row i x l hx hl).fr hF (h2 x (List.mem_of_getElem? hx))⟩
theorem GS.lt {wr : World} {gb B : Nat} {xs : List Value} {ls : List (List Bool)} (h : GS wr gb B xs ls) {x : Value} (hx : x ∈ xs) {g : Nat} (hg : x.ownBlock = some g) : B ≤ g ∧ g < wr.heap.size ∧ g ≠ gb := by
  obtain ⟨i, hi, e⟩ := List.getElem_of_mem hx
  have hx' : xs[i]? = some x := by rw [List.getElem?_eq_getElem hi, e]
  have h1 := h.row i x _ hx' (List.getElem?_eq_getElem (show i < ls.length by have := h.len; omega))
  exact ⟨(h1.lt g hg).1, (h1.lt g hg).2, h1.ne h.blk (by decide) g hg⟩
/-- One row has grown. -/
theorem GS.set {S : List Nat} {wr w' : World} {gb B : Nat} {xs : List Value} {ls : List (List Bool)} (h : GS wr gb B xs ls) {k : Nat} (hk : k < 3) {v : Value} {l : List Bool} (hB : Blk w' gb (xs.set k v) 109) (hF : Fr S wr w') (hS : ∀ (i : Nat) (x : Value), i ≠ k → xs[i]? = some x → ∀ g, x.ownBlock = some g → g ∉ S) (hv : Rowb w' B v l) : GS w' gb B (xs.set k v) (ls.set k l) := by
  refine ⟨hB, by simpa using h.len, fun i x l' hx hl' => ?_⟩
  by_cases e : i = k
  · subst e
    rw [List.getElem?_set_self (by rw [h.len.1]; exact hk)] at hx
    rw [List.getElem?_set_self (by rw [h.len.2]; exact hk)] at hl'
    cases hx
    cases hl'
    exact hv
  · rw [List.getElem?_set_ne (Ne.symm e)] at hx hl'
    exact (h.row i x l' hx hl').fr hF (hS i x e hx)
theorem rowi_rowb {w : World} {B B' : Nat} {v v' : Value} {l : List Int} {l' : List Bool} (h : Rowi w B v l) (h' : Rowb w B' v' l') : ∀ g, v.ownBlock = some g → v'.ownBlock ≠ some g := by
  intro g hg hg'
  rcases h.2 with h0 | ⟨g1, cap, cur, e1, e2, e3, e4⟩
  · rw [h0.1] at hg; simp [Value.ownBlock] at hg
  · rw [e1] at hg
    simp [Value.ownBlock] at hg
    subst hg
    rcases h'.2 with h0 | ⟨g2, cap2, cur2, f1, f2, f3, f4⟩
    · rw [h0.1] at hg'; simp [Value.ownBlock] at hg'
    · rw [f1] at hg'
      simp [Value.ownBlock] at hg'
      subst hg'
      rw [e3] at f3
      simp at f3
theorem rowb_step {w0 w w' : World} {L : HL} {D : DL} {mb : Nat} {a : Int} {nx : Nat} {v : Value} {l : List Bool} (hr : Rowb w D.B v l) (q : QS w0 L D mb) (hM : MBlk w mb L a nx) (hF : Fr (mb :: L.fp) w w') : Rowb w' D.B v l :=
  hr.fr hF (fun b hb hc => by
    rcases List.mem_cons.1 hc with h1 | h1
    · exact hr.ne hM (by decide) b hb h1
    · have := (hr.lt b hb).1
      have := q.lw b (fp_all h1)
      omega)
theorem Bt.lens {cls : List Int} {edge : Int} {l0 : List (Int × Int)} {ms : List Mk} {i : Nat} {b : BS} (h : Bt cls edge l0 ms i b) : b.obs.length ≤ i := by
  induction h with
  | zero => simp
  | no _ _ _ ih => omega
  | yes _ _ h3 ih =>
    rcases h3.2 with ⟨_, _, _, _, _, rfl⟩ | ⟨_, _, _, _, _, _, _, _, rfl⟩ <;> simp <;> omega
end Go.Proofs.Ytifillpcphiblaa
