import Derived.Test.YtifillpcphiblaaGreatDRing
import Derived.Deep.DeepCutAuto
import Derived.Deep.QuietTactic
import Derived.BigQuiet
namespace Go.Proofs.YtifillpcphiblaaGreat
open Go Go.Proofs Go.RowKit

/-! What the document's rings do: Grow, Alloc. -/
def told5 (c : Int) (is : Bool) (e : Int) : Value := .agg #[.int .i64 c, .bool is, .int .i64 e]

/-- What the rings' block leads to was so before, or is new. -/
def ROff (rsb : Nat) (w w' : World) : Prop := rsb < w.heap.size → ∀ i x, w'.cell? ⟨rsb, i, none⟩ = some x → w.cell? ⟨rsb, i, none⟩ = some x ∨ ∀ g, x.ownBlock = some g → w.heap.size ≤ g
theorem ROff.fr {S : List Nat} {rsb : Nat} {w w' : World} (hf : Fr S w w') (h : rsb ∉ S) : ROff rsb w w' := fun hl i x hx => .inl (by rw [← cell_fr hf h hl i]; exact hx)
theorem ROff.trans {rsb : Nat} {a b c : World} (h : ROff rsb a b) (k : ROff rsb b c) (hs : a.heap.size ≤ b.heap.size) : ROff rsb a c := fun hl i x hx => by
  rcases k (Nat.lt_of_lt_of_le hl hs) i x hx with h1 | h1
  · exact h hl i x h1
  · exact .inr (fun g hg => Nat.le_trans hs (h1 g hg))
theorem ROff.set {rsb o : Nat} {w w1 : World} {x u : Value} (h : ROff rsb w w1) (hu : w1.cell? ⟨rsb, o, none⟩ = some u) (hx : ∀ g, x.ownBlock = some g → w.heap.size ≤ g) : ROff rsb w (w1.setCell ⟨rsb, o, none⟩ x) := by
  intro hl i y hy
  by_cases e : i = o
  · subst e
    rw [World.cell?_setCell_same w1 _ _ hu] at hy
    cases hy
    exact .inr hx
  · have hne : (⟨rsb, o, none⟩ : Addr) ≠ ⟨rsb, i, none⟩ := by intro hc; injection hc with _ h2 _; exact e h2.symm
    rw [World.cell?_setCell_other (h := hne)] at hy
    exact h hl i y hy
def FrR (rsb : Nat) (w w' : World) : Prop := Fr [rsb] w w' ∧ ROff rsb w w'
theorem FrR.of {rsb : Nat} {w w' : World} (h : Fr [] w w') : FrR rsb w w' := ⟨h.here (by simp), ROff.fr h (by simp)⟩
theorem FrR.trans {rsb : Nat} {a b c : World} (h : FrR rsb a b) (k : FrR rsb b c) : FrR rsb a c := ⟨h.1.trans k.1, h.2.trans k.2 h.1.size⟩

def DoPost (w : World) (B rsb : Nat) (W : Int) (Rs : List Rows) (t : Value) (e : Ending) (w' : World) : Prop := e = .returned t ∧ DRs w' B rsb W Rs ∧ FrR rsb w w'

theorem DRow.setW {w : World} {B : Nat} {v : V4} {R : Rows} (h : DRow w B v R) {x : Value} {l : List Int} (hx : Rowi w B x l) {W : Int} : ∃ v' : V4, (ringCells W v).set 0 x = ringCells W v' ∧ DRow w B v' { R with W := l } := ⟨(x, v.2), rfl, ⟨hx, h.fr0, h.gr, h.bl⟩⟩
theorem DRow.setF {w : World} {B : Nat} {v : V4} {R : Rows} (h : DRow w B v R) {x : Value} {l : List Int} (hx : Rowi w B x l) {W : Int} : ∃ v' : V4, (ringCells W v).set 1 x = ringCells W v' ∧ DRow w B v' { R with F := l } := ⟨(v.1, x, v.2.2), rfl, ⟨h.wh, hx, h.gr, h.bl⟩⟩
theorem DRow.setG {w : World} {B : Nat} {v : V4} {R : Rows} (h : DRow w B v R) {x : Value} {l : List Int} (hx : Rowi w B x l) {W : Int} : ∃ v' : V4, (ringCells W v).set 2 x = ringCells W v' ∧ DRow w B v' { R with G := l } := ⟨(v.1, v.2.1, x, v.2.2.2), rfl, ⟨h.wh, h.fr0, hx, h.bl⟩⟩
theorem DRow.setB {w : World} {B : Nat} {v : V4} {R : Rows} (h : DRow w B v R) {x : Value} {l : List Int} (hx : Rowi w B x l) {W : Int} : ∃ v' : V4, (ringCells W v).set 3 x = ringCells W v' ∧ DRow w B v' { R with B := l } := ⟨(v.1, v.2.1, v.2.2.1, x), rfl, ⟨h.wh, h.fr0, h.gr, hx⟩⟩

/-- What is told is laid in a box of its own. -/
def toldW (w : World) (tb : Nat) (c : Int) (is : Bool) (e : Int) : World := ((w.setCell ⟨tb, 0, none⟩ (.int .i64 c)).setCell ⟨tb, 1, none⟩ (.bool is)).setCell ⟨tb, 2, none⟩ (.int .i64 e)
theorem toldW_fr {w0 w : World} {S : List Nat} (h : Fr S w0 w) {tb : Nat} (ht : tb ∈ S ∨ w0.heap.size ≤ tb) (c : Int) (is : Bool) (e : Int) : Fr S w0 (toldW w tb c is e) := ((h.set ht _).set ht _).set ht _
theorem toldW_blk {w : World} {tb : Nat} {a b d : Value} {T : TypeId} (h : Blk w tb [a, b, d] T) (c : Int) (is : Bool) (e : Int) : Blk (toldW w tb c is e) tb [.int .i64 c, .bool is, .int .i64 e] T := by
  have := ((h.set 0 (.int .i64 c)).set 1 (.bool is)).set 2 (.int .i64 e)
  exact this
theorem ROff.told {rsb : Nat} {w0 w : World} (h : ROff rsb w0 w) (hw : rsb < w0.heap.size → rsb < w.heap.size) {tb : Nat} (ht : rsb ≠ tb) (c : Int) (is : Bool) (e : Int) : ROff rsb w0 (toldW w tb c is e) := by
  intro hl i x hx
  rw [cell_fr (S := [tb]) (toldW_fr (Fr.refl _ w) (by simp) c is e) (by simpa using ht) (hw hl) i] at hx
  exact h hl i x hx
theorem DRs.told {w : World} {B rsb : Nat} {W : Int} {Rs : List Rows} (h : DRs w B rsb W Rs) {tb : Nat} {cs : List Value} (ht : Blk w tb cs 136) (c : Int) (is : Bool) (e : Int) : DRs (toldW w tb c is e) B rsb W Rs :=
  h.fr (S := [tb]) (toldW_fr (Fr.refl _ w) (by simp) c is e) (by simpa using h.ne ht (by decide)) (fun x hx => by obtain rfl := List.mem_singleton.1 hx; exact .inr ⟨_, _, ht, by decide⟩)

set_option maxRecDepth 100000 in
set_option maxHeartbeats 3200000 in
theorem dGrow (B rsb : Nat) (W : Int) (Rs : List Rows) (i o : Nat) (ho : o = 5 * i) (R : Rows) (c : Int) (w : World) (h : DRs w B rsb W Rs) (hR : Rs[i]? = some R) (h1 : 1 ≤ c) (h2 : c + 3 ≤ W) (hW : W ≤ 65536) (hl : R.W.length ≤ 65536) :
    Calls Tryz.prog 99 #[.pointer (some ⟨rsb, o, none⟩), .int .i64 c] w (DoPost w B rsb W (Rs.set i { R with W := c :: R.W }) (told5 0 false 0)) := by
  obtain ⟨⟨v0, v1, v2, v3⟩, hd, hc, hz, hlt, n0, -, -, -⟩ := h.at hR
  have q0 : w.cell? ⟨rsb, o, none⟩ = some v0 := by have := hc 0 v0 rfl; rw [ho]; simpa using this
  have q4 : w.cell? ⟨rsb, o + 4, none⟩ = some (.int .i64 W) := by rw [ho]; exact hc 4 _ rfl
  have z0 : w.frozen? ⟨rsb, o, none⟩ = false := hz o
  obtain ⟨A0, c0, e0⟩ := hd.wh.form
  simp only at e0
  have hwl := h.le
  have hT := Blk.new w [.int .i64 0, .bool false, .int .i64 0] 136
  have hF1 : Fr [] w (w.alloc (.cells #[.int .i64 0, .bool false, .int .i64 0] 136)) := (Fr.refl _ w).alloc _
  have hO := Rowi.one (w.alloc (.cells #[.int .i64 0, .bool false, .int .i64 0] 136)) c (B := B) (by simp; omega)
  have hsrc : Srci ((w.alloc (.cells #[.int .i64 0, .bool false, .int .i64 0] 136)).alloc (.cells #[.int .i64 c] 3)) A0 R.W.length R.W := by
    have := (hd.wh.alloc (.cells #[.int .i64 0, .bool false, .int .i64 0] 136)).alloc (.cells #[.int .i64 c] 3)
    rw [e0] at this
    exact this.src
  have hA0 : A0 = none → R.W.length = 0 := by
    intro e
    rcases Nat.eq_zero_or_pos R.W.length with h0 | h0
    · exact h0
    · have := hd.wh
      simp only [e0] at this
      obtain ⟨g, e1, _⟩ := this.at h0
      rw [e] at e1; cases e1
  have hle : ([c] : List Int).length + R.W.length ≤ 1000000 := by simp; omega
  have HO := hid hO
  have HS := hid hsrc
  have HA := hid hA0
  have HD := hid hd
  have HH := hid h
  have HT := hid hT
  have HR := hid hR
  have HI := hid ho
  subst e0
  clear ho hO hsrc hA0 hd h hc hz hT hR n0
  have hsz2 : (w.alloc (.cells #[.int .i64 0, .bool false, .int .i64 0] 136)).heap.size = w.heap.size + 1 := by simp
  rw [hsz2] at HO
  clear hsz2
  have hw1 : IntKind.i64.wrap (W - 3) = W - 3 := by rw [IntKind.wrap_i64]; omega
  go_enter Tryz.func99, Tryz.ntmps99
  go_wp2_with (at_builtin; refine wpList_appi rfl _ _ rfl B _ [c] rfl HO.out A0 R.W.length c0 R.W rfl HS.out HA.out hle (by simp; omega) ?_)
  intro v' w' h' f' b'
  obtain ⟨A', c', rfl⟩ := h'.form
  have hl' := h'.lt
  have hrs : rsb ∉ (Value.slice (some ⟨w.heap.size + 1, 0, none⟩) 1 1).ownBlock.toList := by simp [Value.ownBlock]; omega
  have hF' : Fr [] w w' := (hF1.alloc _).step f' (fun x hx => .inr (by simp [Value.ownBlock] at hx; omega))
  have hH' := HH.out.fr hF' (by simp) (by simp)
  obtain ⟨⟨u0, u1, u2, u3⟩, -, hc', hz', hlt', -⟩ := hH'.at HR.out
  have y0 : w'.frozen? ⟨rsb, o, none⟩ = false := hz' o
  have q0' : w'.cell? ⟨rsb, o, none⟩ = some u0 := by have := hc' 0 u0 rfl; rw [HI.out]; simpa using this
  have T1 := (HT.out.alloc (.cells #[.int .i64 c] 3)).fr f' (by simp [Value.ownBlock])
  have T2 := T1.other (a := ⟨rsb, o, none⟩) (by simp; omega) (.slice A' (R.W.length + 1) c')
  have t0 := T2.cell (i := 0) rfl
  have t1 := T2.cell (i := 1) rfl
  have t2 := T2.cell (i := 2) rfl
  have f0 := T2.frozen 0
  have f1 := T2.frozen 1
  have f2 := T2.frozen 2
  have HT2 := hid T2
  have HF' := hid hF'
  have Hf' := hid f'
  have Hh' := hid h'
  have hfresh : ∀ g, (Value.slice A' (R.W.length + 1) c').ownBlock = some g → w.heap.size ≤ g := by
    intro g hg
    have hg : (Value.slice A' (c :: R.W).length c').ownBlock = some g := hg
    rcases b' with b1 | b1
    · rw [b1] at hg; simp [Value.ownBlock] at hg; omega
    · rw [b1] at hg; simp at hg; omega
  have hro := (ROff.fr (rsb := rsb) hF' (by simp)).set q0' hfresh
  have HRO := hid hro
  clear hc' hz' T1 T2 hF' f' h' b' hH' q0 q4 hfresh hro
  go_wp2_with fail
  have hw0 : (w'.setCell ⟨rsb, o, none⟩ (.slice A' (R.W.length + 1) c')) = w'.setCell ⟨rsb, 5 * i + 0, none⟩ (.slice A' (R.W.length + 1) c') := by rw [← HI.out]; rfl
  have hD2 : DRs (w'.setCell ⟨rsb, o, none⟩ (.slice A' (R.W.length + 1) c')) B rsb W (Rs.set i { R with W := c :: R.W }) := by
    rw [hw0]
    exact HH.out.set HR.out HF'.out (by omega) (fun v hv => hv.setW (by simpa using Hh'.out))
  refine bodyPost_ret (v := told5 0 false 0) ?_ rfl ⟨rfl, hD2.told HT2.out 0 false 0, toldW_fr ((HF'.out.here (by simp)).set (by simp) _) (.inr (Nat.le_refl _)) 0 false 0, HRO.out.told (fun hl => by have := HF'.out.size; simp [World.setCell]; omega) (by omega) 0 false 0⟩
  have k := toldW_blk HT2.out 0 false 0
  have k0 := k.cell (i := 0) rfl
  have k1 := k.cell (i := 1) rfl
  have k2 := k.cell (i := 2) rfl
  simp only [toldW] at k0 k1 k2
  simp [results, Tryz.results99, go_sem, k0, k1, k2, told5]

theorem DRs.lt' {w : World} {B rsb : Nat} {W : Int} {Rs : List Rows} (h : DRs w B rsb W Rs) : rsb < w.heap.size := by
  obtain ⟨vs, rest, h1, _⟩ := h.ex
  exact h1.lt
theorem DRs.idem {w : World} {B rsb : Nat} {W : Int} {Rs : List Rows} (h : DRs w B rsb W Rs) {o : Obj} : DRs (w.alloc o) B rsb W Rs := h.fr (S := []) ((Fr.refl _ w).alloc o) (by simp) (by simp)

set_option maxRecDepth 100000 in
set_option maxHeartbeats 3200000 in
/-- Do, of Grow. -/
theorem dDoGrow (B rsb : Nat) (W : Int) (Rs : List Rows) (i o : Nat) (ho : o = 5 * i) (R : Rows) (c : Int) (w : World) (h : DRs w B rsb W Rs) (hR : Rs[i]? = some R) (h1 : 1 ≤ c) (h2 : c + 3 ≤ W) (hW : W ≤ 65536) (hl : R.W.length ≤ 65536) :
    Calls Tryz.prog 68 #[.pointer (some ⟨rsb, o, none⟩), .agg #[.int .i64 0, .int .i64 c]] w (DoPost w B rsb W (Rs.set i { R with W := c :: R.W }) (told5 0 false 0)) := by
  have X0 := Blk.new w [.int .i64 0, .int .i64 c] 140
  have x0 := (X0.alloc (.cells #[.int .i64 0, .bool false, .int .i64 0] 136)).cell (i := 0) rfl
  have x1 := (X0.alloc (.cells #[.int .i64 0, .bool false, .int .i64 0] 136)).cell (i := 1) rfl
  have T0 := Blk.new (w.alloc (.cells #[.int .i64 0, .int .i64 c] 140)) [.int .i64 0, .bool false, .int .i64 0] 136
  have hD := (h.idem (o := .cells #[.int .i64 0, .int .i64 c] 140)).idem (o := .cells #[.int .i64 0, .bool false, .int .i64 0] 136)
  have hF : Fr [] w ((w.alloc (.cells #[.int .i64 0, .int .i64 c] 140)).alloc (.cells #[.int .i64 0, .bool false, .int .i64 0] 136)) := ((Fr.refl _ w).alloc _).alloc _
  have hsz : (w.alloc (.cells #[.int .i64 0, .int .i64 c] 140)).heap.size = w.heap.size + 1 := by simp
  rw [hsz] at T0
  obtain ⟨-, -, -, -, hlt, -⟩ := h.at hR
  have HD := hid hD
  have HF := hid hF
  have HT := hid T0
  have HR := hid hR
  have HI := hid ho
  clear hD hF T0 hR ho h X0 hsz
  go_enter Tryz.func68, Tryz.ntmps68
  go_wp2_with fail
  refine (dGrow B rsb W Rs i o HI.out R c _ HD.out HR.out h1 h2 hW hl).mono ?_
  rintro e w1 ⟨rfl, hD1, hF1⟩
  have T1 := HT.out.fr hF1.1 (by simp; omega)
  have t0 := T1.cell (i := 0) rfl
  have t1 := T1.cell (i := 1) rfl
  have t2 := T1.cell (i := 2) rfl
  have f0 := T1.frozen 0
  have f1 := T1.frozen 1
  have f2 := T1.frozen 2
  have HT1 := hid T1
  have HD1 := hid hD1
  have HF1 := hid hF1
  clear T1 hD1 hF1 x0 x1
  unfold told5
  go_wp2_with fail
  refine bodyPost_ret (v := told5 0 false 0) ?_ rfl ⟨rfl, HD1.out.told HT1.out 0 false 0, toldW_fr ((HF.out.here (by simp)).trans (HF1.out.1.here (by simp))) (.inr (by omega)) 0 false 0, ((ROff.fr HF.out (by simp)).trans HF1.out.2 HF.out.size).told (fun hl => Nat.lt_of_lt_of_le (Nat.lt_of_lt_of_le hl HF.out.size) HF1.out.1.size) (by omega) 0 false 0⟩
  have k := toldW_blk HT1.out 0 false 0
  have k0 := k.cell (i := 0) rfl
  have k1 := k.cell (i := 1) rfl
  have k2 := k.cell (i := 2) rfl
  simp only [toldW] at k0 k1 k2
  simp [results, Tryz.results68, go_sem, k0, k1, k2, told5]

theorem list_set_set {α : Type} (l : List α) (i : Nat) (a b : α) : (l.set i a).set i b = l.set i b := by simp

set_option maxRecDepth 100000 in
set_option maxHeartbeats 6400000 in
/-- Do, of Alloc: there is a White one. -/
theorem dDoAlloc (B rsb : Nat) (W : Int) (Rs : List Rows) (i o : Nat) (ho : o = 5 * i) (R : Rows) (c : Int) (Wt : List Int) (n : Int) (w : World) (h : DRs w B rsb W Rs) (hR : Rs[i]? = some R) (hW : R.W = c :: Wt) (hl : R.W.length ≤ 65536) (hl2 : R.B.length ≤ 65536) :
    Calls Tryz.prog 68 #[.pointer (some ⟨rsb, o, none⟩), .agg #[.int .i64 1, .int .i64 n]] w (DoPost w B rsb W (Rs.set i { R with W := Wt, B := R.B ++ [c] }) (told5 c false 0)) := by
  have X0 := (Blk.new w [.int .i64 1, .int .i64 n] 140).alloc (.cells #[.int .i64 0, .bool false, .int .i64 0] 136)
  have T0 := Blk.new (w.alloc (.cells #[.int .i64 1, .int .i64 n] 140)) [.int .i64 0, .bool false, .int .i64 0] 136
  have hD := (h.idem (o := .cells #[.int .i64 1, .int .i64 n] 140)).idem (o := .cells #[.int .i64 0, .bool false, .int .i64 0] 136)
  have hF : Fr [] w ((w.alloc (.cells #[.int .i64 1, .int .i64 n] 140)).alloc (.cells #[.int .i64 0, .bool false, .int .i64 0] 136)) := ((Fr.refl _ w).alloc _).alloc _
  have hsz : (w.alloc (.cells #[.int .i64 1, .int .i64 n] 140)).heap.size = w.heap.size + 1 := by simp
  rw [hsz] at T0
  have hsz2 : ((w.alloc (.cells #[.int .i64 1, .int .i64 n] 140)).alloc (.cells #[.int .i64 0, .bool false, .int .i64 0] 136)).heap.size = w.heap.size + 2 := by simp
  obtain ⟨-, -, -, -, hlt0, -⟩ := h.at hR
  have hwB := h.le
  have HF := hid hF
  have HI := hid ho
  clear hF ho h hsz
  obtain ⟨wa, hwa⟩ : ∃ wa, wa = ((w.alloc (.cells #[.int .i64 1, .int .i64 n] 140)).alloc (.cells #[.int .i64 0, .bool false, .int .i64 0] 136)) := ⟨_, rfl⟩
  have HWA := hid hwa
  rw [← hwa] at X0 T0 hD HF hsz2
  obtain ⟨⟨v0, v1, v2, v3⟩, hd, hc, hz, hlt, n0, n1, n2, n3⟩ := hD.at hR
  have q0 : wa.cell? ⟨rsb, o, none⟩ = some v0 := by have := hc 0 v0 rfl; rw [HI.out]; simpa using this
  have z0 : wa.frozen? ⟨rsb, o, none⟩ = false := hz o
  obtain ⟨A0, c0, e0⟩ := hd.wh.form
  simp only at e0
  subst e0
  have hlen : R.W.length = Wt.length + 1 := by rw [hW]; rfl
  have hw0 := hd.wh
  simp only at hw0
  obtain ⟨g0, rfl, hBg, hgl, -, hlc, hcm, hcell⟩ := hw0.at (by omega)
  have r0 : wa.cell? ⟨g0, 0, none⟩ = some (.int .i64 c) := hcell 0 c (by rw [hW]; rfl)
  have x0 := X0.cell (i := 0) rfl
  have HT := hid T0
  have HX := hid X0
  have HD := hid hD
  have HR := hid hR
  have HW := hid hW
  have Hw0 := hid hw0
  rw [hlen] at q0 Hw0
  have HLEN := hid hlen
  have hne1 : ¬ (Wt.length : Int) + 1 = 0 := by omega
  have hpos : (0 : Int) < (Wt.length : Int) + 1 := by omega
  have hle1 : R.W.length ≤ 70000 := by omega
  have HLE := hid hle1
  clear T0 X0 hD hR hd hc hz hW hw0 hcell hwa hlen hl hle1 n0 n1 n2 n3
  go_enter Tryz.func68, Tryz.ntmps68
  go_upto_region 1 with fail
  rw [← HWA.out]
  go_wp2_with fail
  refine (dWithout B (.slice (some ⟨g0, 0, none⟩) (Wt.length + 1) c0) R.W 0 0 rfl wa Hw0.out (by have := HLEN.out; omega) HLE.out).mono ?_
  rintro e w1 ⟨v1', rfl, h1, hF1⟩
  rw [HW.out] at h1
  simp only [List.eraseIdx_zero, List.tail_cons] at h1
  obtain ⟨A1, c1, rfl⟩ := h1.form
  have hD1 := HD.out.fr hF1 (by simp) (by simp)
  obtain ⟨⟨u0, u1, u2, u3⟩, -, hc', hz', -⟩ := hD1.at HR.out
  have y0 : w1.frozen? ⟨rsb, o, none⟩ = false := hz' o
  have q0' : w1.cell? ⟨rsb, o, none⟩ = some u0 := by have := hc' 0 u0 rfl; rw [HI.out]; simpa using this
  have h1B : Rowi w1 B (.slice A1 Wt.length c1) Wt := h1.base (by omega)
  have hD2 := HD.out.set HR.out hF1 (j := 0) (x := .slice A1 Wt.length c1) (by omega) (fun v hv => hv.setW h1B)
  have hw0 : w1.setCell ⟨rsb, o, none⟩ (.slice A1 Wt.length c1) = w1.setCell ⟨rsb, 5 * i + 0, none⟩ (.slice A1 Wt.length c1) := by rw [← HI.out]; rfl
  rw [← hw0] at hD2
  have hX1 := (HX.out.fr hF1 (by simp)).other (a := ⟨rsb, o, none⟩) (by simp; omega) (.slice A1 Wt.length c1)
  have hT1 := (HT.out.fr hF1 (by simp)).other (a := ⟨rsb, o, none⟩) (by simp; omega) (.slice A1 Wt.length c1)
  have hR2 : (Rs.set i { R with W := Wt })[i]? = some { R with W := Wt } := by rw [List.getElem?_set_self (List.getElem?_eq_some_iff.1 HR.out).1]
  have hF2 : Fr [rsb] wa (w1.setCell ⟨rsb, o, none⟩ (.slice A1 Wt.length c1)) := (hF1.here (by simp)).set (by simp) _
  have hro1 : ROff rsb wa (w1.setCell ⟨rsb, o, none⟩ (.slice A1 Wt.length c1)) := (ROff.fr hF1 (by simp)).set q0' (fun g hg => (h1.lt g hg).1)
  have HRO1 := hid hro1
  clear hro1
  have HD2 := hid hD2
  have HX1 := hid hX1
  have HT1 := hid hT1
  have HF2 := hid hF2
  have HR2 := hid hR2
  have Hw0' := hid hw0
  have x0' := hX1.cell (i := 0) rfl
  clear hD1 hc' hz' h1 h1B hD2 hw0 hX1 hT1 hR2 hF2 hF1 q0 z0 r0 x0
  obtain ⟨w2, hw2⟩ : ∃ w2, w2 = w1.setCell ⟨rsb, o, none⟩ (.slice A1 Wt.length c1) := ⟨_, rfl⟩
  have HW2 := hid hw2
  rw [← hw2] at HD2 HX1 HT1 HF2 HRO1
  clear hw2
  go_upto_if 111 with fail
  rw [← HW2.out]
  clear x0'
  have x0' := HX1.out.cell (i := 0) rfl
  obtain ⟨⟨p0, p1, p2, p3⟩, hd2, hc2, hz2, hlt2, -⟩ := HD2.out.at HR2.out
  have q3 : w2.cell? ⟨rsb, o + 3, none⟩ = some p3 := by rw [HI.out]; exact hc2 3 _ rfl
  have z3 : w2.frozen? ⟨rsb, o + 3, none⟩ = false := hz2 _
  obtain ⟨A3, c3, e3⟩ := hd2.bl.form
  simp only at e3
  subst e3
  have hb2 := hd2.bl
  simp only at hb2
  have hA3 : A3 = none → R.B.length = 0 := by
    intro e
    rcases Nat.eq_zero_or_pos R.B.length with h0 | h0
    · exact h0
    · obtain ⟨g, e1, _⟩ := hb2.at h0
      rw [e] at e1; cases e1
  have hsz4 : w.heap.size + 2 ≤ w2.heap.size := by have := HF2.out.size; omega
  have hBw2 : B ≤ w2.heap.size := by omega
  have hE := Rowi.empty w2 (Nat.le_refl w2.heap.size)
  have hS3 : Srci (w2.alloc (.cells #[] 3)) A3 R.B.length R.B := (hb2.alloc _).src
  have HE := hid hE
  have HS3 := hid hS3
  have HA3 := hid hA3
  have Hb2 := hid hb2
  clear hd2 hc2 hz2 hA3 hE hS3 hb2
  go_wp2_with (at_builtin; first
    | (refine wpList_appi rfl _ _ rfl w2.heap.size (.slice (some ⟨w2.heap.size, 0, none⟩) 0 0) [] rfl HE.out A3 R.B.length c3 R.B rfl HS3.out HA3.out (by simp; omega) (by simp) ?_))
  intro v3 w3 h3 f3 b3
  have hF3 : Fr [] w2 w3 := ((Fr.refl [] w2).alloc _).step f3 (fun x hx => .inr (by simp [Value.ownBlock] at hx; omega))
  have hsz3 := hF3.size
  have h3a := h3.alloc (.cells #[.int .i64 c] 3)
  have hS1 : Srci (w3.alloc (.cells #[.int .i64 c] 3)) (some ⟨w3.heap.size, 0, none⟩) 1 [c] := (Rowi.one w3 c (Nat.le_refl w3.heap.size)).src
  have H3a := hid h3a
  have HS1 := hid hS1
  have Hb3 := hid b3
  have Hh3 := hid h3
  have HF3 := hid hF3
  clear h3 f3 b3 h3a hS1 hF3
  go_wp2_with (at_builtin; first
    | (refine wpList_appi rfl _ _ rfl w2.heap.size v3 R.B rfl H3a.out (some ⟨w3.heap.size, 0, none⟩) 1 1 [c] rfl HS1.out (by simp) (by omega) (by simp; omega) ?_))
  intro v4 w4 h4 f4 b4
  obtain ⟨A4, c4, rfl⟩ := h4.form
  have hF4 : Fr [] w2 w4 := (HF3.out.alloc _).step f4 (fun x hx => .inr (Hh3.out.lt x (by simpa using hx)).1)
  have h4B : Rowi w4 B (.slice A4 (R.B ++ [c]).length c4) (R.B ++ [c]) := h4.base hBw2
  have hD4 := HD2.out.fr hF4 (by simp) (by simp)
  obtain ⟨⟨m0, m1, m2, m3⟩, -, hc4, hz4, -⟩ := hD4.at HR2.out
  have y3 : w4.frozen? ⟨rsb, o + 3, none⟩ = false := hz4 _
  have q3' : w4.cell? ⟨rsb, o + 3, none⟩ = some m3 := by rw [HI.out]; exact hc4 3 _ rfl
  have hD5 := HD2.out.set HR2.out hF4 (j := 3) (x := .slice A4 (R.B ++ [c]).length c4) (by omega) (fun v hv => hv.setB h4B)
  rw [list_set_set, ← HI.out] at hD5
  have hT5 := (HT1.out.fr hF4 (by simp)).other (a := ⟨rsb, o + 3, none⟩) (by simp; omega) (.slice A4 (R.B ++ [c]).length c4)
  have hF5 : Fr [rsb] wa (w4.setCell ⟨rsb, o + 3, none⟩ (.slice A4 (R.B ++ [c]).length c4)) := (HF2.out.trans (hF4.here (by simp))).set (by simp) _
  have hro5 : ROff rsb w2 (w4.setCell ⟨rsb, o + 3, none⟩ (.slice A4 (R.B ++ [c]).length c4)) := (ROff.fr hF4 (by simp)).set q3' (fun g hg => (h4.lt g hg).1)
  have HRO5 := hid hro5
  have hlw5 : rsb < (w4.setCell ⟨rsb, o + 3, none⟩ (.slice A4 (R.B ++ [c]).length c4)).heap.size := hD5.lt'
  have HLW5 := hid hlw5
  clear hro5 hlw5
  have HD5 := hid hD5
  have HT5 := hid hT5
  have HF5 := hid hF5
  have e4 : (R.B ++ [c]).length = R.B.length + 1 := by simp
  rw [e4] at hT5 HD5 HT5 HF5 HRO5 HLW5 ⊢
  have t0 := hT5.cell (i := 0) rfl
  have t1 := hT5.cell (i := 1) rfl
  have t2 := hT5.cell (i := 2) rfl
  have f0 := hT5.frozen 0
  have f1 := hT5.frozen 1
  have f2 := hT5.frozen 2
  clear hD4 hc4 hz4 hD5 hT5 hF5 e4 h4B hF4 h4 f4 b4 q3 z3
  go_wp2_with fail
  refine bodyPost_ret (v := told5 c false 0) ?_ rfl ⟨rfl, HD5.out.told HT5.out c false 0, toldW_fr (((HF.out.here (by simp)).trans HF5.out)) (.inr (by omega)) c false 0, (((ROff.fr HF.out (by simp)).trans HRO1.out HF.out.size).trans HRO5.out (Nat.le_trans HF.out.size HF2.out.size)).told (fun _ => HLW5.out) (by omega) c false 0⟩
  have k := toldW_blk HT5.out c false 0
  have k0 := k.cell (i := 0) rfl
  have k1 := k.cell (i := 1) rfl
  have k2 := k.cell (i := 2) rfl
  simp only [toldW] at k0 k1 k2
  simp [results, Tryz.results68, go_sem, k0, k1, k2, told5]
end Go.Proofs.YtifillpcphiblaaGreat

namespace Go.Proofs.YtifillpcphiblaaGreat
open Go Go.Proofs Go.RowKit

/-! What the document's rings do: Next, Done, Shade, Begin, End, Drop. -/

/-- The boxes of a call: its Act, and what it tells. -/
def actW (w : World) (k n : Int) : World := (w.alloc (.cells #[.int .i64 k, .int .i64 n] 140)).alloc (.cells #[.int .i64 0, .bool false, .int .i64 0] 136)
theorem actW_fr (w : World) (k n : Int) : Fr [] w (actW w k n) := ((Fr.refl _ w).alloc _).alloc _
theorem actW_x (w : World) (k n : Int) : Blk (actW w k n) w.heap.size [.int .i64 k, .int .i64 n] 140 := (Blk.new w [.int .i64 k, .int .i64 n] _).alloc _
theorem actW_t (w : World) (k n : Int) : Blk (actW w k n) (w.heap.size + 1) [.int .i64 0, .bool false, .int .i64 0] 136 := by
  have := Blk.new (w.alloc (.cells #[.int .i64 k, .int .i64 n] 140)) [.int .i64 0, .bool false, .int .i64 0] 136
  rw [show (w.alloc (.cells #[.int .i64 k, .int .i64 n] 140)).heap.size = w.heap.size + 1 by simp] at this
  exact this
theorem actW_size (w : World) (k n : Int) : (actW w k n).heap.size = w.heap.size + 2 := by simp [actW]

set_option maxRecDepth 100000 in
set_option maxHeartbeats 3200000 in
/-- Next, where there is none. -/
theorem dGreyNone (B rsb : Nat) (W : Int) (Rs : List Rows) (i o : Nat) (ho : o = 5 * i) (R : Rows) (n : Int) (w : World) (h : DRs w B rsb W Rs) (hR : Rs[i]? = some R) (hG : R.G = []) :
    Calls Tryz.prog 100 #[.pointer (some ⟨rsb, o, none⟩), .agg #[.int .i64 3, .int .i64 n]] w (DoPost w B rsb W Rs (told5 0 false 0)) := by
  have hD := h.fr (actW_fr w 3 n) (by simp) (by simp)
  have X := actW_x w 3 n
  have T := actW_t w 3 n
  have hF := actW_fr w 3 n
  obtain ⟨wa, hwa⟩ : ∃ wa, wa = actW w 3 n := ⟨_, rfl⟩
  rw [← hwa] at hD X T hF
  have HWA : Hid (wa = (w.alloc (.cells #[.int .i64 3, .int .i64 n] 140)).alloc (.cells #[.int .i64 0, .bool false, .int .i64 0] 136)) := hid (by rw [hwa]; rfl)
  clear hwa
  obtain ⟨⟨v0, v1, v2, v3⟩, hd, hc, hz, hlt, -⟩ := hD.at hR
  have q2 := hc 2 v2 rfl
  rw [← ho] at q2
  obtain ⟨A0, c0, e0⟩ := hd.gr.form
  simp only at e0
  rw [e0, hG, List.length_nil] at q2
  have hlt0 : rsb < w.heap.size := h.lt'
  have x0 := X.cell (i := 0) rfl
  have t0 := T.cell (i := 0) rfl
  have t1 := T.cell (i := 1) rfl
  have t2 := T.cell (i := 2) rfl
  have f0 := T.frozen 0
  have f1 := T.frozen 1
  have f2 := T.frozen 2
  have HD := hid hD
  have HT := hid T
  have HF := hid hF
  clear hD X T hF hd hc hz hR hG ho h e0 hlt
  go_enter Tryz.func100, Tryz.ntmps100
  go_upto_region 1 with fail
  rw [← HWA.out]
  go_wp2_with fail
  refine bodyPost_ret (v := told5 0 false 0) ?_ rfl ⟨rfl, HD.out.told HT.out 0 false 0, toldW_fr (HF.out.here (by simp)) (.inr (by omega)) 0 false 0, (ROff.fr HF.out (by simp)).told (fun hl => Nat.lt_of_lt_of_le hl HF.out.size) (by omega) 0 false 0⟩
  have k := toldW_blk HT.out 0 false 0
  have k0 := k.cell (i := 0) rfl
  have k1 := k.cell (i := 1) rfl
  have k2 := k.cell (i := 2) rfl
  simp only [toldW] at k0 k1 k2
  simp [results, Tryz.results100, go_sem, k0, k1, k2, told5]

set_option maxRecDepth 100000 in
set_option maxHeartbeats 3200000 in
/-- Next: the last Grey one. -/
theorem dGreyNext (B rsb : Nat) (W : Int) (Rs : List Rows) (i o : Nat) (ho : o = 5 * i) (R : Rows) (n : Int) (g : List Int) (c : Int) (w : World) (h : DRs w B rsb W Rs) (hR : Rs[i]? = some R) (hG : R.G = g ++ [c]) (hl : R.G.length ≤ 65536) :
    Calls Tryz.prog 100 #[.pointer (some ⟨rsb, o, none⟩), .agg #[.int .i64 3, .int .i64 n]] w (DoPost w B rsb W Rs (told5 c true 0)) := by
  have hD := h.fr (actW_fr w 3 n) (by simp) (by simp)
  have X := actW_x w 3 n
  have T := actW_t w 3 n
  have hF := actW_fr w 3 n
  obtain ⟨wa, hwa⟩ : ∃ wa, wa = actW w 3 n := ⟨_, rfl⟩
  rw [← hwa] at hD X T hF
  have HWA : Hid (wa = (w.alloc (.cells #[.int .i64 3, .int .i64 n] 140)).alloc (.cells #[.int .i64 0, .bool false, .int .i64 0] 136)) := hid (by rw [hwa]; rfl)
  clear hwa
  obtain ⟨⟨v0, v1, v2, v3⟩, hd, hc, hz, hlt, -⟩ := hD.at hR
  have q2 := hc 2 v2 rfl
  rw [← ho] at q2
  obtain ⟨A0, c0, e0⟩ := hd.gr.form
  simp only at e0
  have hgr := hd.gr
  simp only [e0] at hgr
  have hlen : R.G.length = g.length + 1 := by rw [hG]; simp
  obtain ⟨gb, rfl, -, -, -, -, -, hcell⟩ := hgr.at (by omega)
  have rg := hcell g.length c (by rw [hG]; simp)
  rw [e0, hlen] at q2
  have hlt0 : rsb < w.heap.size := h.lt'
  have x0 := X.cell (i := 0) rfl
  have t0 := T.cell (i := 0) rfl
  have t1 := T.cell (i := 1) rfl
  have t2 := T.cell (i := 2) rfl
  have f0 := T.frozen 0
  have f1 := T.frozen 1
  have f2 := T.frozen 2
  have HD := hid hD
  have HT := hid T
  have HF := hid hF
  obtain ⟨M, hM⟩ : ∃ M, M = g.length := ⟨_, rfl⟩
  rw [← hM] at q2 rg
  have hMl : M < 65536 := by omega
  have e1 : IntKind.i64.wrap ((M : Int) + 1 - 1) = (M : Int) := by rw [IntKind.wrap_i64]; omega
  have e1' : IntKind.i64.wrap (M : Int) = (M : Int) := by rw [IntKind.wrap_i64]; omega
  have i1 : (0 : Int) ≤ (M : Int) := by omega
  have i2 : (M : Int) < (M : Int) + 1 := by omega
  have e2 : ¬ (M : Int) + 1 = 0 := by omega
  have e3 : ((M : Int) + 1 == 0) = false := by simp; omega
  clear hD X T hF hd hc hz hR hG ho h e0 hlt hgr hcell hlen hl hM
  go_enter Tryz.func100, Tryz.ntmps100
  go_upto_region 1 with fail
  rw [← HWA.out]
  go_wp2_with fail
  refine bodyPost_ret (v := told5 c true 0) ?_ rfl ⟨rfl, HD.out.told HT.out c true 0, toldW_fr (HF.out.here (by simp)) (.inr (by omega)) c true 0, (ROff.fr HF.out (by simp)).told (fun hl => Nat.lt_of_lt_of_le hl HF.out.size) (by omega) c true 0⟩
  have k := toldW_blk HT.out c true 0
  have k0 := k.cell (i := 0) rfl
  have k1 := k.cell (i := 1) rfl
  have k2 := k.cell (i := 2) rfl
  simp only [toldW] at k0 k1 k2
  simp [results, Tryz.results100, go_sem, k0, k1, k2, told5]

set_option maxRecDepth 100000 in
set_option maxHeartbeats 6400000 in
/-- Done: the last Grey one is Black. -/
theorem dGreyDone (B rsb : Nat) (W : Int) (Rs : List Rows) (i o : Nat) (ho : o = 5 * i) (R : Rows) (n : Int) (g : List Int) (c : Int) (w : World) (h : DRs w B rsb W Rs) (hR : Rs[i]? = some R) (hG : R.G = g ++ [c]) (hl : R.G.length ≤ 65536) (hl2 : R.B.length ≤ 65536) :
    Calls Tryz.prog 100 #[.pointer (some ⟨rsb, o, none⟩), .agg #[.int .i64 4, .int .i64 n]] w (DoPost w B rsb W (Rs.set i { R with G := g, B := c :: R.B }) (told5 0 false 0)) := by
  have hD := h.fr (actW_fr w 4 n) (by simp) (by simp)
  have X := actW_x w 4 n
  have T := actW_t w 4 n
  have hF := actW_fr w 4 n
  have hsz := actW_size w 4 n
  obtain ⟨wa, hwa⟩ : ∃ wa, wa = actW w 4 n := ⟨_, rfl⟩
  rw [← hwa] at hD X T hF hsz
  have HWA : Hid (wa = (w.alloc (.cells #[.int .i64 4, .int .i64 n] 140)).alloc (.cells #[.int .i64 0, .bool false, .int .i64 0] 136)) := hid (by rw [hwa]; rfl)
  clear hwa
  obtain ⟨⟨v0, v1, v2, v3⟩, hd, hc, hz, hlt, -⟩ := hD.at hR
  have q2 := hc 2 v2 rfl
  have q3 := hc 3 v3 rfl
  have z2 : wa.frozen? ⟨rsb, o + 2, none⟩ = false := hz _
  have z3 : wa.frozen? ⟨rsb, o + 3, none⟩ = false := hz _
  rw [← ho] at q2 q3
  obtain ⟨A0, c0, e0⟩ := hd.gr.form
  obtain ⟨A3, c3, e3⟩ := hd.bl.form
  simp only at e0 e3
  have hgr := hd.gr
  have hbl := hd.bl
  simp only [e0] at hgr
  simp only [e3] at hbl
  have hlen : R.G.length = g.length + 1 := by rw [hG]; simp
  obtain ⟨gb, rfl, hgb, hgl, -, hgc, hgm, hcell⟩ := hgr.at (by omega)
  have rg := hcell g.length c (by rw [hG]; simp)
  rw [e0, hlen] at q2
  rw [e3] at q3
  have hlt0 : rsb < w.heap.size := h.lt'
  have hwl := h.le
  have hlta : rsb < wa.heap.size := hlt
  have hA3 : A3 = none → R.B.length = 0 := by
    intro e
    rcases Nat.eq_zero_or_pos R.B.length with h0 | h0
    · exact h0
    · obtain ⟨g, e1, _⟩ := hbl.at h0
      rw [e] at e1; cases e1
  have x0 := X.cell (i := 0) rfl
  have HD := hid hD
  have HT := hid T
  have HX := hid X
  have HF := hid hF
  have HR := hid hR
  have HI := hid ho
  have HG := hid hG
  have HSZ := hid hsz
  obtain ⟨M, hM⟩ : ∃ M, M = g.length := ⟨_, rfl⟩
  obtain ⟨K, hK⟩ : ∃ K, K = R.B.length := ⟨_, rfl⟩
  rw [← hM] at q2 rg hlen
  have HLEN := hid hlen
  have HM := hid hM
  rw [hlen] at hgr hl
  rw [← hK] at q3 hl2
  have HK := hid hK
  have hMl : M < 65536 := by omega
  have e1 : IntKind.i64.wrap ((M : Int) + 1 - 1) = (M : Int) := by rw [IntKind.wrap_i64]; omega
  have e1' : IntKind.i64.wrap (M : Int) = (M : Int) := by rw [IntKind.wrap_i64]; omega
  have i1 : (0 : Int) ≤ (M : Int) := by omega
  have i2 : (M : Int) < (M : Int) + 1 := by omega
  have e2 : ¬ (M : Int) + 1 = 0 := by omega
  have e3' : ((M : Int) + 1 == 0) = false := by simp; omega
  have hO : Rowi (wa.drew.alloc (.cells #[.int .i64 c] 3)) B (.slice (some ⟨wa.heap.size, 0, none⟩) 1 1) [c] := Rowi.one wa.drew c (by simp; omega)
  have hS : Srci (wa.drew.alloc (.cells #[.int .i64 c] 3)) A3 K R.B := by rw [hK]; exact (hbl.drew.alloc _).src
  have HO := hid hO
  have HS := hid hS
  have HA := hid (hK ▸ hA3)
  have hle : ([c] : List Int).length + K ≤ 1000000 := by simp; omega
  have HGR := hid hgr
  have HHL := hid hgl
  clear hD X T hF hd hc hz hR hG ho h e0 e3 hlt hcell hlen hl hM hA3 hK hO hS hsz hbl hgr
  go_enter Tryz.func100, Tryz.ntmps100
  go_upto_region 1 with fail
  rw [← HWA.out]
  go_wp2_with fail
  go_region_law (first
    | (refine step_appi rfl (.tmp 99) (.tmp 104) rfl B (.slice (some ⟨wa.heap.size, 0, none⟩) 1 1) [c] (by simp [Act.eval]) (by exact HO.out) A3 K c3 R.B (by simp [Act.eval]) (by exact HS.out) HA.out hle (by simp; omega) ?_; intro v' w' h' f' b'; obtain ⟨A', c', rfl⟩ := h'.form; have hFa : Fr [] wa w' := ((Fr.refl _ wa).drew.alloc _).step f' (fun x hx => .inr (by simp [Value.ownBlock] at hx; omega)); have hD' := HD.out.fr hFa (by simp) (by simp); obtain ⟨⟨u0, u1, u2, u3⟩, -, hc', hz', -⟩ := hD'.at HR.out; have y3 : w'.frozen? ⟨rsb, o + 3, none⟩ = false := hz' _; have q3' : w'.cell? ⟨rsb, o + 3, none⟩ = some u3 := by rw [HI.out]; exact hc' 3 _ rfl))
  all_goals
    have h'c : Rowi w' B (.slice A' (K + 1) c') (c :: R.B) := by
      have e : (c :: R.B).length = K + 1 := by rw [HK.out]; rfl
      have := h'
      simp only [List.cons_append, List.nil_append, e] at this
      exact this
    have eC : R.B.length = K := HK.out.symm
    rw [eC]
    have hD4 := HD.out.set HR.out hFa (j := 3) (x := .slice A' (K + 1) c') (by omega) (fun v hv => hv.setB h'c)
    rw [← HI.out] at hD4
    have hR2 : (Rs.set i { R with B := c :: R.B })[i]? = some { R with B := c :: R.B } := List.getElem?_set_self (List.getElem?_eq_some_iff.1 HR.out).1
    have hfresh : ∀ g, (Value.slice A' (K + 1) c').ownBlock = some g → wa.heap.size ≤ g := by
      intro g hg
      have hg : (Value.slice A' ([c] ++ R.B).length c').ownBlock = some g := by cases A' <;> exact hg
      rcases b' with b1 | b1
      · rw [b1] at hg; simp [Value.ownBlock] at hg; omega
      · rw [b1] at hg; simp at hg; omega
    have hro4 : ROff rsb wa (w'.setCell ⟨rsb, o + 3, none⟩ (.slice A' (K + 1) c')) := (ROff.fr hFa (by simp)).set q3' hfresh
    have hF4 : Fr [rsb] wa (w'.setCell ⟨rsb, o + 3, none⟩ (.slice A' (K + 1) c')) := (hFa.here (by simp)).set (by simp) _
    have hgr4 : Rowi (w'.setCell ⟨rsb, o + 3, none⟩ (.slice A' (K + 1) c')) B (.slice (some ⟨gb, 0, none⟩) (M + 1) c0) R.G := HGR.out.fr hF4 (fun g hg => by
      obtain ⟨⟨v0, v1, v2, v3⟩, hd, hc, hz, hlt, n0, n1, n2, n3⟩ := HD.out.at HR.out
      have e2 : v2 = .slice (some ⟨gb, 0, none⟩) (M + 1) c0 := by
        have := hc 2 v2 rfl
        rw [← HI.out, q2] at this
        exact (Option.some.inj this).symm
      rw [← e2] at hg
      simpa using n2 g hg)
    have hT4 := HT.out.fr hF4 (by simp; omega)
    have hX4 := HX.out.fr hF4 (by simp; omega)
    have HD4 := hid hD4
    have HR2 := hid hR2
    have HRO4 := hid hro4
    have HF4 := hid hF4
    have HGR4 := hid hgr4
    have HT4 := hid hT4
    obtain ⟨⟨p0, p1, p2, p3⟩, -, hc4, hz4, hlt4, -⟩ := hD4.at hR2
    have y2 : (w'.setCell ⟨rsb, o + 3, none⟩ (.slice A' (K + 1) c')).frozen? ⟨rsb, o + 2, none⟩ = false := hz4 _
    have y4 : (w'.setCell ⟨rsb, o + 3, none⟩ (.slice A' (K + 1) c')).cell? ⟨rsb, o + 2, none⟩ = some (.slice (some ⟨gb, 0, none⟩) (M + 1) c0) := by
      rw [World.cell?_setCell_other (h := by intro hc; injection hc with _ h2 _; omega)]
      rw [cell_fr hFa (by simp) hlta]
      exact q2
    obtain ⟨w4, hw4⟩ : ∃ w4, w4 = w'.setCell ⟨rsb, o + 3, none⟩ (.slice A' (K + 1) c') := ⟨_, rfl⟩
    have HW4 := hid hw4
    rw [← hw4] at HD4 HRO4 HF4 HGR4 HT4 y2 y4 hlt4
    clear hw4 hD4 hR2 hro4 hF4 hgr4 hT4 hX4 hc4 hz4 h'c h' f' b' hFa hD' hc' hz' y3 q3' q2 q3 rg eC hfresh
    go_upto_region 21 with fail
    rw [← HW4.out]
    go_wp2_with fail
    refine (dWithout B (.slice (some ⟨gb, 0, none⟩) (M + 1) c0) R.G M (M : Int) rfl w4 HGR4.out (by have := HLEN.out; omega) (by have := HLEN.out; omega)).mono ?_
    rintro e w5 ⟨v5, rfl, h5, hF5⟩
    rw [HG.out, show (g ++ [c]).eraseIdx M = g by rw [HM.out, List.eraseIdx_eq_take_drop_succ]; simp] at h5
    obtain ⟨A5, c5, rfl⟩ := h5.form
    have h5B : Rowi w5 B (.slice A5 g.length c5) g := h5.base (by have := HF4.out.size; have := HF.out.size; omega)
    have hD5 := HD4.out.fr hF5 (by simp) (by simp)
    obtain ⟨⟨m0, m1, m2, m3⟩, -, hc5, hz5, -⟩ := hD5.at HR2.out
    have u2 : w5.frozen? ⟨rsb, o + 2, none⟩ = false := hz5 _
    have p2' : w5.cell? ⟨rsb, o + 2, none⟩ = some m2 := by rw [HI.out]; exact hc5 2 _ rfl
    have hD6 := HD4.out.set HR2.out hF5 (j := 2) (x := .slice A5 g.length c5) (by omega) (fun v hv => hv.setG h5B)
    rw [list_set_set, ← HI.out] at hD6
    have hT6 := (HT4.out.fr hF5 (by simp)).other (a := ⟨rsb, o + 2, none⟩) (by simp; omega) (.slice A5 g.length c5)
    have hF6 : Fr [rsb] wa (w5.setCell ⟨rsb, o + 2, none⟩ (.slice A5 g.length c5)) := (HF4.out.trans (hF5.here (by simp))).set (by simp) _
    have hro6 : ROff rsb w4 (w5.setCell ⟨rsb, o + 2, none⟩ (.slice A5 g.length c5)) := (ROff.fr hF5 (by simp)).set p2' (fun g hg => (h5.lt g hg).1)
    have HLW6 := hid hD6.lt'
    have HD6 := hid hD6
    have HT6 := hid hT6
    have HF6 := hid hF6
    have HRO6 := hid hro6
    have t0 := hT6.cell (i := 0) rfl
    have t1 := hT6.cell (i := 1) rfl
    have t2 := hT6.cell (i := 2) rfl
    have f0 := hT6.frozen 0
    have f1 := hT6.frozen 1
    have f2 := hT6.frozen 2
    clear hD5 hc5 hz5 hD6 hT6 hF6 hro6 h5B hF5 h5 y2 y4
    go_wp2_with fail
    have hw4s := HF4.out.size
    refine bodyPost_ret (v := told5 0 false 0) ?_ rfl ⟨rfl, HD6.out.told HT6.out 0 false 0, toldW_fr (((HF.out.here (by simp)).trans HF6.out)) (.inr (by omega)) 0 false 0, (((ROff.fr HF.out (by simp)).trans HRO4.out HF.out.size).trans HRO6.out (Nat.le_trans HF.out.size hw4s)).told (fun _ => HLW6.out) (by omega) 0 false 0⟩
    have k := toldW_blk HT6.out 0 false 0
    have k0 := k.cell (i := 0) rfl
    have k1 := k.cell (i := 1) rfl
    have k2 := k.cell (i := 2) rfl
    simp only [toldW] at k0 k1 k2
    simp [results, Tryz.results100, go_sem, k0, k1, k2, told5]

set_option maxRecDepth 100000 in
set_option maxHeartbeats 3200000 in
/-- Do, of Shade, Next, Done. -/
theorem dDoGrey (B rsb : Nat) (W : Int) (Rs Rs' : List Rows) (o : Nat) (k n c e0 : Int) (is : Bool) (hk : k = 2 ∨ k = 3 ∨ k = 4) (w : World) (h : DRs w B rsb W Rs)
    (hg : ∀ w1, DRs w1 B rsb W Rs → Calls Tryz.prog 100 #[.pointer (some ⟨rsb, o, none⟩), .agg #[.int .i64 k, .int .i64 n]] w1 (DoPost w1 B rsb W Rs' (told5 c is e0))) :
    Calls Tryz.prog 68 #[.pointer (some ⟨rsb, o, none⟩), .agg #[.int .i64 k, .int .i64 n]] w (DoPost w B rsb W Rs' (told5 c is e0)) := by
  have hD := h.fr (actW_fr w k n) (by simp) (by simp)
  have X := actW_x w k n
  have T := actW_t w k n
  have hF := actW_fr w k n
  obtain ⟨wa, hwa⟩ : ∃ wa, wa = actW w k n := ⟨_, rfl⟩
  rw [← hwa] at hD X T hF
  have HWA : Hid (wa = (w.alloc (.cells #[.int .i64 k, .int .i64 n] 140)).alloc (.cells #[.int .i64 0, .bool false, .int .i64 0] 136)) := hid (by rw [hwa]; rfl)
  have hlt0 : rsb < w.heap.size := h.lt'
  have x0 := X.cell (i := 0) rfl
  have x1 := X.cell (i := 1) rfl
  have HD := hid hD
  have HT := hid T
  have HF := hid hF
  have HG := hid hg
  clear hwa hD X T hF h hg
  rcases hk with rfl | rfl | rfl
  all_goals
    go_enter Tryz.func68, Tryz.ntmps68
    go_upto_region 1 with fail
    rw [← HWA.out]
    go_wp2_with fail
    refine (HG.out wa HD.out).mono ?_
    rintro e w1 ⟨rfl, hD1, hF1⟩
    have T1 := HT.out.fr hF1.1 (by simp; omega)
    have t0 := T1.cell (i := 0) rfl
    have t1 := T1.cell (i := 1) rfl
    have t2 := T1.cell (i := 2) rfl
    have f0 := T1.frozen 0
    have f1 := T1.frozen 1
    have f2 := T1.frozen 2
    have HT1 := hid T1
    have HD1 := hid hD1
    have HF1 := hid hF1
    clear T1 hD1 hF1 x0 x1
    unfold told5
    go_wp2_with fail
    refine bodyPost_ret (v := told5 c is e0) ?_ rfl ⟨rfl, HD1.out.told HT1.out c is e0, toldW_fr ((HF.out.here (by simp)).trans HF1.out.1) (.inr (by omega)) c is e0, ((ROff.fr HF.out (by simp)).trans HF1.out.2 HF.out.size).told (fun hl => Nat.lt_of_lt_of_le (Nat.lt_of_lt_of_le hl HF.out.size) HF1.out.1.size) (by omega) c is e0⟩
    have k := toldW_blk HT1.out c is e0
    have k0 := k.cell (i := 0) rfl
    have k1 := k.cell (i := 1) rfl
    have k2 := k.cell (i := 2) rfl
    simp only [toldW] at k0 k1 k2
    simp [results, Tryz.results68, go_sem, k0, k1, k2, told5]
end Go.Proofs.YtifillpcphiblaaGreat

namespace Go.Proofs.YtifillpcphiblaaGreat
open Go Go.Proofs Go.RowKit

set_option maxRecDepth 100000 in
set_option maxHeartbeats 3200000 in
/-- Shaded: the From cell of a number. -/
theorem dShaded (B rsb : Nat) (W : Int) (Rs : List Rows) (i o : Nat) (ho : o = 5 * i) (R : Rows) (F1 F2 : List Int) (c : Int) (w : World) (h : DRs w B rsb W Rs) (hR : Rs[i]? = some R) (hF : R.F = F1 ++ c :: F2) (hl : R.F.length ≤ 65536) :
    Calls Tryz.prog 116 #[.pointer (some ⟨rsb, o, none⟩), .int .i64 F1.length] w fun e w' => e = .returned (.int .i64 c) ∧ w = w' := by
  obtain ⟨⟨v0, v1, v2, v3⟩, hd, hc, hz, hlt, -⟩ := h.at hR
  have q1 := hc 1 v1 rfl
  rw [← ho] at q1
  obtain ⟨A0, c0, e0⟩ := hd.fr0.form
  simp only at e0
  have hgr := hd.fr0
  simp only [e0] at hgr
  have hlen : R.F.length = F1.length + F2.length + 1 := by rw [hF]; simp; omega
  obtain ⟨gb, rfl, -, -, -, -, -, hcell⟩ := hgr.at (by omega)
  have rg := hcell F1.length c (by rw [hF]; simp)
  rw [e0] at q1
  obtain ⟨M, hM⟩ : ∃ M, M = F1.length := ⟨_, rfl⟩
  obtain ⟨N, hN⟩ : ∃ N, N = R.F.length := ⟨_, rfl⟩
  rw [← hM] at rg hlen ⊢
  rw [← hN] at q1 hlen hl
  have hmod : (M : Int).tmod (N : Int) = (M : Int) := by
    rw [Int.tmod_eq_emod_of_nonneg (by omega)]
    exact Int.emod_eq_of_lt (by omega) (by omega)
  have e1 : IntKind.i64.wrap (M : Int) = (M : Int) := by rw [IntKind.wrap_i64]; omega
  have i1 : (0 : Int) ≤ (M : Int) := by omega
  have i2 : (M : Int) < (N : Int) := by omega
  have e2 : ¬ (N : Int) = 0 := by omega
  have e3 : ((N : Int) == 0) = false := by simp; omega
  have e4 : ¬ (M : Int) < 0 := by omega
  clear hd hc hz hR hF ho h e0 hlt hgr hcell hM hN hlen
  go_enter Tryz.func116, Tryz.ntmps116
  go_wp2_with fail
  go_ret
  exact ⟨rfl, rfl⟩

set_option maxRecDepth 100000 in
set_option maxHeartbeats 6400000 in
/-- Shade: a From cell is the last Grey one. -/
theorem dGreyShade (B rsb : Nat) (W : Int) (Rs : List Rows) (i o : Nat) (ho : o = 5 * i) (R : Rows) (F1 F2 : List Int) (c : Int) (w : World) (h : DRs w B rsb W Rs) (hR : Rs[i]? = some R) (hF : R.F = F1 ++ c :: F2) (hcF : c ∉ F1) (hc0 : 0 ≤ c) (hl : R.F.length ≤ 65536) (hl2 : R.G.length ≤ 65536) :
    Calls Tryz.prog 100 #[.pointer (some ⟨rsb, o, none⟩), .agg #[.int .i64 2, .int .i64 F1.length]] w (DoPost w B rsb W (Rs.set i { R with F := F1 ++ F2, G := R.G ++ [c] }) (told5 0 false 0)) := by
  obtain ⟨nn, hnn⟩ : ∃ nn : Int, nn = (F1.length : Int) := ⟨_, rfl⟩
  rw [← hnn]
  have hD := h.fr (actW_fr w 2 nn) (by simp) (by simp)
  have X := actW_x w 2 nn
  have T := actW_t w 2 nn
  have hFr := actW_fr w 2 nn
  have hsz := actW_size w 2 nn
  obtain ⟨wa, hwa⟩ : ∃ wa, wa = actW w 2 nn := ⟨_, rfl⟩
  rw [← hwa] at hD X T hFr hsz
  have HWA : Hid (wa = (w.alloc (.cells #[.int .i64 2, .int .i64 nn] 140)).alloc (.cells #[.int .i64 0, .bool false, .int .i64 0] 136)) := hid (by rw [hwa]; rfl)
  clear hwa
  obtain ⟨⟨v0, v1, v2, v3⟩, hd, hc, hz, hlt, -⟩ := hD.at hR
  have q1 := hc 1 v1 rfl
  have q2 := hc 2 v2 rfl
  have z1 : wa.frozen? ⟨rsb, o + 1, none⟩ = false := hz _
  rw [← ho] at q1 q2
  obtain ⟨A0, c0, e0⟩ := hd.fr0.form
  obtain ⟨A2, c2, e2⟩ := hd.gr.form
  simp only at e0 e2
  have hf0 := hd.fr0
  simp only [e0] at hf0
  have hlen : R.F.length = F1.length + F2.length + 1 := by rw [hF]; simp; omega
  obtain ⟨gb, rfl, hgb, hgl, -, -, -, hcell⟩ := hf0.at (by omega)
  rw [e0] at q1
  rw [e2] at q2
  have hlt0 : rsb < w.heap.size := h.lt'
  have hwl := h.le
  have x0 := X.cell (i := 0) rfl
  have x1 := X.cell (i := 1) rfl
  have HD := hid hD
  have HT := hid T
  have HX := hid X
  have HFR := hid hFr
  have HR := hid hR
  have HI := hid ho
  have HRF := hid hF
  have HCF := hid hcF
  have HNN := hid hnn
  have HCELL := hid hcell
  have HF0 := hid hf0
  have HLL := hid hl
  obtain ⟨M, hM⟩ : ∃ M, M = F1.length := ⟨_, rfl⟩
  obtain ⟨N, hN⟩ : ∃ N, N = R.F.length := ⟨_, rfl⟩
  rw [← hM] at hlen
  rw [← hN] at q1 hlen
  have HM := hid hM
  have HN := hid hN
  have HLEN := hid hlen
  have hMN : M < N := by omega
  have hNl : N ≤ 65536 := by omega
  have hcn : ¬ c < 0 := by omega
  have hsh := fun (w1 : World) (hD1 : DRs w1 B rsb W Rs) => dShaded B rsb W Rs i o ho R F1 F2 c w1 hD1 hR hF hl
  rw [← hnn] at hsh
  have HSH := hid hsh
  have hlta : rsb < wa.heap.size := hlt
  clear hD X T hFr hd hc hz hR hF ho h e0 e2 hlt hcell hlen hM hN hsz hf0 hcF hnn hl hsh
  go_enter Tryz.func100, Tryz.ntmps100
  go_upto_region 1 with fail
  rw [← HWA.out]
  go_wp2_with fail
  refine (HSH.out wa HD.out).mono ?_
  rintro e w0 ⟨rfl, hw0⟩
  subst hw0
  go_wp2_with fail
  go_loop [7] (fun kv => ∃ j : Nat, j ≤ M ∧ kv = .int .i64 j) (fun kv => M - (intOf kv).toNat)
  case atStart => exact ⟨0, Nat.zero_le _, rfl⟩
  case round =>
    obtain ⟨j, hj, rfl⟩ := hrel
    obtain ⟨y, hy⟩ : ∃ y, R.F[j]? = some y := ⟨_, List.getElem?_eq_getElem (by have := HN.out; omega)⟩
    have hcj := HCELL.out j y hy
    have j1 : (0 : Int) ≤ (j : Int) := by omega
    have j2 : (j : Int) < (N : Int) := by omega
    have HY := hid hy
    clear hy
    by_cases hjM : j < M
    · have hne : (y == c) = false := by
        simp only [beq_eq_false_iff_ne]
        rintro rfl
        have h1 := HY.out
        rw [HRF.out, List.getElem?_append_left (by have := HM.out; omega)] at h1
        exact HCF.out (List.mem_of_getElem? h1)
      go_wp2_with fail
      go_round
      case rel => exact ⟨j + 1, by omega, by go_num⟩
      case measure => simp [intOf]; omega
    · obtain rfl : j = M := by omega
      have hyc : y = c := by
        have h1 := HY.out
        rw [HRF.out, List.getElem?_append_right (by have := HM.out; omega), HM.out, Nat.sub_self] at h1
        simpa using h1.symm
      subst hyc
      have hbeq : (y == y) = true := by simp
      go_wp2_with fail
      refine (dWithout B (.slice (some ⟨gb, 0, none⟩) N c0) R.F j (j : Int) rfl wa (by rw [HN.out]; exact HF0.out) (by have := HN.out; omega) (by have := HN.out; omega)).mono ?_
      rintro e w1 ⟨v1', rfl, h1, hF1⟩
      have hers : R.F.eraseIdx j = F1 ++ F2 := by rw [HRF.out, HM.out, List.eraseIdx_eq_take_drop_succ]; simp
      rw [hers] at h1
      obtain ⟨A1, c1, rfl⟩ := h1.form
      obtain ⟨N2, hN2⟩ : ∃ N2, N2 = (F1 ++ F2).length := ⟨_, rfl⟩
      rw [← hN2] at h1 ⊢
      clear hN2
      have hD1 := HD.out.fr hF1 (by simp) (by simp)
      obtain ⟨⟨u0, u1, u2, u3⟩, -, hc', hz', -⟩ := hD1.at HR.out
      have y1 : w1.frozen? ⟨rsb, o + 1, none⟩ = false := hz' _
      have q1' : w1.cell? ⟨rsb, o + 1, none⟩ = some u1 := by rw [HI.out]; exact hc' 1 u1 rfl
      have h1B : Rowi w1 B (.slice A1 N2 c1) (F1 ++ F2) := h1.base (by have := HFR.out.size; omega)
      have hD2 := HD.out.set HR.out hF1 (j := 1) (x := .slice A1 N2 c1) (by omega) (fun v hv => hv.setF h1B)
      rw [← HI.out] at hD2
      have hX1 := (HX.out.fr hF1 (by simp)).other (a := ⟨rsb, o + 1, none⟩) (by simp; omega) (.slice A1 N2 c1)
      have hT1 := (HT.out.fr hF1 (by simp)).other (a := ⟨rsb, o + 1, none⟩) (by simp; omega) (.slice A1 N2 c1)
      have hR2 : (Rs.set i { R with F := F1 ++ F2 })[i]? = some { R with F := F1 ++ F2 } := List.getElem?_set_self (List.getElem?_eq_some_iff.1 HR.out).1
      have hF2 : Fr [rsb] wa (w1.setCell ⟨rsb, o + 1, none⟩ (.slice A1 N2 c1)) := (hF1.here (by simp)).set (by simp) _
      have hro1 : ROff rsb wa (w1.setCell ⟨rsb, o + 1, none⟩ (.slice A1 N2 c1)) := (ROff.fr hF1 (by simp)).set q1' (fun g hg => (h1.lt g hg).1)
      obtain ⟨w2, hw2⟩ : ∃ w2, w2 = w1.setCell ⟨rsb, o + 1, none⟩ (.slice A1 N2 c1) := ⟨_, rfl⟩
      rw [← hw2] at hD2 hX1 hT1 hF2 hro1
      have HW2 := hid hw2
      have HRO1 := hid hro1
      have HD2 := hid hD2
      have HT1 := hid hT1
      have HF2 := hid hF2
      have HR2 := hid hR2
      clear hro1 hD1 hc' hz' h1 h1B hD2 hw2 hX1 hT1 hR2 hF2 hF1 q1 z1 hcj x0 x1 hers q2
      go_upto_region 12 with fail
      rw [← HW2.out]
      obtain ⟨⟨p0, p1, p2, p3⟩, hd2, hc2, hz2, hlt2, -⟩ := HD2.out.at HR2.out
      have q2 : w2.cell? ⟨rsb, o + 2, none⟩ = some p2 := by rw [HI.out]; exact hc2 2 _ rfl
      have z2 : w2.frozen? ⟨rsb, o + 2, none⟩ = false := hz2 _
      obtain ⟨A3, c3, e3⟩ := hd2.gr.form
      simp only at e3
      subst e3
      have hb2 := hd2.gr
      simp only at hb2
      have hA3 : A3 = none → R.G.length = 0 := by
        intro e
        rcases Nat.eq_zero_or_pos R.G.length with h0 | h0
        · exact h0
        · obtain ⟨g, e1, _⟩ := hb2.at h0
          rw [e] at e1; cases e1
      have hsz4 : w.heap.size ≤ w2.heap.size := by have := HF2.out.size; have := HFR.out.size; omega
      have hBw2 : B ≤ w2.heap.size := by omega
      have hE := Rowi.empty w2 (Nat.le_refl w2.heap.size)
      have hS3 : Srci (w2.alloc (.cells #[] 3)) A3 R.G.length R.G := (hb2.alloc _).src
      have HE := hid hE
      have HS3 := hid hS3
      have HA3 := hid hA3
      clear hd2 hc2 hz2 hA3 hE hS3 hb2
      go_wp2_with (at_builtin; first
        | (refine wpList_appi rfl _ _ rfl w2.heap.size (.slice (some ⟨w2.heap.size, 0, none⟩) 0 0) [] rfl HE.out A3 R.G.length c3 R.G rfl HS3.out HA3.out (by simp; omega) (by simp) ?_))
      intro v3 w3 h3 f3 b3
      have hF3 : Fr [] w2 w3 := ((Fr.refl [] w2).alloc _).step f3 (fun x hx => .inr (by simp [Value.ownBlock] at hx; omega))
      have h3a := h3.alloc (.cells #[.int .i64 y] 3)
      have hS1 : Srci (w3.alloc (.cells #[.int .i64 y] 3)) (some ⟨w3.heap.size, 0, none⟩) 1 [y] := (Rowi.one w3 y (Nat.le_refl w3.heap.size)).src
      have hsz3 := hF3.size
      have H3a := hid h3a
      have HS1 := hid hS1
      have Hh3 := hid h3
      have HF3 := hid hF3
      clear h3 f3 b3 h3a hS1 hF3
      go_wp2_with (at_builtin; first
        | (refine wpList_appi rfl _ _ rfl w2.heap.size v3 R.G rfl H3a.out (some ⟨w3.heap.size, 0, none⟩) 1 1 [y] rfl HS1.out (by simp) (by omega) (by simp; omega) ?_))
      intro v4 w4 h4 f4 b4
      obtain ⟨A4, c4, rfl⟩ := h4.form
      have hF4 : Fr [] w2 w4 := (HF3.out.alloc _).step f4 (fun x hx => .inr (Hh3.out.lt x (by simpa using hx)).1)
      have h4B : Rowi w4 B (.slice A4 (R.G ++ [y]).length c4) (R.G ++ [y]) := h4.base hBw2
      have hD4 := HD2.out.fr hF4 (by simp) (by simp)
      obtain ⟨⟨m0, m1, m2, m3⟩, -, hc4, hz4, -⟩ := hD4.at HR2.out
      have y3 : w4.frozen? ⟨rsb, o + 2, none⟩ = false := hz4 _
      have q3' : w4.cell? ⟨rsb, o + 2, none⟩ = some m2 := by rw [HI.out]; exact hc4 2 _ rfl
      have hD5 := HD2.out.set HR2.out hF4 (j := 2) (x := .slice A4 (R.G ++ [y]).length c4) (by omega) (fun v hv => hv.setG h4B)
      rw [list_set_set, ← HI.out] at hD5
      have hT5 := (HT1.out.fr hF4 (by simp)).other (a := ⟨rsb, o + 2, none⟩) (by simp; omega) (.slice A4 (R.G ++ [y]).length c4)
      have hF5 : Fr [rsb] wa (w4.setCell ⟨rsb, o + 2, none⟩ (.slice A4 (R.G ++ [y]).length c4)) := (HF2.out.trans (hF4.here (by simp))).set (by simp) _
      have hro5 : ROff rsb w2 (w4.setCell ⟨rsb, o + 2, none⟩ (.slice A4 (R.G ++ [y]).length c4)) := (ROff.fr hF4 (by simp)).set q3' (fun g hg => (h4.lt g hg).1)
      have hlw5 : rsb < (w4.setCell ⟨rsb, o + 2, none⟩ (.slice A4 (R.G ++ [y]).length c4)).heap.size := hD5.lt'
      have HRO5 := hid hro5
      have HLW5 := hid hlw5
      have HD5 := hid hD5
      have HT5 := hid hT5
      have HF5 := hid hF5
      have e4 : (R.G ++ [y]).length = R.G.length + 1 := by simp
      rw [e4] at hT5 HD5 HT5 HF5 HRO5 HLW5 ⊢
      have t0 := hT5.cell (i := 0) rfl
      have t1 := hT5.cell (i := 1) rfl
      have t2 := hT5.cell (i := 2) rfl
      have f0 := hT5.frozen 0
      have f1 := hT5.frozen 1
      have f2 := hT5.frozen 2
      clear hD4 hc4 hz4 hD5 hT5 hF5 e4 h4B hF4 h4 f4 b4 q2 z2 hro5 hlw5
      go_wp2_with fail
      refine bodyPost_ret (v := told5 0 false 0) ?_ rfl ⟨rfl, HD5.out.told HT5.out 0 false 0, toldW_fr (((HFR.out.here (by simp)).trans HF5.out)) (.inr (by omega)) 0 false 0, (((ROff.fr HFR.out (by simp)).trans HRO1.out HFR.out.size).trans HRO5.out (Nat.le_trans HFR.out.size HF2.out.size)).told (fun _ => HLW5.out) (by omega) 0 false 0⟩
      have k := toldW_blk HT5.out 0 false 0
      have k0 := k.cell (i := 0) rfl
      have k1 := k.cell (i := 1) rfl
      have k2 := k.cell (i := 2) rfl
      simp only [toldW] at k0 k1 k2
      simp [results, Tryz.results100, go_sem, k0, k1, k2, told5]

/-- What a ring's call leaves: other blocks stay. -/
def DoPostF (w : World) (B rsb : Nat) (W : Int) (Rs : List Rows) (t : Value) (e : Ending) (w' : World) : Prop := e = .returned t ∧ DRs w' B rsb W Rs ∧ Fr [rsb] w w'
theorem DoPost.f {w : World} {B rsb : Nat} {W : Int} {Rs : List Rows} {t : Value} {e : Ending} {w' : World} (h : DoPost w B rsb W Rs t e w') : DoPostF w B rsb W Rs t e w' := ⟨h.1, h.2.1, h.2.2.1⟩

set_option maxRecDepth 100000 in
set_option maxHeartbeats 6400000 in
/-- Do, of Begin: neither From nor Grey cells. -/
theorem dDoBegin (B rsb : Nat) (W : Int) (Rs : List Rows) (i o : Nat) (ho : o = 5 * i) (R : Rows) (n : Int) (w : World) (h : DRs w B rsb W Rs) (hR : Rs[i]? = some R) (hF : R.F = []) (hG : R.G = []) :
    Calls Tryz.prog 68 #[.pointer (some ⟨rsb, o, none⟩), .agg #[.int .i64 5, .int .i64 n]] w (DoPostF w B rsb W (Rs.set i { R with F := R.B, B := [] }) (told5 0 false 0)) := by
  have hD := h.fr (actW_fr w 5 n) (by simp) (by simp)
  have X := actW_x w 5 n
  have T := actW_t w 5 n
  have hFr := actW_fr w 5 n
  have hsz := actW_size w 5 n
  obtain ⟨wa, hwa⟩ : ∃ wa, wa = actW w 5 n := ⟨_, rfl⟩
  rw [← hwa] at hD X T hFr hsz
  have HWA : Hid (wa = (w.alloc (.cells #[.int .i64 5, .int .i64 n] 140)).alloc (.cells #[.int .i64 0, .bool false, .int .i64 0] 136)) := hid (by rw [hwa]; rfl)
  clear hwa
  obtain ⟨⟨v0, v1, v2, v3⟩, hd, hc, hz, hlt, -⟩ := hD.at hR
  have hlt0 : rsb < w.heap.size := h.lt'
  have hwl := h.le
  have hlta : rsb < wa.heap.size := hlt
  have x0 := X.cell (i := 0) rfl
  have x1 := X.cell (i := 1) rfl
  have HD := hid hD
  have HT := hid T
  have HX := hid X
  have HFR := hid hFr
  have HR := hid hR
  have HI := hid ho
  have q1 := hc 1 v1 rfl
  have q2 := hc 2 v2 rfl
  rw [← ho] at q1 q2
  obtain ⟨A1, c1, e1⟩ := hd.fr0.form
  obtain ⟨A2, c2, e2⟩ := hd.gr.form
  simp only at e1 e2
  rw [e1, hF, List.length_nil] at q1
  rw [e2, hG, List.length_nil] at q2
  clear hD X T hFr hd hc hz hR ho h e1 e2 hlt hsz hF hG
  go_enter Tryz.func68, Tryz.ntmps68
  go_upto_region 1 with fail
  rw [← HWA.out]
  go_wp2_with fail
  go_quiet (fail)
  obtain ⟨wb, hwb⟩ : ∃ wb, wb = wa.drewN nq := ⟨_, rfl⟩
  have hFb : Fr [] wa wb := by rw [hwb]; exact (Fr.refl [] wa).drewN nq
  rw [← hwb]
  clear hwb
  have hDb := HD.out.fr hFb (by simp) (by simp)
  have hTb := HT.out.fr hFb (by simp)
  obtain ⟨⟨p0, p1, p2, p3⟩, hdb, hcb, hzb, hltb, -⟩ := hDb.at HR.out
  obtain ⟨A3, c3, e3⟩ := hdb.bl.form
  simp only at e3
  subst e3
  obtain ⟨K, hK⟩ : ∃ K, K = R.B.length := ⟨_, rfl⟩
  rw [← hK] at hdb hcb
  clear hK
  have s1 : wb.cell? ⟨rsb, o + 1, none⟩ = some p1 := by rw [HI.out]; exact hcb 1 _ rfl
  have s3 : wb.cell? ⟨rsb, o + 3, none⟩ = some (.slice A3 K c3) := by rw [HI.out]; exact hcb 3 _ rfl
  have z1 : wb.frozen? ⟨rsb, o + 1, none⟩ = false := hzb _
  have z3 : wb.frozen? ⟨rsb, o + 3, none⟩ = false := hzb _
  have hD1 := hDb.set HR.out (Fr.refl [] wb) (j := 1) (x := .slice A3 K c3) (by omega) (fun v hv => hv.setF hdb.bl)
  have hR1 : (Rs.set i { R with F := R.B })[i]? = some { R with F := R.B } := List.getElem?_set_self (List.getElem?_eq_some_iff.1 HR.out).1
  have hD2 := hD1.set hR1 (Fr.refl [] _) (j := 3) (x := .slice none 0 0) (by omega) (fun v hv => hv.setB (Rowi.nil _ _))
  rw [list_set_set, ← HI.out] at hD2
  have hF2 : Fr [rsb] wb ((wb.setCell ⟨rsb, o + 1, none⟩ (.slice A3 K c3)).setCell ⟨rsb, o + 3, none⟩ (.slice none 0 0)) := ((Fr.refl [rsb] wb).set (by simp) _).set (by simp) _
  have hT2 := hTb.fr hF2 (by simp; omega)
  have HD2 := hid hD2
  have HT2 := hid hT2
  have HF2 := hid ((hFb.here (by simp : ∀ x ∈ [], x ∈ [rsb])).trans hF2)
  have t0 := HT2.out.cell (i := 0) rfl
  have t1 := HT2.out.cell (i := 1) rfl
  have t2 := HT2.out.cell (i := 2) rfl
  have f0 := HT2.out.frozen 0
  have f1 := HT2.out.frozen 1
  have f2 := HT2.out.frozen 2
  clear hD1 hR1 hD2 hF2 hT2 hDb hTb hdb hcb hzb hFb q1 q2
  go_wp2_with fail
  refine bodyPost_ret (v := told5 0 false 0) ?_ rfl ⟨rfl, HD2.out.told HT2.out 0 false 0, toldW_fr ((HFR.out.here (by simp)).trans HF2.out) (.inr (by omega)) 0 false 0⟩
  have k := toldW_blk HT2.out 0 false 0
  have k0 := k.cell (i := 0) rfl
  have k1 := k.cell (i := 1) rfl
  have k2 := k.cell (i := 2) rfl
  simp only [toldW] at k0 k1 k2
  simp [results, Tryz.results68, go_sem, k0, k1, k2, told5]

set_option maxRecDepth 100000 in
set_option maxHeartbeats 6400000 in
/-- Do, of Drop: there is no White one. -/
theorem dDoDropNo (B rsb : Nat) (W : Int) (Rs : List Rows) (i o : Nat) (ho : o = 5 * i) (R : Rows) (n : Int) (w : World) (h : DRs w B rsb W Rs) (hR : Rs[i]? = some R) (hW : R.W = []) :
    Calls Tryz.prog 68 #[.pointer (some ⟨rsb, o, none⟩), .agg #[.int .i64 7, .int .i64 n]] w (DoPostF w B rsb W Rs (told5 0 false 2)) := by
  have hD := h.fr (actW_fr w 7 n) (by simp) (by simp)
  have X := actW_x w 7 n
  have T := actW_t w 7 n
  have hFr := actW_fr w 7 n
  have hsz := actW_size w 7 n
  obtain ⟨wa, hwa⟩ : ∃ wa, wa = actW w 7 n := ⟨_, rfl⟩
  rw [← hwa] at hD X T hFr hsz
  have HWA : Hid (wa = (w.alloc (.cells #[.int .i64 7, .int .i64 n] 140)).alloc (.cells #[.int .i64 0, .bool false, .int .i64 0] 136)) := hid (by rw [hwa]; rfl)
  clear hwa
  obtain ⟨⟨v0, v1, v2, v3⟩, hd, hc, hz, hlt, -⟩ := hD.at hR
  have hlt0 : rsb < w.heap.size := h.lt'
  have hwl := h.le
  have hlta : rsb < wa.heap.size := hlt
  have x0 := X.cell (i := 0) rfl
  have x1 := X.cell (i := 1) rfl
  have HD := hid hD
  have HT := hid T
  have HX := hid X
  have HFR := hid hFr
  have HR := hid hR
  have HI := hid ho
  have q0 : wa.cell? ⟨rsb, o, none⟩ = some v0 := by have := hc 0 v0 rfl; rw [ho]; simpa using this
  obtain ⟨A1, c1, e1⟩ := hd.wh.form
  simp only at e1
  rw [e1, hW, List.length_nil] at q0
  have t0 := HT.out.cell (i := 0) rfl
  have t1 := HT.out.cell (i := 1) rfl
  have t2 := HT.out.cell (i := 2) rfl
  have f0 := HT.out.frozen 0
  have f1 := HT.out.frozen 1
  have f2 := HT.out.frozen 2
  clear hD X T hFr hd hc hz hR ho h e1 hlt hsz hW
  go_enter Tryz.func68, Tryz.ntmps68
  go_upto_region 1 with fail
  rw [← HWA.out]
  go_wp2_with fail
  refine bodyPost_ret (v := told5 0 false 2) ?_ rfl ⟨rfl, HD.out.told HT.out 0 false 2, toldW_fr (HFR.out.here (by simp)) (.inr (by omega)) 0 false 2⟩
  have k := toldW_blk HT.out 0 false 2
  have k0 := k.cell (i := 0) rfl
  have k1 := k.cell (i := 1) rfl
  have k2 := k.cell (i := 2) rfl
  simp only [toldW] at k0 k1 k2
  simp [results, Tryz.results68, go_sem, k0, k1, k2, told5]

set_option maxRecDepth 100000 in
set_option maxHeartbeats 6400000 in
/-- Do, of Drop: the first White one goes. -/
theorem dDoDrop (B rsb : Nat) (W : Int) (Rs : List Rows) (i o : Nat) (ho : o = 5 * i) (R : Rows) (n c : Int) (Wt : List Int) (w : World) (h : DRs w B rsb W Rs) (hR : Rs[i]? = some R) (hW : R.W = c :: Wt) (hl : R.W.length ≤ 65536) :
    Calls Tryz.prog 68 #[.pointer (some ⟨rsb, o, none⟩), .agg #[.int .i64 7, .int .i64 n]] w (DoPostF w B rsb W (Rs.set i { R with W := Wt }) (told5 c false 0)) := by
  have hD := h.fr (actW_fr w 7 n) (by simp) (by simp)
  have X := actW_x w 7 n
  have T := actW_t w 7 n
  have hFr := actW_fr w 7 n
  have hsz := actW_size w 7 n
  obtain ⟨wa, hwa⟩ : ∃ wa, wa = actW w 7 n := ⟨_, rfl⟩
  rw [← hwa] at hD X T hFr hsz
  have HWA : Hid (wa = (w.alloc (.cells #[.int .i64 7, .int .i64 n] 140)).alloc (.cells #[.int .i64 0, .bool false, .int .i64 0] 136)) := hid (by rw [hwa]; rfl)
  clear hwa
  obtain ⟨⟨v0, v1, v2, v3⟩, hd, hc, hz, hlt, -⟩ := hD.at hR
  have hlt0 : rsb < w.heap.size := h.lt'
  have hwl := h.le
  have hlta : rsb < wa.heap.size := hlt
  have x0 := X.cell (i := 0) rfl
  have x1 := X.cell (i := 1) rfl
  have HD := hid hD
  have HT := hid T
  have HX := hid X
  have HFR := hid hFr
  have HR := hid hR
  have HI := hid ho
  have q0 : wa.cell? ⟨rsb, o, none⟩ = some v0 := by have := hc 0 v0 rfl; rw [ho]; simpa using this
  have z0 : wa.frozen? ⟨rsb, o, none⟩ = false := hz o
  obtain ⟨A0, c0, e0⟩ := hd.wh.form
  simp only at e0
  subst e0
  have hlen : R.W.length = Wt.length + 1 := by rw [hW]; rfl
  have hw0 := hd.wh
  simp only at hw0
  obtain ⟨g0, rfl, hBg, hgl, -, hlc, hcm, hcell⟩ := hw0.at (by omega)
  have r0 : wa.cell? ⟨g0, 0, none⟩ = some (.int .i64 c) := hcell 0 c (by rw [hW]; rfl)
  have HW := hid hW
  have Hw0 := hid hw0
  rw [hlen] at q0 Hw0
  have HLEN := hid hlen
  have hne1 : ¬ (Wt.length : Int) + 1 = 0 := by omega
  have hpos : (0 : Int) < (Wt.length : Int) + 1 := by omega
  have hle1 : R.W.length ≤ 70000 := by omega
  have HLE := hid hle1
  clear T X hD hR hd hc hz hW hw0 hcell hlen hl hle1 hFr ho h hlt hsz
  go_enter Tryz.func68, Tryz.ntmps68
  go_upto_region 1 with fail
  rw [← HWA.out]
  go_wp2_with fail
  refine (dWithout B (.slice (some ⟨g0, 0, none⟩) (Wt.length + 1) c0) R.W 0 0 rfl wa Hw0.out (by have := HLEN.out; omega) HLE.out).mono ?_
  rintro e w1 ⟨v1', rfl, h1, hF1⟩
  rw [HW.out] at h1
  simp only [List.eraseIdx_zero, List.tail_cons] at h1
  obtain ⟨A1, c1, rfl⟩ := h1.form
  have hD1 := HD.out.fr hF1 (by simp) (by simp)
  obtain ⟨⟨u0, u1, u2, u3⟩, -, hc', hz', -⟩ := hD1.at HR.out
  have y0 : w1.frozen? ⟨rsb, o, none⟩ = false := hz' o
  have q0' : w1.cell? ⟨rsb, o, none⟩ = some u0 := by have := hc' 0 u0 rfl; rw [HI.out]; simpa using this
  have h1B : Rowi w1 B (.slice A1 Wt.length c1) Wt := h1.base (by have := HFR.out.size; omega)
  have hD2 := HD.out.set HR.out hF1 (j := 0) (x := .slice A1 Wt.length c1) (by omega) (fun v hv => hv.setW h1B)
  have hw0 : w1.setCell ⟨rsb, o, none⟩ (.slice A1 Wt.length c1) = w1.setCell ⟨rsb, 5 * i + 0, none⟩ (.slice A1 Wt.length c1) := by rw [← HI.out]; rfl
  rw [← hw0] at hD2
  have hX1 := (HX.out.fr hF1 (by simp)).other (a := ⟨rsb, o, none⟩) (by simp; omega) (.slice A1 Wt.length c1)
  have hT1 := (HT.out.fr hF1 (by simp)).other (a := ⟨rsb, o, none⟩) (by simp; omega) (.slice A1 Wt.length c1)
  have hF2 : Fr [rsb] wa (w1.setCell ⟨rsb, o, none⟩ (.slice A1 Wt.length c1)) := (hF1.here (by simp)).set (by simp) _
  have HD2 := hid hD2
  have HT1 := hid hT1
  have HF2 := hid ((HFR.out.here (by simp : ∀ x ∈ [], x ∈ [rsb])).trans hF2)
  have x0' := hX1.cell (i := 0) rfl
  have t0 := HT1.out.cell (i := 0) rfl
  have t1 := HT1.out.cell (i := 1) rfl
  have t2 := HT1.out.cell (i := 2) rfl
  have f0 := HT1.out.frozen 0
  have f1 := HT1.out.frozen 1
  have f2 := HT1.out.frozen 2
  clear hD1 hc' hz' h1 h1B hD2 hw0 hX1 hT1 hF2 hF1 q0 z0 r0 x0 x1
  go_wp2_with fail
  refine bodyPost_ret (v := told5 c false 0) ?_ rfl ⟨rfl, HD2.out.told HT1.out c false 0, toldW_fr (HF2.out) (.inr (by omega)) c false 0⟩
  have k := toldW_blk HT1.out c false 0
  have k0 := k.cell (i := 0) rfl
  have k1 := k.cell (i := 1) rfl
  have k2 := k.cell (i := 2) rfl
  simp only [toldW] at k0 k1 k2
  simp [results, Tryz.results68, go_sem, k0, k1, k2, told5]

set_option maxRecDepth 100000 in
set_option maxHeartbeats 6400000 in
/-- Do, of End: no Grey cells; the From ones are White. -/
theorem dDoEnd (B rsb : Nat) (W : Int) (Rs : List Rows) (i o : Nat) (ho : o = 5 * i) (R : Rows) (n : Int) (w : World) (h : DRs w B rsb W Rs) (hR : Rs[i]? = some R) (hG : R.G = []) (hl : R.W.length ≤ 65536) (hl2 : R.F.length ≤ 65536) :
    Calls Tryz.prog 68 #[.pointer (some ⟨rsb, o, none⟩), .agg #[.int .i64 6, .int .i64 n]] w (DoPostF w B rsb W (Rs.set i { R with W := R.W ++ R.F, F := [] }) (told5 0 false 0)) := by
  have hD := h.fr (actW_fr w 6 n) (by simp) (by simp)
  have X := actW_x w 6 n
  have T := actW_t w 6 n
  have hFr := actW_fr w 6 n
  have hsz := actW_size w 6 n
  obtain ⟨wa, hwa⟩ : ∃ wa, wa = actW w 6 n := ⟨_, rfl⟩
  rw [← hwa] at hD X T hFr hsz
  have HWA : Hid (wa = (w.alloc (.cells #[.int .i64 6, .int .i64 n] 140)).alloc (.cells #[.int .i64 0, .bool false, .int .i64 0] 136)) := hid (by rw [hwa]; rfl)
  clear hwa
  obtain ⟨⟨v0, v1, v2, v3⟩, hd, hc, hz, hlt, -⟩ := hD.at hR
  have hlt0 : rsb < w.heap.size := h.lt'
  have hwl := h.le
  have hlta : rsb < wa.heap.size := hlt
  have x0 := X.cell (i := 0) rfl
  have x1 := X.cell (i := 1) rfl
  have HD := hid hD
  have HT := hid T
  have HX := hid X
  have HFR := hid hFr
  have HR := hid hR
  have HI := hid ho
  have q0 : wa.cell? ⟨rsb, o, none⟩ = some v0 := by have := hc 0 v0 rfl; rw [ho]; simpa using this
  have q1 := hc 1 v1 rfl
  have q2 := hc 2 v2 rfl
  rw [← ho] at q1 q2
  obtain ⟨A0, c0, e0⟩ := hd.wh.form
  obtain ⟨A1, c1, e1⟩ := hd.fr0.form
  obtain ⟨A2, c2, e2⟩ := hd.gr.form
  simp only at e0 e1 e2
  rw [e0] at q0
  rw [e1] at q1
  rw [e2, hG, List.length_nil] at q2
  have hw0 := hd.wh
  have hf0 := hd.fr0
  simp only [e0] at hw0
  simp only [e1] at hf0
  have hnone : ∀ {A : Option Addr} {c : Nat} {l : List Int}, Rowi wa B (.slice A l.length c) l → A = none → l.length = 0 := by
    intro A c l hr e
    rcases Nat.eq_zero_or_pos l.length with h0 | h0
    · exact h0
    · obtain ⟨g, e1, _⟩ := hr.at h0
      rw [e] at e1; cases e1
  have HA0 := hid (hnone hw0)
  have HA1 := hid (hnone hf0)
  obtain ⟨N0, hN0⟩ : ∃ N0, N0 = R.W.length := ⟨_, rfl⟩
  obtain ⟨N1, hN1⟩ : ∃ N1, N1 = R.F.length := ⟨_, rfl⟩
  have hE := Rowi.empty wa.drew (Nat.le_refl wa.drew.heap.size)
  have hS0 : Srci (wa.drew.alloc (.cells #[] 3)) A0 N0 R.W := by rw [hN0]; exact (hw0.drew.alloc _).src
  have hS1 : ∀ w', Fr [] wa w' → Srci w' A1 N1 R.F := fun w' hf => by rw [hN1]; exact (hf0.fr hf (by simp)).src
  rw [← hN0] at q0 hl HA0
  rw [← hN1] at q1 hl2 HA1
  have HE := hid hE
  have HS0 := hid hS0
  have HS1 := hid hS1
  have HN0 := hid hN0
  have HN1 := hid hN1
  have hsz1 : w.heap.size ≤ wa.heap.size := hFr.size
  clear hD X T hFr hd hc hz hR ho h e0 e1 e2 hlt hsz hw0 hf0 hnone hN0 hN1 hE hS0 hS1 hG
  go_enter Tryz.func68, Tryz.ntmps68
  go_upto_region 1 with fail
  rw [← HWA.out]
  go_upto_region 17 with fail
  go_region_law (first
    | (refine step_appi rfl (.tmp 63) (.tmp 68) rfl wa.heap.size (.slice (some ⟨wa.heap.size, 0, none⟩) 0 0) [] (by simp [Act.eval]) (by exact HE.out) A0 N0 c0 R.W (by simp [Act.eval]) (by exact HS0.out) HA0.out (by simp; omega) (by simp) ?_; intro v3 w3 h3 f3 b3; have hF3 : Fr [] wa w3 := ((Fr.refl _ wa).drew.alloc _).step f3 (fun x hx => .inr (by simp [Value.ownBlock] at hx; omega)); have hD3 := HD.out.fr hF3 (by simp) (by simp); obtain ⟨⟨u0, u1, u2, u3⟩, -, hc', hz', -⟩ := hD3.at HR.out; have y1 : w3.cell? ⟨rsb, o + 1, none⟩ = some (.slice A1 N1 c1) := (by rw [cell_fr hF3 (by simp) hlta]; exact q1); clear hc' hz' hD3)
    | (refine step_appi rfl (.tmp 69) (.tmp 74) rfl wa.heap.size v3 R.W (by simp [Act.eval]) (by simpa using h3) A1 N1 c1 R.F (by simp [Act.eval]) (by exact HS1.out _ hF3) HA1.out (by rw [← HN0.out]; omega) (by have := hF3.size; omega) ?_; intro v4 w4 h4 f4 b4; obtain ⟨A4, c4, rfl⟩ := h4.form; have hF4 : Fr [] wa w4 := hF3.step f4 (fun x hx => .inr (h3.lt x (by simpa using hx)).1); have hD4 := HD.out.fr hF4 (by simp) (by simp); obtain ⟨⟨u0, u1, u2, u3⟩, -, hc', hz', -⟩ := hD4.at HR.out; have y0 : w4.frozen? ⟨rsb, o, none⟩ = false := hz' o; have q0' : w4.cell? ⟨rsb, o, none⟩ = some u0 := (by have := hc' 0 u0 rfl; rw [HI.out]; simpa using this)))
  all_goals
    obtain ⟨N2, hN2⟩ : ∃ N2, N2 = R.W.length + R.F.length := ⟨_, rfl⟩
    rw [← hN2]
    have h4B : Rowi w4 B (.slice A4 N2 c4) (R.W ++ R.F) := by
      rw [hN2, ← List.length_append]
      exact h4.base (by omega)
    have hD5 := HD.out.set HR.out hF4 (j := 0) (x := .slice A4 N2 c4) (by omega) (fun v hv => hv.setW h4B)
    have hw0 : w4.setCell ⟨rsb, o, none⟩ (.slice A4 N2 c4) = w4.setCell ⟨rsb, 5 * i + 0, none⟩ (.slice A4 N2 c4) := by rw [← HI.out]; rfl
    rw [← hw0] at hD5
    have hT5 := (HT.out.fr hF4 (by simp)).other (a := ⟨rsb, o, none⟩) (by simp; omega) (.slice A4 N2 c4)
    have hF5 : Fr [rsb] wa (w4.setCell ⟨rsb, o, none⟩ (.slice A4 N2 c4)) := (hF4.here (by simp)).set (by simp) _
    obtain ⟨w5, hw5⟩ : ∃ w5, w5 = w4.setCell ⟨rsb, o, none⟩ (.slice A4 N2 c4) := ⟨_, rfl⟩
    rw [← hw5] at hD5 hT5 hF5 ⊢
    have hR5 : (Rs.set i { R with W := R.W ++ R.F })[i]? = some { R with W := R.W ++ R.F } := List.getElem?_set_self (List.getElem?_eq_some_iff.1 HR.out).1
    obtain ⟨⟨p0, p1, p2, p3⟩, -, hc5, hz5, hlt5, -⟩ := hD5.at hR5
    have s1 : w5.cell? ⟨rsb, o + 1, none⟩ = some p1 := by rw [HI.out]; exact hc5 1 _ rfl
    have z1 : w5.frozen? ⟨rsb, o + 1, none⟩ = false := hz5 _
    have hD6 := hD5.set hR5 (Fr.refl [] w5) (j := 1) (x := .slice none 0 0) (by omega) (fun v hv => hv.setF (Rowi.nil _ _))
    rw [list_set_set, ← HI.out] at hD6
    have hT6 := hT5.other (a := ⟨rsb, o + 1, none⟩) (by simp; omega) (.slice none 0 0)
    have HD6 := hid hD6
    have HT6 := hid hT6
    have HF6 := hid (((HFR.out.here (by simp : ∀ x ∈ [], x ∈ [rsb])).trans hF5).set (p := ⟨rsb, o + 1, none⟩) (by simp) (.slice none 0 0))
    have t0 := HT6.out.cell (i := 0) rfl
    have t1 := HT6.out.cell (i := 1) rfl
    have t2 := HT6.out.cell (i := 2) rfl
    have f0 := HT6.out.frozen 0
    have f1 := HT6.out.frozen 1
    have f2 := HT6.out.frozen 2
    clear hN2 hw0 hw5 hD5 hT5 hF5 hR5 hc5 hz5 hD6 hT6 h4B h4 h3 f3 b3 f4 b4 hF3 hF4 hD4 hc' hz' y0 y1 q0' q0 q1 q2
    go_wp2_with fail
    refine bodyPost_ret (v := told5 0 false 0) ?_ rfl ⟨rfl, HD6.out.told HT6.out 0 false 0, toldW_fr HF6.out (.inr (by omega)) 0 false 0⟩
    have k := toldW_blk HT6.out 0 false 0
    have k0 := k.cell (i := 0) rfl
    have k1 := k.cell (i := 1) rfl
    have k2 := k.cell (i := 2) rfl
    simp only [toldW] at k0 k1 k2
    simp [results, Tryz.results68, go_sem, k0, k1, k2, told5]
end Go.Proofs.YtifillpcphiblaaGreat
