import Derived.Test.YtifillpcphiblaaDRing
import Derived.Deep.DeepCutAuto
namespace Go.Proofs.Ytifillpcphiblaa
open Go Go.Proofs Go.RowKit

/-! What the document's rings do: Grow, Alloc. -/
def told5 (c : Int) (is : Bool) (e : Int) : Value := .agg #[.int .i64 c, .bool is, .int .i64 e]

/-- What the rings' block leads to was so before, or is new. -/
def ROff (rsb : Nat) (w w' : World) : Prop := rsb < w.heap.size → ∀ i x, w'.cell? ⟨rsb, i, none⟩ = some x → w.cell? ⟨rsb, i, none⟩ = some x ∨ ∀ g, x.ownBlock = some g → w.heap.size ≤ g
theorem ROff.fr {S : List Nat} {rsb : Nat} {w w' : World} (hf : Fr S w w') (h : rsb ∉ S) : ROff rsb w w' := fun hl i x hx => .inl (by rw [← cell_fr hf h hl i]; exact hx)
theorem ROff.trans {rsb : Nat} {a b c : World} (h : ROff rsb a b) (k : ROff rsb b c) (hs : a.heap.size ≤ b.heap.size) : ROff rsb a c := fun hl i x hx => by
  rcases k (Nat.lt_of_lt_of_le hl hs) i x hx with h1 | h1
  · exact h hl i x h1
  · exact .inr (fun g hg => Nat.le_trans hs (h1 g hg))
theorem ROff.set {rsb o : Nat} {w w1 : World} {x u : Value} (h : ROff rsb w w1) (hu : w1.cell? ⟨rsb, o, none⟩ = some u) (hx : ∀ g, x.ownBlock = some g → w.heap.size ≤ g) : ROff rsb w (w1.setCell ⟨rsb, o, none⟩ x) := by
  intro hl i y hy
  by_cases e : i = o
  · subst e
    rw [World.cell?_setCell_same w1 _ _ hu] at hy
    cases hy
    exact .inr hx
  · have hne : (⟨rsb, o, none⟩ : Addr) ≠ ⟨rsb, i, none⟩ := by intro hc; injection hc with _ h2 _; exact e h2.symm
    rw [World.cell?_setCell_other (h := hne)] at hy
    exact h hl i y hy
def FrR (rsb : Nat) (w w' : World) : Prop := Fr [rsb] w w' ∧ ROff rsb w w'
theorem FrR.of {rsb : Nat} {w w' : World} (h : Fr [] w w') : FrR rsb w w' := ⟨h.here (by simp), ROff.fr h (by simp)⟩
theorem FrR.trans {rsb : Nat} {a b c : World} (h : FrR rsb a b) (k : FrR rsb b c) : FrR rsb a c := ⟨h.1.trans k.1, h.2.trans k.2 h.1.size⟩

def DoPost (w : World) (B rsb : Nat) (W : Int) (Rs : List Rows) (t : Value) (e : Ending) (w' : World) : Prop := e = .returned t ∧ DRs w' B rsb W Rs ∧ FrR rsb w w'

theorem DRow.setW {w : World} {B : Nat} {v : V4} {R : Rows} (h : DRow w B v R) {x : Value} {l : List Int} (hx : Rowi w B x l) {W : Int} : ∃ v' : V4, (ringCells W v).set 0 x = ringCells W v' ∧ DRow w B v' { R with W := l } := ⟨(x, v.2), rfl, ⟨hx, h.fr0, h.gr, h.bl⟩⟩
theorem DRow.setF {w : World} {B : Nat} {v : V4} {R : Rows} (h : DRow w B v R) {x : Value} {l : List Int} (hx : Rowi w B x l) {W : Int} : ∃ v' : V4, (ringCells W v).set 1 x = ringCells W v' ∧ DRow w B v' { R with F := l } := ⟨(v.1, x, v.2.2), rfl, ⟨h.wh, hx, h.gr, h.bl⟩⟩
theorem DRow.setG {w : World} {B : Nat} {v : V4} {R : Rows} (h : DRow w B v R) {x : Value} {l : List Int} (hx : Rowi w B x l) {W : Int} : ∃ v' : V4, (ringCells W v).set 2 x = ringCells W v' ∧ DRow w B v' { R with G := l } := ⟨(v.1, v.2.1, x, v.2.2.2), rfl, ⟨h.wh, h.fr0, hx, h.bl⟩⟩
theorem DRow.setB {w : World} {B : Nat} {v : V4} {R : Rows} (h : DRow w B v R) {x : Value} {l : List Int} (hx : Rowi w B x l) {W : Int} : ∃ v' : V4, (ringCells W v).set 3 x = ringCells W v' ∧ DRow w B v' { R with B := l } := ⟨(v.1, v.2.1, v.2.2.1, x), rfl, ⟨h.wh, h.fr0, h.gr, hx⟩⟩

/-- What is told is laid in a box of its own. -/
def toldW (w : World) (tb : Nat) (c : Int) (is : Bool) (e : Int) : World := ((w.setCell ⟨tb, 0, none⟩ (.int .i64 c)).setCell ⟨tb, 1, none⟩ (.bool is)).setCell ⟨tb, 2, none⟩ (.int .i64 e)
theorem toldW_fr {w0 w : World} {S : List Nat} (h : Fr S w0 w) {tb : Nat} (ht : tb ∈ S ∨ w0.heap.size ≤ tb) (c : Int) (is : Bool) (e : Int) : Fr S w0 (toldW w tb c is e) := ((h.set ht _).set ht _).set ht _
theorem toldW_blk {w : World} {tb : Nat} {a b d : Value} {T : TypeId} (h : Blk w tb [a, b, d] T) (c : Int) (is : Bool) (e : Int) : Blk (toldW w tb c is e) tb [.int .i64 c, .bool is, .int .i64 e] T := by
  have := ((h.set 0 (.int .i64 c)).set 1 (.bool is)).set 2 (.int .i64 e)
  exact this
theorem ROff.told {rsb : Nat} {w0 w : World} (h : ROff rsb w0 w) (hw : rsb < w0.heap.size → rsb < w.heap.size) {tb : Nat} (ht : rsb ≠ tb) (c : Int) (is : Bool) (e : Int) : ROff rsb w0 (toldW w tb c is e) := by
  intro hl i x hx
  rw [cell_fr (S := [tb]) (toldW_fr (Fr.refl _ w) (by simp) c is e) (by simpa using ht) (hw hl) i] at hx
  exact h hl i x hx
theorem DRs.told {w : World} {B rsb : Nat} {W : Int} {Rs : List Rows} (h : DRs w B rsb W Rs) {tb : Nat} {cs : List Value} (ht : Blk w tb cs 223) (c : Int) (is : Bool) (e : Int) : DRs (toldW w tb c is e) B rsb W Rs :=
  h.fr (S := [tb]) (toldW_fr (Fr.refl _ w) (by simp) c is e) (by simpa using h.ne ht (by decide)) (fun x hx => by obtain rfl := List.mem_singleton.1 hx; exact .inr ⟨_, _, ht, by decide⟩)

set_option maxRecDepth 100000 in
set_option maxHeartbeats 3200000 in
theorem dGrow (B rsb : Nat) (W : Int) (Rs : List Rows) (i o : Nat) (ho : o = 5 * i) (R : Rows) (c : Int) (w : World) (h : DRs w B rsb W Rs) (hR : Rs[i]? = some R) (h1 : 1 ≤ c) (h2 : c + 3 ≤ W) (hW : W ≤ 65536) (hl : R.W.length ≤ 65536) :
    Calls Try.prog 161 #[.pointer (some ⟨rsb, o, none⟩), .int .i64 c] w (DoPost w B rsb W (Rs.set i { R with W := c :: R.W }) (told5 0 false 0)) := by
  obtain ⟨⟨v0, v1, v2, v3⟩, hd, hc, hz, hlt, n0, -, -, -⟩ := h.at hR
  have q0 : w.cell? ⟨rsb, o, none⟩ = some v0 := by have := hc 0 v0 rfl; rw [ho]; simpa using this
  have q4 : w.cell? ⟨rsb, o + 4, none⟩ = some (.int .i64 W) := by rw [ho]; exact hc 4 _ rfl
  have z0 : w.frozen? ⟨rsb, o, none⟩ = false := hz o
  obtain ⟨A0, c0, e0⟩ := hd.wh.form
  simp only at e0
  have hwl := h.le
  have hT := Blk.new w [.int .i64 0, .bool false, .int .i64 0] 223
  have hF1 : Fr [] w (w.alloc (.cells #[.int .i64 0, .bool false, .int .i64 0] 223)) := (Fr.refl _ w).alloc _
  have hO := Rowi.one (w.alloc (.cells #[.int .i64 0, .bool false, .int .i64 0] 223)) c (B := B) (by simp; omega)
  have hsrc : Srci ((w.alloc (.cells #[.int .i64 0, .bool false, .int .i64 0] 223)).alloc (.cells #[.int .i64 c] 3)) A0 R.W.length R.W := by
    have := (hd.wh.alloc (.cells #[.int .i64 0, .bool false, .int .i64 0] 223)).alloc (.cells #[.int .i64 c] 3)
    rw [e0] at this
    exact this.src
  have hA0 : A0 = none → R.W.length = 0 := by
    intro e
    rcases Nat.eq_zero_or_pos R.W.length with h0 | h0
    · exact h0
    · have := hd.wh
      simp only [e0] at this
      obtain ⟨g, e1, _⟩ := this.at h0
      rw [e] at e1; cases e1
  have hle : ([c] : List Int).length + R.W.length ≤ 1000000 := by simp; omega
  have HO := hid hO
  have HS := hid hsrc
  have HA := hid hA0
  have HD := hid hd
  have HH := hid h
  have HT := hid hT
  have HR := hid hR
  have HI := hid ho
  subst e0
  clear ho hO hsrc hA0 hd h hc hz hT hR n0
  have hsz2 : (w.alloc (.cells #[.int .i64 0, .bool false, .int .i64 0] 223)).heap.size = w.heap.size + 1 := by simp
  rw [hsz2] at HO
  clear hsz2
  have hw1 : IntKind.i64.wrap (W - 3) = W - 3 := by rw [IntKind.wrap_i64]; omega
  go_enter Try.func161, Try.ntmps161
  go_wp2_with (at_builtin; refine wpList_appi rfl _ _ rfl B _ [c] rfl HO.out A0 R.W.length c0 R.W rfl HS.out HA.out hle (by simp; omega) ?_)
  intro v' w' h' f' b'
  obtain ⟨A', c', rfl⟩ := h'.form
  have hl' := h'.lt
  have hrs : rsb ∉ (Value.slice (some ⟨w.heap.size + 1, 0, none⟩) 1 1).ownBlock.toList := by simp [Value.ownBlock]; omega
  have hF' : Fr [] w w' := (hF1.alloc _).step f' (fun x hx => .inr (by simp [Value.ownBlock] at hx; omega))
  have hH' := HH.out.fr hF' (by simp) (by simp)
  obtain ⟨⟨u0, u1, u2, u3⟩, -, hc', hz', hlt', -⟩ := hH'.at HR.out
  have y0 : w'.frozen? ⟨rsb, o, none⟩ = false := hz' o
  have q0' : w'.cell? ⟨rsb, o, none⟩ = some u0 := by have := hc' 0 u0 rfl; rw [HI.out]; simpa using this
  have T1 := (HT.out.alloc (.cells #[.int .i64 c] 3)).fr f' (by simp [Value.ownBlock])
  have T2 := T1.other (a := ⟨rsb, o, none⟩) (by simp; omega) (.slice A' (R.W.length + 1) c')
  have t0 := T2.cell (i := 0) rfl
  have t1 := T2.cell (i := 1) rfl
  have t2 := T2.cell (i := 2) rfl
  have f0 := T2.frozen 0
  have f1 := T2.frozen 1
  have f2 := T2.frozen 2
  have HT2 := hid T2
  have HF' := hid hF'
  have Hf' := hid f'
  have Hh' := hid h'
  have hfresh : ∀ g, (Value.slice A' (R.W.length + 1) c').ownBlock = some g → w.heap.size ≤ g := by
    intro g hg
    have hg : (Value.slice A' (c :: R.W).length c').ownBlock = some g := hg
    rcases b' with b1 | b1
    · rw [b1] at hg; simp [Value.ownBlock] at hg; omega
    · rw [b1] at hg; simp at hg; omega
  have hro := (ROff.fr (rsb := rsb) hF' (by simp)).set q0' hfresh
  have HRO := hid hro
  clear hc' hz' T1 T2 hF' f' h' b' hH' q0 q4 hfresh hro
  go_wp2_with fail
  have hw0 : (w'.setCell ⟨rsb, o, none⟩ (.slice A' (R.W.length + 1) c')) = w'.setCell ⟨rsb, 5 * i + 0, none⟩ (.slice A' (R.W.length + 1) c') := by rw [← HI.out]; rfl
  have hD2 : DRs (w'.setCell ⟨rsb, o, none⟩ (.slice A' (R.W.length + 1) c')) B rsb W (Rs.set i { R with W := c :: R.W }) := by
    rw [hw0]
    exact HH.out.set HR.out HF'.out (by omega) (fun v hv => hv.setW (by simpa using Hh'.out))
  refine bodyPost_ret (v := told5 0 false 0) ?_ rfl ⟨rfl, hD2.told HT2.out 0 false 0, toldW_fr ((HF'.out.here (by simp)).set (by simp) _) (.inr (Nat.le_refl _)) 0 false 0, HRO.out.told (fun hl => by have := HF'.out.size; simp [World.setCell]; omega) (by omega) 0 false 0⟩
  have k := toldW_blk HT2.out 0 false 0
  have k0 := k.cell (i := 0) rfl
  have k1 := k.cell (i := 1) rfl
  have k2 := k.cell (i := 2) rfl
  simp only [toldW] at k0 k1 k2
  simp [results, Try.results161, go_sem, k0, k1, k2, told5]

theorem DRs.lt' {w : World} {B rsb : Nat} {W : Int} {Rs : List Rows} (h : DRs w B rsb W Rs) : rsb < w.heap.size := by
  obtain ⟨vs, rest, h1, _⟩ := h.ex
  exact h1.lt
theorem DRs.idem {w : World} {B rsb : Nat} {W : Int} {Rs : List Rows} (h : DRs w B rsb W Rs) {o : Obj} : DRs (w.alloc o) B rsb W Rs := h.fr (S := []) ((Fr.refl _ w).alloc o) (by simp) (by simp)

set_option maxRecDepth 100000 in
set_option maxHeartbeats 3200000 in
/-- Do, of Grow. -/
theorem dDoGrow (B rsb : Nat) (W : Int) (Rs : List Rows) (i o : Nat) (ho : o = 5 * i) (R : Rows) (c : Int) (w : World) (h : DRs w B rsb W Rs) (hR : Rs[i]? = some R) (h1 : 1 ≤ c) (h2 : c + 3 ≤ W) (hW : W ≤ 65536) (hl : R.W.length ≤ 65536) :
    Calls Try.prog 156 #[.pointer (some ⟨rsb, o, none⟩), .agg #[.int .i64 0, .int .i64 c]] w (DoPost w B rsb W (Rs.set i { R with W := c :: R.W }) (told5 0 false 0)) := by
  have X0 := Blk.new w [.int .i64 0, .int .i64 c] 226
  have x0 := (X0.alloc (.cells #[.int .i64 0, .bool false, .int .i64 0] 223)).cell (i := 0) rfl
  have x1 := (X0.alloc (.cells #[.int .i64 0, .bool false, .int .i64 0] 223)).cell (i := 1) rfl
  have T0 := Blk.new (w.alloc (.cells #[.int .i64 0, .int .i64 c] 226)) [.int .i64 0, .bool false, .int .i64 0] 223
  have hD := (h.idem (o := .cells #[.int .i64 0, .int .i64 c] 226)).idem (o := .cells #[.int .i64 0, .bool false, .int .i64 0] 223)
  have hF : Fr [] w ((w.alloc (.cells #[.int .i64 0, .int .i64 c] 226)).alloc (.cells #[.int .i64 0, .bool false, .int .i64 0] 223)) := ((Fr.refl _ w).alloc _).alloc _
  have hsz : (w.alloc (.cells #[.int .i64 0, .int .i64 c] 226)).heap.size = w.heap.size + 1 := by simp
  rw [hsz] at T0
  obtain ⟨-, -, -, -, hlt, -⟩ := h.at hR
  have HD := hid hD
  have HF := hid hF
  have HT := hid T0
  have HR := hid hR
  have HI := hid ho
  clear hD hF T0 hR ho h X0 hsz
  go_enter Try.func156, Try.ntmps156
  go_wp2_with fail
  refine (dGrow B rsb W Rs i o HI.out R c _ HD.out HR.out h1 h2 hW hl).mono ?_
  rintro e w1 ⟨rfl, hD1, hF1⟩
  have T1 := HT.out.fr hF1.1 (by simp; omega)
  have t0 := T1.cell (i := 0) rfl
  have t1 := T1.cell (i := 1) rfl
  have t2 := T1.cell (i := 2) rfl
  have f0 := T1.frozen 0
  have f1 := T1.frozen 1
  have f2 := T1.frozen 2
  have HT1 := hid T1
  have HD1 := hid hD1
  have HF1 := hid hF1
  clear T1 hD1 hF1 x0 x1
  unfold told5
  go_wp2_with fail
  refine bodyPost_ret (v := told5 0 false 0) ?_ rfl ⟨rfl, HD1.out.told HT1.out 0 false 0, toldW_fr ((HF.out.here (by simp)).trans (HF1.out.1.here (by simp))) (.inr (by omega)) 0 false 0, ((ROff.fr HF.out (by simp)).trans HF1.out.2 HF.out.size).told (fun hl => Nat.lt_of_lt_of_le (Nat.lt_of_lt_of_le hl HF.out.size) HF1.out.1.size) (by omega) 0 false 0⟩
  have k := toldW_blk HT1.out 0 false 0
  have k0 := k.cell (i := 0) rfl
  have k1 := k.cell (i := 1) rfl
  have k2 := k.cell (i := 2) rfl
  simp only [toldW] at k0 k1 k2
  simp [results, Try.results156, go_sem, k0, k1, k2, told5]

theorem list_set_set {α : Type} (l : List α) (i : Nat) (a b : α) : (l.set i a).set i b = l.set i b := by simp

set_option maxRecDepth 100000 in
set_option maxHeartbeats 6400000 in
/-- Do, of Alloc: there is a White one. -/
theorem dDoAlloc (B rsb : Nat) (W : Int) (Rs : List Rows) (i o : Nat) (ho : o = 5 * i) (R : Rows) (c : Int) (Wt : List Int) (n : Int) (w : World) (h : DRs w B rsb W Rs) (hR : Rs[i]? = some R) (hW : R.W = c :: Wt) (hl : R.W.length ≤ 65536) (hl2 : R.B.length ≤ 65536) :
    Calls Try.prog 156 #[.pointer (some ⟨rsb, o, none⟩), .agg #[.int .i64 1, .int .i64 n]] w (DoPost w B rsb W (Rs.set i { R with W := Wt, B := R.B ++ [c] }) (told5 c false 0)) := by
  have X0 := (Blk.new w [.int .i64 1, .int .i64 n] 226).alloc (.cells #[.int .i64 0, .bool false, .int .i64 0] 223)
  have T0 := Blk.new (w.alloc (.cells #[.int .i64 1, .int .i64 n] 226)) [.int .i64 0, .bool false, .int .i64 0] 223
  have hD := (h.idem (o := .cells #[.int .i64 1, .int .i64 n] 226)).idem (o := .cells #[.int .i64 0, .bool false, .int .i64 0] 223)
  have hF : Fr [] w ((w.alloc (.cells #[.int .i64 1, .int .i64 n] 226)).alloc (.cells #[.int .i64 0, .bool false, .int .i64 0] 223)) := ((Fr.refl _ w).alloc _).alloc _
  have hsz : (w.alloc (.cells #[.int .i64 1, .int .i64 n] 226)).heap.size = w.heap.size + 1 := by simp
  rw [hsz] at T0
  have hsz2 : ((w.alloc (.cells #[.int .i64 1, .int .i64 n] 226)).alloc (.cells #[.int .i64 0, .bool false, .int .i64 0] 223)).heap.size = w.heap.size + 2 := by simp
  obtain ⟨-, -, -, -, hlt0, -⟩ := h.at hR
  have hwB := h.le
  have HF := hid hF
  have HI := hid ho
  clear hF ho h hsz
  obtain ⟨wa, hwa⟩ : ∃ wa, wa = ((w.alloc (.cells #[.int .i64 1, .int .i64 n] 226)).alloc (.cells #[.int .i64 0, .bool false, .int .i64 0] 223)) := ⟨_, rfl⟩
  have HWA := hid hwa
  rw [← hwa] at X0 T0 hD HF hsz2
  obtain ⟨⟨v0, v1, v2, v3⟩, hd, hc, hz, hlt, n0, n1, n2, n3⟩ := hD.at hR
  have q0 : wa.cell? ⟨rsb, o, none⟩ = some v0 := by have := hc 0 v0 rfl; rw [HI.out]; simpa using this
  have z0 : wa.frozen? ⟨rsb, o, none⟩ = false := hz o
  obtain ⟨A0, c0, e0⟩ := hd.wh.form
  simp only at e0
  subst e0
  have hlen : R.W.length = Wt.length + 1 := by rw [hW]; rfl
  have hw0 := hd.wh
  simp only at hw0
  obtain ⟨g0, rfl, hBg, hgl, -, hlc, hcm, hcell⟩ := hw0.at (by omega)
  have r0 : wa.cell? ⟨g0, 0, none⟩ = some (.int .i64 c) := hcell 0 c (by rw [hW]; rfl)
  have x0 := X0.cell (i := 0) rfl
  have HT := hid T0
  have HX := hid X0
  have HD := hid hD
  have HR := hid hR
  have HW := hid hW
  have Hw0 := hid hw0
  rw [hlen] at q0 Hw0
  have HLEN := hid hlen
  have hne1 : ¬ (Wt.length : Int) + 1 = 0 := by omega
  have hpos : (0 : Int) < (Wt.length : Int) + 1 := by omega
  have hle1 : R.W.length ≤ 70000 := by omega
  have HLE := hid hle1
  clear T0 X0 hD hR hd hc hz hW hw0 hcell hwa hlen hl hle1 n0 n1 n2 n3
  go_enter Try.func156, Try.ntmps156
  go_upto_region 1 with fail
  rw [← HWA.out]
  go_wp2_with fail
  refine (dWithout B (.slice (some ⟨g0, 0, none⟩) (Wt.length + 1) c0) R.W 0 0 rfl wa Hw0.out (by have := HLEN.out; omega) HLE.out).mono ?_
  rintro e w1 ⟨v1', rfl, h1, hF1⟩
  rw [HW.out] at h1
  simp only [List.eraseIdx_zero, List.tail_cons] at h1
  obtain ⟨A1, c1, rfl⟩ := h1.form
  have hD1 := HD.out.fr hF1 (by simp) (by simp)
  obtain ⟨⟨u0, u1, u2, u3⟩, -, hc', hz', -⟩ := hD1.at HR.out
  have y0 : w1.frozen? ⟨rsb, o, none⟩ = false := hz' o
  have q0' : w1.cell? ⟨rsb, o, none⟩ = some u0 := by have := hc' 0 u0 rfl; rw [HI.out]; simpa using this
  have h1B : Rowi w1 B (.slice A1 Wt.length c1) Wt := h1.base (by omega)
  have hD2 := HD.out.set HR.out hF1 (j := 0) (x := .slice A1 Wt.length c1) (by omega) (fun v hv => hv.setW h1B)
  have hw0 : w1.setCell ⟨rsb, o, none⟩ (.slice A1 Wt.length c1) = w1.setCell ⟨rsb, 5 * i + 0, none⟩ (.slice A1 Wt.length c1) := by rw [← HI.out]; rfl
  rw [← hw0] at hD2
  have hX1 := (HX.out.fr hF1 (by simp)).other (a := ⟨rsb, o, none⟩) (by simp; omega) (.slice A1 Wt.length c1)
  have hT1 := (HT.out.fr hF1 (by simp)).other (a := ⟨rsb, o, none⟩) (by simp; omega) (.slice A1 Wt.length c1)
  have hR2 : (Rs.set i { R with W := Wt })[i]? = some { R with W := Wt } := by rw [List.getElem?_set_self (List.getElem?_eq_some_iff.1 HR.out).1]
  have hF2 : Fr [rsb] wa (w1.setCell ⟨rsb, o, none⟩ (.slice A1 Wt.length c1)) := (hF1.here (by simp)).set (by simp) _
  have hro1 : ROff rsb wa (w1.setCell ⟨rsb, o, none⟩ (.slice A1 Wt.length c1)) := (ROff.fr hF1 (by simp)).set q0' (fun g hg => (h1.lt g hg).1)
  have HRO1 := hid hro1
  clear hro1
  have HD2 := hid hD2
  have HX1 := hid hX1
  have HT1 := hid hT1
  have HF2 := hid hF2
  have HR2 := hid hR2
  have Hw0' := hid hw0
  have x0' := hX1.cell (i := 0) rfl
  clear hD1 hc' hz' h1 h1B hD2 hw0 hX1 hT1 hR2 hF2 hF1 q0 z0 r0 x0
  obtain ⟨w2, hw2⟩ : ∃ w2, w2 = w1.setCell ⟨rsb, o, none⟩ (.slice A1 Wt.length c1) := ⟨_, rfl⟩
  have HW2 := hid hw2
  rw [← hw2] at HD2 HX1 HT1 HF2 HRO1
  clear hw2
  go_upto_if 111 with fail
  rw [← HW2.out]
  clear x0'
  have x0' := HX1.out.cell (i := 0) rfl
  obtain ⟨⟨p0, p1, p2, p3⟩, hd2, hc2, hz2, hlt2, -⟩ := HD2.out.at HR2.out
  have q3 : w2.cell? ⟨rsb, o + 3, none⟩ = some p3 := by rw [HI.out]; exact hc2 3 _ rfl
  have z3 : w2.frozen? ⟨rsb, o + 3, none⟩ = false := hz2 _
  obtain ⟨A3, c3, e3⟩ := hd2.bl.form
  simp only at e3
  subst e3
  have hb2 := hd2.bl
  simp only at hb2
  have hA3 : A3 = none → R.B.length = 0 := by
    intro e
    rcases Nat.eq_zero_or_pos R.B.length with h0 | h0
    · exact h0
    · obtain ⟨g, e1, _⟩ := hb2.at h0
      rw [e] at e1; cases e1
  have hsz4 : w.heap.size + 2 ≤ w2.heap.size := by have := HF2.out.size; omega
  have hBw2 : B ≤ w2.heap.size := by omega
  have hE := Rowi.empty w2 (Nat.le_refl w2.heap.size)
  have hS3 : Srci (w2.alloc (.cells #[] 3)) A3 R.B.length R.B := (hb2.alloc _).src
  have HE := hid hE
  have HS3 := hid hS3
  have HA3 := hid hA3
  have Hb2 := hid hb2
  clear hd2 hc2 hz2 hA3 hE hS3 hb2
  go_wp2_with (at_builtin; first
    | (refine wpList_appi rfl _ _ rfl w2.heap.size (.slice (some ⟨w2.heap.size, 0, none⟩) 0 0) [] rfl HE.out A3 R.B.length c3 R.B rfl HS3.out HA3.out (by simp; omega) (by simp) ?_))
  intro v3 w3 h3 f3 b3
  have hF3 : Fr [] w2 w3 := ((Fr.refl [] w2).alloc _).step f3 (fun x hx => .inr (by simp [Value.ownBlock] at hx; omega))
  have hsz3 := hF3.size
  have h3a := h3.alloc (.cells #[.int .i64 c] 3)
  have hS1 : Srci (w3.alloc (.cells #[.int .i64 c] 3)) (some ⟨w3.heap.size, 0, none⟩) 1 [c] := (Rowi.one w3 c (Nat.le_refl w3.heap.size)).src
  have H3a := hid h3a
  have HS1 := hid hS1
  have Hb3 := hid b3
  have Hh3 := hid h3
  have HF3 := hid hF3
  clear h3 f3 b3 h3a hS1 hF3
  go_wp2_with (at_builtin; first
    | (refine wpList_appi rfl _ _ rfl w2.heap.size v3 R.B rfl H3a.out (some ⟨w3.heap.size, 0, none⟩) 1 1 [c] rfl HS1.out (by simp) (by omega) (by simp; omega) ?_))
  intro v4 w4 h4 f4 b4
  obtain ⟨A4, c4, rfl⟩ := h4.form
  have hF4 : Fr [] w2 w4 := (HF3.out.alloc _).step f4 (fun x hx => .inr (Hh3.out.lt x (by simpa using hx)).1)
  have h4B : Rowi w4 B (.slice A4 (R.B ++ [c]).length c4) (R.B ++ [c]) := h4.base hBw2
  have hD4 := HD2.out.fr hF4 (by simp) (by simp)
  obtain ⟨⟨m0, m1, m2, m3⟩, -, hc4, hz4, -⟩ := hD4.at HR2.out
  have y3 : w4.frozen? ⟨rsb, o + 3, none⟩ = false := hz4 _
  have q3' : w4.cell? ⟨rsb, o + 3, none⟩ = some m3 := by rw [HI.out]; exact hc4 3 _ rfl
  have hD5 := HD2.out.set HR2.out hF4 (j := 3) (x := .slice A4 (R.B ++ [c]).length c4) (by omega) (fun v hv => hv.setB h4B)
  rw [list_set_set, ← HI.out] at hD5
  have hT5 := (HT1.out.fr hF4 (by simp)).other (a := ⟨rsb, o + 3, none⟩) (by simp; omega) (.slice A4 (R.B ++ [c]).length c4)
  have hF5 : Fr [rsb] wa (w4.setCell ⟨rsb, o + 3, none⟩ (.slice A4 (R.B ++ [c]).length c4)) := (HF2.out.trans (hF4.here (by simp))).set (by simp) _
  have hro5 : ROff rsb w2 (w4.setCell ⟨rsb, o + 3, none⟩ (.slice A4 (R.B ++ [c]).length c4)) := (ROff.fr hF4 (by simp)).set q3' (fun g hg => (h4.lt g hg).1)
  have HRO5 := hid hro5
  have hlw5 : rsb < (w4.setCell ⟨rsb, o + 3, none⟩ (.slice A4 (R.B ++ [c]).length c4)).heap.size := hD5.lt'
  have HLW5 := hid hlw5
  clear hro5 hlw5
  have HD5 := hid hD5
  have HT5 := hid hT5
  have HF5 := hid hF5
  have e4 : (R.B ++ [c]).length = R.B.length + 1 := by simp
  rw [e4] at hT5 HD5 HT5 HF5 HRO5 HLW5 ⊢
  have t0 := hT5.cell (i := 0) rfl
  have t1 := hT5.cell (i := 1) rfl
  have t2 := hT5.cell (i := 2) rfl
  have f0 := hT5.frozen 0
  have f1 := hT5.frozen 1
  have f2 := hT5.frozen 2
  clear hD4 hc4 hz4 hD5 hT5 hF5 e4 h4B hF4 h4 f4 b4 q3 z3
  go_wp2_with fail
  refine bodyPost_ret (v := told5 c false 0) ?_ rfl ⟨rfl, HD5.out.told HT5.out c false 0, toldW_fr (((HF.out.here (by simp)).trans HF5.out)) (.inr (by omega)) c false 0, (((ROff.fr HF.out (by simp)).trans HRO1.out HF.out.size).trans HRO5.out (Nat.le_trans HF.out.size HF2.out.size)).told (fun _ => HLW5.out) (by omega) c false 0⟩
  have k := toldW_blk HT5.out c false 0
  have k0 := k.cell (i := 0) rfl
  have k1 := k.cell (i := 1) rfl
  have k2 := k.cell (i := 2) rfl
  simp only [toldW] at k0 k1 k2
  simp [results, Try.results156, go_sem, k0, k1, k2, told5]
end Go.Proofs.Ytifillpcphiblaa
