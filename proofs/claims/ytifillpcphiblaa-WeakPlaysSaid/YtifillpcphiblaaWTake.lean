import Derived.Test.YtifillpcphiblaaWShade
namespace Go.Proofs.Ytifillpcphiblaa
open Go Go.Proofs Go.RowKit

/-- All that lay is as it was, but for the heap, the table, the law's struct, and rows of int64. -/
structure FrQ (L : HL) (tb vb base : Nat) (w w' : World) : Prop where
  os : w'.os = w.os
  tape : w'.tape = w.tape
  output : w'.output = w.output
  size : w.heap.size ≤ w'.heap.size
  block : ∀ b, b < w.heap.size → b ∉ L.fp → b ≠ tb → b ≠ vb → (b < base ∨ ∀ c f, w.heap[b]? ≠ some (.cells c 2 f)) → w'.heap[b]? = w.heap[b]?
theorem FrQ.refl (L : HL) (tb vb base : Nat) (w : World) : FrQ L tb vb base w w := ⟨rfl, rfl, rfl, Nat.le_refl _, fun _ _ _ _ _ _ => rfl⟩
theorem FrQ.trans {L : HL} {tb vb base : Nat} {a b c : World} (h : FrQ L tb vb base a b) (k : FrQ L tb vb base b c) : FrQ L tb vb base a c :=
  ⟨k.os.trans h.os, k.tape.trans h.tape, k.output.trans h.output, Nat.le_trans h.size k.size, fun i hi h1 h2 h3 h4 => by
    have e := h.block i hi h1 h2 h3 h4
    exact (k.block i (Nat.lt_of_lt_of_le hi h.size) h1 h2 h3 (h4.imp_right (fun h4 c f => by rw [e]; exact h4 c f))).trans e⟩
theorem FrQ.step {L : HL} {tb vb base : Nat} {S : List Nat} {a b c : World} (h : FrQ L tb vb base a b) (k : Fr S b c) (hS : ∀ x ∈ S, x ∈ L.fp ∨ x = tb ∨ x = vb ∨ a.heap.size ≤ x ∨ (base ≤ x ∧ ∃ cs f, b.heap[x]? = some (.cells cs 2 f))) : FrQ L tb vb base a c :=
  ⟨k.os.trans h.os, k.tape.trans h.tape, k.output.trans h.output, Nat.le_trans h.size k.size, fun i hi h1 h2 h3 h4 => by
    have e := h.block i hi h1 h2 h3 h4
    refine (k.block i (Nat.lt_of_lt_of_le hi h.size) (fun hc => ?_)).trans e
    rcases hS i hc with g | g | g | g | ⟨g0, cs, f, g⟩
    · exact h1 g
    · exact h2 g
    · exact h3 g
    · omega
    · rw [e] at g
      rcases h4 with h4 | h4
      · omega
      · exact h4 _ _ g⟩
theorem FrQ.cell {L : HL} {tb vb base : Nat} {w w' : World} (h : FrQ L tb vb base w w') {b : Nat} {cs : List Value} {T : TypeId} (hb : Blk w b cs T) (h1 : b ∉ L.fp) (h2 : b ≠ tb) (h3 : b ≠ vb) (hT : T ≠ 2) : Blk w' b cs T :=
  (h.block b hb.lt h1 h2 h3 (.inr fun c f hc => by unfold Blk at hb; rw [hb] at hc; simp at hc; exact hT hc.2.1)).trans hb

/-- The shade function of the law's table. -/
def shv (bx : Nat) : Value := .func (.func 90) #[] #[.pointer (some ⟨bx, 0, none⟩)]

structure Apt (L : HL) (tb vb bx base : Nat) : Prop where
  nt : tb ∉ L.all
  nv : vb ∉ L.all
  nx : bx ∉ L.all
  tv : tb ≠ vb
  tx : tb ≠ bx
  xv : bx ≠ vb
  lb : ∀ x ∈ L.all, x < base
  tl : tb < base

set_option maxRecDepth 100000 in
set_option maxHeartbeats 4000000 in
theorem takeDrop (L : HL) (s : HS) (tb vb bx base tbx abx : Nat) (t : TS) (cs : List Value) (l : List Int) (o : Ob) (j : Nat) (v : Int) (w : World) (hap : Apt L tb vb bx base) (hH : HRep w L s) (hT : TRep w tb L.hb (shv bx) t) (hP : ShP w bx vb base cs l) (hl : l.length ≤ 65536)
    (hX : Blk w tbx [.pointer (some ⟨tb, 0, none⟩)] 65) (hY : Blk w abx [.int .i64 o.p] 3) (xa : tbx ∉ L.all ∧ tbx ≠ vb ∧ tbx ≠ tb) (ya : abx ∉ L.all ∧ abx ≠ vb ∧ abx ≠ tb) (ho : o.Lies s) (hj : j < o.n) :
    Calls Try.prog 95 #[.int .i64 j, .int .i64 v, .pointer (some ⟨tbx, 0, none⟩), .pointer (some ⟨abx, 0, none⟩)] w fun e w' => e = .returned (.tuple #[]) ∧ HRep w' L (s.put (o.p + 3 + j) 0 2) ∧ TRep w' tb L.hb (shv bx) t ∧ ShP w' bx vb base cs (l ++ [v]) ∧ Blk w' tbx [.pointer (some ⟨tb, 0, none⟩)] 65 ∧ Blk w' abx [.int .i64 o.p] 3 ∧ FrQ L tb vb base w w' := by
  have hfpa : ∀ x ∈ L.fp, x ∈ L.all := fun x hx => by simp only [HL.all, List.mem_cons]; exact .inr (.inr hx)
  have c1 : w.cell? ⟨tb, 1, none⟩ = some (.func (.func 90) #[] #[.pointer (some ⟨bx, 0, none⟩)]) := hT.reads.2.1
  have q0 := hX.cell (i := 0) rfl
  have h0 := ho.p0
  have hd := ho.hd
  go_enter Try.func95, Try.ntmps95
  go_wp2_with fail
  refine (shadeLaw bx vb base cs l v _ hP hap.xv hl).mono ?_
  rintro e w1 ⟨rfl, hP1, sv, n, hown, hF1⟩
  have low := own_low hown
  have hown2 := hown
  have hne : ∀ {b : Nat} {vs : List Value} {T : TypeId}, Blk w b vs T → T ≠ 2 → b ≠ vb → b ∉ vb :: sv.ownBlock.toList := by
    intro b vs T hb hT hv hc
    rcases List.mem_cons.1 hc with h | h
    · exact hv h
    · exact own_ne hown hb hT h
  have hT1 : TRep w1 tb L.hb (shv bx) t := hT.fr hF1 (hne hT (by decide) hap.tv)
  have hX1 := hX.fr hF1 (hne hX (by decide) xa.2.1)
  have hY1 := hY.fr hF1 (hne hY (by decide) ya.2.1)
  have hH1 := hH.fr hF1 (fun x hx hc => by
    rcases List.mem_cons.1 hx with h | h
    · subst h; exact hap.nv hc
    · have := low x h; have := hap.lb x hc; omega)
  have hQ1 : FrQ L tb vb base w w1 := (FrQ.refl L tb vb base w).step hF1 (fun x hx => by
    rcases List.mem_cons.1 hx with h | h
    · exact .inr (.inr (.inl h))
    · refine .inr (.inr (.inr (.inr ?_)))
      obtain ⟨_, k | ⟨g', cap', cur, hv, hg', hh, _⟩⟩ := hown2
      · rw [k.1] at h; simp [Value.ownBlock] at h
      · rw [hv] at h; simp [Value.ownBlock] at h; subst h; exact ⟨hg', _, _, hh⟩)
  have g0 := hT1.reads.1
  have x0 := hX1.cell (i := 0) rfl
  have y0 := hY1.cell (i := 0) rfl
  clear c1 q0
  go_wp2_with fail
  refine wp_region_still_tail 6 (by kernel_rfl) (by kernel_rfl) ?_
  simp only [List.take_succ_cons, List.take_zero, List.drop_succ_cons, List.drop_zero]
  change wpStill _ _ w1.drew (fun a' => wpList _ _ _ _ a' w1.drew) _ _
  repeat still_step
  refine wpStill_nil ?_
  go_wp2_with fail
  refine (hSet L s o.p o.k o.n o.a o.m j 0 _ hH1.drew (by omega) ho.p1 ho.head ho.hd (by omega) (by omega)).mono ?_
  rintro e w2 ⟨rfl, hH2, hF2⟩
  have nf : ∀ {b : Nat}, b ∉ L.all → b ∉ [L.ab, L.wb] := fun hb hc => hb (hfpa _ (fpaw L _ hc))
  clear g0 x0 y0
  go_wp2_with fail
  go_end0
  refine ⟨rfl, hH2, (show TRep w1.drew tb L.hb (shv bx) t from Blk.drew hT1).fr hF2 (nf hap.nt), ?_, (hX1.drew).fr hF2 (nf xa.1), (hY1.drew).fr hF2 (nf ya.1), ?_⟩
  · have hPd : ShP w1.drew bx vb base cs (l ++ [v]) := hP1.fr ((Fr.refl [] w1).drew) (by simp) (by simp) (by simp)
    exact hPd.fr hF2 (nf hap.nx) (nf hap.nv) (fun b hb => .inl (hap.lb b (hfpa _ (fpaw L b hb))))
  · exact (hQ1.step ((Fr.refl [] w1).drew) (by simp)).step hF2 (fun x hx => .inl (fpaw L x hx))
end Go.Proofs.Ytifillpcphiblaa
