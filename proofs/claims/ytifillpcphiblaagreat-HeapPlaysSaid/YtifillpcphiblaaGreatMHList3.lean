import Derived.Test.YtifillpcphiblaaGreatMHRows
import Derived.Laws.EntriesVeiled
import Derived.Test.YtifillpcphiblaaGreatMMHNew
namespace Go.Proofs.YtifillpcphiblaaGreat
open Go Go.Proofs Go.RowKit Go.Shelf

attribute [local go_sem] Oper.semAt_some

/-- A segment's rows, each in cells that are new. -/
structure SegV (W : World) (base : Nat) (v : Value) (R : Rows) : Prop where
  ex : ∃ v0 v1 v2 v3, v = .agg #[v0, v1, v2, v3] ∧ W.ownsRow base 3 1 v0 R.W.length (intv R.W) ∧ W.ownsRow base 3 1 v1 R.F.length (intv R.F) ∧ W.ownsRow base 3 1 v2 R.G.length (intv R.G) ∧ W.ownsRow base 3 1 v3 R.B.length (intv R.B)

theorem cells_in (F : Fence) (n : Nat) (hf : F.fn 104) (hro : F.round = none) (rb : Nat) (w : World) :
    CallsIn F n Tryz.prog 104 #[.pointer (some ⟨rb, 0, none⟩)] w fun e w' => e = .returned (.func (.func 117) #[] #[.pointer (some ⟨w.heap.size, 0, none⟩)]) ∧ w' = w.alloc (.cells #[.pointer (some ⟨rb, 0, none⟩)] 50) := by
  refine callsIn_of_wp Tryz.func104 rfl hf ?_ hro
  simp only [Tryz.ntmps104, List.size_toArray, List.length_cons, List.length_nil, Nat.reduceAdd, Nat.reduceSub, Array.replicate_succ, Array.replicate_zero, List.push_toArray, List.append_toArray, List.nil_append, List.cons_append]
  gi_wp2
  go_ret
  exact ⟨rfl, rfl⟩

def LSt.lens (s : LSt) : Nat := s.A.length + s.B.length + s.C.length + s.D.length
theorem LSt.lens_step (s : LSt) (x : Int) : (s.step x).lens = s.lens + 1 := by
  unfold LSt.step LSt.lens
  split
  · simp; omega
  · split
    · simp; omega
    · split <;> simp <;> omega
theorem LSt.lens_steps (s : LSt) (l : List Int) : (s.steps l).lens = s.lens + l.length := by
  induction l generalizing s with
  | nil => simp [LSt.steps]
  | cons x l ih =>
    have h1 := s.lens_step x
    have h2 := ih (s.step x)
    simp only [LSt.steps, List.foldl_cons, List.length_cons] at h2 ⊢
    omega
theorem LSt.os_le (s : LSt) : ∀ xs ∈ s.os, xs.length ≤ s.lens := by
  intro xs hx
  unfold LSt.lens
  simp [LSt.os] at hx
  rcases hx with rfl | rfl | rfl | rfl <;> omega
theorem own_slice {w : World} {B : Nat} {T : TypeId} {v : Value} {n z : Nat} {xs : List Value} (h : w.ownsRow B T z v n xs) : ∃ p m c, v = .slice p m c := by
  obtain ⟨_, h | ⟨g', cap', cur, hv, _⟩⟩ := h
  · exact ⟨_, _, _, h.1⟩
  · exact ⟨_, _, _, hv⟩
def RS.lst (r : RS) : LSt := ⟨r.w, r.f, r.g, r.b, [], [], [], []⟩
/-- What the loop of List says. -/
def LInv (cb lf ob base ab wb : Nat) (ws : List Int) (u : Int) (r : RS) (W2 : World) (pre : List (Int × Int)) (W : World) : Prop :=
  LI cb lf ob base (r.lst.steps (pre.map (·.2))) W ∧ Fr [cb, lf, ob, ab] W2 W ∧ ∃ k : Nat, ARep W ab wb ws (u + k)
theorem LInv.own {cb lf ob base ab wb : Nat} {ws : List Int} {u : Int} {r : RS} {W2 : World} (h1 : cb < W2.heap.size) (h2 : lf < W2.heap.size) (h3 : ob < W2.heap.size) (h4 : ab < W2.heap.size) (h5 : wb < W2.heap.size) : OwnFrom W2.heap.size (LInv cb lf ob base ab wb ws u r W2) := by
  rintro pre A B row ⟨g1, g2, k, g3⟩ hg hr
  have hf : Fr row.toList A B := Fr.of_grownBy (S := row.toList) hg (fun k e => .inl (by simp [e]))
  have hrow : ∀ b ∈ row.toList, W2.heap.size ≤ b ∧ ∃ o, A.heap[b]? = some o ∧ o.isCells = false := fun b hb => hr b (by simpa using hb)
  refine ⟨g1.fr hf (fun b hb => ?_), g2.step hf (fun b hb => .inr (hrow b hb).1), k, g3.fr hf (fun hc => by have := (hrow _ hc).1; omega) (fun hc => by have := (hrow _ hc).1; omega)⟩
  have := (hrow b hb).1
  exact ⟨by omega, by omega, by omega, .inr (hrow b hb).2⟩
theorem LInv.ab {cb lf ob base ab wb : Nat} {ws : List Int} {u : Int} {r : RS} {W2 : World} (h1 : ab ≠ cb) (h2 : ab ≠ lf) (h3 : ab ≠ ob) (h4 : ab < base) : ∀ pre A B, LInv cb lf ob base ab wb ws u r W2 pre A → AbU ab wb A B → LInv cb lf ob base ab wb ws u r W2 pre B := by
  rintro pre A B ⟨g1, g2, k, g3⟩ hab
  obtain ⟨k', g4⟩ := hab.arena _ _ g3
  refine ⟨g1.fr hab.fr (fun b hb => ?_), g2.trans (hab.fr.here (by simp)), k + k', by rw [Int.add_assoc] at g4; simpa using g4⟩
  simp at hb; subst hb
  exact ⟨h1, h2, h3, .inl h4⟩

set_option maxRecDepth 100000 in
set_option maxHeartbeats 4000000 in
theorem rList (rb ab wb : Nat) (r : RS) (ws : List Int) (u : Int) (R : Rows) (w : World) (hR : RRep w rb ab r) (hA : ARep w ab wb ws u) (hI : RI ws r R) (n2 : rb ≠ ab) :
    Calls Tryz.prog 71 #[.pointer (some ⟨rb, 0, none⟩)] w fun e w' => (∃ v, e = .returned v ∧ SegV w' w.heap.size v R) ∧ (∃ k : Nat, ARep w' ab wb ws (u + k)) ∧ Fr [ab] w w' := by
  refine (callsIn_wide (n := 3)).1 ?_
  have c3 := hR.reads.2.2.2.1
  have c4 := hR.reads.2.2.2.2.1
  have c5 := hR.reads.2.2.2.2.2.1
  have c6 := hR.reads.2.2.2.2.2.2
  have l1 := hR.s.lt
  have l2 := hA.s.lt
  refine callsIn_of_wp_marks Tryz.func71 rfl trivial ?_ rfl
  simp only [Tryz.ntmps71, List.size_toArray, List.length_cons, List.length_nil, Nat.reduceAdd, Nat.reduceSub, Array.replicate_succ, Array.replicate_zero, List.push_toArray, List.append_toArray, List.nil_append, List.cons_append]
  gi_wp2_with fail
  have o0 := Blk.new (w.alloc (.cells #[.slice none 0 0, .slice none 0 0, .slice none 0 0, .slice none 0 0] 64)) [.slice none 0 0, .slice none 0 0, .slice none 0 0, .slice none 0 0] 64
  have s0 := Blk.new w [.slice none 0 0, .slice none 0 0, .slice none 0 0, .slice none 0 0] 64
  have p0 := Blk.new ((w.alloc (.cells #[.slice none 0 0, .slice none 0 0, .slice none 0 0, .slice none 0 0] 64)).alloc (.cells #[.slice none 0 0, .slice none 0 0, .slice none 0 0, .slice none 0 0] 64)) [.pointer (some ⟨w.heap.size + 1, 0, none⟩), .pointer (some ⟨w.heap.size + 1, 1, none⟩), .pointer (some ⟨w.heap.size + 1, 2, none⟩), .pointer (some ⟨w.heap.size + 1, 3, none⟩)] 166
  obtain ⟨W0, hW0⟩ : ∃ W0, W0 = ((w.alloc (.cells #[.slice none 0 0, .slice none 0 0, .slice none 0 0, .slice none 0 0] 64)).alloc (.cells #[.slice none 0 0, .slice none 0 0, .slice none 0 0, .slice none 0 0] 64)).alloc (.cells #[.pointer (some ⟨w.heap.size + 1, 0, none⟩), .pointer (some ⟨w.heap.size + 1, 1, none⟩), .pointer (some ⟨w.heap.size + 1, 2, none⟩), .pointer (some ⟨w.heap.size + 1, 3, none⟩)] 166) := ⟨_, rfl⟩
  replace o0 := o0.alloc (.cells #[.pointer (some ⟨w.heap.size + 1, 0, none⟩), .pointer (some ⟨w.heap.size + 1, 1, none⟩), .pointer (some ⟨w.heap.size + 1, 2, none⟩), .pointer (some ⟨w.heap.size + 1, 3, none⟩)] 166)
  replace s0 := (s0.alloc (.cells #[.slice none 0 0, .slice none 0 0, .slice none 0 0, .slice none 0 0] 64)).alloc (.cells #[.pointer (some ⟨w.heap.size + 1, 0, none⟩), .pointer (some ⟨w.heap.size + 1, 1, none⟩), .pointer (some ⟨w.heap.size + 1, 2, none⟩), .pointer (some ⟨w.heap.size + 1, 3, none⟩)] 166)
  have hF0 : Fr [] w W0 := by rw [hW0]; exact (((Fr.refl [] w).alloc _).alloc _).alloc _
  have hsz : W0.heap.size = w.heap.size + 3 := by rw [hW0]; simp
  simp only [World.size_alloc] at o0 s0 p0
  rw [← hW0] at o0 s0 p0 ⊢
  clear hW0
  have hR0 := hR.fr hF0 (by simp)
  have hA0 := hA.fr hF0 (by simp) (by simp)
  clear c3 c4 c5 c6
  have c3 := hR0.reads.2.2.2.1
  have c4 := hR0.reads.2.2.2.2.1
  have c5 := hR0.reads.2.2.2.2.2.1
  have c6 := hR0.reads.2.2.2.2.2.2
  have l3 := hR0.s.lt
  have e1 : ∀ o o' i, ((W0.alloc o).alloc o').cell? ⟨rb, i, none⟩ = W0.cell? ⟨rb, i, none⟩ := fun o o' i => cell_fr (((Fr.refl [] W0).alloc o).alloc o') (by simp) l3 i
  have e2 : ∀ o i, (W0.alloc o).cell? ⟨rb, i, none⟩ = W0.cell? ⟨rb, i, none⟩ := fun o i => cell_fr ((Fr.refl [] W0).alloc o) (by simp) l3 i
  gi_region
  all_goals
    first
      | (
        have hc := ((Blk.new W0 [.int .i64 0] 3).alloc (.cells #[.int .i64 r.w, .int .i64 r.f, .int .i64 r.g, .int .i64 r.b] 109)).drew
        have hl := (Blk.new (W0.alloc (.cells #[.int .i64 0] 3)) [.int .i64 r.w, .int .i64 r.f, .int .i64 r.g, .int .i64 r.b] 109).drew
        have hF1 : Fr [] W0 ((W0.alloc (.cells #[.int .i64 0] 3)).alloc (.cells #[.int .i64 r.w, .int .i64 r.f, .int .i64 r.g, .int .i64 r.b] 109)).drew := (((Fr.refl [] W0).alloc _).alloc _).drew
        obtain ⟨W1, hW1⟩ : ∃ W1, W1 = ((W0.alloc (.cells #[.int .i64 0] 3)).alloc (.cells #[.int .i64 r.w, .int .i64 r.f, .int .i64 r.g, .int .i64 r.b] 109)).drew := ⟨_, rfl⟩
        have hsz1 : W1.heap.size = w.heap.size + 5 := by rw [hW1]; simp [hsz]
        rw [World.size_alloc, hsz] at hl
        rw [hsz] at hc
        rw [← hW1] at hc hl hF1 ⊢
        obtain ⟨cb, hcb⟩ : ∃ cb, cb = w.heap.size + 3 := ⟨_, rfl⟩
        rw [← hcb] at hc hl ⊢
        obtain ⟨lf, hlf⟩ : ∃ lf, lf = cb + 1 := ⟨_, rfl⟩
        rw [← hlf] at hl ⊢
        have hcl := hid (show (cb = w.heap.size + 3 ∧ lf = w.heap.size + 4) ∨ (cb = w.heap.size + 4 ∧ lf = w.heap.size + 3) by omega)
        )
      | (
        have hl := ((Blk.new W0 [.int .i64 r.w, .int .i64 r.f, .int .i64 r.g, .int .i64 r.b] 109).alloc (.cells #[.int .i64 0] 3)).drew
        have hc := (Blk.new (W0.alloc (.cells #[.int .i64 r.w, .int .i64 r.f, .int .i64 r.g, .int .i64 r.b] 109)) [.int .i64 0] 3).drew
        have hF1 : Fr [] W0 ((W0.alloc (.cells #[.int .i64 r.w, .int .i64 r.f, .int .i64 r.g, .int .i64 r.b] 109)).alloc (.cells #[.int .i64 0] 3)).drew := (((Fr.refl [] W0).alloc _).alloc _).drew
        obtain ⟨W1, hW1⟩ : ∃ W1, W1 = ((W0.alloc (.cells #[.int .i64 r.w, .int .i64 r.f, .int .i64 r.g, .int .i64 r.b] 109)).alloc (.cells #[.int .i64 0] 3)).drew := ⟨_, rfl⟩
        have hsz1 : W1.heap.size = w.heap.size + 5 := by rw [hW1]; simp [hsz]
        rw [World.size_alloc, hsz] at hc
        rw [hsz] at hl
        rw [← hW1] at hc hl hF1 ⊢
        obtain ⟨lf, hlf⟩ : ∃ lf, lf = w.heap.size + 3 := ⟨_, rfl⟩
        rw [← hlf] at hc hl ⊢
        obtain ⟨cb, hcb⟩ : ∃ cb, cb = lf + 1 := ⟨_, rfl⟩
        rw [← hcb] at hc ⊢
        have hcl := hid (show (cb = w.heap.size + 3 ∧ lf = w.heap.size + 4) ∨ (cb = w.heap.size + 4 ∧ lf = w.heap.size + 3) by omega)
        )
  all_goals
    clear hW1 hcb hlf c3 c4 c5 c6 e1 e2
    have Hsz1 := hid hsz1
    clear hsz1
    have hR1 := hR0.fr hF1 (by simp)
    have hA1 := hA0.fr hF1 (by simp) (by simp)
    replace o0 := o0.fr hF1 (by simp)
    replace p0 := p0.fr hF1 (by simp)
    replace s0 := s0.fr hF1 (by simp)
    gi_wp2_with (refine ⟨trivial, ?_⟩; gi_at_call 104; refine (cells_in Fence.wide 2 trivial rfl rb _).mono ?_; rintro e w' ⟨rfl, rfl⟩)
    have bF := Blk.new W1 [.func (.func 103) #[] #[.pointer (some ⟨lf, 0, none⟩), .pointer (some ⟨cb, 0, none⟩), .pointer (some ⟨w.heap.size + 1 + 1, 0, none⟩)]] 161
    have bP := Blk.new (W1.alloc (.cells #[.func (.func 103) #[] #[.pointer (some ⟨lf, 0, none⟩), .pointer (some ⟨cb, 0, none⟩), .pointer (some ⟨w.heap.size + 1 + 1, 0, none⟩)]] 161)) [.pointer (some ⟨rb, 0, none⟩)] 50
    replace bF := bF.alloc (.cells #[.pointer (some ⟨rb, 0, none⟩)] 50)
    have hF2 : Fr [] W1 ((W1.alloc (.cells #[.func (.func 103) #[] #[.pointer (some ⟨lf, 0, none⟩), .pointer (some ⟨cb, 0, none⟩), .pointer (some ⟨w.heap.size + 1 + 1, 0, none⟩)]] 161)).alloc (.cells #[.pointer (some ⟨rb, 0, none⟩)] 50)) := ((Fr.refl [] W1).alloc _).alloc _
    obtain ⟨W2, hW2⟩ : ∃ W2, W2 = (W1.alloc (.cells #[.func (.func 103) #[] #[.pointer (some ⟨lf, 0, none⟩), .pointer (some ⟨cb, 0, none⟩), .pointer (some ⟨w.heap.size + 1 + 1, 0, none⟩)]] 161)).alloc (.cells #[.pointer (some ⟨rb, 0, none⟩)] 50) := ⟨_, rfl⟩
    have hsz2 : W2.heap.size = w.heap.size + 7 := by rw [hW2]; simp; rw [Hsz1.out]
    rw [World.size_alloc] at bP
    rw [← hW2] at bF bP hF2 ⊢
    clear hW2
    have hC := hcl.out
    have hS1 := Hsz1.out
    have hFw : Fr [] w W2 := (hF0.trans hF1).trans hF2
    replace hc := hc.fr hF2 (by simp)
    replace hl := hl.fr hF2 (by simp)
    replace o0 := o0.fr hF2 (by simp)
    replace p0 := p0.fr hF2 (by simp)
    replace s0 := s0.fr hF2 (by simp)
    have hR2 := hR1.fr hF2 (by simp)
    have hA2 := hA1.fr hF2 (by simp) (by simp)
    have lwb := hA.c.lt
    have hIv : LInv cb lf (w.heap.size + 1) W2.heap.size ab wb ws u r W2 [] W2 := by
      refine ⟨⟨0, _, hc, hl, o0, ⟨rfl, ?_, ?_⟩, by omega, fun j hj => by omega⟩, Fr.refl _ _, 0, by simpa using hA2⟩
      · intro i v xs hi hx
        have hi4 : i < 4 := (List.getElem?_eq_some_iff.1 hi).1
        rcases (by omega : i = 0 ∨ i = 1 ∨ i = 2 ∨ i = 3) with rfl | rfl | rfl | rfl <;> (simp [LSt.os, LSt.steps, RS.lst] at hi hx; subst hi; subst hx; exact ⟨by simp [intv], .inl ⟨rfl, rfl⟩⟩)
      · intro i j v v' _ hi _ g hg
        have hi4 : i < 4 := (List.getElem?_eq_some_iff.1 hi).1
        rcases (by omega : i = 0 ∨ i = 1 ∨ i = 2 ∨ i = 3) with rfl | rfl | rfl | rfl <;> (simp at hi; subst hi; simp [Value.ownBlock] at hg)
    have htot := hI.tot
    have hle := hR.le
    refine wpIn_rangeM (n := 3) (gf := 117) (lb := #[.pointer (some ⟨W1.heap.size + 1, 0, none⟩)]) rfl (enters_of Tryz.func117 (by kernel_rfl) rfl)
      (cells_iter (W1.heap.size + 1) rb ab wb r ws u R.all W2 bP hR2 hA2 hI.chain (by omega) n2) (by intro b hb; simp at hb; rcases hb with rfl | rfl | rfl | rfl <;> omega) (fun A B h => h.others) (fun _ => rfl)
      (LInv cb lf (w.heap.size + 1) W2.heap.size ab wb ws u r W2) (fun _ _ _ => False) (LInv.own (by omega) (by omega) (by omega) (by omega) (by omega)) (fun _ _ _ _ _ hs _ _ => hs) (LInv.ab (by omega) (by omega) (by omega) (by omega)) hIv
      (fun x => { tmps := #[.pointer (some ⟨rb, 0, none⟩), undef, .pointer (some ⟨w.heap.size, 0, none⟩), .pointer (some ⟨w.heap.size + 1, 0, none⟩), .pointer (some ⟨w.heap.size + 1 + 1, 0, none⟩), .pointer (some ⟨cb, 0, none⟩), .pointer (some ⟨lf, 0, none⟩), .pointer (some ⟨W1.heap.size, 0, none⟩), undef, .int .i64 x.2, .pointer (some ⟨w.heap.size + 1, 0, none⟩), .pointer (some ⟨w.heap.size + 1, 1, none⟩), .pointer (some ⟨w.heap.size + 1, 2, none⟩), .pointer (some ⟨w.heap.size + 1, 3, none⟩), .agg #[.pointer (some ⟨w.heap.size + 1, 0, none⟩), .pointer (some ⟨w.heap.size + 1, 1, none⟩), .pointer (some ⟨w.heap.size + 1, 2, none⟩), .pointer (some ⟨w.heap.size + 1, 3, none⟩)], .pointer (some ⟨rb, 0, none⟩), .pointer (some ⟨rb, 0, none⟩), .pointer (some ⟨rb, 3, none⟩), .agg #[.int .i64 r.w, .int .i64 r.f, .int .i64 r.g, .int .i64 r.b], .func (.func 103) #[] #[.pointer (some ⟨lf, 0, none⟩), .pointer (some ⟨cb, 0, none⟩), .pointer (some ⟨w.heap.size + 1 + 1, 0, none⟩)], .pointer (some ⟨rb, 0, none⟩), .func (.func 117) #[] #[.pointer (some ⟨W1.heap.size + 1, 0, none⟩)], .int .i64 x.1, .int .i64 x.2, undef, undef, undef, undef], defers := [] }) ?assign ?body ?done ?stop
    case assign =>
      intro l x W K hK
      clear hC hS1 hsz2 htot hIv
      gi_wp2
      exact hK
    case body =>
      rintro l pre x W hWs ⟨hLI, hFW, k, hAW⟩ hlen
      have hleft := r.lst.left_steps (pre.map (·.2)) (by rw [← htot] at hlen; simp [LSt.left, RS.lst, RS.tot] at hlen ⊢; omega)
      have hlens := r.lst.lens_steps (pre.map (·.2))
      have hos := (r.lst.steps (pre.map (·.2))).os_le
      have hlf : r.lst.left = r.tot := by simp [LSt.left, RS.lst, RS.tot]; omega
      have hl0 : r.lst.lens = 0 := rfl
      simp only [List.length_map] at hleft hlens
      have q7 := (bF.fr hFW (by simp; omega)).cell (i := 0) rfl
      have hpW := p0.fr hFW (by simp; omega)
      have key := listStep_LI cb lf (w.heap.size + 1 + 1) (w.heap.size + 1) W2.heap.size _ x.2 W hLI (by omega) (by omega) (fun xs hx => by have := hos xs hx; omega) hpW (by omega) (by omega) (by omega) (by omega) (by omega) (by omega) (by omega) (by omega) (by omega) (by omega) hWs
      have HK := hid (⟨hleft, hlens, hlf, hl0⟩ : _ ∧ _ ∧ _ ∧ _)
      have hC' := hid hC
      have hS1' := hid hS1
      have hs2' := hid hsz2
      clear hleft hlens hlf hl0 hC hS1 hsz2 htot hos
      gi_wp2_with (refine ⟨trivial, ?_⟩; gi_at_call 103; refine (CallsIn.inRound l (callsIn_wide.2 key)).mono ?_; rintro e w1 ⟨rfl, hLI1, S, hF1', hS⟩)
      have hC := hC'.out
      have hS1 := hS1'.out
      have hsz2 := hs2'.out
      have hcell : ∀ b ∈ cb :: lf :: (w.heap.size + 1) :: S, ∀ o, W.heap[b]? = some o → o.isCells = true := by
        obtain ⟨k', vs, g1, g2, g3, _⟩ := hLI.ex
        intro b hb o ho
        simp only [List.mem_cons] at hb
        rcases hb with rfl | rfl | rfl | hb
        · exact g1.cells o ho
        · exact g2.cells o ho
        · exact g3.cells o ho
        · exact (hS b hb).2 o ho
      refine ⟨hF1'.others hcell, hF1'.keepL (fun b hb => ?_) (fun b hb hc => ?_), ?_, ?_, k, ?_⟩
      · simp at hb; rcases hb with rfl | rfl | rfl | rfl <;> omega
      · simp only [List.mem_cons] at hc
        have : b < W2.heap.size ∧ b ≠ cb ∧ b ≠ lf ∧ b ≠ w.heap.size + 1 := by simp at hb; rcases hb with rfl | rfl | rfl | rfl <;> omega
        rcases hc with h | h | h | h
        · omega
        · omega
        · omega
        · have := (hS b h).1; omega
      · simp only [List.map_append, List.map_cons, List.map_nil]
        rw [LSt.steps_append]
        exact hLI1
      · refine hFW.step hF1' (fun b hb => ?_)
        simp only [List.mem_cons] at hb
        rcases hb with rfl | rfl | rfl | hb
        · simp
        · simp
        · simp
        · exact .inr (hS b hb).1
      · refine hAW.fr hF1' (fun hc => ?_) (fun hc => ?_)
        · simp only [List.mem_cons] at hc
          rcases hc with h | h | h | h
          · omega
          · omega
          · omega
          · have := (hS _ h).1; omega
        · simp only [List.mem_cons] at hc
          rcases hc with h | h | h | h
          · omega
          · omega
          · omega
          · have := (hS _ h).1; omega
    case done =>
      rintro D ys W hD rfl ⟨hLI, hFW, k, hAW⟩ hK
      rw [prs_snd] at hLI
      have hst : r.lst.steps R.all = ⟨0, 0, 0, 0, R.W, R.F, R.G, R.B⟩ := by
        have := LSt.whole R
        rw [← hI.nw, ← hI.nf, ← hI.ng, ← hI.nb] at this
        exact this
      rw [hst] at hLI
      obtain ⟨k', vs, g1, g2, g3, g4, -⟩ := hLI.ex
      have h4 := g4.len
      obtain ⟨v0, v1, v2, v3, rfl⟩ : ∃ v0 v1 v2 v3, vs = [v0, v1, v2, v3] := by
        match vs, h4 with
        | [v0, v1, v2, v3], _ => exact ⟨v0, v1, v2, v3, rfl⟩
      have w0 := g4.row 0 v0 R.W rfl rfl
      have w1 := g4.row 1 v1 R.F rfl rfl
      have w2 := g4.row 2 v2 R.G rfl rfl
      have w3 := g4.row 3 v3 R.B rfl rfl
      obtain ⟨x0, y0, z0, rfl⟩ := own_slice w0
      obtain ⟨x1, y1, z1, rfl⟩ := own_slice w1
      obtain ⟨x2, y2, z2, rfl⟩ := own_slice w2
      obtain ⟨x3, y3, z3, rfl⟩ := own_slice w3
      have a0 := g3.cell (i := 0) rfl
      have a1 := g3.cell (i := 1) rfl
      have a2 := g3.cell (i := 2) rfl
      have a3 := g3.cell (i := 3) rfl
      have sW := s0.fr hFW (by simp; omega)
      have b0 := sW.cell (i := 0) rfl
      have b1 := sW.cell (i := 1) rfl
      have b2 := sW.cell (i := 2) rfl
      have b3 := sW.cell (i := 3) rfl
      have f0 := sW.frozen 0
      have f1 := sW.frozen 1
      have f2 := sW.frozen 2
      have f3 := sW.frozen 3
      have hC' := hid hC
      have hS1' := hid hS1
      have hs2' := hid hsz2
      have hst' := hid hst
      clear hC hS1 hsz2 htot hst h4 hIv
      gi_wp2
      have hC := hC'.out
      have hS1 := hS1'.out
      have hsz2 := hs2'.out
      have hKo := (((KeepsOthers.setCell W ⟨w.heap.size, 0, none⟩ (.slice x0 y0 z0)).trans (KeepsOthers.setCell _ ⟨w.heap.size, 1, none⟩ (.slice x1 y1 z1))).trans (KeepsOthers.setCell _ ⟨w.heap.size, 2, none⟩ (.slice x2 y2 z2))).trans (KeepsOthers.setCell _ ⟨w.heap.size, 3, none⟩ (.slice x3 y3 z3))
      have hK' := hKo.same D _ hK rfl
      have hB4 : Blk ((((W.setCell ⟨w.heap.size, 0, none⟩ (.slice x0 y0 z0)).setCell ⟨w.heap.size, 1, none⟩ (.slice x1 y1 z1)).setCell ⟨w.heap.size, 2, none⟩ (.slice x2 y2 z2)).setCell ⟨w.heap.size, 3, none⟩ (.slice x3 y3 z3)) w.heap.size [.slice x0 y0 z0, .slice x1 y1 z1, .slice x2 y2 z2, .slice x3 y3 z3] 64 := by
        have := (((sW.set 0 (.slice x0 y0 z0)).set 1 (.slice x1 y1 z1)).set 2 (.slice x2 y2 z2)).set 3 (.slice x3 y3 z3)
        simpa using this
      have hFs : Fr [w.heap.size] W ((((W.setCell ⟨w.heap.size, 0, none⟩ (.slice x0 y0 z0)).setCell ⟨w.heap.size, 1, none⟩ (.slice x1 y1 z1)).setCell ⟨w.heap.size, 2, none⟩ (.slice x2 y2 z2)).setCell ⟨w.heap.size, 3, none⟩ (.slice x3 y3 z3)) :=
        ((((Fr.refl [w.heap.size] W).set (by simp) _).set (by simp) _).set (by simp) _).set (by simp) _
      refine ⟨by simp, .inl ⟨_, _, rfl, run_takeDeferred hK', ?_⟩⟩
      obtain ⟨W4, hW4⟩ : ∃ W4, W4 = ((((W.setCell ⟨w.heap.size, 0, none⟩ (.slice x0 y0 z0)).setCell ⟨w.heap.size, 1, none⟩ (.slice x1 y1 z1)).setCell ⟨w.heap.size, 2, none⟩ (.slice x2 y2 z2)).setCell ⟨w.heap.size, 3, none⟩ (.slice x3 y3 z3)) := ⟨_, rfl⟩
      rw [← hW4] at hB4 hFs ⊢
      clear hW4 hK'
      have hFt : Fr [w.heap.size, D] W (W4.putObj D (.deferred none)) := (hFs.here (by simp)).trans ((fr_putObj W4 D _).here (by simp))
      have hB5 := hB4.fr (fr_putObj W4 D (.deferred none)) (by simp; omega)
      have r0 := hB5.cell (i := 0) rfl
      have r1 := hB5.cell (i := 1) rfl
      have r2 := hB5.cell (i := 2) rfl
      have r3 := hB5.cell (i := 3) rfl
      have hrow : ∀ {v : Value} {xs : List Int}, W.ownsRow W2.heap.size 3 1 v xs.length (intv xs) → (W4.putObj D (.deferred none)).ownsRow w.heap.size 3 1 v xs.length (intv xs) := by
        intro v xs h
        refine ownsRow_base (ownsRow_fr h hFt ?_) (by omega)
        intro g hg hc
        have hlt := own_lt h hg
        simp at hc
        rcases hc with rfl | rfl
        · omega
        · have := own_cells h hg _ hK
          cases this
      refine ⟨.agg #[.slice x0 y0 z0, .slice x1 y1 z1, .slice x2 y2 z2, .slice x3 y3 z3], by simp [results, Tryz.f71, go_sem, r0, r1, r2, r3], ⟨_, rfl, _, _, _, _, rfl, hrow w0, hrow w1, hrow w2, hrow w3⟩, ⟨k, ?_⟩, ?_⟩
      · exact hAW.fr hFt (by simp; omega) (by simp; omega)
      · have h0 : Fr [ab] w W2 := hFw.here (by simp)
        have h1 := h0.step hFW (fun b hb => by simp at hb; rcases hb with rfl | rfl | rfl | rfl; (· right; omega); (· right; omega); (· right; omega); (· left; simp))
        exact h1.step hFt (fun b hb => by simp at hb; rcases hb with rfl | rfl; (· right; omega); (· right; omega))
    case stop =>
      rintro D c pre W _ _ h _
      exact h.elim
end Go.Proofs.YtifillpcphiblaaGreat

namespace Go.Proofs.YtifillpcphiblaaGreat
open Go Go.Proofs Go.RowKit

theorem info_seg : (Tryz.prog.info? 64).map (fun i => (i.zero, i.size, i.bytes)) = some (some (.agg #[.slice none 0 0, .slice none 0 0, .slice none 0 0, .slice none 0 0]), 4, 96) := by kernel_rfl

theorem SegV.fr {S : List Nat} {W W' : World} {base : Nat} {v : Value} {R : Rows} (h : SegV W base v R) (hf : Fr S W W') (hS : ∀ b ∈ S, b < base ∨ ∀ cs f, W.heap[b]? ≠ some (.cells cs 3 f)) : SegV W' base v R := by
  have key : ∀ {v : Value} {n : Nat} {xs : List Value}, W.ownsRow base 3 1 v n xs → W'.ownsRow base 3 1 v n xs := by
    intro v n xs h
    refine ownsRow_fr h hf ?_
    intro g hg hc
    obtain ⟨_, h2 | ⟨g', cap', cur, hv, hg', hh, _⟩⟩ := h
    · rw [h2.1] at hg; simp [Value.ownBlock] at hg
    · rw [hv] at hg; simp [Value.ownBlock] at hg; subst hg
      rcases hS _ hc with h3 | h3
      · omega
      · exact h3 _ _ hh
  obtain ⟨v0, v1, v2, v3, rfl, h0, h1, h2, h3⟩ := h.ex
  exact ⟨v0, v1, v2, v3, rfl, key h0, key h1, key h2, key h3⟩
theorem SegV.base {W : World} {base base' : Nat} {v : Value} {R : Rows} (h : SegV W base v R) (hb : base' ≤ base) : SegV W base' v R := by
  obtain ⟨v0, v1, v2, v3, rfl, h0, h1, h2, h3⟩ := h.ex
  exact ⟨v0, v1, v2, v3, rfl, ownsRow_base h0 hb, ownsRow_base h1 hb, ownsRow_base h2 hb, ownsRow_base h3 hb⟩
theorem SegV.parts {W : World} {base : Nat} {v : Value} {R : Rows} (h : SegV W base v R) : ∃ x0 y0 z0 x1 y1 z1 x2 y2 z2 x3 y3 z3, v = .agg #[.slice x0 y0 z0, .slice x1 y1 z1, .slice x2 y2 z2, .slice x3 y3 z3] := by
  obtain ⟨v0, v1, v2, v3, rfl, h0, h1, h2, h3⟩ := h.ex
  obtain ⟨x0, y0, z0, rfl⟩ := own_slice h0
  obtain ⟨x1, y1, z1, rfl⟩ := own_slice h1
  obtain ⟨x2, y2, z2, rfl⟩ := own_slice h2
  obtain ⟨x3, y3, z3, rfl⟩ := own_slice h3
  exact ⟨x0, y0, z0, x1, y1, z1, x2, y2, z2, x3, y3, z3, rfl⟩

/-- A slice of segments. -/
structure SegsI (W : World) (base : Nat) (out : Value) (Rs : List Rows) : Prop where
  ex : ∃ segs : List (List Value), W.ownsRow base 64 4 out Rs.length segs.flatten ∧ segs.length = Rs.length ∧ ∀ (i : Nat) (seg : List Value) (R : Rows), segs[i]? = some seg → Rs[i]? = some R → SegV W base (.agg seg.toArray) R
theorem SegsI.nil (W : World) (base : Nat) : SegsI W base (.slice none 0 0) [] := ⟨[], ⟨rfl, .inl ⟨rfl, rfl⟩⟩, rfl, fun i seg R h => by simp at h⟩
theorem SegsI.fr {S : List Nat} {W W' : World} {base : Nat} {v : Value} {Rs : List Rows} (h : SegsI W base v Rs) (hf : Fr S W W') (hS : ∀ b ∈ S, b < base) : SegsI W' base v Rs := by
  obtain ⟨segs, h1, h2, h3⟩ := h.ex
  refine ⟨segs, ownsRow_fr h1 hf (fun g hg hc => by have := (own_lt h1 hg).1; have := hS g hc; omega), h2, fun i seg R hi hR => (h3 i seg R hi hR).fr hf (fun b hb => .inl (hS b hb))⟩

set_option maxRecDepth 100000 in
set_option maxHeartbeats 1600000 in
theorem hLarge (L : HL) (s : HS) (A : Rg) (z : Int → Int) (w : World) (hH : HRep w L s) (hI : HI s A z) :
    Calls Tryz.prog 43 #[.pointer (some ⟨L.hb, 0, none⟩)] w fun e w' => (∃ v, e = .returned v ∧ SegV w' w.heap.size v (A none)) ∧ (∃ k : Nat, HRep w' L (s.tick k)) ∧ Fr [L.ab] w w' := by
  obtain ⟨-, ⟨-, q2, -, -, -⟩, -, -, -, -⟩ := hH.apart
  have hn := new_apart hH
  have hH0 := hH.alloc (.cells #[.slice none 0 0, .slice none 0 0, .slice none 0 0, .slice none 0 0] 64)
  have c3 := hH0.reads.2.2.2.1
  have B0 := Blk.new w [.slice none 0 0, .slice none 0 0, .slice none 0 0, .slice none 0 0] 64
  have l1 := all_lt hH (b := L.ab) (by simp [HL.all, HL.fp])
  go_enter Tryz.func43, Tryz.ntmps43
  go_wp2_with fail
  refine (rList L.lb L.ab L.wb s.lg s.ws s.u (A none) _ hH0.lr hH0.a hI.lring (Ne.symm q2)).mono ?_
  rintro e w1 ⟨⟨v, rfl, hS⟩, ⟨k, hA1⟩, hF1⟩
  obtain ⟨x0, y0, z0, x1, y1, z1, x2, y2, z2, x3, y3, z3, rfl⟩ := hS.parts
  have hH1 : HRep w1 L (s.tick k) := hH0.arena hF1 (by simp) hA1
  have B1 := B0.fr hF1 (by simp; omega)
  have b0 := B1.cell (i := 0) rfl
  have b1 := B1.cell (i := 1) rfl
  have b2 := B1.cell (i := 2) rfl
  have b3 := B1.cell (i := 3) rfl
  have f0 := B1.frozen 0
  have f1 := B1.frozen 1
  have f2 := B1.frozen 2
  have f3 := B1.frozen 3
  clear c3
  go_wp2_with fail
  have hB4 : Blk ((((w1.setCell ⟨w.heap.size, 0, none⟩ (.slice x0 y0 z0)).setCell ⟨w.heap.size, 1, none⟩ (.slice x1 y1 z1)).setCell ⟨w.heap.size, 2, none⟩ (.slice x2 y2 z2)).setCell ⟨w.heap.size, 3, none⟩ (.slice x3 y3 z3)) w.heap.size [.slice x0 y0 z0, .slice x1 y1 z1, .slice x2 y2 z2, .slice x3 y3 z3] 64 := by
    have := (((B1.set 0 (.slice x0 y0 z0)).set 1 (.slice x1 y1 z1)).set 2 (.slice x2 y2 z2)).set 3 (.slice x3 y3 z3)
    simpa using this
  have hFs : Fr [w.heap.size] w1 ((((w1.setCell ⟨w.heap.size, 0, none⟩ (.slice x0 y0 z0)).setCell ⟨w.heap.size, 1, none⟩ (.slice x1 y1 z1)).setCell ⟨w.heap.size, 2, none⟩ (.slice x2 y2 z2)).setCell ⟨w.heap.size, 3, none⟩ (.slice x3 y3 z3)) :=
    ((((Fr.refl [w.heap.size] w1).set (by simp) _).set (by simp) _).set (by simp) _).set (by simp) _
  obtain ⟨W4, hW4⟩ : ∃ W4, W4 = ((((w1.setCell ⟨w.heap.size, 0, none⟩ (.slice x0 y0 z0)).setCell ⟨w.heap.size, 1, none⟩ (.slice x1 y1 z1)).setCell ⟨w.heap.size, 2, none⟩ (.slice x2 y2 z2)).setCell ⟨w.heap.size, 3, none⟩ (.slice x3 y3 z3)) := ⟨_, rfl⟩
  rw [← hW4] at hB4 hFs ⊢
  clear hW4
  have r0 := hB4.cell (i := 0) rfl
  have r1 := hB4.cell (i := 1) rfl
  have r2 := hB4.cell (i := 2) rfl
  have r3 := hB4.cell (i := 3) rfl
  refine bodyPost_ret (v := .agg #[.slice x0 y0 z0, .slice x1 y1 z1, .slice x2 y2 z2, .slice x3 y3 z3]) (by simp [results, Tryz.results43, go_sem, r0, r1, r2, r3]) rfl ⟨⟨_, rfl, ?_⟩, ⟨k, ?_⟩, ?_⟩
  · exact (hS.fr hFs (fun b hb => .inl (by simp at hb; subst hb; simp))).base (by simp)
  · exact hH1.fr hFs (fun b hb hc => by simp at hb; subst hb; exact hn hc)
  · have h0 : Fr [L.ab] w w1 := ((Fr.refl [L.ab] w).alloc _).trans hF1
    exact h0.step hFs (fun b hb => by simp at hb; subst hb; right; exact Nat.le_refl _)

theorem hParity (L : HL) (s : HS) (w : World) (hH : HRep w L s) :
    Calls Tryz.prog 41 #[.pointer (some ⟨L.hb, 0, none⟩)] w fun e w' => e = .returned (.int .i64 s.parity) ∧ w = w' := by
  have c7 := hH.reads.2.2.2.2.2.2.2
  go_enter Tryz.func41, Tryz.ntmps41
  go_wp2_with fail
  go_ret
  exact ⟨rfl, rfl⟩

/-- The rows of the first k classes. -/
def rowsTo (A : Rg) (k : Nat) : List Rows := (List.range k).map fun j => A (some j)
theorem rowsTo_succ (A : Rg) (k : Nat) : rowsTo A (k + 1) = rowsTo A k ++ [A (some k)] := by simp [rowsTo, List.range_succ]
theorem rowsTo_len (A : Rg) (k : Nat) : (rowsTo A k).length = k := by simp [rowsTo]

/-- One segment more. -/
theorem SegsI.snoc {W W1 : World} {base : Nat} {out out' : Value} {Rs : List Rows} {R : Rows} {segs : List (List Value)} {seg : List Value} (h1 : W.ownsRow base 64 4 out Rs.length segs.flatten) (h2 : segs.length = Rs.length)
    (h3 : ∀ (i : Nat) (seg : List Value) (R : Rows), segs[i]? = some seg → Rs[i]? = some R → SegV W base (.agg seg.toArray) R) (hR : SegV W base (.agg seg.toArray) R)
    (hf : Fr out.ownBlock.toList W W1) (hown : W1.ownsRow base 64 4 out' (Rs.length + 1) (segs.flatten ++ seg)) : SegsI W1 base out' (Rs ++ [R]) := by
  have hS : ∀ b ∈ out.ownBlock.toList, b < base ∨ ∀ cs f, W.heap[b]? ≠ some (.cells cs 3 f) := by
    intro b hb
    obtain ⟨_, h4 | ⟨g', cap', cur, hv, hg', hh, _⟩⟩ := h1
    · rw [h4.1] at hb; simp [Value.ownBlock] at hb
    · rw [hv] at hb; simp [Value.ownBlock] at hb; subst hb
      refine .inr (fun cs f hc => ?_)
      rw [hh] at hc
      simp at hc
  refine ⟨segs ++ [seg], ?_, by simp [h2], ?_⟩
  · simpa using hown
  · intro i sg r hi hr
    rcases Nat.lt_or_ge i Rs.length with hlt | hge
    · rw [List.getElem?_append_left (by omega)] at hi
      rw [List.getElem?_append_left hlt] at hr
      exact (h3 i sg r hi hr).fr hf hS
    · have e : i = Rs.length := by
        have := (List.getElem?_eq_some_iff.1 hr).1
        simp at this; omega
      subst e
      rw [← h2, List.getElem?_concat_length] at hi
      rw [List.getElem?_concat_length] at hr
      cases hi; cases hr
      exact hR.fr hf hS

set_option maxRecDepth 100000 in
set_option maxHeartbeats 3200000 in
theorem hRings (L : HL) (s : HS) (A : Rg) (z : Int → Int) (w : World) (hH : HRep w L s) (hI : HI s A z) :
    Calls Tryz.prog 40 #[.pointer (some ⟨L.hb, 0, none⟩)] w fun e w' => (∃ v, e = .returned v ∧ SegsI w' w.heap.size v (rowsTo A s.cls.length)) ∧ (∃ k : Nat, HRep w' L (s.tick k)) ∧ Fr [L.ab] w w' := by
  have c2 := hH.reads.2.2.1
  have hn3 := hH.n3
  have HI' := hid (info_parts info_seg)
  have l1 := all_lt hH (b := L.ab) (by simp [HL.all, HL.fp])
  have hmm := hid hI
  go_enter Tryz.func40, Tryz.ntmps40
  go_wp2_with fail
  go_loopw [3, 11] (fun out i wr => ∃ (k : Nat) (u : Nat), k ≤ s.cls.length ∧ i = .int .i64 k ∧ SegsI wr w.heap.size out (rowsTo A k) ∧ HRep wr L (s.tick u) ∧ Fr [L.ab] w wr) (fun _ i _ => s.cls.length - (intOf i).toNat)
  case atStart => exact ⟨0, 0, Nat.zero_le _, rfl, SegsI.nil _ _, hH.cast (by simp [HS.tick]), Fr.refl _ _⟩
  case round =>
    obtain ⟨k, u, hk, rfl, hS, hHr, hF⟩ := hrel
    clear c2
    by_cases hlt : k < s.cls.length
    · obtain ⟨rb, r, e1, e2, e3, e4⟩ := hHr.at (s := s.tick u) hlt
      have hap := hHr.rapart (List.mem_of_getElem? e1)
      have hsz := hF.size
      obtain ⟨segs, s1, s2, s3⟩ := hS.ex
      have S1 := hid s1
      have S2 := hid s2
      have S3 := hid s3
      have E1 := hid e1
      have E2 := hid e2
      obtain ⟨xo, yo, zo, rfl⟩ := own_slice s1
      clear s1 s2 s3 e1 e2 hS
      go_wp2_with fail
      refine (rList rb L.ab L.wb r s.ws _ (A (some k)) _ e4 hHr.a (hI.ring k r E2.out) hap.2.1).mono ?_
      rintro e w1 ⟨⟨v, rfl, hSv⟩, ⟨u', hA1⟩, hF1⟩
      obtain ⟨x0, y0, z0, x1, y1, z1, x2, y2, z2, x3, y3, z3, rfl⟩ := hSv.parts
      have hH1 : HRep w1 L (s.tick (u + u' : Nat)) := (hHr.arena hF1 (by simp) hA1).cast (by simp [HS.tick, Int.add_assoc])
      have hown1 := ownsRow_fr S1.out hF1 (fun g hg hc => by have := (own_lt S1.out hg).1; simp at hc; omega)
      have hS3 : ∀ (i : Nat) (seg : List Value) (R : Rows), segs[i]? = some seg → (rowsTo A k)[i]? = some R → SegV w1 w.heap.size (.agg seg.toArray) R := fun i seg R h1 h2 => (S3.out i seg R h1 h2).fr hF1 (fun b hb => .inl (by simp at hb; omega))
      have hSv' := hSv.base hsz
      have hsz1 := hF1.size
      rw [rowsTo_len] at hown1
      obtain ⟨i0, hi, hz0, hz1, hz2⟩ := HI'.out
      have h1' := hid hi
      have h2' := hid hz0
      have h3' := hid hz1
      have h4' := hid hz2
      have h5' := hid hown1
      have H3 := hid hS3
      clear hi hz0 hz1 hz2 hown1 hS3 e3
      go_wp2_with (at_builtin; refine wpList_append_own _ rfl _ _ 87 rfl w.heap.size 64 i0 (.agg #[.slice none 0 0, .slice none 0 0, .slice none 0 0, .slice none 0 0]) 4 96 Tryz.underlying87 h1'.out h2'.out h3'.out h4'.out rfl (by decide) (.slice xo yo zo) k _ rfl (h5'.out.alloc _) ⟨w1.heap.size, 0, none⟩ 1 1 [.slice x0 y0 z0, .slice x1 y1 z1, .slice x2 y2 z2, .slice x3 y3 z3] rfl rfl (World.news_of_block (cs := #[.slice x0 y0 z0, .slice x1 y1 z1, .slice x2 y2 z2, .slice x3 y3 z3]) (t := 64) (fr := (0, 0)) (heap_alloc_new w1 _)) ?c1 ?c2 ?c3 ?c4 ?c5)
      case c1 => simp [Value.oneCell']
      case c2 => simp only [maxLen]; omega
      case c3 => omega
      case c4 => simp; omega
      case c5 =>
        intro v' w2 hown' hgrow hniliff
        have hGr : Fr (Value.slice xo yo zo).ownBlock.toList (w1.alloc (.cells #[.slice x0 y0 z0, .slice x1 y1 z1, .slice x2 y2 z2, .slice x3 y3 z3] 64)) w2 := Fr.of_grownBy hgrow (by intro k' hk'; left; simp [hk'])
        have hFal : Fr [] w1 (w1.alloc (.cells #[.slice x0 y0 z0, .slice x1 y1 z1, .slice x2 y2 z2, .slice x3 y3 z3] 64)) := (Fr.refl [] w1).alloc _
        have hlow := own_low h5'.out
        have hF2 : Fr [L.ab] w w2 := (((hF.trans hF1).alloc _)).step hGr (fun x hx => .inr (hlow x hx))
        have hH2 := (hH1.alloc (.cells #[.slice x0 y0 z0, .slice x1 y1 z1, .slice x2 y2 z2, .slice x3 y3 z3] 64)).fr hGr (fun x hx hc => by have := hlow x hx; have := all_lt hH hc; omega)
        have hS2 : SegsI w2 w.heap.size v' (rowsTo A (k + 1)) := by
          rw [rowsTo_succ]
          refine SegsI.snoc (W := w1.alloc (.cells #[.slice x0 y0 z0, .slice x1 y1 z1, .slice x2 y2 z2, .slice x3 y3 z3] 64)) (out := .slice xo yo zo) (by rw [rowsTo_len]; exact h5'.out.alloc _) S2.out (fun i seg R h1 h2 => (H3.out i seg R h1 h2).fr hFal (by simp)) (hSv'.fr hFal (by simp)) hGr ?_
          rw [rowsTo_len]; exact hown'
        have HS2 := hid hS2
        clear hown' hgrow hniliff hS2 H3
        go_wp2_with fail
        go_roundw
        case rel => exact ⟨k + 1, _, by omega, by go_num, HS2.out, hH2, hF2⟩
        case measure => simp [intOf]; omega
    · have e : k = s.cls.length := by omega
      subst e
      have HS := hid hS
      clear hS
      go_wp2_with fail
      go_ret
      exact ⟨⟨_, rfl, HS.out⟩, ⟨u, hHr⟩, hF⟩
end Go.Proofs.YtifillpcphiblaaGreat

namespace Go.Proofs.YtifillpcphiblaaGreat
open Go Go.Proofs Go.RowKit

/-- What an allocation comes to, whatever size is asked for. -/
def AllocEv (L : HL) (s : HS) (A : Rg) (z : Int → Int) (k a x : Int) (w : World) (e : Ending) (w' : World) : Prop :=
  Fr L.fp w w' ∧ ((∃ er : Int, er ≠ 0 ∧ e = .returned (.tuple #[.int .i64 0, .int .i64 er]) ∧ HRep w' L s) ∨
    ∃ (n : Nat) (q : Option Nat) (p : Int) (s' : HS) (A' : Rg) (z' : Int → Int), x = n ∧ n < 32 ∧ e = .returned (.tuple #[.int .i64 p, .int .i64 0]) ∧ HRep w' L s' ∧ Alc s s' A A' z z' q p (packed k n a s.parity) n)

theorem hAllocEv (L : HL) (s : HS) (A : Rg) (z : Int → Int) (k a x : Int) (w : World) (hH : HRep w L s) (hI : HI s A z) (hm : 0 ≤ s.parity ∧ s.parity < 2) (k0 : 0 ≤ k) (k1 : k ≤ 10) (a0 : 0 ≤ a) (a1 : a < 16777216) :
    Calls Tryz.prog 12 #[.pointer (some ⟨L.hb, 0, none⟩), .int .i64 k, .int .i64 a, .int .i64 x] w (AllocEv L s A z k a x w) := by
  by_cases hx : x < 0 ∨ 32 ≤ x
  · refine (hAllocBad L s k a x w hH hm (.inr (.inl hx))).mono ?_
    rintro e w' ⟨rfl, hH', hF⟩
    rw [if_neg (by omega)]
    exact ⟨hF.here (by simp), .inl ⟨1, by decide, rfl, hH'⟩⟩
  · obtain ⟨n, rfl⟩ := Int.eq_ofNat_of_zero_le (show 0 ≤ x by omega)
    refine (hAllocAny L s A z k a n w hH hI ⟨k0, k1, hm.1, hm.2, by omega, by omega, a0, a1⟩).mono ?_
    rintro e w' ⟨hF, ⟨rfl, hH'⟩ | ⟨q, p, s', A', z', rfl, hH', hA⟩⟩
    · exact ⟨hF, .inl ⟨2, by decide, rfl, hH'⟩⟩
    · exact ⟨hF, .inr ⟨n, q, p, s', A', z', rfl, by omega, rfl, hH', hA⟩⟩

/-- A slice of truth values that came in. -/
def SlB (w : World) (sv : Value) (l : List Bool) : Prop :=
  (sv = .slice none 0 0 ∧ l = []) ∨ (∃ a cap, sv = .slice (some a) 0 cap ∧ l = []) ∨ ∃ b o cap, sv = .slice (some ⟨b, o, none⟩) l.length cap ∧ RdAt w b o (l.map .bool) ∧ l.length ≤ maxLen
theorem SlB.fr {S : List Nat} {w w' : World} {sv : Value} {l : List Bool} (h : SlB w sv l) (hf : Fr S w w') (hS : ∀ b ∈ S, w.heap.size ≤ b) : SlB w' sv l := by
  rcases h with h | h | ⟨b, o, cap, e, hr, hm⟩
  · exact .inl h
  · exact .inr (.inl h)
  · exact .inr <| .inr ⟨b, o, cap, e, hr.fr hf (fun hc => by have := hS b hc; have := hr.1; omega), hm⟩
theorem SlB.shape {w : World} {sv : Value} {l : List Bool} (h : SlB w sv l) : ∃ p cap, sv = .slice p l.length cap := by
  rcases h with ⟨e1, e2⟩ | ⟨p, cap, e1, e2⟩ | ⟨b, o, cap, e, _⟩
  · exact ⟨none, 0, by rw [e1, e2]; rfl⟩
  · exact ⟨some p, cap, by rw [e1, e2]; rfl⟩
  · exact ⟨_, cap, e⟩
theorem SlArg.shape {w : World} {sv : Value} {l : List Int} (h : SlArg w sv l) : ∃ p cap, sv = .slice p l.length cap := by
  rcases h with ⟨e1, e2⟩ | ⟨p, cap, e1, e2⟩ | ⟨b, o, cap, e, _⟩
  · exact ⟨none, 0, by rw [e1, e2]; rfl⟩
  · exact ⟨some p, cap, by rw [e1, e2]; rfl⟩
  · exact ⟨_, cap, e⟩
theorem SlArg.at {w : World} {p : Option Addr} {cap : Nat} {l : List Int} (h : SlArg w (.slice p l.length cap) l) (hl : 0 < l.length) : ∃ b o, p = some ⟨b, o, none⟩ ∧ RdAt w b o (l.map (.int .i64)) := by
  rcases h with ⟨_, e2⟩ | ⟨_, _, _, e2⟩ | ⟨b, o, cap', e, hr, _⟩
  · rw [e2] at hl; simp at hl
  · rw [e2] at hl; simp at hl
  · cases e; exact ⟨b, o, rfl, hr⟩
theorem SlB.at {w : World} {p : Option Addr} {cap : Nat} {l : List Bool} (h : SlB w (.slice p l.length cap) l) (hl : 0 < l.length) : ∃ b o, p = some ⟨b, o, none⟩ ∧ RdAt w b o (l.map .bool) := by
  rcases h with ⟨_, e2⟩ | ⟨_, _, _, e2⟩ | ⟨b, o, cap', e, hr, _⟩
  · rw [e2] at hl; simp at hl
  · rw [e2] at hl; simp at hl
  · cases e; exact ⟨b, o, rfl, hr⟩

def obw (l : List Ob) : List Value := l.flatMap fun o => [.int .i64 7, .int .i64 o.n, .int .i64 o.a, .int .i64 0]
theorem obw_len (l : List Ob) : (obw l).length = l.length * 4 := by induction l with | nil => rfl | cons o l ih => simp [obw] at ih ⊢; omega
theorem info_c4 : (Tryz.prog.info? 92).map (fun i => (i.zero, i.size, i.bytes)) = some (some (.agg #[.int .i64 0, .int .i64 0, .int .i64 0, .int .i64 0]), 4, 32) := by kernel_rfl

/-- What the first loop says. -/
structure CI1 (w w3 : World) (L : HL) (cls : List Int) (atv wv : Value) (obs : List Ob) (wr : World) : Prop where
  at_ : wr.ownsRow w3.heap.size 3 1 atv obs.length (intv (obs.map (·.p)))
  was : wr.ownsRow w3.heap.size 92 4 wv obs.length (obw obs)
  st : ∃ s A z, HRep wr L s ∧ C1 s A z obs ∧ s.cls = cls ∧ s.ws.length ≤ 65536
  ob : ∀ o ∈ obs, 0 ≤ o.a ∧ o.a ≤ 30
  fr : Fr [] w wr
  fr3 : Fr L.fp w3 wr

theorem HRep.fpBlocks {w : World} {L : HL} {s : HS} (h : HRep w L s) : ∀ x ∈ L.fp, x < w.heap.size := fun x hx => all_lt h (by simp only [HL.all, List.mem_cons]; exact .inr (.inr hx))
theorem obw_snoc (l : List Ob) (o : Ob) : obw (l ++ [o]) = obw l ++ [.int .i64 7, .int .i64 o.n, .int .i64 o.a, .int .i64 0] := by simp [obw]
theorem own_slice' {w : World} {B : Nat} {T : TypeId} {v : Value} {n z : Nat} {xs : List Value} (h : w.ownsRow B T z v n xs) (hn : 0 < n) : ∃ g c, v = .slice (some ⟨g, 0, none⟩) n c := by
  obtain ⟨_, h | ⟨g', cap', cur, hv, _⟩⟩ := h
  · omega
  · exact ⟨_, _, hv⟩

theorem own_apart {w : World} {B B' : Nat} {T T' : TypeId} {v v' : Value} {n n' z z' : Nat} {xs xs' : List Value} (h : w.ownsRow B T z v n xs) (h' : w.ownsRow B' T' z' v' n' xs') (hT : T ≠ T') : ∀ g, v.ownBlock = some g → g ∉ v'.ownBlock.toList := by
  intro g hg hc
  obtain ⟨_, h2 | ⟨g1, cap1, cur1, hv1, hg1, hh1, _⟩⟩ := h
  · rw [h2.1] at hg; simp [Value.ownBlock] at hg
  obtain ⟨_, h3 | ⟨g2, cap2, cur2, hv2, hg2, hh2, _⟩⟩ := h'
  · rw [h3.1] at hc; simp [Value.ownBlock] at hc
  rw [hv1] at hg
  rw [hv2] at hc
  simp [Value.ownBlock] at hg hc
  subst hg
  subst hc
  rw [hh1] at hh2
  simp at hh2
  exact hT hh2.2

/-- One object more: behind both appends. -/
theorem CI1.step {w w3 : World} {L : HL} {cls : List Int} {atv wv atv' wv' : Value} {obs : List Ob} {wr w4 w5 w7 : World} (h : CI1 w w3 L cls atv wv obs wr) {o1 : Ob} (ho : 0 ≤ o1.a ∧ o1.a ≤ 30)
    (hst : ∃ s A z, HRep w4 L s ∧ C1 s A z (obs ++ [o1]) ∧ s.cls = cls ∧ s.ws.length ≤ 65536) (hH3 : ∀ x ∈ L.all, x < w3.heap.size) (hw3 : w.heap.size ≤ w3.heap.size) (hfp : ∀ x ∈ L.fp, w.heap.size ≤ x) (hF4 : Fr L.fp wr w4) {n4 : Nat} (hn4 : w4.heap.size = n4)
    (hF5 : Fr atv.ownBlock.toList (w4.alloc (.cells #[.int .i64 o1.p] 3)) w5) (hown5 : w5.ownsRow w3.heap.size 3 1 atv' (obs.length + 1) (intv (obs.map (·.p)) ++ [.int .i64 o1.p]))
    (hF7 : Fr wv.ownBlock.toList (w5.alloc (.cells #[.int .i64 7, .int .i64 o1.n, .int .i64 o1.a, .int .i64 0] 92)) w7) (hown7 : w7.ownsRow w3.heap.size 92 4 wv' (obs.length + 1) (obw obs ++ [.int .i64 7, .int .i64 o1.n, .int .i64 o1.a, .int .i64 0])) :
    CI1 w w3 L cls atv' wv' (obs ++ [o1]) w7 := by
  have la := own_low h.at_
  have lw := own_low h.was
  have hF47 : Fr (atv.ownBlock.toList ++ wv.ownBlock.toList) w4 w7 := ((((Fr.refl _ w4).alloc _).trans (hF5.here (by intro x hx; simp only [List.mem_append]; exact .inl hx))).alloc _).trans (hF7.here (by intro x hx; simp only [List.mem_append]; exact .inr hx))
  have hlow : ∀ x ∈ atv.ownBlock.toList ++ wv.ownBlock.toList, w3.heap.size ≤ x := by
    intro x hx
    rcases List.mem_append.1 hx with hx | hx
    · exact la x hx
    · exact lw x hx
  refine ⟨?_, by rw [obw_snoc]; simpa using hown7, ?_, ?_, ?_, ?_⟩
  · have h5 : w7.ownsRow w3.heap.size 3 1 atv' (obs.length + 1) (intv (obs.map (·.p)) ++ [.int .i64 o1.p]) := by
      refine ownsRow_fr (hown5.alloc _) hF7 ?_
      intro g hg hc
      have hw5 := h.was
      obtain ⟨_, h2 | ⟨g', cap', cur, hv, hg', hh, _⟩⟩ := hw5
      · rw [h2.1] at hc; simp [Value.ownBlock] at hc
      · rw [hv] at hc
        simp [Value.ownBlock] at hc
        subst hc
        have hl := (Array.getElem?_eq_some_iff.1 hh).1
        have e4 : w4.heap[g]? = wr.heap[g]? := hF4.block g hl (fun hc => by have := hH3 g (by simp only [HL.all, List.mem_cons]; exact .inr (.inr hc)); omega)
        have hn : g ∉ atv.ownBlock.toList := by
          intro hc
          obtain ⟨_, h3 | ⟨g2, cap2, cur2, hv2, hg2, hh2, _⟩⟩ := h.at_
          · rw [h3.1] at hc; simp [Value.ownBlock] at hc
          · rw [hv2] at hc
            simp [Value.ownBlock] at hc
            subst hc
            rw [hh] at hh2
            simp at hh2
        have l4 : g < w4.heap.size := Nat.lt_of_lt_of_le hl hF4.size
        have e5 : w5.heap[g]? = w4.heap[g]? := (hF5.block g (by simp; omega) hn).trans (Below.heap_alloc _ _ _ l4)
        obtain ⟨_, h5 | ⟨g3, cap3, cur3, hv3, hg3, hh3, _⟩⟩ := hown5
        · omega
        · rw [hv3] at hg
          simp [Value.ownBlock] at hg
          subst hg
          rw [e5, e4, hh] at hh3
          simp at hh3
    simpa [intv] using h5
  · obtain ⟨s, A, z, h1, h2⟩ := hst
    exact ⟨s, A, z, h1.fr hF47 (fun x hx hc => by have := hlow x hx; have := hH3 x hc; omega), h2⟩
  · intro o ho'
    rcases List.mem_append.1 ho' with h1 | h1
    · exact h.ob o h1
    · obtain rfl := List.mem_singleton.1 h1; exact ho
  · exact (h.fr.step hF4 (fun x hx => .inr (hfp x hx))).step hF47 (fun x hx => .inr (by have := hlow x hx; omega))
  · exact (h.fr3.trans hF4).step hF47 (fun x hx => .inr (hlow x hx))

/-- What stays behind the first loop. -/
structure CF (w w3 : World) (L : HL) (atv wv : Value) (obs : List Ob) (wr : World) : Prop where
  at_ : wr.ownsRow w3.heap.size 3 1 atv obs.length (intv (obs.map (·.p)))
  was : wr.ownsRow w3.heap.size 92 4 wv obs.length (obw obs)
  fr : Fr [] w wr
  fr3 : Fr L.fp w3 wr
theorem CF.step {w w3 : World} {L : HL} {atv wv : Value} {obs : List Ob} {wr w4 : World} (h : CF w w3 L atv wv obs wr) (hF : Fr L.fp wr w4) (h3 : ∀ x ∈ L.all, x < w3.heap.size) (hfp : ∀ x ∈ L.fp, w.heap.size ≤ x) : CF w w3 L atv wv obs w4 :=
  ⟨ownsRow_fr h.at_ hF (fun g hg hc => by have := (own_lt h.at_ hg).1; have := h3 g (by simp only [HL.all, List.mem_cons]; exact .inr (.inr hc)); omega), ownsRow_fr h.was hF (fun g hg hc => by have := (own_lt h.was hg).1; have := h3 g (by simp only [HL.all, List.mem_cons]; exact .inr (.inr hc)); omega), h.fr.step hF (fun x hx => .inr (hfp x hx)), h.fr3.trans hF⟩
theorem own_len {w : World} {B : Nat} {T : TypeId} {v : Value} {n z : Nat} {xs : List Value} (h : w.ownsRow B T z v n xs) : ∃ p c, v = .slice p n c := by
  obtain ⟨_, h | ⟨g', cap', cur, hv, _⟩⟩ := h
  · exact ⟨none, 0, by rw [h.1, h.2]⟩
  · exact ⟨_, _, hv⟩
theorem own_cell {w : World} {B : Nat} {T : TypeId} {p : Option Addr} {c n z : Nat} {xs : List Value} (h : w.ownsRow B T z (.slice p n c) n xs) (hn : 0 < n) : ∃ g, p = some ⟨g, 0, none⟩ ∧ ∀ (j : Nat) (x : Value), xs[j]? = some x → w.cell? ⟨g, j, none⟩ = some x := by
  obtain ⟨hl, h | ⟨g', cap', cur, hv, _, hh, hnc, _, hsz, ht⟩⟩ := h
  · omega
  · cases hv
    refine ⟨g', rfl, fun j x hx => ?_⟩
    have hj := (List.getElem?_eq_some_iff.1 hx).1
    rw [← ht, List.getElem?_take] at hx
    split at hx
    · simpa [World.cell?, hh] using hx
    · cases hx

theorem flatten4 {segs : List (List Value)} (h : ∀ sg ∈ segs, sg.length = 4) : ∀ (i j : Nat) (sg : List Value), segs[i]? = some sg → j < 4 → segs.flatten[i * 4 + j]? = sg[j]? := by
  induction segs with
  | nil => intro i j sg hi; simp at hi
  | cons s0 l ih =>
    intro i j sg hi hj
    have h0 := h s0 (by simp)
    cases i with
    | zero =>
      simp at hi; subst hi
      simp only [List.flatten_cons, Nat.zero_mul, Nat.zero_add]
      rw [List.getElem?_append_left (by omega)]
    | succ i =>
      simp only [List.flatten_cons]
      rw [List.getElem?_append_right (by omega), h0, show (i + 1) * 4 + j - 4 = i * 4 + j by omega]
      exact ih (fun sg hs => h sg (by simp [hs])) i j sg (by simpa using hi) hj
theorem obw_get {l : List Ob} {i : Nat} {o : Ob} (h : l[i]? = some o) : (obw l)[i * 4 + 1]? = some (.int .i64 o.n) ∧ (obw l)[i * 4 + 2]? = some (.int .i64 o.a) := by
  have e : obw l = (l.map (fun o => [.int .i64 7, .int .i64 o.n, .int .i64 o.a, .int .i64 0])).flatten := by simp [obw, List.flatMap]
  have h4 : ∀ sg ∈ l.map (fun o : Ob => [Value.int .i64 7, .int .i64 o.n, .int .i64 o.a, .int .i64 0]), sg.length = 4 := by
    intro sg hs
    obtain ⟨o, _, rfl⟩ := List.mem_map.1 hs
    rfl
  have hi : (l.map (fun o : Ob => [Value.int .i64 7, .int .i64 o.n, .int .i64 o.a, .int .i64 0]))[i]? = some [.int .i64 7, .int .i64 o.n, .int .i64 o.a, .int .i64 0] := by simp [h]
  rw [e]
  exact ⟨flatten4 h4 i 1 _ hi (by decide), flatten4 h4 i 2 _ hi (by decide)⟩
theorem SegsI.black {W : World} {base n : Nat} {p : Option Addr} {c : Nat} {Rs : List Rows} (h : SegsI W base (.slice p n c) Rs) (hn : n = Rs.length) {i : Nat} {R : Rows} (hR : Rs[i]? = some R) : ∃ g, p = some ⟨g, 0, none⟩ ∧ ∃ x cc, W.cell? ⟨g, i * 4 + 3, none⟩ = some (.slice x R.B.length cc) := by
  subst hn
  obtain ⟨segs, h1, h2, h3⟩ := h.ex
  have hi := (List.getElem?_eq_some_iff.1 hR).1
  obtain ⟨g, hg, hc⟩ := own_cell h1 (by omega)
  refine ⟨g, hg, ?_⟩
  obtain ⟨sg, hsg⟩ : ∃ sg, segs[i]? = some sg := ⟨_, List.getElem?_eq_getElem (by omega)⟩
  have h4 : ∀ sg ∈ segs, sg.length = 4 := by
    intro sg hs
    obtain ⟨k, hk, rfl⟩ := List.getElem_of_mem hs
    obtain ⟨v0, v1, v2, v3, e, _⟩ := (h3 k _ Rs[k] (List.getElem?_eq_getElem hk) (List.getElem?_eq_getElem (by omega))).ex
    have := congrArg (fun v : Value => match v with | .agg a => a.size | _ => 0) e
    simpa using this
  obtain ⟨v0, v1, v2, v3, e, _, _, _, w3⟩ := (h3 i sg R hsg hR).ex
  have e2 : sg = [v0, v1, v2, v3] := by
    have := congrArg (fun v : Value => match v with | .agg a => a.toList | _ => []) e
    simpa using this
  obtain ⟨x, cc, rfl⟩ := own_len w3
  refine ⟨x, cc, hc _ _ ?_⟩
  rw [flatten4 h4 i 3 sg hsg (by decide), e2]
  rfl
def blackTo (Rs : List Rows) (k : Nat) : Nat := ((Rs.take k).map (fun R => R.B.length)).sum
theorem blackTo_succ {Rs : List Rows} {k : Nat} {R : Rows} (h : Rs[k]? = some R) : blackTo Rs (k + 1) = blackTo Rs k + R.B.length := by
  unfold blackTo
  rw [List.take_add_one, h]
  simp
theorem blackTo_le (Rs : List Rows) (k : Nat) : blackTo Rs k ≤ blackTo Rs Rs.length := by
  have e : blackTo Rs Rs.length = blackTo Rs k + ((Rs.drop k).map (fun R => R.B.length)).sum := by
    unfold blackTo
    rw [List.take_length, ← List.sum_append, ← List.map_append, List.take_append_drop]
  omega
theorem blackTo_all (A : Rg) (n : Nat) : blackTo (rowsTo A n ++ [A none]) (n + 1) = bN A n := by
  unfold blackTo bN sumK rowsTo
  rw [List.take_of_length_le (by simp)]
  simp [List.map_map]
  rfl

theorem hParity' (L : HL) (s : HS) (pr : Int) (hpr : s.parity = pr) (w : World) (hH : HRep w L s) :
    Calls Tryz.prog 41 #[.pointer (some ⟨L.hb, 0, none⟩)] w fun e w' => e = .returned (.int .i64 pr) ∧ w' = w := by
  subst hpr
  refine (hParity L s w hH).mono ?_
  rintro e w' ⟨rfl, rfl⟩
  exact ⟨rfl, rfl⟩

theorem hGetV (L : HL) (s : HS) (p : Int) (k z a m : Int) (j v : Int) (w : World) (hH : HRep w L s) (p0 : 0 ≤ p) (p1 : p + 3 + z ≤ s.ws.length) (hp : gw s.ws p = packed k z a m) (hd : Hd k z a m) (j0 : 0 ≤ j) (j1 : j < z) (hv : gw s.ws (p + 3 + j) = v) :
    Calls Tryz.prog 21 #[.pointer (some ⟨L.hb, 0, none⟩), .int .i64 p, .int .i64 j] w fun e w' => e = .returned (.tuple #[.int .i64 v, .int .i64 0]) ∧ HRep w' L (s.tick 2) ∧ Fr [L.ab] w w' := by
  subst hv; exact hGet L s p k z a m j w hH p0 p1 hp hd j0 j1

/-- Is the object number j kept? -/
def kpt (kp : List Bool) (j : Nat) : Bool := (kp[j]?).getD false

end Go.Proofs.YtifillpcphiblaaGreat
