import Derived.Test.YtifillpcphiblaaHList2
import Derived.Laws.EntriesVeiled
namespace Go.Proofs.Ytifillpcphiblaa
open Go Go.Proofs Go.RowKit Go.Shelf

attribute [local go_sem] Oper.semAt_some

/-- A segment's rows, each in cells that are new. -/
structure SegV (W : World) (base : Nat) (v : Value) (R : Rows) : Prop where
  ex : ∃ v0 v1 v2 v3, v = .agg #[v0, v1, v2, v3] ∧ W.ownsRow base 3 1 v0 R.W.length (intv R.W) ∧ W.ownsRow base 3 1 v1 R.F.length (intv R.F) ∧ W.ownsRow base 3 1 v2 R.G.length (intv R.G) ∧ W.ownsRow base 3 1 v3 R.B.length (intv R.B)

theorem cells_in (F : Fence) (n : Nat) (hf : F.fn 129) (hro : F.round = none) (rb : Nat) (w : World) :
    CallsIn F n Try.prog 129 #[.pointer (some ⟨rb, 0, none⟩)] w fun e w' => e = .returned (.func (.func 151) #[] #[.pointer (some ⟨w.heap.size, 0, none⟩)]) ∧ w' = w.alloc (.cells #[.pointer (some ⟨rb, 0, none⟩)] 87) := by
  refine callsIn_of_wp Try.func129 rfl hf ?_ hro
  simp only [Try.ntmps129, List.size_toArray, List.length_cons, List.length_nil, Nat.reduceAdd, Nat.reduceSub, Array.replicate_succ, Array.replicate_zero, List.push_toArray, List.append_toArray, List.nil_append, List.cons_append]
  gi_wp2
  go_ret
  exact ⟨rfl, rfl⟩

def LSt.lens (s : LSt) : Nat := s.A.length + s.B.length + s.C.length + s.D.length
theorem LSt.lens_step (s : LSt) (x : Int) : (s.step x).lens = s.lens + 1 := by
  unfold LSt.step LSt.lens
  split
  · simp; omega
  · split
    · simp; omega
    · split <;> simp <;> omega
theorem LSt.lens_steps (s : LSt) (l : List Int) : (s.steps l).lens = s.lens + l.length := by
  induction l generalizing s with
  | nil => simp [LSt.steps]
  | cons x l ih =>
    have h1 := s.lens_step x
    have h2 := ih (s.step x)
    simp only [LSt.steps, List.foldl_cons, List.length_cons] at h2 ⊢
    omega
theorem LSt.os_le (s : LSt) : ∀ xs ∈ s.os, xs.length ≤ s.lens := by
  intro xs hx
  unfold LSt.lens
  simp [LSt.os] at hx
  rcases hx with rfl | rfl | rfl | rfl <;> omega
theorem own_slice {w : World} {B : Nat} {T : TypeId} {v : Value} {n z : Nat} {xs : List Value} (h : w.ownsRow B T z v n xs) : ∃ p m c, v = .slice p m c := by
  obtain ⟨_, h | ⟨g', cap', cur, hv, _⟩⟩ := h
  · exact ⟨_, _, _, h.1⟩
  · exact ⟨_, _, _, hv⟩
def RS.lst (r : RS) : LSt := ⟨r.w, r.f, r.g, r.b, [], [], [], []⟩
/-- What the loop of List says. -/
def LInv (cb lf ob base ab wb : Nat) (ws : List Int) (u : Int) (r : RS) (W2 : World) (pre : List (Int × Int)) (W : World) : Prop :=
  LI cb lf ob base (r.lst.steps (pre.map (·.2))) W ∧ Fr [cb, lf, ob, ab] W2 W ∧ ∃ k : Nat, ARep W ab wb ws (u + k)
theorem LInv.own {cb lf ob base ab wb : Nat} {ws : List Int} {u : Int} {r : RS} {W2 : World} (h1 : cb < W2.heap.size) (h2 : lf < W2.heap.size) (h3 : ob < W2.heap.size) (h4 : ab < W2.heap.size) (h5 : wb < W2.heap.size) : OwnFrom W2.heap.size (LInv cb lf ob base ab wb ws u r W2) := by
  rintro pre A B row ⟨g1, g2, k, g3⟩ hg hr
  have hf : Fr row.toList A B := Fr.of_grownBy (S := row.toList) hg (fun k e => .inl (by simp [e]))
  have hrow : ∀ b ∈ row.toList, W2.heap.size ≤ b ∧ ∃ o, A.heap[b]? = some o ∧ o.isCells = false := fun b hb => hr b (by simpa using hb)
  refine ⟨g1.fr hf (fun b hb => ?_), g2.step hf (fun b hb => .inr (hrow b hb).1), k, g3.fr hf (fun hc => by have := (hrow _ hc).1; omega) (fun hc => by have := (hrow _ hc).1; omega)⟩
  have := (hrow b hb).1
  exact ⟨by omega, by omega, by omega, .inr (hrow b hb).2⟩
theorem LInv.ab {cb lf ob base ab wb : Nat} {ws : List Int} {u : Int} {r : RS} {W2 : World} (h1 : ab ≠ cb) (h2 : ab ≠ lf) (h3 : ab ≠ ob) (h4 : ab < base) : ∀ pre A B, LInv cb lf ob base ab wb ws u r W2 pre A → AbU ab wb A B → LInv cb lf ob base ab wb ws u r W2 pre B := by
  rintro pre A B ⟨g1, g2, k, g3⟩ hab
  obtain ⟨k', g4⟩ := hab.arena _ _ g3
  refine ⟨g1.fr hab.fr (fun b hb => ?_), g2.trans (hab.fr.here (by simp)), k + k', by rw [Int.add_assoc] at g4; simpa using g4⟩
  simp at hb; subst hb
  exact ⟨h1, h2, h3, .inl h4⟩

set_option maxRecDepth 100000 in
set_option maxHeartbeats 4000000 in
theorem rList (rb ab wb : Nat) (r : RS) (ws : List Int) (u : Int) (R : Rows) (w : World) (hR : RRep w rb ab r) (hA : ARep w ab wb ws u) (hI : RI ws r R) (n2 : rb ≠ ab) :
    Calls Try.prog 88 #[.pointer (some ⟨rb, 0, none⟩)] w fun e w' => (∃ v, e = .returned v ∧ SegV w' w.heap.size v R) ∧ (∃ k : Nat, ARep w' ab wb ws (u + k)) ∧ Fr [ab] w w' := by
  refine (callsIn_wide (n := 3)).1 ?_
  have c3 := hR.reads.2.2.2.1
  have c4 := hR.reads.2.2.2.2.1
  have c5 := hR.reads.2.2.2.2.2.1
  have c6 := hR.reads.2.2.2.2.2.2
  have l1 := hR.s.lt
  have l2 := hA.s.lt
  refine callsIn_of_wp_marks Try.func88 rfl trivial ?_ rfl
  simp only [Try.ntmps88, List.size_toArray, List.length_cons, List.length_nil, Nat.reduceAdd, Nat.reduceSub, Array.replicate_succ, Array.replicate_zero, List.push_toArray, List.append_toArray, List.nil_append, List.cons_append]
  gi_wp2_with fail
  have o0 := Blk.new (w.alloc (.cells #[.slice none 0 0, .slice none 0 0, .slice none 0 0, .slice none 0 0] 58)) [.slice none 0 0, .slice none 0 0, .slice none 0 0, .slice none 0 0] 58
  have s0 := Blk.new w [.slice none 0 0, .slice none 0 0, .slice none 0 0, .slice none 0 0] 58
  have p0 := Blk.new ((w.alloc (.cells #[.slice none 0 0, .slice none 0 0, .slice none 0 0, .slice none 0 0] 58)).alloc (.cells #[.slice none 0 0, .slice none 0 0, .slice none 0 0, .slice none 0 0] 58)) [.pointer (some ⟨w.heap.size + 1, 0, none⟩), .pointer (some ⟨w.heap.size + 1, 1, none⟩), .pointer (some ⟨w.heap.size + 1, 2, none⟩), .pointer (some ⟨w.heap.size + 1, 3, none⟩)] 196
  obtain ⟨W0, hW0⟩ : ∃ W0, W0 = ((w.alloc (.cells #[.slice none 0 0, .slice none 0 0, .slice none 0 0, .slice none 0 0] 58)).alloc (.cells #[.slice none 0 0, .slice none 0 0, .slice none 0 0, .slice none 0 0] 58)).alloc (.cells #[.pointer (some ⟨w.heap.size + 1, 0, none⟩), .pointer (some ⟨w.heap.size + 1, 1, none⟩), .pointer (some ⟨w.heap.size + 1, 2, none⟩), .pointer (some ⟨w.heap.size + 1, 3, none⟩)] 196) := ⟨_, rfl⟩
  replace o0 := o0.alloc (.cells #[.pointer (some ⟨w.heap.size + 1, 0, none⟩), .pointer (some ⟨w.heap.size + 1, 1, none⟩), .pointer (some ⟨w.heap.size + 1, 2, none⟩), .pointer (some ⟨w.heap.size + 1, 3, none⟩)] 196)
  replace s0 := (s0.alloc (.cells #[.slice none 0 0, .slice none 0 0, .slice none 0 0, .slice none 0 0] 58)).alloc (.cells #[.pointer (some ⟨w.heap.size + 1, 0, none⟩), .pointer (some ⟨w.heap.size + 1, 1, none⟩), .pointer (some ⟨w.heap.size + 1, 2, none⟩), .pointer (some ⟨w.heap.size + 1, 3, none⟩)] 196)
  have hF0 : Fr [] w W0 := by rw [hW0]; exact (((Fr.refl [] w).alloc _).alloc _).alloc _
  have hsz : W0.heap.size = w.heap.size + 3 := by rw [hW0]; simp
  simp only [World.size_alloc] at o0 s0 p0
  rw [← hW0] at o0 s0 p0 ⊢
  clear hW0
  have hR0 := hR.fr hF0 (by simp)
  have hA0 := hA.fr hF0 (by simp) (by simp)
  clear c3 c4 c5 c6
  have c3 := hR0.reads.2.2.2.1
  have c4 := hR0.reads.2.2.2.2.1
  have c5 := hR0.reads.2.2.2.2.2.1
  have c6 := hR0.reads.2.2.2.2.2.2
  have l3 := hR0.s.lt
  have e1 : ∀ o o' i, ((W0.alloc o).alloc o').cell? ⟨rb, i, none⟩ = W0.cell? ⟨rb, i, none⟩ := fun o o' i => cell_fr (((Fr.refl [] W0).alloc o).alloc o') (by simp) l3 i
  have e2 : ∀ o i, (W0.alloc o).cell? ⟨rb, i, none⟩ = W0.cell? ⟨rb, i, none⟩ := fun o i => cell_fr ((Fr.refl [] W0).alloc o) (by simp) l3 i
  gi_region
  all_goals
    first
      | (
        have hc := ((Blk.new W0 [.int .i64 0] 3).alloc (.cells #[.int .i64 r.w, .int .i64 r.f, .int .i64 r.g, .int .i64 r.b] 180)).drew
        have hl := (Blk.new (W0.alloc (.cells #[.int .i64 0] 3)) [.int .i64 r.w, .int .i64 r.f, .int .i64 r.g, .int .i64 r.b] 180).drew
        have hF1 : Fr [] W0 ((W0.alloc (.cells #[.int .i64 0] 3)).alloc (.cells #[.int .i64 r.w, .int .i64 r.f, .int .i64 r.g, .int .i64 r.b] 180)).drew := (((Fr.refl [] W0).alloc _).alloc _).drew
        obtain ⟨W1, hW1⟩ : ∃ W1, W1 = ((W0.alloc (.cells #[.int .i64 0] 3)).alloc (.cells #[.int .i64 r.w, .int .i64 r.f, .int .i64 r.g, .int .i64 r.b] 180)).drew := ⟨_, rfl⟩
        have hsz1 : W1.heap.size = w.heap.size + 5 := by rw [hW1]; simp [hsz]
        rw [World.size_alloc, hsz] at hl
        rw [hsz] at hc
        rw [← hW1] at hc hl hF1 ⊢
        obtain ⟨cb, hcb⟩ : ∃ cb, cb = w.heap.size + 3 := ⟨_, rfl⟩
        rw [← hcb] at hc hl ⊢
        obtain ⟨lf, hlf⟩ : ∃ lf, lf = cb + 1 := ⟨_, rfl⟩
        rw [← hlf] at hl ⊢
        have hcl := hid (show (cb = w.heap.size + 3 ∧ lf = w.heap.size + 4) ∨ (cb = w.heap.size + 4 ∧ lf = w.heap.size + 3) by omega)
        )
      | (
        have hl := ((Blk.new W0 [.int .i64 r.w, .int .i64 r.f, .int .i64 r.g, .int .i64 r.b] 180).alloc (.cells #[.int .i64 0] 3)).drew
        have hc := (Blk.new (W0.alloc (.cells #[.int .i64 r.w, .int .i64 r.f, .int .i64 r.g, .int .i64 r.b] 180)) [.int .i64 0] 3).drew
        have hF1 : Fr [] W0 ((W0.alloc (.cells #[.int .i64 r.w, .int .i64 r.f, .int .i64 r.g, .int .i64 r.b] 180)).alloc (.cells #[.int .i64 0] 3)).drew := (((Fr.refl [] W0).alloc _).alloc _).drew
        obtain ⟨W1, hW1⟩ : ∃ W1, W1 = ((W0.alloc (.cells #[.int .i64 r.w, .int .i64 r.f, .int .i64 r.g, .int .i64 r.b] 180)).alloc (.cells #[.int .i64 0] 3)).drew := ⟨_, rfl⟩
        have hsz1 : W1.heap.size = w.heap.size + 5 := by rw [hW1]; simp [hsz]
        rw [World.size_alloc, hsz] at hc
        rw [hsz] at hl
        rw [← hW1] at hc hl hF1 ⊢
        obtain ⟨lf, hlf⟩ : ∃ lf, lf = w.heap.size + 3 := ⟨_, rfl⟩
        rw [← hlf] at hc hl ⊢
        obtain ⟨cb, hcb⟩ : ∃ cb, cb = lf + 1 := ⟨_, rfl⟩
        rw [← hcb] at hc ⊢
        have hcl := hid (show (cb = w.heap.size + 3 ∧ lf = w.heap.size + 4) ∨ (cb = w.heap.size + 4 ∧ lf = w.heap.size + 3) by omega)
        )
  all_goals
    clear hW1 hcb hlf c3 c4 c5 c6 e1 e2
    have Hsz1 := hid hsz1
    clear hsz1
    have hR1 := hR0.fr hF1 (by simp)
    have hA1 := hA0.fr hF1 (by simp) (by simp)
    replace o0 := o0.fr hF1 (by simp)
    replace p0 := p0.fr hF1 (by simp)
    replace s0 := s0.fr hF1 (by simp)
    gi_wp2_with (refine ⟨trivial, ?_⟩; gi_at_call 129; refine (cells_in Fence.wide 2 trivial rfl rb _).mono ?_; rintro e w' ⟨rfl, rfl⟩)
    have bF := Blk.new W1 [.func (.func 128) #[] #[.pointer (some ⟨lf, 0, none⟩), .pointer (some ⟨cb, 0, none⟩), .pointer (some ⟨w.heap.size + 1 + 1, 0, none⟩)]] 70
    have bP := Blk.new (W1.alloc (.cells #[.func (.func 128) #[] #[.pointer (some ⟨lf, 0, none⟩), .pointer (some ⟨cb, 0, none⟩), .pointer (some ⟨w.heap.size + 1 + 1, 0, none⟩)]] 70)) [.pointer (some ⟨rb, 0, none⟩)] 87
    replace bF := bF.alloc (.cells #[.pointer (some ⟨rb, 0, none⟩)] 87)
    have hF2 : Fr [] W1 ((W1.alloc (.cells #[.func (.func 128) #[] #[.pointer (some ⟨lf, 0, none⟩), .pointer (some ⟨cb, 0, none⟩), .pointer (some ⟨w.heap.size + 1 + 1, 0, none⟩)]] 70)).alloc (.cells #[.pointer (some ⟨rb, 0, none⟩)] 87)) := ((Fr.refl [] W1).alloc _).alloc _
    obtain ⟨W2, hW2⟩ : ∃ W2, W2 = (W1.alloc (.cells #[.func (.func 128) #[] #[.pointer (some ⟨lf, 0, none⟩), .pointer (some ⟨cb, 0, none⟩), .pointer (some ⟨w.heap.size + 1 + 1, 0, none⟩)]] 70)).alloc (.cells #[.pointer (some ⟨rb, 0, none⟩)] 87) := ⟨_, rfl⟩
    have hsz2 : W2.heap.size = w.heap.size + 7 := by rw [hW2]; simp; rw [Hsz1.out]
    rw [World.size_alloc] at bP
    rw [← hW2] at bF bP hF2 ⊢
    clear hW2
    have hC := hcl.out
    have hS1 := Hsz1.out
    have hFw : Fr [] w W2 := (hF0.trans hF1).trans hF2
    replace hc := hc.fr hF2 (by simp)
    replace hl := hl.fr hF2 (by simp)
    replace o0 := o0.fr hF2 (by simp)
    replace p0 := p0.fr hF2 (by simp)
    replace s0 := s0.fr hF2 (by simp)
    have hR2 := hR1.fr hF2 (by simp)
    have hA2 := hA1.fr hF2 (by simp) (by simp)
    have lwb := hA.c.lt
    have hIv : LInv cb lf (w.heap.size + 1) W2.heap.size ab wb ws u r W2 [] W2 := by
      refine ⟨⟨0, _, hc, hl, o0, ⟨rfl, ?_, ?_⟩, by omega, fun j hj => by omega⟩, Fr.refl _ _, 0, by simpa using hA2⟩
      · intro i v xs hi hx
        have hi4 : i < 4 := (List.getElem?_eq_some_iff.1 hi).1
        rcases (by omega : i = 0 ∨ i = 1 ∨ i = 2 ∨ i = 3) with rfl | rfl | rfl | rfl <;> (simp [LSt.os, LSt.steps, RS.lst] at hi hx; subst hi; subst hx; exact ⟨by simp [intv], .inl ⟨rfl, rfl⟩⟩)
      · intro i j v v' _ hi _ g hg
        have hi4 : i < 4 := (List.getElem?_eq_some_iff.1 hi).1
        rcases (by omega : i = 0 ∨ i = 1 ∨ i = 2 ∨ i = 3) with rfl | rfl | rfl | rfl <;> (simp at hi; subst hi; simp [Value.ownBlock] at hg)
    have htot := hI.tot
    have hle := hR.le
    refine wpIn_rangeM (n := 3) (gf := 151) (lb := #[.pointer (some ⟨W1.heap.size + 1, 0, none⟩)]) rfl (enters_of Try.func151 (by kernel_rfl) rfl)
      (cells_iter (W1.heap.size + 1) rb ab wb r ws u R.all W2 bP hR2 hA2 hI.chain (by omega) n2) (by intro b hb; simp at hb; rcases hb with rfl | rfl | rfl | rfl <;> omega) (fun A B h => h.others) (fun _ => rfl)
      (LInv cb lf (w.heap.size + 1) W2.heap.size ab wb ws u r W2) (fun _ _ _ => False) (LInv.own (by omega) (by omega) (by omega) (by omega) (by omega)) (fun _ _ _ _ _ hs _ _ => hs) (LInv.ab (by omega) (by omega) (by omega) (by omega)) hIv
      (fun x => { tmps := #[.pointer (some ⟨rb, 0, none⟩), undef, .pointer (some ⟨w.heap.size, 0, none⟩), .pointer (some ⟨w.heap.size + 1, 0, none⟩), .pointer (some ⟨w.heap.size + 1 + 1, 0, none⟩), .pointer (some ⟨cb, 0, none⟩), .pointer (some ⟨lf, 0, none⟩), .pointer (some ⟨W1.heap.size, 0, none⟩), undef, .int .i64 x.2, .pointer (some ⟨w.heap.size + 1, 0, none⟩), .pointer (some ⟨w.heap.size + 1, 1, none⟩), .pointer (some ⟨w.heap.size + 1, 2, none⟩), .pointer (some ⟨w.heap.size + 1, 3, none⟩), .agg #[.pointer (some ⟨w.heap.size + 1, 0, none⟩), .pointer (some ⟨w.heap.size + 1, 1, none⟩), .pointer (some ⟨w.heap.size + 1, 2, none⟩), .pointer (some ⟨w.heap.size + 1, 3, none⟩)], .pointer (some ⟨rb, 0, none⟩), .pointer (some ⟨rb, 0, none⟩), .pointer (some ⟨rb, 3, none⟩), .agg #[.int .i64 r.w, .int .i64 r.f, .int .i64 r.g, .int .i64 r.b], .func (.func 128) #[] #[.pointer (some ⟨lf, 0, none⟩), .pointer (some ⟨cb, 0, none⟩), .pointer (some ⟨w.heap.size + 1 + 1, 0, none⟩)], .pointer (some ⟨rb, 0, none⟩), .func (.func 151) #[] #[.pointer (some ⟨W1.heap.size + 1, 0, none⟩)], .int .i64 x.1, .int .i64 x.2, undef, undef, undef, undef], defers := [] }) ?assign ?body ?done ?stop
    case assign =>
      intro l x W K hK
      clear hC hS1 hsz2 htot hIv
      gi_wp2
      exact hK
    case body =>
      rintro l pre x W hWs ⟨hLI, hFW, k, hAW⟩ hlen
      have hleft := r.lst.left_steps (pre.map (·.2)) (by rw [← htot] at hlen; simp [LSt.left, RS.lst, RS.tot] at hlen ⊢; omega)
      have hlens := r.lst.lens_steps (pre.map (·.2))
      have hos := (r.lst.steps (pre.map (·.2))).os_le
      have hlf : r.lst.left = r.tot := by simp [LSt.left, RS.lst, RS.tot]; omega
      have hl0 : r.lst.lens = 0 := rfl
      simp only [List.length_map] at hleft hlens
      have q7 := (bF.fr hFW (by simp; omega)).cell (i := 0) rfl
      have hpW := p0.fr hFW (by simp; omega)
      have key := listStep_LI cb lf (w.heap.size + 1 + 1) (w.heap.size + 1) W2.heap.size _ x.2 W hLI (by omega) (by omega) (fun xs hx => by have := hos xs hx; omega) hpW (by omega) (by omega) (by omega) (by omega) (by omega) (by omega) (by omega) (by omega) (by omega) (by omega) hWs
      have HK := hid (⟨hleft, hlens, hlf, hl0⟩ : _ ∧ _ ∧ _ ∧ _)
      have hC' := hid hC
      have hS1' := hid hS1
      have hs2' := hid hsz2
      clear hleft hlens hlf hl0 hC hS1 hsz2 htot hos
      gi_wp2_with (refine ⟨trivial, ?_⟩; gi_at_call 128; refine (CallsIn.inRound l (callsIn_wide.2 key)).mono ?_; rintro e w1 ⟨rfl, hLI1, S, hF1', hS⟩)
      have hC := hC'.out
      have hS1 := hS1'.out
      have hsz2 := hs2'.out
      have hcell : ∀ b ∈ cb :: lf :: (w.heap.size + 1) :: S, ∀ o, W.heap[b]? = some o → o.isCells = true := by
        obtain ⟨k', vs, g1, g2, g3, _⟩ := hLI.ex
        intro b hb o ho
        simp only [List.mem_cons] at hb
        rcases hb with rfl | rfl | rfl | hb
        · exact g1.cells o ho
        · exact g2.cells o ho
        · exact g3.cells o ho
        · exact (hS b hb).2 o ho
      refine ⟨hF1'.others hcell, hF1'.keepL (fun b hb => ?_) (fun b hb hc => ?_), ?_, ?_, k, ?_⟩
      · simp at hb; rcases hb with rfl | rfl | rfl | rfl <;> omega
      · simp only [List.mem_cons] at hc
        have : b < W2.heap.size ∧ b ≠ cb ∧ b ≠ lf ∧ b ≠ w.heap.size + 1 := by simp at hb; rcases hb with rfl | rfl | rfl | rfl <;> omega
        rcases hc with h | h | h | h
        · omega
        · omega
        · omega
        · have := (hS b h).1; omega
      · simp only [List.map_append, List.map_cons, List.map_nil]
        rw [LSt.steps_append]
        exact hLI1
      · refine hFW.step hF1' (fun b hb => ?_)
        simp only [List.mem_cons] at hb
        rcases hb with rfl | rfl | rfl | hb
        · simp
        · simp
        · simp
        · exact .inr (hS b hb).1
      · refine hAW.fr hF1' (fun hc => ?_) (fun hc => ?_)
        · simp only [List.mem_cons] at hc
          rcases hc with h | h | h | h
          · omega
          · omega
          · omega
          · have := (hS _ h).1; omega
        · simp only [List.mem_cons] at hc
          rcases hc with h | h | h | h
          · omega
          · omega
          · omega
          · have := (hS _ h).1; omega
    case done =>
      rintro D ys W hD rfl ⟨hLI, hFW, k, hAW⟩ hK
      rw [prs_snd] at hLI
      have hst : r.lst.steps R.all = ⟨0, 0, 0, 0, R.W, R.F, R.G, R.B⟩ := by
        have := LSt.whole R
        rw [← hI.nw, ← hI.nf, ← hI.ng, ← hI.nb] at this
        exact this
      rw [hst] at hLI
      obtain ⟨k', vs, g1, g2, g3, g4, -⟩ := hLI.ex
      have h4 := g4.len
      obtain ⟨v0, v1, v2, v3, rfl⟩ : ∃ v0 v1 v2 v3, vs = [v0, v1, v2, v3] := by
        match vs, h4 with
        | [v0, v1, v2, v3], _ => exact ⟨v0, v1, v2, v3, rfl⟩
      have w0 := g4.row 0 v0 R.W rfl rfl
      have w1 := g4.row 1 v1 R.F rfl rfl
      have w2 := g4.row 2 v2 R.G rfl rfl
      have w3 := g4.row 3 v3 R.B rfl rfl
      obtain ⟨x0, y0, z0, rfl⟩ := own_slice w0
      obtain ⟨x1, y1, z1, rfl⟩ := own_slice w1
      obtain ⟨x2, y2, z2, rfl⟩ := own_slice w2
      obtain ⟨x3, y3, z3, rfl⟩ := own_slice w3
      have a0 := g3.cell (i := 0) rfl
      have a1 := g3.cell (i := 1) rfl
      have a2 := g3.cell (i := 2) rfl
      have a3 := g3.cell (i := 3) rfl
      have sW := s0.fr hFW (by simp; omega)
      have b0 := sW.cell (i := 0) rfl
      have b1 := sW.cell (i := 1) rfl
      have b2 := sW.cell (i := 2) rfl
      have b3 := sW.cell (i := 3) rfl
      have f0 := sW.frozen 0
      have f1 := sW.frozen 1
      have f2 := sW.frozen 2
      have f3 := sW.frozen 3
      have hC' := hid hC
      have hS1' := hid hS1
      have hs2' := hid hsz2
      have hst' := hid hst
      clear hC hS1 hsz2 htot hst h4 hIv
      gi_wp2
      have hC := hC'.out
      have hS1 := hS1'.out
      have hsz2 := hs2'.out
      have hKo := (((KeepsOthers.setCell W ⟨w.heap.size, 0, none⟩ (.slice x0 y0 z0)).trans (KeepsOthers.setCell _ ⟨w.heap.size, 1, none⟩ (.slice x1 y1 z1))).trans (KeepsOthers.setCell _ ⟨w.heap.size, 2, none⟩ (.slice x2 y2 z2))).trans (KeepsOthers.setCell _ ⟨w.heap.size, 3, none⟩ (.slice x3 y3 z3))
      have hK' := hKo.same D _ hK rfl
      have hB4 : Blk ((((W.setCell ⟨w.heap.size, 0, none⟩ (.slice x0 y0 z0)).setCell ⟨w.heap.size, 1, none⟩ (.slice x1 y1 z1)).setCell ⟨w.heap.size, 2, none⟩ (.slice x2 y2 z2)).setCell ⟨w.heap.size, 3, none⟩ (.slice x3 y3 z3)) w.heap.size [.slice x0 y0 z0, .slice x1 y1 z1, .slice x2 y2 z2, .slice x3 y3 z3] 58 := by
        have := (((sW.set 0 (.slice x0 y0 z0)).set 1 (.slice x1 y1 z1)).set 2 (.slice x2 y2 z2)).set 3 (.slice x3 y3 z3)
        simpa using this
      have hFs : Fr [w.heap.size] W ((((W.setCell ⟨w.heap.size, 0, none⟩ (.slice x0 y0 z0)).setCell ⟨w.heap.size, 1, none⟩ (.slice x1 y1 z1)).setCell ⟨w.heap.size, 2, none⟩ (.slice x2 y2 z2)).setCell ⟨w.heap.size, 3, none⟩ (.slice x3 y3 z3)) :=
        ((((Fr.refl [w.heap.size] W).set (by simp) _).set (by simp) _).set (by simp) _).set (by simp) _
      refine ⟨by simp, .inl ⟨_, _, rfl, run_takeDeferred hK', ?_⟩⟩
      obtain ⟨W4, hW4⟩ : ∃ W4, W4 = ((((W.setCell ⟨w.heap.size, 0, none⟩ (.slice x0 y0 z0)).setCell ⟨w.heap.size, 1, none⟩ (.slice x1 y1 z1)).setCell ⟨w.heap.size, 2, none⟩ (.slice x2 y2 z2)).setCell ⟨w.heap.size, 3, none⟩ (.slice x3 y3 z3)) := ⟨_, rfl⟩
      rw [← hW4] at hB4 hFs ⊢
      clear hW4 hK'
      have hFt : Fr [w.heap.size, D] W (W4.putObj D (.deferred none)) := (hFs.here (by simp)).trans ((fr_putObj W4 D _).here (by simp))
      have hB5 := hB4.fr (fr_putObj W4 D (.deferred none)) (by simp; omega)
      have r0 := hB5.cell (i := 0) rfl
      have r1 := hB5.cell (i := 1) rfl
      have r2 := hB5.cell (i := 2) rfl
      have r3 := hB5.cell (i := 3) rfl
      have hrow : ∀ {v : Value} {xs : List Int}, W.ownsRow W2.heap.size 3 1 v xs.length (intv xs) → (W4.putObj D (.deferred none)).ownsRow w.heap.size 3 1 v xs.length (intv xs) := by
        intro v xs h
        refine ownsRow_base (ownsRow_fr h hFt ?_) (by omega)
        intro g hg hc
        have hlt := own_lt h hg
        simp at hc
        rcases hc with rfl | rfl
        · omega
        · have := own_cells h hg _ hK
          cases this
      refine ⟨.agg #[.slice x0 y0 z0, .slice x1 y1 z1, .slice x2 y2 z2, .slice x3 y3 z3], by simp [results, Try.f88, go_sem, r0, r1, r2, r3], ⟨_, rfl, _, _, _, _, rfl, hrow w0, hrow w1, hrow w2, hrow w3⟩, ⟨k, ?_⟩, ?_⟩
      · exact hAW.fr hFt (by simp; omega) (by simp; omega)
      · have h0 : Fr [ab] w W2 := hFw.here (by simp)
        have h1 := h0.step hFW (fun b hb => by simp at hb; rcases hb with rfl | rfl | rfl | rfl; (· right; omega); (· right; omega); (· right; omega); (· left; simp))
        exact h1.step hFt (fun b hb => by simp at hb; rcases hb with rfl | rfl; (· right; omega); (· right; omega))
    case stop =>
      rintro D c pre W _ _ h _
      exact h.elim
end Go.Proofs.Ytifillpcphiblaa
