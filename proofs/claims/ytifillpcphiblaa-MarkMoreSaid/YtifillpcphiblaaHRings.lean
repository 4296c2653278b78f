import Derived.Test.YtifillpcphiblaaHList3
namespace Go.Proofs.Ytifillpcphiblaa
open Go Go.Proofs Go.RowKit

theorem info_seg : (Try.prog.info? 58).map (fun i => (i.zero, i.size, i.bytes)) = some (some (.agg #[.slice none 0 0, .slice none 0 0, .slice none 0 0, .slice none 0 0]), 4, 96) := by kernel_rfl

theorem SegV.fr {S : List Nat} {W W' : World} {base : Nat} {v : Value} {R : Rows} (h : SegV W base v R) (hf : Fr S W W') (hS : ∀ b ∈ S, b < base ∨ ∀ cs f, W.heap[b]? ≠ some (.cells cs 3 f)) : SegV W' base v R := by
  have key : ∀ {v : Value} {n : Nat} {xs : List Value}, W.ownsRow base 3 1 v n xs → W'.ownsRow base 3 1 v n xs := by
    intro v n xs h
    refine ownsRow_fr h hf ?_
    intro g hg hc
    obtain ⟨_, h2 | ⟨g', cap', cur, hv, hg', hh, _⟩⟩ := h
    · rw [h2.1] at hg; simp [Value.ownBlock] at hg
    · rw [hv] at hg; simp [Value.ownBlock] at hg; subst hg
      rcases hS _ hc with h3 | h3
      · omega
      · exact h3 _ _ hh
  obtain ⟨v0, v1, v2, v3, rfl, h0, h1, h2, h3⟩ := h.ex
  exact ⟨v0, v1, v2, v3, rfl, key h0, key h1, key h2, key h3⟩
theorem SegV.base {W : World} {base base' : Nat} {v : Value} {R : Rows} (h : SegV W base v R) (hb : base' ≤ base) : SegV W base' v R := by
  obtain ⟨v0, v1, v2, v3, rfl, h0, h1, h2, h3⟩ := h.ex
  exact ⟨v0, v1, v2, v3, rfl, ownsRow_base h0 hb, ownsRow_base h1 hb, ownsRow_base h2 hb, ownsRow_base h3 hb⟩
theorem SegV.parts {W : World} {base : Nat} {v : Value} {R : Rows} (h : SegV W base v R) : ∃ x0 y0 z0 x1 y1 z1 x2 y2 z2 x3 y3 z3, v = .agg #[.slice x0 y0 z0, .slice x1 y1 z1, .slice x2 y2 z2, .slice x3 y3 z3] := by
  obtain ⟨v0, v1, v2, v3, rfl, h0, h1, h2, h3⟩ := h.ex
  obtain ⟨x0, y0, z0, rfl⟩ := own_slice h0
  obtain ⟨x1, y1, z1, rfl⟩ := own_slice h1
  obtain ⟨x2, y2, z2, rfl⟩ := own_slice h2
  obtain ⟨x3, y3, z3, rfl⟩ := own_slice h3
  exact ⟨x0, y0, z0, x1, y1, z1, x2, y2, z2, x3, y3, z3, rfl⟩

/-- A slice of segments. -/
structure SegsI (W : World) (base : Nat) (out : Value) (Rs : List Rows) : Prop where
  ex : ∃ segs : List (List Value), W.ownsRow base 58 4 out Rs.length segs.flatten ∧ segs.length = Rs.length ∧ ∀ (i : Nat) (seg : List Value) (R : Rows), segs[i]? = some seg → Rs[i]? = some R → SegV W base (.agg seg.toArray) R
theorem SegsI.nil (W : World) (base : Nat) : SegsI W base (.slice none 0 0) [] := ⟨[], ⟨rfl, .inl ⟨rfl, rfl⟩⟩, rfl, fun i seg R h => by simp at h⟩
theorem SegsI.fr {S : List Nat} {W W' : World} {base : Nat} {v : Value} {Rs : List Rows} (h : SegsI W base v Rs) (hf : Fr S W W') (hS : ∀ b ∈ S, b < base) : SegsI W' base v Rs := by
  obtain ⟨segs, h1, h2, h3⟩ := h.ex
  refine ⟨segs, ownsRow_fr h1 hf (fun g hg hc => by have := (own_lt h1 hg).1; have := hS g hc; omega), h2, fun i seg R hi hR => (h3 i seg R hi hR).fr hf (fun b hb => .inl (hS b hb))⟩

set_option maxRecDepth 100000 in
set_option maxHeartbeats 1600000 in
theorem hLarge (L : HL) (s : HS) (A : Rg) (z : Int → Int) (w : World) (hH : HRep w L s) (hI : HI s A z) :
    Calls Try.prog 33 #[.pointer (some ⟨L.hb, 0, none⟩)] w fun e w' => (∃ v, e = .returned v ∧ SegV w' w.heap.size v (A none)) ∧ (∃ k : Nat, HRep w' L (s.tick k)) ∧ Fr [L.ab] w w' := by
  obtain ⟨-, ⟨-, q2, -, -, -⟩, -, -, -, -⟩ := hH.apart
  have hn := new_apart hH
  have hH0 := hH.alloc (.cells #[.slice none 0 0, .slice none 0 0, .slice none 0 0, .slice none 0 0] 58)
  have c3 := hH0.reads.2.2.2.1
  have B0 := Blk.new w [.slice none 0 0, .slice none 0 0, .slice none 0 0, .slice none 0 0] 58
  have l1 := all_lt hH (b := L.ab) (by simp [HL.all, HL.fp])
  go_enter Try.func33, Try.ntmps33
  go_wp2_with fail
  refine (rList L.lb L.ab L.wb s.lg s.ws s.u (A none) _ hH0.lr hH0.a hI.lring (Ne.symm q2)).mono ?_
  rintro e w1 ⟨⟨v, rfl, hS⟩, ⟨k, hA1⟩, hF1⟩
  obtain ⟨x0, y0, z0, x1, y1, z1, x2, y2, z2, x3, y3, z3, rfl⟩ := hS.parts
  have hH1 : HRep w1 L (s.tick k) := hH0.arena hF1 (by simp) hA1
  have B1 := B0.fr hF1 (by simp; omega)
  have b0 := B1.cell (i := 0) rfl
  have b1 := B1.cell (i := 1) rfl
  have b2 := B1.cell (i := 2) rfl
  have b3 := B1.cell (i := 3) rfl
  have f0 := B1.frozen 0
  have f1 := B1.frozen 1
  have f2 := B1.frozen 2
  have f3 := B1.frozen 3
  clear c3
  go_wp2_with fail
  have hB4 : Blk ((((w1.setCell ⟨w.heap.size, 0, none⟩ (.slice x0 y0 z0)).setCell ⟨w.heap.size, 1, none⟩ (.slice x1 y1 z1)).setCell ⟨w.heap.size, 2, none⟩ (.slice x2 y2 z2)).setCell ⟨w.heap.size, 3, none⟩ (.slice x3 y3 z3)) w.heap.size [.slice x0 y0 z0, .slice x1 y1 z1, .slice x2 y2 z2, .slice x3 y3 z3] 58 := by
    have := (((B1.set 0 (.slice x0 y0 z0)).set 1 (.slice x1 y1 z1)).set 2 (.slice x2 y2 z2)).set 3 (.slice x3 y3 z3)
    simpa using this
  have hFs : Fr [w.heap.size] w1 ((((w1.setCell ⟨w.heap.size, 0, none⟩ (.slice x0 y0 z0)).setCell ⟨w.heap.size, 1, none⟩ (.slice x1 y1 z1)).setCell ⟨w.heap.size, 2, none⟩ (.slice x2 y2 z2)).setCell ⟨w.heap.size, 3, none⟩ (.slice x3 y3 z3)) :=
    ((((Fr.refl [w.heap.size] w1).set (by simp) _).set (by simp) _).set (by simp) _).set (by simp) _
  obtain ⟨W4, hW4⟩ : ∃ W4, W4 = ((((w1.setCell ⟨w.heap.size, 0, none⟩ (.slice x0 y0 z0)).setCell ⟨w.heap.size, 1, none⟩ (.slice x1 y1 z1)).setCell ⟨w.heap.size, 2, none⟩ (.slice x2 y2 z2)).setCell ⟨w.heap.size, 3, none⟩ (.slice x3 y3 z3)) := ⟨_, rfl⟩
  rw [← hW4] at hB4 hFs ⊢
  clear hW4
  have r0 := hB4.cell (i := 0) rfl
  have r1 := hB4.cell (i := 1) rfl
  have r2 := hB4.cell (i := 2) rfl
  have r3 := hB4.cell (i := 3) rfl
  refine bodyPost_ret (v := .agg #[.slice x0 y0 z0, .slice x1 y1 z1, .slice x2 y2 z2, .slice x3 y3 z3]) (by simp [results, Try.results33, go_sem, r0, r1, r2, r3]) rfl ⟨⟨_, rfl, ?_⟩, ⟨k, ?_⟩, ?_⟩
  · exact (hS.fr hFs (fun b hb => .inl (by simp at hb; subst hb; simp))).base (by simp)
  · exact hH1.fr hFs (fun b hb hc => by simp at hb; subst hb; exact hn hc)
  · have h0 : Fr [L.ab] w w1 := ((Fr.refl [L.ab] w).alloc _).trans hF1
    exact h0.step hFs (fun b hb => by simp at hb; subst hb; right; exact Nat.le_refl _)

theorem hParity (L : HL) (s : HS) (w : World) (hH : HRep w L s) :
    Calls Try.prog 34 #[.pointer (some ⟨L.hb, 0, none⟩)] w fun e w' => e = .returned (.int .i64 s.parity) ∧ w = w' := by
  have c7 := hH.reads.2.2.2.2.2.2.2
  go_enter Try.func34, Try.ntmps34
  go_wp2_with fail
  go_ret
  exact ⟨rfl, rfl⟩

/-- The rows of the first k classes. -/
def rowsTo (A : Rg) (k : Nat) : List Rows := (List.range k).map fun j => A (some j)
theorem rowsTo_succ (A : Rg) (k : Nat) : rowsTo A (k + 1) = rowsTo A k ++ [A (some k)] := by simp [rowsTo, List.range_succ]
theorem rowsTo_len (A : Rg) (k : Nat) : (rowsTo A k).length = k := by simp [rowsTo]

/-- One segment more. -/
theorem SegsI.snoc {W W1 : World} {base : Nat} {out out' : Value} {Rs : List Rows} {R : Rows} {segs : List (List Value)} {seg : List Value} (h1 : W.ownsRow base 58 4 out Rs.length segs.flatten) (h2 : segs.length = Rs.length)
    (h3 : ∀ (i : Nat) (seg : List Value) (R : Rows), segs[i]? = some seg → Rs[i]? = some R → SegV W base (.agg seg.toArray) R) (hR : SegV W base (.agg seg.toArray) R)
    (hf : Fr out.ownBlock.toList W W1) (hown : W1.ownsRow base 58 4 out' (Rs.length + 1) (segs.flatten ++ seg)) : SegsI W1 base out' (Rs ++ [R]) := by
  have hS : ∀ b ∈ out.ownBlock.toList, b < base ∨ ∀ cs f, W.heap[b]? ≠ some (.cells cs 3 f) := by
    intro b hb
    obtain ⟨_, h4 | ⟨g', cap', cur, hv, hg', hh, _⟩⟩ := h1
    · rw [h4.1] at hb; simp [Value.ownBlock] at hb
    · rw [hv] at hb; simp [Value.ownBlock] at hb; subst hb
      refine .inr (fun cs f hc => ?_)
      rw [hh] at hc
      simp at hc
  refine ⟨segs ++ [seg], ?_, by simp [h2], ?_⟩
  · simpa using hown
  · intro i sg r hi hr
    rcases Nat.lt_or_ge i Rs.length with hlt | hge
    · rw [List.getElem?_append_left (by omega)] at hi
      rw [List.getElem?_append_left hlt] at hr
      exact (h3 i sg r hi hr).fr hf hS
    · have e : i = Rs.length := by
        have := (List.getElem?_eq_some_iff.1 hr).1
        simp at this; omega
      subst e
      rw [← h2, List.getElem?_concat_length] at hi
      rw [List.getElem?_concat_length] at hr
      cases hi; cases hr
      exact hR.fr hf hS

set_option maxRecDepth 100000 in
set_option maxHeartbeats 3200000 in
theorem hRings (L : HL) (s : HS) (A : Rg) (z : Int → Int) (w : World) (hH : HRep w L s) (hI : HI s A z) :
    Calls Try.prog 32 #[.pointer (some ⟨L.hb, 0, none⟩)] w fun e w' => (∃ v, e = .returned v ∧ SegsI w' w.heap.size v (rowsTo A s.cls.length)) ∧ (∃ k : Nat, HRep w' L (s.tick k)) ∧ Fr [L.ab] w w' := by
  have c2 := hH.reads.2.2.1
  have hn3 := hH.n3
  have HI' := hid (info_parts info_seg)
  have l1 := all_lt hH (b := L.ab) (by simp [HL.all, HL.fp])
  have hmm := hid hI
  go_enter Try.func32, Try.ntmps32
  go_wp2_with fail
  go_loopw [3, 11] (fun out i wr => ∃ (k : Nat) (u : Nat), k ≤ s.cls.length ∧ i = .int .i64 k ∧ SegsI wr w.heap.size out (rowsTo A k) ∧ HRep wr L (s.tick u) ∧ Fr [L.ab] w wr) (fun _ i _ => s.cls.length - (intOf i).toNat)
  case atStart => exact ⟨0, 0, Nat.zero_le _, rfl, SegsI.nil _ _, hH.cast (by simp [HS.tick]), Fr.refl _ _⟩
  case round =>
    obtain ⟨k, u, hk, rfl, hS, hHr, hF⟩ := hrel
    clear c2
    by_cases hlt : k < s.cls.length
    · obtain ⟨rb, r, e1, e2, e3, e4⟩ := hHr.at (s := s.tick u) hlt
      have hap := hHr.rapart (List.mem_of_getElem? e1)
      have hsz := hF.size
      obtain ⟨segs, s1, s2, s3⟩ := hS.ex
      have S1 := hid s1
      have S2 := hid s2
      have S3 := hid s3
      have E1 := hid e1
      have E2 := hid e2
      obtain ⟨xo, yo, zo, rfl⟩ := own_slice s1
      clear s1 s2 s3 e1 e2 hS
      go_wp2_with fail
      refine (rList rb L.ab L.wb r s.ws _ (A (some k)) _ e4 hHr.a (hI.ring k r E2.out) hap.2.1).mono ?_
      rintro e w1 ⟨⟨v, rfl, hSv⟩, ⟨u', hA1⟩, hF1⟩
      obtain ⟨x0, y0, z0, x1, y1, z1, x2, y2, z2, x3, y3, z3, rfl⟩ := hSv.parts
      have hH1 : HRep w1 L (s.tick (u + u' : Nat)) := (hHr.arena hF1 (by simp) hA1).cast (by simp [HS.tick, Int.add_assoc])
      have hown1 := ownsRow_fr S1.out hF1 (fun g hg hc => by have := (own_lt S1.out hg).1; simp at hc; omega)
      have hS3 : ∀ (i : Nat) (seg : List Value) (R : Rows), segs[i]? = some seg → (rowsTo A k)[i]? = some R → SegV w1 w.heap.size (.agg seg.toArray) R := fun i seg R h1 h2 => (S3.out i seg R h1 h2).fr hF1 (fun b hb => .inl (by simp at hb; omega))
      have hSv' := hSv.base hsz
      have hsz1 := hF1.size
      rw [rowsTo_len] at hown1
      obtain ⟨i0, hi, hz0, hz1, hz2⟩ := HI'.out
      have h1' := hid hi
      have h2' := hid hz0
      have h3' := hid hz1
      have h4' := hid hz2
      have h5' := hid hown1
      have H3 := hid hS3
      clear hi hz0 hz1 hz2 hown1 hS3 e3
      go_wp2_with (at_builtin; refine wpList_append_own _ rfl _ _ 55 rfl w.heap.size 58 i0 (.agg #[.slice none 0 0, .slice none 0 0, .slice none 0 0, .slice none 0 0]) 4 96 Try.underlying55 h1'.out h2'.out h3'.out h4'.out rfl (by decide) (.slice xo yo zo) k _ rfl (h5'.out.alloc _) ⟨w1.heap.size, 0, none⟩ 1 1 [.slice x0 y0 z0, .slice x1 y1 z1, .slice x2 y2 z2, .slice x3 y3 z3] rfl rfl (World.news_of_block (cs := #[.slice x0 y0 z0, .slice x1 y1 z1, .slice x2 y2 z2, .slice x3 y3 z3]) (t := 58) (fr := (0, 0)) (heap_alloc_new w1 _)) ?c1 ?c2 ?c3 ?c4 ?c5)
      case c1 => simp [Value.oneCell']
      case c2 => simp only [maxLen]; omega
      case c3 => omega
      case c4 => simp; omega
      case c5 =>
        intro v' w2 hown' hgrow hniliff
        have hGr : Fr (Value.slice xo yo zo).ownBlock.toList (w1.alloc (.cells #[.slice x0 y0 z0, .slice x1 y1 z1, .slice x2 y2 z2, .slice x3 y3 z3] 58)) w2 := Fr.of_grownBy hgrow (by intro k' hk'; left; simp [hk'])
        have hFal : Fr [] w1 (w1.alloc (.cells #[.slice x0 y0 z0, .slice x1 y1 z1, .slice x2 y2 z2, .slice x3 y3 z3] 58)) := (Fr.refl [] w1).alloc _
        have hlow := own_low h5'.out
        have hF2 : Fr [L.ab] w w2 := (((hF.trans hF1).alloc _)).step hGr (fun x hx => .inr (hlow x hx))
        have hH2 := (hH1.alloc (.cells #[.slice x0 y0 z0, .slice x1 y1 z1, .slice x2 y2 z2, .slice x3 y3 z3] 58)).fr hGr (fun x hx hc => by have := hlow x hx; have := all_lt hH hc; omega)
        have hS2 : SegsI w2 w.heap.size v' (rowsTo A (k + 1)) := by
          rw [rowsTo_succ]
          refine SegsI.snoc (W := w1.alloc (.cells #[.slice x0 y0 z0, .slice x1 y1 z1, .slice x2 y2 z2, .slice x3 y3 z3] 58)) (out := .slice xo yo zo) (by rw [rowsTo_len]; exact h5'.out.alloc _) S2.out (fun i seg R h1 h2 => (H3.out i seg R h1 h2).fr hFal (by simp)) (hSv'.fr hFal (by simp)) hGr ?_
          rw [rowsTo_len]; exact hown'
        have HS2 := hid hS2
        clear hown' hgrow hniliff hS2 H3
        go_wp2_with fail
        go_roundw
        case rel => exact ⟨k + 1, _, by omega, by go_num, HS2.out, hH2, hF2⟩
        case measure => simp [intOf]; omega
    · have e : k = s.cls.length := by omega
      subst e
      have HS := hid hS
      clear hS
      go_wp2_with fail
      go_ret
      exact ⟨⟨_, rfl, HS.out⟩, ⟨u, hHr⟩, hF⟩
end Go.Proofs.Ytifillpcphiblaa
