import Derived.Test.YtifillpcphiblaaPRuns
import Derived.Test.YtifillpcphiblaaMXDel
import Derived.RegionTactic
import Derived.OwnWalk
namespace Go.Proofs.Ytifillpcphiblaa
open Go Go.Proofs Go.RowKit

/-! The document's room (layer 3). -/

theorem own_set {w : World} {B : Nat} {T : TypeId} {z n c g : Nat} {xs : List Value} (h : w.ownsRow B T z (.slice (some ⟨g, 0, none⟩) n c) n xs) (hn : 0 < n) (j : Nat) (v : Value) : (w.setCell ⟨g, j, none⟩ v).ownsRow B T z (.slice (some ⟨g, 0, none⟩) n c) n (xs.set j v) := by
  obtain ⟨h1, h2 | ⟨g', cap, cur, e1, e2, e3, e4, e5, e6, e7⟩⟩ := h
  · omega
  · cases e1
    refine ⟨by simpa using h1, .inr ⟨g, c, cur.setIfInBounds j v, rfl, e2, ?_, e4, e5, by simpa using e6, ?_⟩⟩
    · simp [World.setCell, Array.getElem?_modify, e3]
    · rw [← e7, Array.toList_setIfInBounds, List.take_set]
theorem own_cellsD {w : World} {B : Nat} {T : TypeId} {p : Option Addr} {c n z : Nat} {xs : List Value} (h : w.ownsRow B T z (.slice p n c) n xs) (hn : 0 < n) : ∃ g, p = some ⟨g, 0, none⟩ ∧ B ≤ g ∧ g < w.heap.size ∧ n ≤ c ∧ c ≤ maxLen ∧ (∀ (j : Nat) (x : Value), xs[j]? = some x → w.cell? ⟨g, j, none⟩ = some x) ∧ ∀ j, w.frozen? ⟨g, j, none⟩ = false := by
  obtain ⟨hl, h | ⟨g', cap', cur, hv, hB, hh, hnc, hcm, hsz, ht⟩⟩ := h
  · omega
  · cases hv
    refine ⟨g', rfl, hB, (Array.getElem?_eq_some_iff.1 hh).1, hnc, hcm, fun j x hx => ?_, fun j => by simp [World.frozen?, hh]⟩
    have hj := (List.getElem?_eq_some_iff.1 hx).1
    rw [← ht, List.getElem?_take] at hx
    split at hx
    · simpa [World.cell?, hh] using hx
    · cases hx
theorem own_shape {w : World} {B : Nat} {T : TypeId} {v : Value} {n z : Nat} {xs : List Value} (h : w.ownsRow B T z v n xs) : ∃ p c, v = .slice p n c := by
  obtain ⟨_, h | ⟨g', cap', cur, hv, _⟩⟩ := h
  · exact ⟨none, 0, by rw [h.1, h.2]⟩
  · exact ⟨_, _, hv⟩

theorem FRep.reads {w : World} {fb B : Nat} {first : Int} {l : List Bool} (h : FRep w fb B first l) (hl : 0 < l.length) : ∃ g c, Blk w fb [.int .i64 first, .slice (some ⟨g, 0, none⟩) l.length c] 189 ∧ B ≤ g ∧ g < w.heap.size ∧ l.length ≤ c ∧ (∀ j, j < l.length → w.cell? ⟨g, j, none⟩ = some (.bool (bitAt l j))) ∧ ∀ j, w.frozen? ⟨g, j, none⟩ = false := by
  obtain ⟨fv, h1, h2⟩ := h.s
  obtain ⟨p, c, rfl⟩ := own_shape h2
  obtain ⟨g, rfl, hB, hg, hc, _, hcell, hz⟩ := own_cellsD h2 hl
  refine ⟨g, c, h1, hB, hg, hc, fun j hj => hcell j _ ?_, hz⟩
  simp [bitAt, List.getElem?_eq_getElem hj]
theorem FRep.nil {w : World} {fb B : Nat} {first : Int} {l : List Bool} (h : FRep w fb B first l) : ∃ p c, Blk w fb [.int .i64 first, .slice p l.length c] 189 := by
  obtain ⟨fv, h1, h2⟩ := h.s
  obtain ⟨p, c, rfl⟩ := own_shape h2
  exact ⟨p, c, h1⟩

theorem flat_set_last (l : List (Int × Int)) (x : Int × Int) (v : Int) : (flat (l ++ [x])).set (l.length * 2 + 1) (.int .i64 v) = flat (l ++ [(x.1, v)]) := by
  rw [flat_append, flat_append]
  have e : l.length * 2 + 1 = (flat l).length + 1 := by rw [flat_len]; omega
  rw [e]
  simp [flat]

theorem runsTo_nonempty {first : Int} {l : List Bool} {k : Nat} (h0 : 0 < k) (hb : bitAt l (k - 1) = true) : ∃ out x, runsTo first l k = out ++ [x] ∧ x.1 + x.2 = first + k ∧ 1 ≤ x.2 ∧ first ≤ x.1 := by
  have f := runsTo_found first l k
  obtain ⟨x, hx, he⟩ := (f.last h0).1 hb
  obtain ⟨out, e⟩ := getLast_split hx
  have hm := f.runs.mem x (List.mem_of_getLast? hx)
  exact ⟨out, x, e, he, hm.2.1, hm.1⟩
theorem runsTo_len (first : Int) (l : List Bool) (k : Nat) : (runsTo first l k).length ≤ k := by
  induction k with
  | zero => exact Nat.le_refl _
  | succ k ih =>
    show (stepRun first l (runsTo first l k) k).length ≤ _
    unfold stepRun
    split
    · split
      · have : ∀ l : List (Int × Int), (incLast l).length = l.length := by
          intro l
          induction l with
          | nil => rfl
          | cons x l ih => cases l with
            | nil => rfl
            | cons y r => show (incLast (y :: r)).length + 1 = _; rw [ih]; rfl
        rw [this]; omega
      · simp; omega
    · omega

set_option maxRecDepth 100000 in
set_option maxHeartbeats 6400000 in
theorem dList (fb B : Nat) (first : Int) (l : List Bool) (w : World) (h : FRep w fb B first l) (hf0 : 0 ≤ first) (hf : first + l.length ≤ 65536) :
    Calls Try.prog 160 #[.pointer (some ⟨fb, 0, none⟩)] w fun e w' => ∃ v, e = .returned v ∧ w'.ownsRow w.heap.size 186 2 v (runsTo first l l.length).length (flat (runsTo first l l.length)) ∧ Fr [] w w' := by
  have hmf := hid h
  obtain ⟨N, hN⟩ : ∃ N, N = l.length := ⟨_, rfl⟩
  rw [← hN] at hf ⊢
  have HN := hid hN
  clear hN h
  go_enter Try.func160, Try.ntmps160
  go_wp2_with fail
  go_loopw [3, 4] (fun out i wr => ∃ k : Nat, k ≤ N ∧ i = .int .i64 k ∧ wr.ownsRow w.heap.size 186 2 out (runsTo first l k).length (flat (runsTo first l k)) ∧ Fr [] w wr) (fun _ i _ => N - (intOf i).toNat)
  case atStart => exact ⟨0, Nat.zero_le _, rfl, ⟨rfl, .inl ⟨rfl, rfl⟩⟩, Fr.refl _ _⟩
  case round =>
    obtain ⟨k, hk, rfl, hown, hF⟩ := hrel
    have hR := hmf.out.fr hF (by simp)
    by_cases hlt : k < N
    · obtain ⟨g, c, hB1, hBg, hgl, hlc, hbit, hfz⟩ := hR.reads (by have := HN.out; omega)
      rw [← HN.out] at hB1 hbit
      have c0 := hB1.cell (i := 0) rfl
      have c1 := hB1.cell (i := 1) rfl
      have hb := hbit k hlt
      obtain ⟨b, hbe⟩ : ∃ b, b = bitAt l k := ⟨_, rfl⟩
      rw [← hbe] at hb
      have HBE := hid hbe
      have HOWN := hid hown
      have HFr := hid hF
      have hkd : decide (k < N) = true := by simpa using hlt
      cases b with
      | false =>
        clear hB1 hbit hfz hR hbe hown hF
        have hs : runsTo first l (k + 1) = runsTo first l k := by
          show stepRun first l (runsTo first l k) k = _
          unfold stepRun
          rw [← HBE.out, if_neg (by simp)]
        go_wp2_with fail
        exact ⟨⟨k + 1, by omega, by go_num, by rw [hs]; exact HOWN.out, HFr.out⟩, by simp [intOf]; omega⟩
      | true =>
        by_cases hk0 : 0 < k
        · have hb' := hbit (k - 1) (by omega)
          obtain ⟨b', hbe'⟩ : ∃ b', b' = bitAt l (k - 1) := ⟨_, rfl⟩
          rw [← hbe'] at hb'
          have HBE' := hid hbe'
          have hkm : ((k : Int) - 1) = ((k - 1 : Nat) : Int) := by omega
          have t1 : (0 : Int) ≤ (k : Int) - 1 := by omega
          have t2 : ((k : Int) - 1).toNat = k - 1 := by omega
          cases b' with
          | true =>
            obtain ⟨out, x, e, hx1, hx2, hx3⟩ := runsTo_nonempty (first := first) hk0 HBE'.out.symm
            have hs : runsTo first l (k + 1) = out ++ [(x.1, x.2 + 1)] := by
              show stepRun first l (runsTo first l k) k = _
              unfold stepRun
              rw [← HBE.out, if_pos rfl, ← HBE'.out, if_pos (by simp [hk0]), e, incLast_snoc]
            rw [e] at hown
            obtain ⟨n, hn⟩ : ∃ n, n = out.length := ⟨_, rfl⟩
            have hln : (out ++ [x]).length = n + 1 := by simp [hn]
            rw [hln] at hown
            obtain ⟨p, co, rfl⟩ := own_shape hown
            obtain ⟨go, rfl, hgB, hgo, hco, _, hoc, hoz⟩ := own_cellsD hown (by omega)
            have d1 : wr.cell? ⟨go, n * 2 + 1, none⟩ = some (.int .i64 x.2) := hoc _ _ (by rw [flat_append, List.getElem?_append_right (by rw [flat_len]; omega), flat_len, hn, show out.length * 2 + 1 - 2 * out.length = 1 by omega]; rfl)
            have z1 := hoz (n * 2 + 1)
            have hown2 := own_set hown (by omega) (n * 2 + 1) (.int .i64 (x.2 + 1))
            rw [hn, flat_set_last, ← hn] at hown2
            have hkl : k ≤ 65536 := by omega
            have hF2 : Fr [] w (wr.setCell ⟨go, n * 2 + 1, none⟩ (.int .i64 (x.2 + 1))) := hF.set (.inr hgB) _
            have hx4 : x.2 ≤ 65536 := by omega
            have HS := hid hs
            have HO2 := hid hown2
            have HF2 := hid hF2
            have hnl : n ≤ 65536 := by have := runsTo_len first l k; rw [e] at this; simp at this; omega
            have HLN : Hid ((out ++ [(x.1, x.2 + 1)]).length = n + 1) := by show _ = _; simp [hn]
            clear hB1 hbit hfz hR hbe hown hF hbe' hkm e hn hln hoc hoz hown2 hF2 hs HOWN HFr
            obtain ⟨x1, x2⟩ := x
            simp only at d1 hx4 hx2 HO2 HF2
            go_wp2_with fail
            go_region
            go_wp2_with fail
            exact ⟨⟨k + 1, by omega, by go_num, by rw [HS.out, HLN.out]; exact HO2.out, HF2.out.drew⟩, by simp [intOf]; omega⟩
          | false =>
            have HNB : ¬ ((decide (0 < k) && bitAt l (k - 1)) = true) := by rw [← HBE'.out]; simp
            have HNB := hid HNB
            clear hkm hbe' hbit
            have hs : runsTo first l (k + 1) = runsTo first l k ++ [(first + k, 1)] := by
              show stepRun first l (runsTo first l k) k = _
              unfold stepRun
              rw [← HBE.out, if_pos rfl, if_neg HNB.out]
            obtain ⟨n, hn⟩ : ∃ n, n = (runsTo first l k).length := ⟨_, rfl⟩
            have hnl : n ≤ 65536 := by have := runsTo_len first l k; omega
            rw [← hn] at hown
            have HS := hid hs
            have HN2 := hid hn
            obtain ⟨p, co, rfl⟩ := own_shape hown
            obtain ⟨i0, hi, hz0, hz1, hz2⟩ := info_parts info_run
            have r1' := hid hi
            have r2' := hid hz0
            have r3' := hid hz1
            have r4' := hid hz2
            have r5' := hid hown
            have hsz := hF.size
            have hw2 : IntKind.i64.wrap (first + k) = first + k := by rw [IntKind.wrap_i64]; omega
            clear hi hz0 hz1 hz2 hown hs hn hB1 hfz hR hbe hF HOWN
            go_wp2_with (at_builtin; refine wpList_append_own _ rfl _ _ 183 rfl w.heap.size 186 i0 (.agg #[.int .i64 0, .int .i64 0]) 2 16 Try.underlying183 r1'.out r2'.out r3'.out r4'.out rfl (by decide) (.slice p n co) n _ rfl (r5'.out.alloc _) ⟨wr.heap.size, 0, none⟩ 1 1 [.int .i64 (first + k), .int .i64 1] rfl rfl (World.news_of_block (cs := #[.int .i64 (first + k), .int .i64 1]) (t := 186) (fr := (0, 0)) (heap_alloc_new wr _)) ?c1 ?c2 ?c3 ?c4 ?c5)
            case c1 => simp [Value.oneCell']
            case c2 => simp only [maxLen]; omega
            case c3 => omega
            case c4 => first | omega | (simp; omega)
            case c5 =>
              intro v' w6 hown6 hgrow6 _
              have hlow := own_low r5'.out
              have hF6 : Fr [] w w6 := (HFr.out.alloc _).step (Fr.of_grownBy (S := (Value.slice p n co).ownBlock.toList) hgrow6 (by intro k' hk'; left; simp [hk'])) (fun x hx => .inr (hlow x hx))
              have HO6 : Hid (w6.ownsRow w.heap.size 186 2 v' (runsTo first l (k + 1)).length (flat (runsTo first l (k + 1)))) := by
                show World.ownsRow _ _ _ _ _ _ _
                rw [HS.out, List.length_append, List.length_singleton, ← HN2.out, flat_append]
                exact hown6
              clear hown6 hgrow6
              go_wp2_with fail
              exact ⟨⟨k + 1, by omega, by go_num, HO6.out, hF6⟩, by simp [intOf]; omega⟩
        · have HNB : ¬ ((decide (0 < k) && bitAt l (k - 1)) = true) := by simp [hk0]
          have HNB := hid HNB
          have hk00 : ¬ (0 : Int) < (k : Int) := by omega
          clear hbit
          have hs : runsTo first l (k + 1) = runsTo first l k ++ [(first + k, 1)] := by
            show stepRun first l (runsTo first l k) k = _
            unfold stepRun
            rw [← HBE.out, if_pos rfl, if_neg HNB.out]
          obtain ⟨n, hn⟩ : ∃ n, n = (runsTo first l k).length := ⟨_, rfl⟩
          have hnl : n ≤ 65536 := by have := runsTo_len first l k; omega
          rw [← hn] at hown
          have HS := hid hs
          have HN2 := hid hn
          obtain ⟨p, co, rfl⟩ := own_shape hown
          obtain ⟨i0, hi, hz0, hz1, hz2⟩ := info_parts info_run
          have r1' := hid hi
          have r2' := hid hz0
          have r3' := hid hz1
          have r4' := hid hz2
          have r5' := hid hown
          have hsz := hF.size
          have hw2 : IntKind.i64.wrap (first + k) = first + k := by rw [IntKind.wrap_i64]; omega
          clear hi hz0 hz1 hz2 hown hs hn hB1 hfz hR hbe hF HOWN
          go_wp2_with (at_builtin; refine wpList_append_own _ rfl _ _ 183 rfl w.heap.size 186 i0 (.agg #[.int .i64 0, .int .i64 0]) 2 16 Try.underlying183 r1'.out r2'.out r3'.out r4'.out rfl (by decide) (.slice p n co) n _ rfl (r5'.out.alloc _) ⟨wr.heap.size, 0, none⟩ 1 1 [.int .i64 (first + k), .int .i64 1] rfl rfl (World.news_of_block (cs := #[.int .i64 (first + k), .int .i64 1]) (t := 186) (fr := (0, 0)) (heap_alloc_new wr _)) ?c1 ?c2 ?c3 ?c4 ?c5)
          case c1 => simp [Value.oneCell']
          case c2 => simp only [maxLen]; omega
          case c3 => omega
          case c4 => first | omega | (simp; omega)
          case c5 =>
            intro v' w6 hown6 hgrow6 _
            have hlow := own_low r5'.out
            have hF6 : Fr [] w w6 := (HFr.out.alloc _).step (Fr.of_grownBy (S := (Value.slice p n co).ownBlock.toList) hgrow6 (by intro k' hk'; left; simp [hk'])) (fun x hx => .inr (hlow x hx))
            have HO6 : Hid (w6.ownsRow w.heap.size 186 2 v' (runsTo first l (k + 1)).length (flat (runsTo first l (k + 1)))) := by
              show World.ownsRow _ _ _ _ _ _ _
              rw [HS.out, List.length_append, List.length_singleton, ← HN2.out, flat_append]
              exact hown6
            clear hown6 hgrow6
            go_wp2_with fail
            exact ⟨⟨k + 1, by omega, by go_num, HO6.out, hF6⟩, by simp [intOf]; omega⟩
    · obtain ⟨p, c, hB1⟩ := hR.nil
      rw [← HN.out] at hB1
      have c1 := hB1.cell (i := 1) rfl
      have ek : k = N := by omega
      subst ek
      go_wp2_with fail
      go_ret
      exact ⟨_, rfl, hown, hF⟩
end Go.Proofs.Ytifillpcphiblaa
