import Derived.Test.YtifillpcphiblaaGreatMMHNew
import Derived.Test.YtifillpcphiblaaGreatMMXDel
import Derived.RegionTactic
import Derived.OwnWalk
import Derived.Deep.QuietTactic
import Derived.BigQuiet
namespace Go.Proofs.YtifillpcphiblaaGreat
open Go Go.Proofs Go.RowKit

/-! The document's room (layer 3). -/

theorem own_set {w : World} {B : Nat} {T : TypeId} {z n c g : Nat} {xs : List Value} (h : w.ownsRow B T z (.slice (some ⟨g, 0, none⟩) n c) n xs) (hn : 0 < n) (j : Nat) (v : Value) : (w.setCell ⟨g, j, none⟩ v).ownsRow B T z (.slice (some ⟨g, 0, none⟩) n c) n (xs.set j v) := by
  obtain ⟨h1, h2 | ⟨g', cap, cur, e1, e2, e3, e4, e5, e6, e7⟩⟩ := h
  · omega
  · cases e1
    refine ⟨by simpa using h1, .inr ⟨g, c, cur.setIfInBounds j v, rfl, e2, ?_, e4, e5, by simpa using e6, ?_⟩⟩
    · simp [World.setCell, Array.getElem?_modify, e3]
    · rw [← e7, Array.toList_setIfInBounds, List.take_set]
theorem own_cellsD {w : World} {B : Nat} {T : TypeId} {p : Option Addr} {c n z : Nat} {xs : List Value} (h : w.ownsRow B T z (.slice p n c) n xs) (hn : 0 < n) : ∃ g, p = some ⟨g, 0, none⟩ ∧ B ≤ g ∧ g < w.heap.size ∧ n ≤ c ∧ c ≤ maxLen ∧ (∀ (j : Nat) (x : Value), xs[j]? = some x → w.cell? ⟨g, j, none⟩ = some x) ∧ ∀ j, w.frozen? ⟨g, j, none⟩ = false := by
  obtain ⟨hl, h | ⟨g', cap', cur, hv, hB, hh, hnc, hcm, hsz, ht⟩⟩ := h
  · omega
  · cases hv
    refine ⟨g', rfl, hB, (Array.getElem?_eq_some_iff.1 hh).1, hnc, hcm, fun j x hx => ?_, fun j => by simp [World.frozen?, hh]⟩
    have hj := (List.getElem?_eq_some_iff.1 hx).1
    rw [← ht, List.getElem?_take] at hx
    split at hx
    · simpa [World.cell?, hh] using hx
    · cases hx
theorem own_shape {w : World} {B : Nat} {T : TypeId} {v : Value} {n z : Nat} {xs : List Value} (h : w.ownsRow B T z v n xs) : ∃ p c, v = .slice p n c := by
  obtain ⟨_, h | ⟨g', cap', cur, hv, _⟩⟩ := h
  · exact ⟨none, 0, by rw [h.1, h.2]⟩
  · exact ⟨_, _, hv⟩

theorem FRep.reads {w : World} {fb B : Nat} {first : Int} {l : List Bool} (h : FRep w fb B first l) (hl : 0 < l.length) : ∃ g c, Blk w fb [.int .i64 first, .slice (some ⟨g, 0, none⟩) l.length c] 118 ∧ B ≤ g ∧ g < w.heap.size ∧ l.length ≤ c ∧ (∀ j, j < l.length → w.cell? ⟨g, j, none⟩ = some (.bool (bitAt l j))) ∧ ∀ j, w.frozen? ⟨g, j, none⟩ = false := by
  obtain ⟨fv, h1, h2⟩ := h.s
  obtain ⟨p, c, rfl⟩ := own_shape h2
  obtain ⟨g, rfl, hB, hg, hc, _, hcell, hz⟩ := own_cellsD h2 hl
  refine ⟨g, c, h1, hB, hg, hc, fun j hj => hcell j _ ?_, hz⟩
  simp [bitAt, List.getElem?_eq_getElem hj]
theorem FRep.nil {w : World} {fb B : Nat} {first : Int} {l : List Bool} (h : FRep w fb B first l) : ∃ p c, Blk w fb [.int .i64 first, .slice p l.length c] 118 := by
  obtain ⟨fv, h1, h2⟩ := h.s
  obtain ⟨p, c, rfl⟩ := own_shape h2
  exact ⟨p, c, h1⟩

theorem flat_set_last (l : List (Int × Int)) (x : Int × Int) (v : Int) : (flat (l ++ [x])).set (l.length * 2 + 1) (.int .i64 v) = flat (l ++ [(x.1, v)]) := by
  rw [flat_append, flat_append]
  have e : l.length * 2 + 1 = (flat l).length + 1 := by rw [flat_len]; omega
  rw [e]
  simp [flat]

theorem runsTo_nonempty {first : Int} {l : List Bool} {k : Nat} (h0 : 0 < k) (hb : bitAt l (k - 1) = true) : ∃ out x, runsTo first l k = out ++ [x] ∧ x.1 + x.2 = first + k ∧ 1 ≤ x.2 ∧ first ≤ x.1 := by
  have f := runsTo_found first l k
  obtain ⟨x, hx, he⟩ := (f.last h0).1 hb
  obtain ⟨out, e⟩ := getLast_split hx
  have hm := f.runs.mem x (List.mem_of_getLast? hx)
  exact ⟨out, x, e, he, hm.2.1, hm.1⟩
theorem runsTo_len (first : Int) (l : List Bool) (k : Nat) : (runsTo first l k).length ≤ k := by
  induction k with
  | zero => exact Nat.le_refl _
  | succ k ih =>
    show (stepRun first l (runsTo first l k) k).length ≤ _
    unfold stepRun
    split
    · split
      · have : ∀ l : List (Int × Int), (incLast l).length = l.length := by
          intro l
          induction l with
          | nil => rfl
          | cons x l ih => cases l with
            | nil => rfl
            | cons y r => show (incLast (y :: r)).length + 1 = _; rw [ih]; rfl
        rw [this]; omega
      · simp; omega
    · omega

set_option maxRecDepth 100000 in
set_option maxHeartbeats 6400000 in
theorem dList (fb B : Nat) (first : Int) (l : List Bool) (w : World) (h : FRep w fb B first l) (hf0 : 0 ≤ first) (hf : first + l.length ≤ 65536) :
    Calls Tryz.prog 102 #[.pointer (some ⟨fb, 0, none⟩)] w fun e w' => ∃ v, e = .returned v ∧ w'.ownsRow w.heap.size 115 2 v (runsTo first l l.length).length (flat (runsTo first l l.length)) ∧ Fr [] w w' := by
  have hmf := hid h
  obtain ⟨N, hN⟩ : ∃ N, N = l.length := ⟨_, rfl⟩
  rw [← hN] at hf ⊢
  have HN := hid hN
  clear hN h
  go_enter Tryz.func102, Tryz.ntmps102
  go_wp2_with fail
  go_loopw [3, 4] (fun out i wr => ∃ k : Nat, k ≤ N ∧ i = .int .i64 k ∧ wr.ownsRow w.heap.size 115 2 out (runsTo first l k).length (flat (runsTo first l k)) ∧ Fr [] w wr) (fun _ i _ => N - (intOf i).toNat)
  case atStart => exact ⟨0, Nat.zero_le _, rfl, ⟨rfl, .inl ⟨rfl, rfl⟩⟩, Fr.refl _ _⟩
  case round =>
    obtain ⟨k, hk, rfl, hown, hF⟩ := hrel
    have hR := hmf.out.fr hF (by simp)
    by_cases hlt : k < N
    · obtain ⟨g, c, hB1, hBg, hgl, hlc, hbit, hfz⟩ := hR.reads (by have := HN.out; omega)
      rw [← HN.out] at hB1 hbit
      have c0 := hB1.cell (i := 0) rfl
      have c1 := hB1.cell (i := 1) rfl
      have hb := hbit k hlt
      obtain ⟨b, hbe⟩ : ∃ b, b = bitAt l k := ⟨_, rfl⟩
      rw [← hbe] at hb
      have HBE := hid hbe
      have HOWN := hid hown
      have HFr := hid hF
      have hkd : decide (k < N) = true := by simpa using hlt
      cases b with
      | false =>
        clear hB1 hbit hfz hR hbe hown hF
        have hs : runsTo first l (k + 1) = runsTo first l k := by
          show stepRun first l (runsTo first l k) k = _
          unfold stepRun
          rw [← HBE.out, if_neg (by simp)]
        go_wp2_with fail
        exact ⟨⟨k + 1, by omega, by go_num, by rw [hs]; exact HOWN.out, HFr.out⟩, by simp [intOf]; omega⟩
      | true =>
        by_cases hk0 : 0 < k
        · have hb' := hbit (k - 1) (by omega)
          obtain ⟨b', hbe'⟩ : ∃ b', b' = bitAt l (k - 1) := ⟨_, rfl⟩
          rw [← hbe'] at hb'
          have HBE' := hid hbe'
          have hkm : ((k : Int) - 1) = ((k - 1 : Nat) : Int) := by omega
          have t1 : (0 : Int) ≤ (k : Int) - 1 := by omega
          have t2 : ((k : Int) - 1).toNat = k - 1 := by omega
          cases b' with
          | true =>
            obtain ⟨out, x, e, hx1, hx2, hx3⟩ := runsTo_nonempty (first := first) hk0 HBE'.out.symm
            have hs : runsTo first l (k + 1) = out ++ [(x.1, x.2 + 1)] := by
              show stepRun first l (runsTo first l k) k = _
              unfold stepRun
              rw [← HBE.out, if_pos rfl, ← HBE'.out, if_pos (by simp [hk0]), e, incLast_snoc]
            rw [e] at hown
            obtain ⟨n, hn⟩ : ∃ n, n = out.length := ⟨_, rfl⟩
            have hln : (out ++ [x]).length = n + 1 := by simp [hn]
            rw [hln] at hown
            obtain ⟨p, co, rfl⟩ := own_shape hown
            obtain ⟨go, rfl, hgB, hgo, hco, _, hoc, hoz⟩ := own_cellsD hown (by omega)
            have d1 : wr.cell? ⟨go, n * 2 + 1, none⟩ = some (.int .i64 x.2) := hoc _ _ (by rw [flat_append, List.getElem?_append_right (by rw [flat_len]; omega), flat_len, hn, show out.length * 2 + 1 - 2 * out.length = 1 by omega]; rfl)
            have z1 := hoz (n * 2 + 1)
            have hown2 := own_set hown (by omega) (n * 2 + 1) (.int .i64 (x.2 + 1))
            rw [hn, flat_set_last, ← hn] at hown2
            have hkl : k ≤ 65536 := by omega
            have hF2 : Fr [] w (wr.setCell ⟨go, n * 2 + 1, none⟩ (.int .i64 (x.2 + 1))) := hF.set (.inr hgB) _
            have hx4 : x.2 ≤ 65536 := by omega
            have HS := hid hs
            have HO2 := hid hown2
            have HF2 := hid hF2
            have hnl : n ≤ 65536 := by have := runsTo_len first l k; rw [e] at this; simp at this; omega
            have HLN : Hid ((out ++ [(x.1, x.2 + 1)]).length = n + 1) := by show _ = _; simp [hn]
            clear hB1 hbit hfz hR hbe hown hF hbe' hkm e hn hln hoc hoz hown2 hF2 hs HOWN HFr
            obtain ⟨x1, x2⟩ := x
            simp only at d1 hx4 hx2 HO2 HF2
            go_wp2_with fail
            go_region
            go_wp2_with fail
            exact ⟨⟨k + 1, by omega, by go_num, by rw [HS.out, HLN.out]; exact HO2.out, HF2.out.drew⟩, by simp [intOf]; omega⟩
          | false =>
            have HNB : ¬ ((decide (0 < k) && bitAt l (k - 1)) = true) := by rw [← HBE'.out]; simp
            have HNB := hid HNB
            clear hkm hbe' hbit
            have hs : runsTo first l (k + 1) = runsTo first l k ++ [(first + k, 1)] := by
              show stepRun first l (runsTo first l k) k = _
              unfold stepRun
              rw [← HBE.out, if_pos rfl, if_neg HNB.out]
            obtain ⟨n, hn⟩ : ∃ n, n = (runsTo first l k).length := ⟨_, rfl⟩
            have hnl : n ≤ 65536 := by have := runsTo_len first l k; omega
            rw [← hn] at hown
            have HS := hid hs
            have HN2 := hid hn
            obtain ⟨p, co, rfl⟩ := own_shape hown
            obtain ⟨i0, hi, hz0, hz1, hz2⟩ := info_parts info_run
            have r1' := hid hi
            have r2' := hid hz0
            have r3' := hid hz1
            have r4' := hid hz2
            have r5' := hid hown
            have hsz := hF.size
            have hw2 : IntKind.i64.wrap (first + k) = first + k := by rw [IntKind.wrap_i64]; omega
            clear hi hz0 hz1 hz2 hown hs hn hB1 hfz hR hbe hF HOWN
            go_wp2_with (at_builtin; refine wpList_append_own _ rfl _ _ 112 rfl w.heap.size 115 i0 (.agg #[.int .i64 0, .int .i64 0]) 2 16 Tryz.underlying112 r1'.out r2'.out r3'.out r4'.out rfl (by decide) (.slice p n co) n _ rfl (r5'.out.alloc _) ⟨wr.heap.size, 0, none⟩ 1 1 [.int .i64 (first + k), .int .i64 1] rfl rfl (World.news_of_block (cs := #[.int .i64 (first + k), .int .i64 1]) (t := 115) (fr := (0, 0)) (heap_alloc_new wr _)) ?c1 ?c2 ?c3 ?c4 ?c5)
            case c1 => simp [Value.oneCell']
            case c2 => simp only [maxLen]; omega
            case c3 => omega
            case c4 => first | omega | (simp; omega)
            case c5 =>
              intro v' w6 hown6 hgrow6 _
              have hlow := own_low r5'.out
              have hF6 : Fr [] w w6 := (HFr.out.alloc _).step (Fr.of_grownBy (S := (Value.slice p n co).ownBlock.toList) hgrow6 (by intro k' hk'; left; simp [hk'])) (fun x hx => .inr (hlow x hx))
              have HO6 : Hid (w6.ownsRow w.heap.size 115 2 v' (runsTo first l (k + 1)).length (flat (runsTo first l (k + 1)))) := by
                show World.ownsRow _ _ _ _ _ _ _
                rw [HS.out, List.length_append, List.length_singleton, ← HN2.out, flat_append]
                exact hown6
              clear hown6 hgrow6
              go_wp2_with fail
              exact ⟨⟨k + 1, by omega, by go_num, HO6.out, hF6⟩, by simp [intOf]; omega⟩
        · have HNB : ¬ ((decide (0 < k) && bitAt l (k - 1)) = true) := by simp [hk0]
          have HNB := hid HNB
          have hk00 : ¬ (0 : Int) < (k : Int) := by omega
          clear hbit
          have hs : runsTo first l (k + 1) = runsTo first l k ++ [(first + k, 1)] := by
            show stepRun first l (runsTo first l k) k = _
            unfold stepRun
            rw [← HBE.out, if_pos rfl, if_neg HNB.out]
          obtain ⟨n, hn⟩ : ∃ n, n = (runsTo first l k).length := ⟨_, rfl⟩
          have hnl : n ≤ 65536 := by have := runsTo_len first l k; omega
          rw [← hn] at hown
          have HS := hid hs
          have HN2 := hid hn
          obtain ⟨p, co, rfl⟩ := own_shape hown
          obtain ⟨i0, hi, hz0, hz1, hz2⟩ := info_parts info_run
          have r1' := hid hi
          have r2' := hid hz0
          have r3' := hid hz1
          have r4' := hid hz2
          have r5' := hid hown
          have hsz := hF.size
          have hw2 : IntKind.i64.wrap (first + k) = first + k := by rw [IntKind.wrap_i64]; omega
          clear hi hz0 hz1 hz2 hown hs hn hB1 hfz hR hbe hF HOWN
          go_wp2_with (at_builtin; refine wpList_append_own _ rfl _ _ 112 rfl w.heap.size 115 i0 (.agg #[.int .i64 0, .int .i64 0]) 2 16 Tryz.underlying112 r1'.out r2'.out r3'.out r4'.out rfl (by decide) (.slice p n co) n _ rfl (r5'.out.alloc _) ⟨wr.heap.size, 0, none⟩ 1 1 [.int .i64 (first + k), .int .i64 1] rfl rfl (World.news_of_block (cs := #[.int .i64 (first + k), .int .i64 1]) (t := 115) (fr := (0, 0)) (heap_alloc_new wr _)) ?c1 ?c2 ?c3 ?c4 ?c5)
          case c1 => simp [Value.oneCell']
          case c2 => simp only [maxLen]; omega
          case c3 => omega
          case c4 => first | omega | (simp; omega)
          case c5 =>
            intro v' w6 hown6 hgrow6 _
            have hlow := own_low r5'.out
            have hF6 : Fr [] w w6 := (HFr.out.alloc _).step (Fr.of_grownBy (S := (Value.slice p n co).ownBlock.toList) hgrow6 (by intro k' hk'; left; simp [hk'])) (fun x hx => .inr (hlow x hx))
            have HO6 : Hid (w6.ownsRow w.heap.size 115 2 v' (runsTo first l (k + 1)).length (flat (runsTo first l (k + 1)))) := by
              show World.ownsRow _ _ _ _ _ _ _
              rw [HS.out, List.length_append, List.length_singleton, ← HN2.out, flat_append]
              exact hown6
            clear hown6 hgrow6
            go_wp2_with fail
            exact ⟨⟨k + 1, by omega, by go_num, HO6.out, hF6⟩, by simp [intOf]; omega⟩
    · obtain ⟨p, c, hB1⟩ := hR.nil
      rw [← HN.out] at hB1
      have c1 := hB1.cell (i := 1) rfl
      have ek : k = N := by omega
      subst ek
      go_wp2_with fail
      go_ret
      exact ⟨_, rfl, hown, hF⟩
end Go.Proofs.YtifillpcphiblaaGreat

namespace Go.Proofs.YtifillpcphiblaaGreat
open Go Go.Proofs Go.RowKit

/-- Blocks of one type alone, from B on, may have changed; and new ones. -/
def FrT (T : TypeId) (B : Nat) (w w' : World) : Prop := ∃ S, Fr S w w' ∧ ∀ b ∈ S, B ≤ b ∧ (b < w.heap.size → ∃ cs, Blk w b cs T)
theorem FrT.of {T : TypeId} {B : Nat} {w w' : World} (h : Fr [] w w') : FrT T B w w' := ⟨[], h, by simp⟩
theorem FrT.blk {T T' : TypeId} {B b : Nat} {w w' : World} {cs : List Value} (h : FrT T B w w') (hb : Blk w b cs T') (hT : T' ≠ T) : Blk w' b cs T' := by
  obtain ⟨S, hF, hS⟩ := h
  refine hb.fr hF (fun hc => ?_)
  obtain ⟨_, h'⟩ := hS b hc
  obtain ⟨cs', h'⟩ := h' hb.lt
  exact blk_ne hb h' hT rfl

theorem FRep.set {w : World} {fb B : Nat} {first : Int} {l : List Bool} {g c : Nat} (h : FRep w fb B first l) (hB1 : Blk w fb [.int .i64 first, .slice (some ⟨g, 0, none⟩) l.length c] 118) (hl : 0 < l.length) (j : Nat) (b : Bool) :
    FRep (w.setCell ⟨g, j, none⟩ (.bool b)) fb B first (l.set j b) ∧ (∃ cs, Blk w g cs 4) ∧ B ≤ g := by
  obtain ⟨fv, h1, h2⟩ := h.s
  have e : fv = .slice (some ⟨g, 0, none⟩) l.length c := by
    have a := h1.cell (i := 1) rfl
    have b := hB1.cell (i := 1) rfl
    rw [a] at b
    exact Option.some.inj b
  subst e
  have ho := own_set h2 hl j (.bool b)
  obtain ⟨g', hg, hB, hlt, _, _, hcell, hz⟩ := own_cellsD h2 hl
  cases hg
  have hb : ∃ cs, Blk w g cs 4 := by
    obtain ⟨_, h3 | ⟨g2, cap, cur, e1, e2, e3, _⟩⟩ := h2
    · omega
    · cases e1
      exact ⟨cur.toList, e3⟩
  obtain ⟨cs, hcs⟩ := hb
  have hne : fb ≠ g := blk_ne h1 hcs (by decide)
  refine ⟨⟨⟨.slice (some ⟨g, 0, none⟩) l.length c, ?_, ?_⟩, h.b⟩, ⟨cs, hcs⟩, hB⟩
  · have := h1.other (a := ⟨g, j, none⟩) hne (.bool b)
    exact this
  · rw [List.length_set, List.map_set]
    simpa using ho

theorem FRep.fr' {S : List Nat} {w w' : World} {fb B : Nat} {first : Int} {l : List Bool} (h : FRep w fb B first l) (hf : Fr S w w') (hS : ∀ x ∈ S, ∃ cs T, Blk w x cs T ∧ T ≠ 4 ∧ T ≠ 118) : FRep w' fb B first l := by
  obtain ⟨fv, h1, h2⟩ := h.s
  refine ⟨⟨fv, h1.fr hf (fun hc => ?_), ownsRow_fr h2 hf (fun g hg hc => ?_)⟩, h.b⟩
  · obtain ⟨cs, T, h3, _, h5⟩ := hS _ hc
    exact blk_ne h1 h3 (Ne.symm h5) rfl
  · obtain ⟨cs, T, h3, h4, _⟩ := hS _ hc
    exact own_ne5 h2 h3 h4 (by simp [hg])

def told3 (a e : Int) : Value := .agg #[.int .i64 a, .int .i64 e]
def told3W (w : World) (tb : Nat) (c e : Int) : World := (w.setCell ⟨tb, 0, none⟩ (.int .i64 c)).setCell ⟨tb, 1, none⟩ (.int .i64 e)
theorem told3W_fr {w0 w : World} {S : List Nat} (h : Fr S w0 w) {tb : Nat} (ht : tb ∈ S ∨ w0.heap.size ≤ tb) (c e : Int) : Fr S w0 (told3W w tb c e) := (h.set ht _).set ht _
theorem told3W_blk {w : World} {tb : Nat} {a b : Value} {T : TypeId} (h : Blk w tb [a, b] T) (c e : Int) : Blk (told3W w tb c e) tb [.int .i64 c, .int .i64 e] T := (h.set 0 (.int .i64 c)).set 1 (.int .i64 e)

def TakePost (w : World) (fb B : Nat) (first : Int) (bits : List Bool) (t : Value) (e : Ending) (w' : World) : Prop := e = .returned t ∧ FRep w' fb B first bits ∧ FrT 4 B w w'

set_option maxRecDepth 100000 in
set_option maxHeartbeats 6400000 in
theorem dTake (fb B : Nat) (first : Int) (bits : List Bool) (l : List (Int × Int)) (at0 n : Int) (w : World) (h : FRep w fb B first bits) (hS : Same3 first bits l) (hf0 : 0 ≤ first) (hf : first + bits.length ≤ 65536) (hn : 1 ≤ n) (_hBw : B ≤ w.heap.size) (t : Value) (bits' : List Bool)
    (hres : (t = told3 0 2 ∧ bits' = bits ∧ ∀ y ∈ l, y.2 < n) ∨ ∃ l1 p m l2 k, t = told3 p 0 ∧ l = l1 ++ (p, m) :: l2 ∧ (∀ y ∈ l1, y.2 < n) ∧ n ≤ m ∧ p = first + (k : Nat) ∧ bits' = clr bits k n.toNat) :
    Calls Tryz.prog 70 #[.pointer (some ⟨fb, 0, none⟩), .agg #[.int .i64 0, .int .i64 at0, .int .i64 n]] w (TakePost w fb B first bits' t) := by
  have X0 := (Blk.new w [.int .i64 0, .int .i64 at0, .int .i64 n] 145).alloc (.cells #[.int .i64 0, .int .i64 0] 142)
  have T0 := Blk.new (w.alloc (.cells #[.int .i64 0, .int .i64 at0, .int .i64 n] 145)) [.int .i64 0, .int .i64 0] 142
  have hF0 : Fr [] w ((w.alloc (.cells #[.int .i64 0, .int .i64 at0, .int .i64 n] 145)).alloc (.cells #[.int .i64 0, .int .i64 0] 142)) := ((Fr.refl _ w).alloc _).alloc _
  have hR0 := h.fr hF0 (by simp)
  have hsz : (w.alloc (.cells #[.int .i64 0, .int .i64 at0, .int .i64 n] 145)).heap.size = w.heap.size + 1 := by simp
  rw [hsz] at T0
  have hsz2 : ((w.alloc (.cells #[.int .i64 0, .int .i64 at0, .int .i64 n] 145)).alloc (.cells #[.int .i64 0, .int .i64 0] 142)).heap.size = w.heap.size + 2 := by simp
  have x0 := X0.cell (i := 0) rfl
  have x2 := X0.cell (i := 2) rfl
  have hnt : ¬ n < 1 := by omega
  have HX := hid X0
  have HT := hid T0
  have HR0 := hid hR0
  have HF0 := hid hF0
  have HS := hid hS
  have HRES := hid hres
  have hlen := runsTo_len first bits bits.length
  rw [hS.list] at hlen
  clear X0 T0 hR0 hF0 hS hres hsz h
  go_enter Tryz.func70, Tryz.ntmps70
  go_wp2_with fail
  refine (dList fb B first bits _ HR0.out hf0 hf).mono ?_
  rintro e w1 ⟨v, rfl, hown, hF1⟩
  rw [HS.out.list] at hown
  obtain ⟨N, hN⟩ : ∃ N, N = l.length := ⟨_, rfl⟩
  rw [← hN] at hown hlen
  obtain ⟨p, c, rfl⟩ := own_shape hown
  rw [hsz2] at hown
  have HN := hid hN
  have hX1 := HX.out.fr hF1 (by simp)
  have hT1 := HT.out.fr hF1 (by simp)
  have hR1 := HR0.out.fr hF1 (by simp)
  have hF1' := HF0.out.trans hF1
  have HOWN := hid hown
  clear x0 x2 hown hF1 hN hsz2
  go_wp2_with fail
  go_loopw [6] (fun i wr => ∃ k : Nat, k ≤ N ∧ i = .int .i64 k ∧ Hid (∀ (j : Nat) (y : Int × Int), j < k → l[j]? = some y → y.2 < n) ∧ Fr [] w1 wr) (fun i _ => N - (intOf i).toNat)
  case atStart => exact ⟨0, Nat.zero_le _, rfl, fun j y hj => by omega, Fr.refl _ _⟩
  case round =>
    obtain ⟨k, hk, rfl, HB, hFr⟩ := hrel
    obtain ⟨wt, rfl⟩ : ∃ wt, wt = wr := ⟨_, rfl⟩
    have hXt := hX1.fr hFr (by simp)
    have hTt := hT1.fr hFr (by simp)
    have hRt := hR1.fr hFr (by simp)
    have x2 := hXt.cell (i := 2) rfl
    by_cases hlt : k < N
    · obtain ⟨y, hy⟩ : ∃ y, l[k]? = some y := ⟨_, List.getElem?_eq_getElem (by have := HN.out; omega)⟩
      obtain ⟨g5, rfl, hg5B, hg5, hNc, _, hcell, _⟩ := own_cellsD HOWN.out (by omega)
      have hOt := ownsRow_fr HOWN.out hFr (fun g hg hc => by cases hc)
      obtain ⟨g5', e5, _, hg5t, _, _, hcellt, _⟩ := own_cellsD hOt (by omega)
      cases e5
      obtain ⟨f1, f2⟩ := flat_get l k y hy
      have y1 := hcellt _ _ f1
      have y2 := hcellt _ _ f2
      obtain ⟨ya, ym⟩ := y
      simp only at y1 y2
      have HY := hid hy
      have hi1 : (0 : Int) ≤ (k : Int) := by omega
      have hi2 : (k : Int) < (N : Int) := by omega
      have HXt := hid hXt
      have HTt := hid hTt
      have HRt := hid hRt
      have HFr := hid hFr
      have HC := hid hcellt
      clear hcell hcellt f1 f2 hy hXt hTt hRt hFr hX1 hT1 hR1
      by_cases hge : n ≤ ym
      · go_wp2_with fail
        go_quiet (fail)
        go_wp2_with fail
        obtain ⟨wq, hwq⟩ : ∃ wq, wq = wt.drewN nq := ⟨_, rfl⟩
        have hFq : Fr [] w1 wq := by rw [hwq]; exact HFr.out.drewN _
        have hXq : Blk wq w.heap.size [.int .i64 0, .int .i64 at0, .int .i64 n] 145 := by rw [hwq]; exact HXt.out.drewN _
        have hTq : Blk wq (w.heap.size + 1) [.int .i64 0, .int .i64 0] 142 := by rw [hwq]; exact HTt.out.drewN _
        have hRq : FRep wq fb B first bits := by rw [hwq]; exact HRt.out.fr ((Fr.refl [] wt).drewN nq) (by simp)
        have hOq : wq.ownsRow (w.heap.size + 2) 115 2 (.slice (some ⟨g5, 0, none⟩) N c) N (flat l) := ownsRow_fr HOWN.out hFq (fun g hg hc => by cases hc)
        rw [← hwq]
        clear hwq y1 y2 x2
        obtain ⟨l1, l2, kk, rfl, hl, hpk, hbits⟩ : ∃ l1 l2 kk, t = told3 ya 0 ∧ l = l1 ++ (ya, ym) :: l2 ∧ ya = first + (kk : Nat) ∧ bits' = clr bits kk n.toNat := by
          rcases HRES.out with ⟨_, _, ha⟩ | ⟨l1, p, m, l2, kk, rfl, e2, e3, e4, e5, e6⟩
          · exact absurd (ha _ (List.mem_of_getElem? HY.out)) (by show ¬ ym < n; omega)
          · have hk1 : k = l1.length := by
              rcases Nat.lt_trichotomy k l1.length with h | h | h
              · have := HY.out
                rw [e2, List.getElem?_append_left h] at this
                exact absurd (e3 _ (List.mem_of_getElem? this)) (by show ¬ ym < n; omega)
              · exact h
              · exact absurd (HB.out l1.length (p, m) h (by rw [e2]; simp)) (by show ¬ m < n; omega)
            have := HY.out
            rw [e2, hk1, List.getElem?_append_right (Nat.le_refl _), Nat.sub_self] at this
            simp at this
            obtain ⟨rfl, rfl⟩ := this
            exact ⟨l1, l2, kk, rfl, e2, e5, e6⟩
        have hm1 := HS.out.runs.mem (ya, ym) (by rw [hl]; simp)
        simp only at hm1
        have hbl : kk + n.toNat ≤ bits.length := by omega
        obtain ⟨nn, hnn⟩ := Int.eq_ofNat_of_zero_le (show 0 ≤ n by omega)
        subst hnn
        simp only [Int.toNat_natCast] at hbl hbits
        obtain ⟨g, c3, hB1, hBg, hgl, hlc, _, _⟩ := hRq.reads (by omega)
        obtain ⟨M, hM⟩ : ∃ M, M = bits.length := ⟨_, rfl⟩
        have HM := hid hM
        have hflen : first + (M : Int) ≤ 65536 := by omega
        rw [← hM] at hB1 hlc hbl
        obtain ⟨-, hcg, -⟩ := hRq.set (g := g) (c := c3) (by rw [← HM.out]; exact hB1) (by omega) 0 true
        have hne5 : g ≠ g5 := by
          obtain ⟨cs, hcs⟩ := hcg
          have h5 := hOq
          rcases h5.2 with h6 | ⟨g7, cap7, cur7, e7, _, hh7, _⟩
          · omega
          · cases e7
            exact blk_ne (T := 4) (T' := 115) (cs' := cur7.toList) hcs hh7 (by decide)
        have hgw : g ≠ w.heap.size ∧ g ≠ w.heap.size + 1 ∧ g ≠ fb := by
          obtain ⟨cs, hcs⟩ := hcg
          exact ⟨blk_ne hcs hXq (by decide), blk_ne hcs hTq (by decide), blk_ne hcs hB1 (by decide)⟩
        have hwr1 : IntKind.i64.wrap (ya - first) = (kk : Int) := by rw [IntKind.wrap_i64]; omega
        have hkb : kk ≤ 65536 := by omega
        have hx0 : Hid (wq.heap.size = wq.heap.size) := rfl
        have HXq := hid hXq
        have HTq := hid hTq
        have HRq := hid hRq
        have HOq := hid hOq
        have HFq := hid hFq
        have HB1 := hid hB1
        have HPK := hid hpk
        have HL := hid hl
        have HBT := hid hbits
        have hget0 : (flat l)[k * 2]? = some (.int .i64 ya) := (flat_get l k _ HY.out).1
        have HG0 := hid hget0
        have HCG := hid hcg
        clear hXq hTq hRq hOq hFq hB1 hpk hl hbits hget0 hm1 hM hcg
        go_loopw [7] (fun i wr => ∃ q : Nat, q ≤ nn ∧ i = .int .i64 q ∧ FRep wr fb B first (clr bits kk q) ∧ Fr [g] wq wr) (fun i _ => nn - (intOf i).toNat)
        case atStart => exact ⟨0, Nat.zero_le _, rfl, HRq.out, Fr.refl _ _⟩
        case round =>
          obtain ⟨q, hq, rfl, hRr, hFg⟩ := hrel
          have hXr := HXq.out.fr hFg (by simp; omega)
          have hTr := HTq.out.fr hFg (by simp; omega)
          have hB1r := HB1.out.fr hFg (by simp; omega)
          have hOr := ownsRow_fr HOq.out hFg (fun g' hg' hc => by simp [Value.ownBlock] at hg' hc; omega)
          obtain ⟨g6, e6, _, _, _, _, hc6, _⟩ := own_cellsD hOr (by omega)
          cases e6
          have y1 := hc6 _ _ HG0.out
          have x2 := hXr.cell (i := 2) rfl
          have b0 := hB1r.cell (i := 0) rfl
          have b1 := hB1r.cell (i := 1) rfl
          have HTr := hid hTr
          have HRr := hid hRr
          have HB1r := hid hB1r
          have HFg := hid hFg
          clear hXr hTr hB1r hOr hc6 hRr hFg
          by_cases hql : q < nn
          · have hset := HRr.out.set (g := g) (c := c3) (by rw [clr_len, ← HM.out]; exact HB1r.out) (by rw [clr_len]; have := HM.out; omega) (kk + q) false
            have hcl := clr_len bits kk q
            obtain ⟨g8, c8, hB8, _, hg8, hl8, hb8, hz8⟩ := HRr.out.reads (by rw [clr_len]; have := HM.out; omega)
            have e8 : (⟨g8, 0, none⟩ : Addr) = ⟨g, 0, none⟩ := by
              have a := hB8.cell (i := 1) rfl
              rw [b1] at a
              simp at a
              rw [a.1]
            cases e8
            have bq := hb8 (kk + q) (by rw [hcl]; have := HM.out; omega)
            have zq := hz8 (kk + q)
            have HSET := hid hset
            have hsum : IntKind.i64.wrap ((kk : Int) + q) = (kk : Int) + q := by rw [IntKind.wrap_i64]; omega
            have u1 : (0 : Int) ≤ (kk : Int) + q := by omega
            have u2 : ((kk : Int) + q).toNat = kk + q := by omega
            have u3 : (kk : Int) + q < (M : Int) := by omega
            clear hset hcl hB8 hl8 hb8 hz8
            go_wp2_with fail
            go_region
            go_wp2_with fail
            go_roundw
            case rel =>
              refine ⟨q + 1, by omega, by go_num, ?_, (HFg.out.set (by simp) _).drew⟩
              exact HSET.out.1.fr (S := []) ((Fr.refl _ _).drew) (by simp)
            case measure => simp [intOf]; omega
          · have eq : q = nn := by omega
            subst eq
            have t0 := HTr.out.cell (i := 0) rfl
            have t1 := HTr.out.cell (i := 1) rfl
            have f0 := HTr.out.frozen 0
            have f1 := HTr.out.frozen 1
            go_wp2_with fail
            have hfin : TakePost w fb B first bits' (told3 ya 0) (.returned (told3 ya 0)) (told3W wr (w.heap.size + 1) ya 0) := by
              refine ⟨rfl, ?_, ?_⟩
              · rw [HBT.out]
                have h1 := HRr.out.s
                exact HRr.out.fr' (S := [w.heap.size + 1]) (told3W_fr (Fr.refl _ wr) (by simp) ya 0) (fun x hx => by obtain rfl := List.mem_singleton.1 hx; exact ⟨_, _, HTr.out, by decide, by decide⟩)
              · obtain ⟨cs, hcs⟩ := HCG.out
                have hFwq : Fr [] w wq := hF1'.trans HFq.out
                refine ⟨[g], told3W_fr ((hFwq.here (by simp)).trans HFg.out) (.inr (by omega)) ya 0, fun b hb => ?_⟩
                obtain rfl := List.mem_singleton.1 hb
                refine ⟨hBg, fun hl => ⟨cs, ?_⟩⟩
                unfold Blk at hcs ⊢
                rw [← hFwq.block _ hl (by simp)]
                exact hcs
            refine bodyPost_ret (v := told3 ya 0) ?_ rfl hfin
            have k0 := (told3W_blk HTr.out ya 0).cell (i := 0) rfl
            have k1 := (told3W_blk HTr.out ya 0).cell (i := 1) rfl
            simp only [told3W] at k0 k1
            simp [results, Tryz.results70, go_sem, k0, k1, told3]
      · have hged : decide (n ≤ ym) = false := by simpa using hge
        go_wp2_with fail
        go_quiet (fail)
        go_wp2_with fail
        go_roundw
        case rel =>
          refine ⟨k + 1, by omega, by go_num, fun j y hj hy => ?_, HFr.out.drewN _⟩
          by_cases e : j = k
          · subst e
            rw [HY.out] at hy
            cases hy
            show ym < n
            omega
          · exact HB.out j y (by omega) hy
        case measure => simp [intOf]; omega
    · have ek : k = N := by omega
      subst ek
      obtain ⟨rfl, rfl, hall⟩ : t = told3 0 2 ∧ bits' = bits ∧ ∀ y ∈ l, y.2 < n := by
        rcases HRES.out with h | ⟨l1, p, m, l2, kk, _, e2, _, e4, _⟩
        · exact h
        · exact absurd (HB.out l1.length (p, m) (by rw [HN.out, e2]; simp) (by rw [e2]; simp)) (by show ¬ m < n; omega)
      have HTt := hid hTt
      have HRt := hid hRt
      have HFr := hid hFr
      have t0 := hTt.cell (i := 0) rfl
      have t1 := hTt.cell (i := 1) rfl
      have f0 := hTt.frozen 0
      have f1 := hTt.frozen 1
      clear hall hTt hRt hFr hXt x2 hX1 hT1 hR1
      go_wp2_with fail
      have hfin : TakePost w fb B first bits' (told3 0 2) (.returned (told3 0 2)) (told3W wt (w.heap.size + 1) 0 2) := by
        refine ⟨rfl, ?_, ?_⟩
        · exact HRt.out.fr' (S := [w.heap.size + 1]) (told3W_fr (Fr.refl _ wt) (by simp) 0 2) (fun x hx => by obtain rfl := List.mem_singleton.1 hx; exact ⟨_, _, HTt.out, by decide, by decide⟩)
        · exact ⟨[], told3W_fr (hF1'.trans HFr.out) (.inr (by omega)) 0 2, by simp⟩
      refine bodyPost_ret (v := told3 0 2) ?_ rfl hfin
      have k0 := (told3W_blk HTt.out 0 2).cell (i := 0) rfl
      have k1 := (told3W_blk HTt.out 0 2).cell (i := 1) rfl
      simp only [told3W] at k0 k1
      simp [results, Tryz.results70, go_sem, k0, k1, told3]
end Go.Proofs.YtifillpcphiblaaGreat
