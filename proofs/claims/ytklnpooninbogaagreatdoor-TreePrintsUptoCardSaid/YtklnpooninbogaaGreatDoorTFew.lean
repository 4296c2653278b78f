import Derived.Test.YtklnpooninbogaaGreatDoorTCount
import Derived.Deep.DeepCutAuto
namespace Go.Proofs.YtklnpooninbogaaGreatDoor
open Go Go.Proofs Go.RowKit

/-! law20.few, ref20.Count, law20.small. -/

/-- How many trees, zero ones too. -/
def ctA : Nat → Tr → Nat
  | 0, _ => 1
  | m + 1, t => 1 + (t.ks.map (ctA m)).sum
def ctP (m : Nat) (l : List Tr) : Nat := match m with | 0 => 1 | m' + 1 => 1 + (l.map (ctA m')).sum
def dpA : Nat → Tr → Nat
  | 0, _ => 1
  | m + 1, t => depL (dpA m) t.ks
def dpP (m : Nat) (l : List Tr) : Nat := match m with | 0 => 1 | m' + 1 => depL (dpA m') l
theorem ctA_eq (m : Nat) (t : Tr) : ctA m t = ctP m t.ks := by cases m <;> rfl
theorem dpA_eq (m : Nat) (t : Tr) : dpA m t = dpP m t.ks := by cases m <;> rfl
theorem ctP_snoc (m : Nat) (l : List Tr) (x : Tr) : ctP (m + 1) (l ++ [x]) = ctP (m + 1) l + ctA m x := by simp [ctP]; omega
theorem dpP_snoc (m : Nat) (l : List Tr) (x : Tr) : dpP (m + 1) (l ++ [x]) = max (dpP (m + 1) l) (dpA m x + 1) := by simp [dpP, depL]
theorem ctP_mono (m : Nat) (l r : List Tr) : ctP m l ≤ ctP m (l ++ r) := by
  cases m with
  | zero => exact Nat.le_refl _
  | succ m => simp [ctP]
theorem ctP_one (m : Nat) : ctP m [] = 1 ∧ dpP m [] = 1 := by cases m <;> simp [ctP, dpP, depL]
theorem foldmax_ge {l : List Nat} {a b : Nat} (h : b ≤ a ∨ ∃ x ∈ l, b ≤ x) : b ≤ l.foldl max a := by
  induction l generalizing a with
  | nil => rcases h with h | ⟨x, hx, _⟩; (· exact h); (· cases hx)
  | cons y l ih =>
    refine ih ?_
    rcases h with h | ⟨x, hx, h⟩
    · left; omega
    · rcases List.mem_cons.1 hx with rfl | hx
      · left; omega
      · exact .inr ⟨x, hx, h⟩
theorem mem_le_sum {l : List Nat} {x : Nat} (h : x ∈ l) : x ≤ l.sum := by
  induction l with
  | nil => cases h
  | cons y l ih =>
    rw [List.sum_cons]
    rcases List.mem_cons.1 h with rfl | h
    · omega
    · have := ih h; omega
theorem dpA_le : ∀ (m : Nat) (t : Tr), dpA m t ≤ ctA m t
  | 0, t => Nat.le_refl _
  | m + 1, t => by
    refine foldmax_le (by show 1 ≤ 1 + _; omega) (fun x hx => ?_)
    obtain ⟨k, hk, rfl⟩ := List.mem_map.1 hx
    have := dpA_le m k
    have h2 : ctA m k ≤ (t.ks.map (ctA m)).sum := mem_le_sum (List.mem_map_of_mem hk)
    show dpA m k + 1 ≤ 1 + _
    omega
theorem dpP_le (m : Nat) (l : List Tr) : dpP m l ≤ ctP m l := by
  have := dpA_le m (.mk 0 0 false 0 l)
  rw [ctA_eq, dpA_eq] at this
  exact this

def CtPost (m : Nat) (t : Tr) (w : World) (e : Ending) (w' : World) : Prop := e = .returned (.tuple #[.int .i64 (ctA m t), .int .i64 (dpA m t)]) ∧ Fr [] w w'

set_option maxRecDepth 100000 in
set_option maxHeartbeats 3200000 in
theorem rCount : ∀ (m : Nat) (t : Tr) (v : Value) (P : Nat → Prop) (w : World), TrV w P m t v → ctA m t ≤ 2000000 →
    Calls Tryz.prog 33 #[v] w (CtPost m t w) := by
  intro m
  induction m using Nat.strongRecOn with
  | _ m ih =>
    intro t v P w hT hc
    obtain ⟨sv, rfl, hk⟩ := hT
    have B0 := Blk.new w (trCells t.k t.t t.f t.b sv) 38
    have c0 := B0.cell (i := 0) rfl
    have e1 := ctA_eq m t
    have e2 := dpA_eq m t
    obtain ⟨N, hN⟩ : ∃ N, N = t.ks.length := ⟨_, rfl⟩
    have hNl : N ≤ 9223372036854775807 := by have := hk.len; unfold maxLen at this; omega
    obtain ⟨A, c, rfl⟩ := hk.form
    rw [← hN] at hk B0 ⊢
    have HB := hid B0
    have HK := hid hk
    have HN := hid hN
    have HE1 := hid e1
    have HE2 := hid e2
    have HC := hid hc
    have HI := hid ih
    have hF0 : Fr [] w (w.alloc (.cells (trCells t.k t.t t.f t.b (.slice A N c)).toArray 38)) := (Fr.refl _ w).alloc _
    have HF0 := hid hF0
    clear e1 e2 hc ih hk hN B0 hF0
    unfold trAgg
    go_enter Tryz.func33, Tryz.ntmps33
    go_wp2_with fail
    go_loopw [4, 5, 6] (fun nv dv iv wr => ∃ i : Nat, i ≤ N ∧ iv = .int .i64 i ∧ nv = .int .i64 (ctP m (t.ks.take i)) ∧ dv = .int .i64 (dpP m (t.ks.take i)) ∧ Blk wr w.heap.size (trCells t.k t.t t.f t.b (.slice A N c)) 38 ∧ Fr [] w wr) (fun _ _ iv _ => N - (intOf iv).toNat)
    case atStart => exact ⟨0, Nat.zero_le _, rfl, by rw [List.take_zero, (ctP_one m).1]; rfl, by rw [List.take_zero, (ctP_one m).2]; rfl, HB.out, HF0.out⟩
    case round =>
      obtain ⟨i, hi, rfl, rfl, rfl, hB, hF⟩ := hrel
      have c4 := hB.cell (i := 4) rfl
      have HB1 := hid hB
      have HF1 := hid hF
      clear hB hF c0
      by_cases hlt : (i : Int) < (N : Int)
      · obtain ⟨x, hx⟩ : ∃ x, t.ks[i]? = some x := ⟨_, List.getElem?_eq_getElem (by rw [← HN.out]; omega)⟩
        obtain ⟨g, o, kv, m', rfl, -, hg, hat, hm', hkx⟩ := HK.out.at hx
        subst hm'
        have hat' := hat.fr HF1.out hg (by simp)
        obtain ⟨a0, a1, a2, a3, a4⟩ := hat'
        have hkx' := hkx.fr HF1.out (by simp)
        have HX := hid hx
        have HKX := hid hkx'
        have i0 : (0 : Int) ≤ (i : Int) := by omega
        have htk : t.ks.take (i + 1) = t.ks.take i ++ [x] := by rw [List.take_add_one, hx]; rfl
        have hC1 := ctP_snoc m' (t.ks.take i) x
        have hD1 := dpP_snoc m' (t.ks.take i) x
        rw [← htk] at hC1 hD1
        have hCm := ctP_mono (m' + 1) (t.ks.take (i + 1)) (t.ks.drop (i + 1))
        rw [List.take_append_drop, ← HE1.out] at hCm
        have hDm := dpP_le (m' + 1) (t.ks.take i)
        have hDx := dpA_le m' x
        have hCb := HC.out
        have hcall := HI.out m' (by omega) x (trAgg x.k x.t x.f x.b kv) P wr ⟨kv, rfl, hkx'⟩ (by omega)
        unfold trAgg at hcall
        have HCALL := hid hcall
        obtain ⟨C1, eC1⟩ : ∃ C1, C1 = ctP (m' + 1) (t.ks.take i) := ⟨_, rfl⟩
        obtain ⟨D1, eD1⟩ : ∃ D1, D1 = dpP (m' + 1) (t.ks.take i) := ⟨_, rfl⟩
        obtain ⟨X1, eX1⟩ : ∃ X1, X1 = ctA m' x := ⟨_, rfl⟩
        obtain ⟨Y1, eY1⟩ : ∃ Y1, Y1 = dpA m' x := ⟨_, rfl⟩
        rw [← eC1, ← eX1] at hC1
        rw [← eD1, ← eY1] at hD1
        rw [← eD1, ← eC1] at hDm
        rw [← eY1, ← eX1] at hDx
        rw [← eC1, ← eD1]
        have HC1 := hid hC1
        have HD1 := hid hD1
        have HX1 := hid eX1
        have HY1 := hid eY1
        have hb1 : C1 + X1 ≤ 2000000 := by omega
        clear hat hkx hx hkx' htk hC1 hD1 hCm hCb hcall eC1 eD1 eX1 eY1
        go_wp2_with fail
        refine HCALL.out.mono ?_
        rintro e w5 ⟨rfl, hF5⟩
        rw [← HX1.out, ← HY1.out]
        have HB5 := hid (HB1.out.fr hF5 (by simp))
        have HF5 := hid (HF1.out.trans hF5)
        clear hF5
        go_wp2_with fail
        all_goals
          go_roundw
          case rel =>
            refine ⟨i + 1, by omega, by go_num, ?_, ?_, HB5.out, HF5.out⟩
            · rw [HC1.out]; go_num
            · rw [HD1.out]
              congr 1
              first | omega | (unfold wrap64; omega)
          case measure => simp [intOf]; omega
      · have hiN : i = t.ks.length := by have := HN.out; omega
        have hfin : CtPost m t w (.returned (.tuple #[.int .i64 (ctP m (t.ks.take i)), .int .i64 (dpP m (t.ks.take i))])) wr := ⟨by rw [hiN, List.take_length, HE1.out, HE2.out], HF1.out⟩
        have HFIN := hid hfin
        clear hiN hfin
        go_wp2_with fail
        go_ret2
        exact HFIN.out

/-- Is a tree small enough to be gone through? -/
def fewB : Nat → Tr → Bool
  | 0, _ => false
  | l + 1, t => decide (t.ks.length ≤ 50) && t.ks.all (fewB l)

set_option maxRecDepth 100000 in
set_option maxHeartbeats 3200000 in
theorem rFew : ∀ (l m : Nat) (t : Tr) (v : Value) (P : Nat → Prop) (w : World), TrV w P m t v → l ≤ 1000 →
    Calls Tryz.prog 32 #[v, .int .i64 l] w fun e w' => e = .returned (.bool (fewB l t)) ∧ Fr [] w w' := by
  intro l
  induction l with
  | zero =>
    intro m t v P w hT hl
    obtain ⟨sv, rfl, hk⟩ := hT
    obtain ⟨A, c, rfl⟩ := hk.form
    have hF0 : Fr [] w (w.alloc (.cells #[.int .i64 t.k, .int .i64 t.t, .bool t.f, .int .u64 t.b, .slice A t.ks.length c] 38)) := (Fr.refl _ w).alloc _
    have e : fewB 0 t = false := rfl
    rw [e]
    clear hk
    unfold trAgg
    go_enter Tryz.func32, Tryz.ntmps32
    go_wp2_with fail
    go_ret
    exact ⟨rfl, hF0⟩
  | succ l ih =>
    intro m t v P w hT hl
    obtain ⟨sv, rfl, hk⟩ := hT
    have B0 := Blk.new w (trCells t.k t.t t.f t.b sv) 38
    obtain ⟨N, hN⟩ : ∃ N, N = t.ks.length := ⟨_, rfl⟩
    have hNl : N ≤ 9223372036854775807 := by have := hk.len; unfold maxLen at this; omega
    obtain ⟨A, c, rfl⟩ := hk.form
    rw [← hN] at hk B0 ⊢
    have c4 := B0.cell (i := 4) rfl
    have hF0 : Fr [] w (w.alloc (.cells (trCells t.k t.t t.f t.b (.slice A N c)).toArray 38)) := (Fr.refl _ w).alloc _
    obtain ⟨R, hR⟩ : ∃ R, R = fewB (l + 1) t := ⟨_, rfl⟩
    rw [← hR]
    have e : R = (decide (N ≤ 50) && t.ks.all (fewB l)) := by rw [hR, hN]; rfl
    have HE := hid e
    have HK := hid hk
    have HB := hid B0
    have HN := hid hN
    have HF0 := hid hF0
    have HI := hid ih
    clear hR e hk B0 hN hF0 ih
    unfold trAgg
    have hl0 : ¬ ((l : Int) + 1 ≤ 0) := by omega
    have hl1 : ¬ (((l + 1 : Nat) : Int) ≤ 0) := by omega
    by_cases h50 : 50 < N
    · have hb : (50 : Int) < (N : Int) := by omega
      have e : R = false := by rw [HE.out, decide_eq_false (by omega)]; rfl
      subst e
      clear HE h50
      go_enter Tryz.func32, Tryz.ntmps32
      go_wp2_with fail
      go_ret
      exact ⟨rfl, HF0.out⟩
    · have hb : ¬ (50 : Int) < (N : Int) := by omega
      have e : R = t.ks.all (fewB l) := by rw [HE.out, decide_eq_true (by omega)]; rfl
      have HE2 := hid e
      clear HE h50 e
      go_enter Tryz.func32, Tryz.ntmps32
      go_wp2_with fail
      go_loopw [5] (fun iv wr => ∃ i : Nat, i ≤ N ∧ iv = .int .i64 i ∧ (t.ks.take i).all (fewB l) = true ∧ Fr [] w wr ∧ Blk wr w.heap.size (trCells t.k t.t t.f t.b (.slice A N c)) 38) (fun iv _ => N - (intOf iv).toNat)
      case atStart => exact ⟨0, Nat.zero_le _, rfl, rfl, HF0.out, HB.out⟩
      case round =>
        obtain ⟨i, hi, rfl, hall, hF, hB⟩ := hrel
        have d4 := hB.cell (i := 4) rfl
        have HA := hid hall
        have HF := hid hF
        have HB1 := hid hB
        clear hall hF hB c4
        by_cases hlt : (i : Int) < (N : Int)
        · obtain ⟨x, hx⟩ : ∃ x, t.ks[i]? = some x := ⟨_, List.getElem?_eq_getElem (by rw [← HN.out]; omega)⟩
          obtain ⟨g, o, kv, m', rfl, -, hg, hat, hm', hkx⟩ := HK.out.at hx
          obtain ⟨a0, a1, a2, a3, a4⟩ := hat.fr HF.out hg (by simp)
          have hcall := HI.out m' x (trAgg x.k x.t x.f x.b kv) P wr ⟨kv, rfl, hkx.fr HF.out (by simp)⟩ (by omega)
          unfold trAgg at hcall
          have HC := hid hcall
          have HX := hid hx
          have i0 : (0 : Int) ≤ (i : Int) := by omega
          clear hat hkx hx hcall
          go_wp2_with fail
          refine HC.out.mono ?_
          rintro e w5 ⟨rfl, hF5⟩
          have HF5 := hid (HF.out.trans hF5)
          have HB5 := hid (HB1.out.fr hF5 (by simp))
          clear hF5
          cases hfx : fewB l x with
          | false =>
            have e : R = false := by
              rw [HE2.out, List.all_eq_false]
              exact ⟨x, List.mem_of_getElem? HX.out, by rw [hfx]; decide⟩
            subst e
            clear HE2 hfx
            go_wp2_with fail
            go_ret
            exact ⟨rfl, HF5.out⟩
          | true =>
            have e : (t.ks.take (i + 1)).all (fewB l) = true := by
              rw [List.take_add_one, HX.out, List.all_append, HA.out]
              simp [hfx]
            have HA1 := hid e
            clear e hfx
            go_wp2_with fail
            go_roundw
            case rel => exact ⟨i + 1, by omega, by go_num, HA1.out, HF5.out, HB5.out⟩
            case measure => simp [intOf]; omega
        · have e : R = true := by
            have hiN : i = t.ks.length := by have := HN.out; omega
            have := HA.out
            rw [hiN, List.take_length] at this
            rw [HE2.out, this]
          subst e
          clear HE2
          go_wp2_with fail
          go_ret
          exact ⟨rfl, HF.out⟩

/-- Of no more than so many trees? -/
def smallB (m : Nat) (t : Tr) : Bool := fewB 40 t && decide (ctA m t ≤ 3000)
set_option maxRecDepth 100000 in
set_option maxHeartbeats 3200000 in
theorem rSmall (m : Nat) (t : Tr) (v : Value) (P : Nat → Prop) (w : World) (hT : TrV w P m t v) (hc : ctA m t ≤ 2000000) :
    Calls Tryz.prog 15 #[v] w fun e w' => e = .returned (.bool (smallB m t)) ∧ Fr [] w w' := by
  obtain ⟨sv, rfl, hk⟩ := hT
  have B0 := Blk.new w (trCells t.k t.t t.f t.b sv) 38
  have hF0 : Fr [] w (w.alloc (.cells (trCells t.k t.t t.f t.b sv).toArray 38)) := (Fr.refl _ w).alloc _
  obtain ⟨A, c, rfl⟩ := hk.form
  have h1 := rFew 40 m t (trAgg t.k t.t t.f t.b (.slice A t.ks.length c)) P _ ⟨_, rfl, hk.fr hF0 (by simp)⟩ (by omega)
  have h2 : ∀ w', Fr [] w w' → Calls Tryz.prog 33 #[trAgg t.k t.t t.f t.b (.slice A t.ks.length c)] w' (CtPost m t w') := fun w' hw' => rCount m t _ P w' ⟨_, rfl, hk.fr hw' (by simp)⟩ hc
  unfold trAgg at h1 h2
  have c0 := B0.cell (i := 0) rfl
  have c1 := B0.cell (i := 1) rfl
  have c2 := B0.cell (i := 2) rfl
  have c3 := B0.cell (i := 3) rfl
  have c4 := B0.cell (i := 4) rfl
  obtain ⟨R, hR⟩ : ∃ R, R = smallB m t := ⟨_, rfl⟩
  rw [← hR]
  have HR := hid hR
  have H1 := hid h1
  have H2 := hid h2
  have HB := hid B0
  have HF0 := hid hF0
  clear hR h1 h2 hF0 hk B0
  unfold trAgg
  go_enter Tryz.func15, Tryz.ntmps15
  go_wp2_with fail
  refine H1.out.mono ?_
  rintro e w1 ⟨rfl, hF1⟩
  have hB1 := HB.out.fr hF1 (by simp)
  have d0 := hB1.cell (i := 0) rfl
  have d1 := hB1.cell (i := 1) rfl
  have d2 := hB1.cell (i := 2) rfl
  have d3 := hB1.cell (i := 3) rfl
  have d4 := hB1.cell (i := 4) rfl
  have HF1 := hid (HF0.out.trans hF1)
  clear hF1 hB1 c0 c1 c2 c3 c4
  cases hf : fewB 40 t with
  | false =>
    have e : R = false := by rw [HR.out]; unfold smallB; rw [hf]; rfl
    subst e
    clear HR hf
    go_wp2_with fail
    go_ret
    exact ⟨rfl, HF1.out⟩
  | true =>
    have e : R = decide (ctA m t ≤ 3000) := by rw [HR.out]; unfold smallB; rw [hf]; rfl
    have HE := hid e
    clear HR hf e
    go_wp2_with fail
    refine (H2.out _ HF1.out).mono ?_
    rintro e w2 ⟨rfl, hF2⟩
    obtain ⟨C, hC⟩ : ∃ C, C = ctA m t := ⟨_, rfl⟩
    rw [← hC] at HE ⊢
    clear hC hc H2 H1
    by_cases h3 : C ≤ 3000
    · have e : R = true := by rw [HE.out]; simpa using h3
      subst e
      have ht : (C : Int) ≤ 3000 := by omega
      clear HE h3
      go_wp2_with fail
      go_ret
      exact ⟨rfl, HF1.out.trans hF2⟩
    · have e : R = false := by rw [HE.out]; simpa using h3
      subst e
      have ht : decide ((C : Int) ≤ 3000) = false := decide_eq_false (by omega)
      clear HE h3
      go_wp2_with fail
      go_ret
      exact ⟨rfl, HF1.out.trans hF2⟩
end Go.Proofs.YtklnpooninbogaaGreatDoor
