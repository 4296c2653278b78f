import Derived.Test.YtklnpooninbogaaGreatDoorTTree
import Derived.WalkLawsBesides
import Derived.Deep.QuietTactic
import Derived.BigQuiet
import Derived.LoopTactic
namespace Go.Proofs.YtklnpooninbogaaGreatDoor
open Go Go.Proofs Go.RowKit

/-! law20.count: how many trees with a kind, and how deep. -/

def cntT : Nat → Tr → Nat
  | 0, t => if t.k = 0 then 0 else 1
  | m + 1, t => if t.k = 0 then 0 else 1 + (t.ks.map (cntT m)).sum
def depL (f : Tr → Nat) (l : List Tr) : Nat := (l.map fun k => f k + 1).foldl max 1
def depT : Nat → Tr → Nat
  | 0, t => if t.k = 0 then 0 else 1
  | m + 1, t => if t.k = 0 then 0 else depL (depT m) t.ks
def cntP (m : Nat) (l : List Tr) : Nat := match m with | 0 => 1 | m' + 1 => 1 + (l.map (cntT m')).sum
def depP (m : Nat) (l : List Tr) : Nat := match m with | 0 => 1 | m' + 1 => depL (depT m') l
theorem cntT_eq (m : Nat) (t : Tr) (h : t.k ≠ 0) : cntT m t = cntP m t.ks := by
  cases m with
  | zero => simp [cntT, cntP, h]
  | succ m => simp [cntT, cntP, h]
theorem depT_eq (m : Nat) (t : Tr) (h : t.k ≠ 0) : depT m t = depP m t.ks := by
  cases m with
  | zero => simp [depT, depP, h]
  | succ m => simp [depT, depP, h]
theorem cntT_no (m : Nat) (t : Tr) (h : t.k = 0) : cntT m t = 0 ∧ depT m t = 0 := by
  cases m with
  | zero => simp [cntT, depT, h]
  | succ m => simp [cntT, depT, h]
theorem cntP_snoc (m : Nat) (l : List Tr) (x : Tr) : cntP (m + 1) (l ++ [x]) = cntP (m + 1) l + cntT m x := by simp [cntP]; omega
theorem depP_snoc (m : Nat) (l : List Tr) (x : Tr) : depP (m + 1) (l ++ [x]) = max (depP (m + 1) l) (depT m x + 1) := by simp [depP, depL]
theorem cntP_mono (m : Nat) (l r : List Tr) : cntP m l ≤ cntP m (l ++ r) := by
  cases m with
  | zero => exact Nat.le_refl _
  | succ m => simp [cntP]
theorem cntP_one (m : Nat) : cntP m [] = 1 ∧ depP m [] = 1 := by cases m <;> simp [cntP, depP, depL]
theorem foldmax_le {l : List Nat} {a b : Nat} (ha : a ≤ b) (h : ∀ x ∈ l, x ≤ b) : l.foldl max a ≤ b := by
  induction l generalizing a with
  | nil => exact ha
  | cons y l ih => exact ih (by have := h y (by simp); omega) (fun x hx => h x (List.mem_cons_of_mem _ hx))
theorem depT_le : ∀ (m : Nat) (t : Tr), depT m t ≤ m + 1
  | 0, t => by unfold depT; split <;> omega
  | m + 1, t => by
    unfold depT
    split
    · omega
    · refine foldmax_le (by omega) (fun x hx => ?_)
      obtain ⟨k, _, rfl⟩ := List.mem_map.1 hx
      have := depT_le m k
      omega
theorem depP_le (m : Nat) (l : List Tr) : depP m l ≤ m + 1 := by
  cases m with
  | zero => exact Nat.le_refl _
  | succ m =>
    refine foldmax_le (by omega) (fun x hx => ?_)
    obtain ⟨k, _, rfl⟩ := List.mem_map.1 hx
    have := depT_le m k
    omega

def CntPost (m : Nat) (t : Tr) (w : World) (e : Ending) (w' : World) : Prop := e = .returned (.tuple #[.int .i64 (cntT m t), .int .i64 (depT m t)]) ∧ Fr [] w w'

set_option maxRecDepth 100000 in
set_option maxHeartbeats 3200000 in
theorem tCount : ∀ (m : Nat) (t : Tr) (v : Value) (P : Nat → Prop) (w : World), TrV w P m t v → cntT m t ≤ 1000000 → m ≤ 1000000 →
    Calls Tryz.prog 12 #[v] w (CntPost m t w) := by
  intro m
  induction m using Nat.strongRecOn with
  | _ m ih =>
    intro t v P w hT hc hm
    obtain ⟨sv, rfl, hk⟩ := hT
    have B0 := Blk.new w (trCells t.k t.t t.f t.b sv) 38
    have c0 := B0.cell (i := 0) rfl
    by_cases h0 : t.k = 0
    · have e := cntT_no m t h0
      have fin : CntPost m t w (.returned (.tuple #[.int .i64 0, .int .i64 0])) (w.alloc (.cells #[.int .i64 t.k, .int .i64 t.t, .bool t.f, .int .u64 t.b, sv] 38)) := ⟨by rw [e.1, e.2]; rfl, (Fr.refl _ w).alloc _⟩
      have h1 : (t.k == 0) = true := by simpa using h0
      have HF := hid fin
      clear h0 e fin hc ih hk
      unfold trAgg
      go_enter Tryz.func12, Tryz.ntmps12
      go_wp2_with fail
      go_ret2
      exact HF.out
    · have e1 := cntT_eq m t h0
      have e2 := depT_eq m t h0
      have h1 : (t.k == 0) = false := by simpa using h0
      obtain ⟨N, hN⟩ : ∃ N, N = t.ks.length := ⟨_, rfl⟩
      have hNl : N ≤ 9223372036854775807 := by have := hk.len; unfold maxLen at this; omega
      obtain ⟨A, c, rfl⟩ := hk.form
      rw [← hN] at hk B0 ⊢
      have HB := hid B0
      have HK := hid hk
      have HN := hid hN
      have HE1 := hid e1
      have HE2 := hid e2
      have HC := hid hc
      have HI := hid ih
      have hF0 : Fr [] w (w.alloc (.cells (trCells t.k t.t t.f t.b (.slice A N c)).toArray 38)) := (Fr.refl _ w).alloc _
      have HF0 := hid hF0
      clear h0 e1 e2 hc ih hk hN B0 hF0
      unfold trAgg
      go_enter Tryz.func12, Tryz.ntmps12
      go_wp2_with fail
      go_loopw [4, 5, 6] (fun nv dv iv wr => ∃ i : Nat, i ≤ N ∧ iv = .int .i64 i ∧ nv = .int .i64 (cntP m (t.ks.take i)) ∧ dv = .int .i64 (depP m (t.ks.take i)) ∧ Blk wr w.heap.size (trCells t.k t.t t.f t.b (.slice A N c)) 38 ∧ Fr [] w wr) (fun _ _ iv _ => N - (intOf iv).toNat)
      case atStart => exact ⟨0, Nat.zero_le _, rfl, by rw [List.take_zero, (cntP_one m).1]; rfl, by rw [List.take_zero, (cntP_one m).2]; rfl, HB.out, HF0.out⟩
      case round =>
        obtain ⟨i, hi, rfl, rfl, rfl, hB, hF⟩ := hrel
        have c4 := hB.cell (i := 4) rfl
        have HB1 := hid hB
        have HF1 := hid hF
        clear hB hF c0
        by_cases hlt : (i : Int) < (N : Int)
        · obtain ⟨x, hx⟩ : ∃ x, t.ks[i]? = some x := ⟨_, List.getElem?_eq_getElem (by rw [← HN.out]; omega)⟩
          obtain ⟨g, o, kv, m', rfl, -, hg, hat, hm', hkx⟩ := HK.out.at hx
          subst hm'
          have hat' := hat.fr HF1.out hg (by simp)
          obtain ⟨a0, a1, a2, a3, a4⟩ := hat'
          have hkx' := hkx.fr HF1.out (by simp)
          have HX := hid hx
          have HKX := hid hkx'
          have i0 : (0 : Int) ≤ (i : Int) := by omega
          have htk : t.ks.take (i + 1) = t.ks.take i ++ [x] := by rw [List.take_add_one, hx]; rfl
          have hC1 := cntP_snoc m' (t.ks.take i) x
          have hD1 := depP_snoc m' (t.ks.take i) x
          rw [← htk] at hC1 hD1
          have hCm := cntP_mono (m' + 1) (t.ks.take (i + 1)) (t.ks.drop (i + 1))
          rw [List.take_append_drop, ← HE1.out] at hCm
          have hDm := depP_le (m' + 1) (t.ks.take i)
          have hDx := depT_le m' x
          have hCb := HC.out
          have hcall := HI.out m' (by omega) x (trAgg x.k x.t x.f x.b kv) P wr ⟨kv, rfl, hkx'⟩ (by omega) (by omega)
          unfold trAgg at hcall
          have HCALL := hid hcall
          obtain ⟨C1, eC1⟩ : ∃ C1, C1 = cntP (m' + 1) (t.ks.take i) := ⟨_, rfl⟩
          obtain ⟨D1, eD1⟩ : ∃ D1, D1 = depP (m' + 1) (t.ks.take i) := ⟨_, rfl⟩
          obtain ⟨X1, eX1⟩ : ∃ X1, X1 = cntT m' x := ⟨_, rfl⟩
          obtain ⟨Y1, eY1⟩ : ∃ Y1, Y1 = depT m' x := ⟨_, rfl⟩
          rw [← eC1, ← eX1] at hC1
          rw [← eD1, ← eY1] at hD1
          rw [← eD1] at hDm
          rw [← eY1] at hDx
          rw [← eC1, ← eD1]
          have HC1 := hid hC1
          have HD1 := hid hD1
          have HX1 := hid eX1
          have HY1 := hid eY1
          have hb1 : C1 + X1 ≤ 1000000 := by omega
          clear hat hkx hx hkx' htk hC1 hD1 hCm hCb hcall eC1 eD1 eX1 eY1
          go_wp2_with fail
          refine HCALL.out.mono ?_
          rintro e w5 ⟨rfl, hF5⟩
          rw [← HX1.out, ← HY1.out]
          have HB5 := hid (HB1.out.fr hF5 (by simp))
          have HF5 := hid (HF1.out.trans hF5)
          clear hF5
          go_wp2_with fail
          go_roundw
          case rel =>
            refine ⟨i + 1, by omega, by go_num, ?_, ?_, HB5.out, HF5.out⟩
            · rw [HC1.out]; go_num
            · rw [HD1.out]
              congr 1
              split <;> omega
          case measure => simp [intOf]; omega
        · have hiN : i = t.ks.length := by have := HN.out; omega
          have hfin : CntPost m t w (.returned (.tuple #[.int .i64 (cntP m (t.ks.take i)), .int .i64 (depP m (t.ks.take i))])) wr := ⟨by rw [hiN, List.take_length, HE1.out, HE2.out], HF1.out⟩
          have HFIN := hid hfin
          clear hiN hfin
          go_wp2_with fail
          go_ret2
          exact HFIN.out
end Go.Proofs.YtklnpooninbogaaGreatDoor
