import Derived.Test.YtklnpooninbogaaGreatDoorTExpr
import Derived.LoopTactic
namespace Go.Proofs.YtklnpooninbogaaGreatDoor
open Go Go.Proofs Go.RowKit

/-! tree.Print. -/

/-- What each kind is called. -/
def nmK (k : Int) : List UInt8 :=
  if k = 2 then [116, 104, 117, 110, 107] else if k = 3 then [102, 117, 110] else if k = 4 then [112, 97, 112] else if k = 6 then [104, 111, 108, 101] else if k = 9 then [119, 101, 97, 107] else if k = 10 then [116, 111, 109, 98] else []
def NamesAt (w : World) : Prop := ∀ k : Nat, k ≤ 10 → w.cell? ⟨0, k, none⟩ = some (str (nmK k))
theorem NamesAt.fr {w w' : World} (h : NamesAt w) (hF : Fr [] w w') : NamesAt w' := fun k hk => by
  have := World.block_lt_of_cell? w _ (h k hk)
  exact (cell_fr hF (by simp) this k).trans (h k hk)
/-- A slice of declarations, by their names. -/
def ConsV (w : World) (cv : Value) (cs : List ByteArray) : Prop := ∃ A c, cv = .slice A cs.length c ∧ cs.length ≤ maxLen ∧ ∀ i s, cs[i]? = some s → ∃ g o, A = some ⟨g, o, none⟩ ∧ g < w.heap.size ∧ w.cell? ⟨g, o + i * 2, none⟩ = some (.string s)
theorem ConsV.fr {S : List Nat} {w w' : World} {cv : Value} {cs : List ByteArray} (h : ConsV w cv cs) (hF : Fr S w w') (hS : ∀ g, g < w.heap.size → g ∉ S) : ConsV w' cv cs := by
  obtain ⟨A, c, e, hl, h⟩ := h
  refine ⟨A, c, e, hl, fun i s hs => ?_⟩
  obtain ⟨g, o, e1, h1, h2⟩ := h i s hs
  exact ⟨g, o, e1, Nat.lt_of_lt_of_le h1 hF.size, (cell_fr hF (hS g h1) h1 _).trans h2⟩

def isNum (t : Tr) : Bool := decide (t.k = 7) || decide (t.k = 8)
def AllN (Q : Bool → Int → Prop) : Nat → Tr → Prop
  | 0, t => isNum t = true → Q t.f t.b
  | m + 1, t => (isNum t = true → Q t.f t.b) ∧ ∀ x ∈ t.ks, AllN Q m x
theorem AllN.head {Q : Bool → Int → Prop} {m : Nat} {t : Tr} (h : AllN Q m t) : isNum t = true → Q t.f t.b := by
  cases m with
  | zero => exact h
  | succ m => exact h.1

def isCon (n : Nat) (t : Tr) : Bool := decide (t.k = 1) && decide (0 ≤ t.t) && decide (t.t < n)
/-- A tree's text. -/
def prT (cs : List ByteArray) (num : Bool → Int → List UInt8) : Nat → Tr → List UInt8
  | 0, t => if isNum t then num t.f t.b else if isCon cs.length t then ((cs.getD t.t.toNat ⟨#[]⟩).data.toList) else 60 :: (nmK t.k ++ [62])
  | m + 1, t => if isNum t then num t.f t.b else if isCon cs.length t then ((cs.getD t.t.toNat ⟨#[]⟩).data.toList) ++ t.ks.flatMap (fun x => 32 :: (if 0 < x.ks.length then 40 :: (prT cs num m x ++ [41]) else prT cs num m x)) else 60 :: (nmK t.k ++ [62])
def kidTx (cs : List ByteArray) (num : Bool → Int → List UInt8) (m : Nat) (x : Tr) : List UInt8 := 32 :: (if 0 < x.ks.length then 40 :: (prT cs num m x ++ [41]) else prT cs num m x)
def kidsTx (cs : List ByteArray) (num : Bool → Int → List UInt8) (m : Nat) (l : List Tr) : List UInt8 := match m with | 0 => [] | m' + 1 => l.flatMap (kidTx cs num m')
theorem prT_num {cs : List ByteArray} {num : Bool → Int → List UInt8} {m : Nat} {t : Tr} (h : isNum t = true) : prT cs num m t = num t.f t.b := by
  cases m <;> simp [prT, h]
theorem prT_con {cs : List ByteArray} {num : Bool → Int → List UInt8} {m : Nat} {t : Tr} (h : isNum t = false) (h' : isCon cs.length t = true) : prT cs num m t = (cs.getD t.t.toNat ⟨#[]⟩).data.toList ++ kidsTx cs num m t.ks := by
  cases m with
  | zero => simp [prT, h, h', kidsTx]
  | succ m => simp [prT, h, h', kidsTx]; rfl
theorem prT_else {cs : List ByteArray} {num : Bool → Int → List UInt8} {m : Nat} {t : Tr} (h : isNum t = false) (h' : isCon cs.length t = false) : prT cs num m t = 60 :: (nmK t.k ++ [62]) := by
  cases m <;> simp [prT, h, h']

set_option maxRecDepth 100000 in
set_option maxHeartbeats 3200000 in
theorem tPrint (num : Bool → Int → List UInt8) (Q : Bool → Int → Prop) : ∀ (m : Nat) (t : Tr) (v cv : Value) (cs : List ByteArray) (P : Nat → Prop) (w : World), (∀ w', Fr [] w w' → ∀ f b, Q f b → NumAt f b (num f b) w') → NamesAt w → ConsV w cv cs → TrV w P m t v → AllN Q m t → (prT cs num m t).length ≤ 4611686018427387904 →
    Calls Tryz.prog 13 #[v, cv] w (NumPost (prT cs num m t) w) := by
  intro m
  induction m using Nat.strongRecOn with
  | _ m ih =>
    intro t v cv cs P w hnum hnm hcv hT hall hlen
    obtain ⟨sv, rfl, hk⟩ := hT
    have B0 := Blk.new w (trCells t.k t.t t.f t.b sv) 38
    have hF0 : Fr [] w (w.alloc (.cells (trCells t.k t.t t.f t.b sv).toArray 38)) := (Fr.refl _ w).alloc _
    have c0 := B0.cell (i := 0) rfl
    have c2 := B0.cell (i := 2) rfl
    have c3 := B0.cell (i := 3) rfl
    by_cases hN : isNum t = true
    · have e := prT_num (cs := cs) (num := num) (m := m) hN
      rw [e]
      have hq := hall.head hN
      have hn := hnum _ (Fr.refl _ w) _ _ hq
      have HNN := hid hn
      have h7 : (t.k == 7) = true ∨ ((t.k == 7) = false ∧ (t.k == 8) = true) := by
        simp [isNum] at hN ⊢; omega
      have HF0 := hid hF0
      clear hN e hq hn hnum hnm hcv hall hlen ih hk hF0
      unfold trAgg
      rcases h7 with h7 | ⟨h7, h8⟩
      · go_enter Tryz.func13, Tryz.ntmps13
        go_wp2_with fail
        refine (exprNum t.f t.b _ _ (fun w' hF => HNN.out w' (HF0.out.trans hF))).mono ?_
        rintro e w1 ⟨rfl, hF1⟩
        unfold str
        go_wp2_with fail
        go_ret
        exact ⟨rfl, HF0.out.trans hF1⟩
      · go_enter Tryz.func13, Tryz.ntmps13
        go_wp2_with fail
        refine (exprNum t.f t.b _ _ (fun w' hF => HNN.out w' (HF0.out.trans hF))).mono ?_
        rintro e w1 ⟨rfl, hF1⟩
        unfold str
        go_wp2_with fail
        go_ret
        exact ⟨rfl, HF0.out.trans hF1⟩
    have hN : isNum t = false := by simpa using hN
    have h7 : (t.k == 7) = false := by simp [isNum] at hN ⊢; omega
    have h8 : (t.k == 8) = false := by simp [isNum] at hN ⊢; omega
    have HF0 := hid hF0
    by_cases hC : isCon cs.length t = true
    · have e := prT_con (cs := cs) (num := num) (m := m) hN hC
      obtain ⟨hk1, ht0, ht1⟩ : t.k = 1 ∧ 0 ≤ t.t ∧ t.t < cs.length := by simpa [isCon, and_assoc] using hC
      have n1 : (t.k == 1) = true := by simpa using hk1
      have n2 : (t.k != 1) = false := by simpa using hk1
      obtain ⟨A, c, rfl, hcl, hcs⟩ := hcv
      obtain ⟨nm, hnmm⟩ : ∃ nm, cs[t.t.toNat]? = some nm := ⟨_, List.getElem?_eq_getElem (by omega)⟩
      have hgd : cs.getD t.t.toNat ⟨#[]⟩ = nm := by rw [List.getD_eq_getElem?_getD, hnmm]; rfl
      rw [hgd] at e
      obtain ⟨gc, oc, rfl, hgc, hcell⟩ := hcs _ _ hnmm
      obtain ⟨N, hNe⟩ : ∃ N, N = t.ks.length := ⟨_, rfl⟩
      have hNl : N ≤ 9223372036854775807 := by have := hk.len; unfold maxLen at this; omega
      have hcv : ConsV w (.slice (some ⟨gc, oc, none⟩) cs.length c) cs := ⟨_, c, rfl, hcl, fun i s hs => hcs i s hs⟩
      obtain ⟨A', c', rfl⟩ := hk.form
      rw [← hNe] at hk B0 HF0 ⊢
      have q1 : (w.alloc (.cells #[.int .i64 t.k, .int .i64 t.t, .bool t.f, .int .u64 t.b, .slice A' N c'] 38)).cell? ⟨gc, oc + t.t.toNat * 2, none⟩ = some (.string nm) := (cell_fr HF0.out (by simp) hgc (oc + t.t.toNat * 2)).trans hcell
      have c1 := B0.cell (i := 1) rfl
      have c4 := B0.cell (i := 4) rfl
      have hCl : cs.length ≤ 9223372036854775807 := by unfold maxLen at hcl; omega
      rw [e] at hlen
      have HE := hid e
      have HK := hid hk
      have HB0 := hid B0
      have HN := hid hNe
      have HI := hid ih
      have HNUM := hid hnum
      have HNM := hid hnm
      have HCV := hid hcv
      have HALL := hid hall
      have HLEN := hid hlen
      clear hN e hnum hnm hcs hall hlen ih hk hF0 hC hk1 hnmm hgd hcell hNe hcv B0 hcl
      unfold trAgg
      go_enter Tryz.func13, Tryz.ntmps13
      go_wp2_with fail
      go_loopw [5, 67] (fun sv iv wr => ∃ (i : Nat) (S : ByteArray), i ≤ N ∧ iv = .int .i64 i ∧ sv = .string S ∧ S.data.toList = nm.data.toList ++ kidsTx cs num m (t.ks.take i) ∧ Fr [] w wr) (fun _ iv _ => N - (intOf iv).toNat)
      case atStart => exact ⟨0, nm, Nat.zero_le _, rfl, rfl, by cases m <;> simp [kidsTx], HF0.out⟩
      case round =>
        obtain ⟨i, S, hi, rfl, rfl, hS, hF⟩ := hrel
        have HS := hid hS
        have HF := hid hF
        clear hS hF c0 c1 c2 c3 c4 q1
        by_cases hlt : (i : Int) < (N : Int)
        · obtain ⟨x, hx⟩ : ∃ x, t.ks[i]? = some x := ⟨_, List.getElem?_eq_getElem (by rw [← HN.out]; omega)⟩
          obtain ⟨g, o, kv, m', rfl, -, hg, hat, hm', hkx⟩ := HK.out.at hx
          subst hm'
          obtain ⟨a0, a1, a2, a3, a4⟩ := hat.fr HF.out hg (by simp)
          obtain ⟨A2, c2, rfl⟩ := hkx.form
          have hkx' := hkx.fr HF.out (by simp)
          have htk : t.ks.take (i + 1) = t.ks.take i ++ [x] := by rw [List.take_add_one, hx]; rfl
          have i0 : (0 : Int) ≤ (i : Int) := by omega
          have hT1 : kidsTx cs num (m' + 1) (t.ks.take (i + 1)) = kidsTx cs num (m' + 1) (t.ks.take i) ++ kidTx cs num m' x := by rw [htk]; simp [kidsTx]
          have hT2 : (kidsTx cs num (m' + 1) t.ks).length = (kidsTx cs num (m' + 1) (t.ks.take (i + 1))).length + (kidsTx cs num (m' + 1) (t.ks.drop (i + 1))).length := by
            rw [← List.length_append]
            congr 1
            show t.ks.flatMap _ = (t.ks.take (i + 1)).flatMap _ ++ (t.ks.drop (i + 1)).flatMap _
            rw [← List.flatMap_append, List.take_append_drop]
          have hLL := HLEN.out
          obtain ⟨X, hX⟩ : ∃ X : ByteArray, X = ⟨(prT cs num m' x).toArray⟩ := ⟨_, rfl⟩
          have hXs : X.size = (prT cs num m' x).length := by rw [hX]; exact List.size_toArray
          have hSs : S.size = (nm.data.toList ++ kidsTx cs num (m' + 1) (t.ks.take i)).length := by rw [← HS.out]; exact Array.length_toList.symm
          have hKx : X.size + 1 ≤ (kidTx cs num m' x).length ∧ (0 < x.ks.length → X.size + 3 ≤ (kidTx cs num m' x).length) := by
            unfold kidTx
            constructor
            · split <;> simp <;> omega
            · intro h; rw [if_pos h]; simp; omega
          have hsum : S.size + (kidTx cs num m' x).length ≤ 4611686018427387904 := by
            rw [hT1] at hT2
            simp only [List.length_append] at hT2 hLL hSs
            omega
          have hallx : AllN Q m' x := HALL.out.2 x (List.mem_of_getElem? hx)
          have hwa : Fr [] wr (wr.alloc (.cells #[.int .i64 x.k, .int .i64 x.t, .bool x.f, .int .u64 x.b, .slice A2 x.ks.length c2] 38)) := (Fr.refl _ wr).alloc _
          have hcall := HI.out m' (by omega) x (trAgg x.k x.t x.f x.b (.slice A2 x.ks.length c2)) (.slice (some ⟨gc, oc, none⟩) cs.length c) cs P (wr.alloc (.cells #[.int .i64 x.k, .int .i64 x.t, .bool x.f, .int .u64 x.b, .slice A2 x.ks.length c2] 38)) (fun w' hw' => HNUM.out w' ((HF.out.trans hwa).trans hw')) (HNM.out.fr (HF.out.trans hwa)) (HCV.out.fr (HF.out.trans hwa) (by simp)) ⟨_, rfl, hkx'.fr hwa (by simp)⟩ hallx (by omega)
          unfold trAgg at hcall
          have HCALL := hid hcall
          have HX := hid hX
          have HT1 := hid hT1
          have HSUM : Hid (S.size + (kidTx cs num m' x).length ≤ 4611686018427387904 ∧ X.size + 1 ≤ (kidTx cs num m' x).length ∧ (0 < x.ks.length → X.size + 3 ≤ (kidTx cs num m' x).length)) := hid ⟨hsum, hKx⟩
          have B7 := Blk.new wr [.int .i64 x.k, .int .i64 x.t, .bool x.f, .int .u64 x.b, .slice A2 x.ks.length c2] 38
          have HB7 := hid B7
          have hkl : x.ks.length ≤ 9223372036854775807 := by have := hkx.len; unfold maxLen at this; omega
          clear hx hat hkx hkx' htk hT1 hT2 hLL hX hXs hSs hKx hsum hallx hcall B7
          go_wp2_with fail
          refine HCALL.out.mono ?_
          rintro e w5 ⟨rfl, hF5⟩
          unfold str
          rw [← HX.out]
          have k4 := (HB7.out.fr hF5 (by simp)).cell (i := 4) rfl
          have HF5 := hid ((HF.out.trans ((Fr.refl [] wr).alloc (.cells #[.int .i64 x.k, .int .i64 x.t, .bool x.f, .int .u64 x.b, .slice A2 x.ks.length c2] 38))).trans hF5)
          clear hF5
          by_cases hkn : 0 < x.ks.length
          · obtain ⟨s1, s2, s3⟩ := HSUM.out
            have s3 := s3 hkn
            have b1 : 1 + X.size ≤ 9223372036854775807 := by omega
            have b2 : 1 + X.size + 1 ≤ 9223372036854775807 := by omega
            have b3 : 1 + (1 + X.size + 1) ≤ 9223372036854775807 := by omega
            have b4 : S.size + (1 + (1 + X.size + 1)) ≤ 9223372036854775807 := by omega
            have hkn2 : (0 : Int) < (x.ks.length : Int) := by omega
            clear s1 s2 s3
            go_wp2_with fail
            go_roundw
            case rel =>
              refine ⟨i + 1, S ++ ({ data := #[32] } ++ ({ data := #[40] } ++ X ++ { data := #[41] })), by omega, by go_num, rfl, ?_, HF5.out⟩
              rw [HT1.out, ← List.append_assoc, ← HS.out, HX.out, show ({ data := #[40] } : ByteArray) = ⟨[40].toArray⟩ from rfl, show ({ data := #[41] } : ByteArray) = ⟨[41].toArray⟩ from rfl, show ({ data := #[32] } : ByteArray) = ⟨[32].toArray⟩ from rfl, baApp, baApp, baApp, kidTx, if_pos hkn]
              simp [ByteArray.data_append]
            case measure => simp [intOf]; omega
          · have hkn2 : ¬ (0 : Int) < (x.ks.length : Int) := by omega
            obtain ⟨s1, s2, s3⟩ := HSUM.out
            have b1 : 1 + X.size ≤ 9223372036854775807 := by omega
            have b4 : S.size + (1 + X.size) ≤ 9223372036854775807 := by omega
            clear s1 s2 s3
            go_wp2_with fail
            go_roundw
            case rel =>
              refine ⟨i + 1, S ++ ({ data := #[32] } ++ X), by omega, by go_num, rfl, ?_, HF5.out⟩
              rw [HT1.out, ← List.append_assoc, ← HS.out, HX.out, show ({ data := #[32] } : ByteArray) = ⟨[32].toArray⟩ from rfl, baApp, kidTx, if_neg hkn]
              simp [ByteArray.data_append]
            case measure => simp [intOf]; omega
        · have hiN : i = t.ks.length := by have := HN.out; omega
          have hfin : S = ⟨(prT cs num m t).toArray⟩ := by
            rw [HE.out, baList S, HS.out, hiN, List.take_length]
          have HFIN := hid hfin
          clear hiN hfin
          go_wp2_with fail
          go_ret
          exact ⟨by rw [HFIN.out]; rfl, HF.out⟩
    have hC : isCon cs.length t = false := by simpa using hC
    have e := prT_else (cs := cs) (num := num) (m := m) hN hC
    obtain ⟨A, c, rfl, hcl, hcs⟩ := hcv
    by_cases hR : t.k ≠ 1 ∧ 0 ≤ t.k ∧ t.k ≤ 10
    · obtain ⟨r1, r2, r3⟩ := hR
      have n1 : (t.k == 1) = false := by simpa using r1
      have n2 : (t.k != 1) = true := by simpa using r1
      have ek : ((t.k.toNat : Nat) : Int) = t.k := by omega
      have q1 : (w.alloc (.cells #[.int .i64 t.k, .int .i64 t.t, .bool t.f, .int .u64 t.b, sv] 38)).cell? ⟨0, t.k.toNat, none⟩ = some (.string ⟨(nmK t.k).toArray⟩) := by
        have := (hnm.fr hF0) t.k.toNat (by omega)
        rw [ek] at this
        exact this
      have hln : (nmK t.k).length ≤ 5 := by
        unfold nmK
        repeat' split
        all_goals decide
      have hcat : 1 + (nmK t.k).length ≤ 9223372036854775807 := by omega
      have hcat2 : 1 + (nmK t.k).length + 1 ≤ 9223372036854775807 := by omega
      rw [e]
      clear hN e hnum hnm hcs hall hlen ih hk hF0 hC ek
      unfold trAgg
      go_enter Tryz.func13, Tryz.ntmps13
      go_wp2_with fail
      go_ret
      exact ⟨by
        rw [show ({ data := #[60] } : ByteArray) = ⟨[60].toArray⟩ from rfl, show ({ data := #[62] } : ByteArray) = ⟨[62].toArray⟩ from rfl, baApp, baApp]
        rfl, HF0.out⟩
    · have en : nmK t.k = [] := by
        unfold nmK
        repeat' split
        all_goals first | rfl | (exfalso; exact hR (by omega))
      rw [en] at e
      rw [e]
      have hF1 := hF0
      by_cases r1 : t.k = 1
      · have n1 : (t.k == 1) = true := by simpa using r1
        have n2 : (t.k != 1) = false := by simpa using r1
        have hCl : cs.length ≤ 9223372036854775807 := by unfold maxLen at hcl; omega
        have c1 := B0.cell (i := 1) rfl
        by_cases r2 : t.t < 0
        · clear hN e hnum hnm hcs hall hlen ih hk hF0 hC hR en r1
          unfold trAgg
          go_enter Tryz.func13, Tryz.ntmps13
          go_wp2_with fail
          go_ret
          exact ⟨rfl, hF1⟩
        · have r3 : (cs.length : Int) ≤ t.t := by
            simp [isCon, r1] at hC
            omega
          clear hN e hnum hnm hcs hall hlen ih hk hF0 hC hR en r1
          unfold trAgg
          go_enter Tryz.func13, Tryz.ntmps13
          go_wp2_with fail
          go_ret
          exact ⟨rfl, hF1⟩
      · have n1 : (t.k == 1) = false := by simpa using r1
        have n2 : (t.k != 1) = true := by simpa using r1
        by_cases r2 : t.k < 0
        · clear hN e hnum hnm hcs hall hlen ih hk hF0 hC hR en r1
          unfold trAgg
          go_enter Tryz.func13, Tryz.ntmps13
          go_wp2_with fail
          go_ret
          exact ⟨rfl, hF1⟩
        · have r3 : 10 < t.k := by omega
          clear hN e hnum hnm hcs hall hlen ih hk hF0 hC hR en r1
          unfold trAgg
          go_enter Tryz.func13, Tryz.ntmps13
          go_wp2_with fail
          go_ret
          exact ⟨rfl, hF1⟩
end Go.Proofs.YtklnpooninbogaaGreatDoor
