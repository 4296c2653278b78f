import Derived.Test.YtklnpooninbogaaGreatDoorTPrint
import Derived.Test.YtklnpooninbogaaGreatDoorTDig
import Derived.Deep.DeepCutAuto
import Derived.StillTailTactics
namespace Go.Proofs.YtklnpooninbogaaGreatDoor
open Go Go.Proofs Go.RowKit

/-! ref20.Print, ref20.kids. -/

/-- The document's Print, of trees less deep than m. -/
def RPr (num : Bool → Int → List UInt8) (Q : Bool → Int → Prop) (cs : List ByteArray) (m : Nat) : Prop :=
  ∀ (t : Tr) (v cv : Value) (P : Nat → Prop) (w : World), (∀ f b, Q f b → ∀ w', Calls Tryz.prog 14 #[.agg #[.bool f, .int .u64 b]] w' (NumPost (num f b) w')) → ConsV w cv cs → TrV w P m t v → AllN Q m t → (prT cs num m t).length ≤ 4611686018427387904 →
    Calls Tryz.prog 16 #[v, cv] w (NumPost (prT cs num m t) w)

theorem kidsTx_split (cs : List ByteArray) (num : Bool → Int → List UInt8) (m : Nat) (l : List Tr) (i : Nat) : kidsTx cs num (m + 1) l = kidsTx cs num (m + 1) (l.take i) ++ kidsTx cs num (m + 1) (l.drop i) := by
  show l.flatMap _ = (l.take i).flatMap _ ++ (l.drop i).flatMap _
  rw [← List.flatMap_append, List.take_append_drop]

set_option maxRecDepth 100000 in
set_option maxHeartbeats 3200000 in
theorem rKids (num : Bool → Int → List UInt8) (Q : Bool → Int → Prop) (cs : List ByteArray) (m : Nat) (ih : ∀ m', m' < m → RPr num Q cs m') (l : List Tr) (lv cv : Value) (S0 : ByteArray) (P : Nat → Prop) (w : World) (hnum : ∀ f b, Q f b → ∀ w', Calls Tryz.prog 14 #[.agg #[.bool f, .int .u64 b]] w' (NumPost (num f b) w')) (hcv : ConsV w cv cs) (hk : KidsV w P m l lv) (hall : ∀ m' x, m = m' + 1 → x ∈ l → AllN Q m' x) (hlen : (S0.data.toList ++ kidsTx cs num m l).length ≤ 4611686018427387904) :
    Calls Tryz.prog 34 #[.string S0, lv, cv] w (NumPost (S0.data.toList ++ kidsTx cs num m l) w) := by
  obtain ⟨N, hNe⟩ : ∃ N, N = l.length := ⟨_, rfl⟩
  have hNl : N ≤ 9223372036854775807 := by have := hk.len; unfold maxLen at this; omega
  obtain ⟨A, c, rfl⟩ := hk.form
  obtain ⟨Ac, cc, rfl, -⟩ := (show ∃ Ac cc, cv = .slice Ac cs.length cc ∧ True from by obtain ⟨Ac, cc, e, _⟩ := hcv; exact ⟨Ac, cc, e, trivial⟩)
  rw [← hNe] at hk ⊢
  obtain ⟨TX, hTX⟩ : ∃ TX, TX = S0.data.toList ++ kidsTx cs num m l := ⟨_, rfl⟩
  rw [← hTX]
  have HTX := hid hTX
  have HK := hid hk
  have HN := hid hNe
  have HI := hid ih
  have HNUM := hid hnum
  have HCV := hid hcv
  have HALL := hid hall
  have HLEN := hid hlen
  clear hTX hk hNe ih hnum hcv hall hlen
  go_enter Tryz.func34, Tryz.ntmps34
  go_wp2_with fail
  go_loopw [0, 7] (fun sv iv wr => ∃ (i : Nat) (S : ByteArray), i ≤ N ∧ iv = .int .i64 i ∧ sv = .string S ∧ S.data.toList = S0.data.toList ++ kidsTx cs num m (l.take i) ∧ Fr [] w wr) (fun _ iv _ => N - (intOf iv).toNat)
  case atStart => exact ⟨0, S0, Nat.zero_le _, rfl, rfl, by cases m <;> simp [kidsTx], Fr.refl _ w⟩
  case round =>
    obtain ⟨i, S, hi, rfl, rfl, hS, hF⟩ := hrel
    have HS := hid hS
    have HF := hid hF
    clear hS hF
    by_cases hlt : (i : Int) < (N : Int)
    · obtain ⟨x, hx⟩ : ∃ x, l[i]? = some x := ⟨_, List.getElem?_eq_getElem (by rw [← HN.out]; omega)⟩
      obtain ⟨g, o, kv, m', rfl, -, hg, hat, hm', hkx⟩ := HK.out.at hx
      subst hm'
      obtain ⟨A2, c2, rfl⟩ := hkx.form
      obtain ⟨a0, a1, a2, a3, a4⟩ := hat.fr HF.out hg (by simp)
      have hgr := Nat.lt_of_lt_of_le hg HF.out.size
      have hatr := hat.fr HF.out hg (by simp)
      have htk : l.take (i + 1) = l.take i ++ [x] := by rw [List.take_add_one, hx]; rfl
      have i0 : (0 : Int) ≤ (i : Int) := by omega
      have hT1 : kidsTx cs num (m' + 1) (l.take (i + 1)) = kidsTx cs num (m' + 1) (l.take i) ++ kidTx cs num m' x := by rw [htk]; simp [kidsTx]
      have hT2 := kidsTx_split cs num m' l (i + 1)
      have hLL := HLEN.out
      obtain ⟨X, hX⟩ : ∃ X : ByteArray, X = ⟨(prT cs num m' x).toArray⟩ := ⟨_, rfl⟩
      have hXs : X.size = (prT cs num m' x).length := by rw [hX]; exact List.size_toArray
      have hSs : S.size = (S0.data.toList ++ kidsTx cs num (m' + 1) (l.take i)).length := by rw [← HS.out]; exact Array.length_toList.symm
      have hKx : X.size + 1 ≤ (kidTx cs num m' x).length ∧ (0 < x.ks.length → X.size + 3 ≤ (kidTx cs num m' x).length) := by
        unfold kidTx
        constructor
        · split <;> simp <;> omega
        · intro h; rw [if_pos h]; simp; omega
      have hsum : S.size + (kidTx cs num m' x).length ≤ 4611686018427387904 := by
        rw [hT2, hT1] at hLL
        simp only [List.length_append] at hLL hSs
        omega
      have hallx : AllN Q m' x := HALL.out m' x rfl (List.mem_of_getElem? hx)
      have hcall := HI.out m' (by omega) x (trAgg x.k x.t x.f x.b (.slice A2 x.ks.length c2)) (.slice Ac cs.length cc) P wr HNUM.out (HCV.out.fr HF.out (by simp)) ⟨_, rfl, hkx.fr HF.out (by simp)⟩ hallx (by omega)
      unfold trAgg at hcall
      have HCALL := hid hcall
      have HX := hid hX
      have HT1 := hid hT1
      have HAT := hid hatr
      have HSUM : Hid (S.size + (kidTx cs num m' x).length ≤ 4611686018427387904 ∧ X.size + 1 ≤ (kidTx cs num m' x).length ∧ (0 < x.ks.length → X.size + 3 ≤ (kidTx cs num m' x).length)) := hid ⟨hsum, hKx⟩
      have hkl : x.ks.length ≤ 9223372036854775807 := by have := hkx.len; unfold maxLen at this; omega
      clear hx hat hkx htk hT1 hT2 hLL hX hXs hSs hKx hsum hallx hcall hatr
      go_wp2_with fail
      refine HCALL.out.mono ?_
      rintro e w5 ⟨rfl, hF5⟩
      unfold str
      rw [← HX.out]
      obtain ⟨-, -, -, -, k4⟩ := HAT.out.fr hF5 hgr (by simp)
      have HF5 := hid (HF.out.trans hF5)
      clear hF5 a0 a1 a2 a3 a4 hgr
      by_cases hkn : 0 < x.ks.length
      · obtain ⟨s1, s2, s3⟩ := HSUM.out
        have s3 := s3 hkn
        have b1 : 1 + X.size ≤ 9223372036854775807 := by omega
        have b2 : 1 + X.size + 1 ≤ 9223372036854775807 := by omega
        have b3 : S.size + 1 ≤ 9223372036854775807 := by omega
        have b4 : S.size + 1 + (1 + X.size + 1) ≤ 9223372036854775807 := by omega
        have hkn2 : (0 : Int) < (x.ks.length : Int) := by omega
        clear s1 s2 s3
        go_wp2_with fail
        go_roundw
        case rel =>
          refine ⟨i + 1, S ++ { data := #[32] } ++ ({ data := #[40] } ++ X ++ { data := #[41] }), by omega, by go_num, rfl, ?_, HF5.out⟩
          rw [HT1.out, ← List.append_assoc, ← HS.out, HX.out, show ({ data := #[40] } : ByteArray) = ⟨[40].toArray⟩ from rfl, show ({ data := #[41] } : ByteArray) = ⟨[41].toArray⟩ from rfl, show ({ data := #[32] } : ByteArray) = ⟨[32].toArray⟩ from rfl, baApp, baApp, kidTx, if_pos hkn]
          simp [ByteArray.data_append]
        case measure => simp [intOf]; omega
      · have hkn2 : ¬ (0 : Int) < (x.ks.length : Int) := by omega
        obtain ⟨s1, s2, s3⟩ := HSUM.out
        have b3 : S.size + 1 ≤ 9223372036854775807 := by omega
        have b4 : S.size + 1 + X.size ≤ 9223372036854775807 := by omega
        clear s1 s2 s3
        go_wp2_with fail
        go_roundw
        case rel =>
          refine ⟨i + 1, S ++ { data := #[32] } ++ X, by omega, by go_num, rfl, ?_, HF5.out⟩
          rw [HT1.out, ← List.append_assoc, ← HS.out, HX.out, show ({ data := #[32] } : ByteArray) = ⟨[32].toArray⟩ from rfl, kidTx, if_neg hkn]
          simp [ByteArray.data_append]
        case measure => simp [intOf]; omega
    · have hiN : i = l.length := by have := HN.out; omega
      have hfin : S = ⟨TX.toArray⟩ := by
        rw [HTX.out, baList S, HS.out, hiN, List.take_length]
      have HFIN := hid hfin
      clear hiN hfin
      go_wp2_with fail
      go_ret
      exact ⟨by rw [HFIN.out]; rfl, HF.out⟩
end Go.Proofs.YtklnpooninbogaaGreatDoor
