import Derived.Test.YtklnpooninbogaaGreatDoorTSame
import Derived.Laws.EntriesVeiled
namespace Go.Proofs.YtklnpooninbogaaGreatDoor
open Go Go.Proofs Go.RowKit

/-! tree.Same, by slices.EqualFunc. -/

def TSm (m : Nat) : Prop := ∀ (m2 : Nat) (a b : Tr) (va vb : Value) (P P' : Nat → Prop) (w : World), TrV w P m a va → TrV w P' m2 b vb → Calls Tryz.prog 17 #[va, vb] w (SamePost a b w)
noncomputable def samL (l r : List Tr) : Bool := @decide (l = r) (Classical.propDecidable _)
theorem samL_yes {l r : List Tr} (h : l = r) : samL l r = true := by simp [samL, h]
theorem samL_no {l r : List Tr} (h : l ≠ r) : samL l r = false := by simp [samL, h]
def EqPost (l r : List Tr) (w : World) (e : Ending) (w' : World) : Prop := e = .returned (.bool (samL l r)) ∧ Fr [] w w'

set_option maxRecDepth 100000 in
set_option maxHeartbeats 3200000 in
theorem tEq (m : Nat) (ih : ∀ m', m' < m → TSm m') (m2 : Nat) (la lb : List Tr) (va vb : Value) (P P' : Nat → Prop) (w : World) (ka : KidsV w P m la va) (kb : KidsV w P' m2 lb vb) :
    Calls Tryz.prog 35 #[va, vb, .func (.func 17) #[] #[]] w (EqPost la lb w) := by
  obtain ⟨Aa, ca, rfl⟩ := ka.form
  obtain ⟨Ab, cb, rfl⟩ := kb.form
  obtain ⟨Na, hNa⟩ : ∃ N, N = la.length := ⟨_, rfl⟩
  obtain ⟨Nb, hNb⟩ : ∃ N, N = lb.length := ⟨_, rfl⟩
  have hla : Na ≤ 9223372036854775807 := by have := ka.len; unfold maxLen at this; omega
  have hlb : Nb ≤ 9223372036854775807 := by have := kb.len; unfold maxLen at this; omega
  rw [← hNa] at ka ⊢
  rw [← hNb] at kb ⊢
  have HKA := hid ka
  have HKB := hid kb
  have HNA := hid hNa
  have HNB := hid hNb
  have HI := hid ih
  clear ka kb hNa hNb ih
  by_cases e4 : Na = Nb
  · subst e4
    have t4 : ((Na : Int) != (Na : Int)) = false := by simp
    go_enter Tryz.func35, Tryz.ntmps35
    go_wp2_with fail
    go_loopw [17] (fun iv wr => ∃ i : Nat, i ≤ Na ∧ iv = .int .i64 i ∧ la.take i = lb.take i ∧ Fr [] w wr) (fun iv _ => Na - (intOf iv).toNat)
    case atStart => exact ⟨0, Nat.zero_le _, rfl, rfl, Fr.refl _ w⟩
    case round =>
      obtain ⟨i, hi, rfl, htk, hF⟩ := hrel
      have HTK := hid htk
      have HF := hid hF
      clear htk hF
      by_cases hlt : (i : Int) < (Na : Int)
      · obtain ⟨x, hx⟩ : ∃ x, la[i]? = some x := ⟨_, List.getElem?_eq_getElem (by rw [← HNA.out]; omega)⟩
        obtain ⟨y, hy⟩ : ∃ y, lb[i]? = some y := ⟨_, List.getElem?_eq_getElem (by rw [← HNB.out]; omega)⟩
        obtain ⟨ga, oa, kva, m1, rfl, -, hga, hata, hm1, hkx⟩ := HKA.out.at hx
        obtain ⟨gb, ob, kvb, m2', rfl, -, hgb, hatb, hm2, hky⟩ := HKB.out.at hy
        subst hm1
        subst hm2
        obtain ⟨A1, c1, rfl⟩ := hkx.form
        obtain ⟨A2, c2, rfl⟩ := hky.form
        have hF1 : Fr [] w (wr.alloc (.cells #[.int .i64 x.k, .int .i64 x.t, .bool x.f, .int .u64 x.b, .slice A1 x.ks.length c1] 38)) := HF.out.alloc _
        obtain ⟨p0, p1, p2, p3, p4⟩ := hata.fr HF.out hga (by simp)
        obtain ⟨r0, r1, r2, r3, r4⟩ := hatb.fr hF1 hgb (by simp)
        have hF2 := hF1.alloc (.cells #[.int .i64 y.k, .int .i64 y.t, .bool y.f, .int .u64 y.b, .slice A2 y.ks.length c2] 38)
        have hcall := HI.out m1 (by omega) m2' x y _ _ P P' _ ⟨_, rfl, hkx.fr hF2 (by simp)⟩ ⟨_, rfl, hky.fr hF2 (by simp)⟩
        unfold trAgg at hcall
        have HC := hid hcall
        have HF2 := hid hF2
        have HX := hid hx
        have HY := hid hy
        have i0 : (0 : Int) ≤ (i : Int) := by omega
        clear hcall hx hy hata hatb hkx hky hF1 hF2
        go_wp2_with fail
        refine HC.out.mono ?_
        rintro e w5 ⟨rfl, hF5⟩
        have HF5 := hid (HF2.out.trans hF5)
        clear hF5
        by_cases hxy : x = y
        · have e : sameB x y = true := by rw [hxy]; exact sameB_refl _
          rw [e]
          have htk : la.take (i + 1) = lb.take (i + 1) := by
            rw [List.take_add_one, List.take_add_one, HX.out, HY.out, HTK.out, hxy]
          have HTK1 := hid htk
          clear hxy e htk
          go_wp2_with fail
          go_roundw
          case rel => exact ⟨i + 1, by omega, by go_num, HTK1.out, HF5.out⟩
          case measure => simp [intOf]; omega
        · have e : sameB x y = false := sameB_no hxy
          rw [e]
          have hne : samL la lb = false := samL_no (fun h => hxy (by
            have := HX.out
            rw [h, HY.out] at this
            exact (Option.some.inj this).symm))
          have HNE := hid hne
          clear hxy e hne
          go_wp2_with fail
          go_ret
          exact ⟨by rw [HNE.out]; rfl, HF5.out⟩
      · have hks : la = lb := by
          have h := HTK.out
          have e1 : i = la.length := by have := HNA.out; omega
          have e2 : i = lb.length := by have := HNB.out; omega
          rw [e1, List.take_length, ← e1, e2, List.take_length] at h
          exact h
        have HH := hid (samL_yes hks)
        clear hks
        go_wp2_with fail
        go_ret
        exact ⟨by rw [HH.out]; rfl, HF.out⟩
  · have t4 : ((Na : Int) != (Nb : Int)) = true := by simp; omega
    have e : samL la lb = false := samL_no (fun e => e4 (by rw [HNA.out, HNB.out, e]))
    have HH := hid e
    clear e e4
    go_enter Tryz.func35, Tryz.ntmps35
    go_wp2_with fail
    go_ret
    exact ⟨by rw [HH.out]; rfl, Fr.refl _ w⟩
end Go.Proofs.YtklnpooninbogaaGreatDoor
