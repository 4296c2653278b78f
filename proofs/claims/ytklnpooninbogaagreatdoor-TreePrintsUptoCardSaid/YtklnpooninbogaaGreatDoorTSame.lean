import Derived.Test.YtklnpooninbogaaGreatDoorTTree
import Derived.LoopTactic
import Derived.Deep.DeepCutAuto
import Derived.StillTailTactics
import Derived.Deep.QuietTactic
import Derived.BigQuiet
namespace Go.Proofs.YtklnpooninbogaaGreatDoor
open Go Go.Proofs Go.RowKit

/-! Are two trees the same? -/

noncomputable def sameB (a b : Tr) : Bool := @decide (a = b) (Classical.propDecidable _)
theorem sameB_refl (a : Tr) : sameB a a = true := by simp [sameB]
theorem num_eq (f g : Bool) (b c : Int) (w : World) : (binOp .eql 35 (.agg #[.bool f, .int .u64 b]) (.agg #[.bool g, .int .u64 c])).run Tryz.prog w = .ok (.bool (f == g && b == c)) w := by
  have u4 := Tryz.underlying4
  have a4 := Tryz.isAgg4
  have z4 := Tryz.sizeOf4
  have u33 := Tryz.underlying33
  have a33 := Tryz.isAgg33
  have z33 := Tryz.sizeOf33
  have hS : Tryz.prog.underlying 35 = some (.struct (Tryz.prog.fieldsOf 35)) := by kernel_rfl
  have hp : Tryz.prog.stoodInHeld 35 = false := by kernel_rfl
  rw [run_eql_struct, show (10000 : Nat) = 9999 + 1 from rfl, run_equalIn_agg w 9999 35 _ _ hS hp]
  simp only [Program.fieldsOf, Tryz.underlying35]
  go_simp
  cases f <;> cases g <;> simp <;> (by_cases h : b = c) <;> simp [h]
theorem num_neq (f g : Bool) (b c : Int) (w : World) : (binOp .neq 35 (.agg #[.bool f, .int .u64 b]) (.agg #[.bool g, .int .u64 c])).run Tryz.prog w = .ok (.bool (!(f == g && b == c))) w := by
  have u4 := Tryz.underlying4
  have a4 := Tryz.isAgg4
  have z4 := Tryz.sizeOf4
  have u33 := Tryz.underlying33
  have a33 := Tryz.isAgg33
  have z33 := Tryz.sizeOf33
  have hS : Tryz.prog.underlying 35 = some (.struct (Tryz.prog.fieldsOf 35)) := by kernel_rfl
  have hp : Tryz.prog.stoodInHeld 35 = false := by kernel_rfl
  rw [run_neq_struct, show (10000 : Nat) = 9999 + 1 from rfl, run_equalIn_agg w 9999 35 _ _ hS hp]
  simp only [Program.fieldsOf, Tryz.underlying35]
  go_simp
  cases f <;> cases g <;> simp <;> (by_cases h : b = c) <;> simp [h]
theorem Tr.eqv {a b : Tr} (h1 : a.k = b.k) (h2 : a.t = b.t) (h3 : a.f = b.f) (h4 : a.b = b.b) (h5 : a.ks = b.ks) : a = b := by
  cases a; cases b; simp only [Tr.k, Tr.t, Tr.f, Tr.b, Tr.ks] at h1 h2 h3 h4 h5; subst h1 h2 h3 h4 h5; rfl
theorem sameB_no {a b : Tr} (h : a ≠ b) : sameB a b = false := by simp [sameB, h]
def SamePost (a b : Tr) (w : World) (e : Ending) (w' : World) : Prop := e = .returned (.bool (sameB a b)) ∧ Fr [] w w'

set_option maxRecDepth 100000 in
set_option maxHeartbeats 6400000 in
theorem rSame : ∀ (m m2 : Nat) (a b : Tr) (va vb : Value) (P P' : Nat → Prop) (w : World), TrV w P m a va → TrV w P' m2 b vb → Calls Tryz.prog 11 #[va, vb] w (SamePost a b w) := by
  intro m
  induction m using Nat.strongRecOn with
  | _ m ih =>
    intro m2 a b va vb P P' w hTa hTb
    obtain ⟨sa, rfl, ka⟩ := hTa
    obtain ⟨sb, rfl, kb⟩ := hTb
    obtain ⟨Aa, ca, rfl⟩ := ka.form
    obtain ⟨Ab, cb, rfl⟩ := kb.form
    obtain ⟨Na, hNa⟩ : ∃ N, N = a.ks.length := ⟨_, rfl⟩
    obtain ⟨Nb, hNb⟩ : ∃ N, N = b.ks.length := ⟨_, rfl⟩
    have hla : Na ≤ 9223372036854775807 := by have := ka.len; unfold maxLen at this; omega
    have hlb : Nb ≤ 9223372036854775807 := by have := kb.len; unfold maxLen at this; omega
    rw [← hNa] at ka ⊢
    rw [← hNb] at kb ⊢
    unfold trAgg
    obtain ⟨W, hW⟩ : ∃ W, W = (w.alloc (.cells #[.int .i64 a.k, .int .i64 a.t, .bool a.f, .int .u64 a.b, .slice Aa Na ca] 38)).alloc (.cells #[.int .i64 b.k, .int .i64 b.t, .bool b.f, .int .u64 b.b, .slice Ab Nb cb] 38) := ⟨_, rfl⟩
    have Ba : Blk W w.heap.size (trCells a.k a.t a.f a.b (.slice Aa Na ca)) 38 := by rw [hW]; exact (Blk.new w _ _).alloc _
    have Bb : Blk W (w.heap.size + 1) (trCells b.k b.t b.f b.b (.slice Ab Nb cb)) 38 := by
      rw [hW]
      have := Blk.new (w.alloc (.cells #[.int .i64 a.k, .int .i64 a.t, .bool a.f, .int .u64 a.b, .slice Aa Na ca] 38)) (trCells b.k b.t b.f b.b (.slice Ab Nb cb)) 38
      rw [World.size_alloc] at this
      exact this
    have hF0 : Fr [] w W := by rw [hW]; exact ((Fr.refl [] w).alloc _).alloc _
    have a0 := Ba.cell (i := 0) rfl
    have a1 := Ba.cell (i := 1) rfl
    have a2 := Ba.cell (i := 2) rfl
    have a3 := Ba.cell (i := 3) rfl
    have a4 := Ba.cell (i := 4) rfl
    have b0 := Bb.cell (i := 0) rfl
    have b1 := Bb.cell (i := 1) rfl
    have b2 := Bb.cell (i := 2) rfl
    have b3 := Bb.cell (i := 3) rfl
    have b4 := Bb.cell (i := 4) rfl
    have hn := num_neq a.f b.f a.b b.b
    have hno : a ≠ b → SamePost a b w (.returned (.bool false)) W := fun h => ⟨by rw [sameB_no h], hF0⟩
    have HW := hid hW
    have HKA := hid ka
    have HKB := hid kb
    have HNA := hid hNa
    have HNB := hid hNb
    have HF0 := hid hF0
    have HBA := hid Ba
    have HBB := hid Bb
    have HI := hid ih
    clear hW ka kb hNa hNb hF0 Ba Bb ih
    by_cases e1 : a.k = b.k
    · have t1 : (a.k != b.k) = false := by simpa using e1
      by_cases e2 : a.t = b.t
      · have t2 : (a.t != b.t) = false := by simpa using e2
        by_cases e3 : a.f = b.f ∧ a.b = b.b
        · have t3 : (!(a.f == b.f && a.b == b.b)) = false := by simp [e3.1, e3.2]
          rw [t3] at hn
          by_cases e4 : Na = Nb
          · subst e4
            have t4 : ((Na : Int) != (Na : Int)) = false := by simp
            have hall : a.ks = b.ks → sameB a b = true := fun h => by rw [Tr.eqv e1 e2 e3.1 e3.2 h]; exact sameB_refl _
            have HALL := hid hall
            clear hno hall e1 e2 e3
            go_enter Tryz.func11, Tryz.ntmps11
            go_upto_region 1 with fail
            rw [← HW.out]
            go_wp2_with fail
            go_loopw [5] (fun iv wr => ∃ i : Nat, i ≤ Na ∧ iv = .int .i64 i ∧ a.ks.take i = b.ks.take i ∧ Fr [] w wr ∧ Fr [] W wr) (fun iv _ => Na - (intOf iv).toNat)
            case atStart => exact ⟨0, Nat.zero_le _, rfl, rfl, HF0.out, Fr.refl _ W⟩
            case round =>
              obtain ⟨i, hi, rfl, htk, hF, hFW⟩ := hrel
              have hBa := HBA.out.fr hFW (by simp)
              have hBb := HBB.out.fr hFW (by simp)
              have a4' := hBa.cell (i := 4) rfl
              have b4' := hBb.cell (i := 4) rfl
              have HTK := hid htk
              have HF := hid hF
              have HFW := hid hFW
              clear a0 a1 a2 a3 a4 b0 b1 b2 b3 b4 hBa hBb htk hF hFW hn
              by_cases hlt : (i : Int) < (Na : Int)
              · obtain ⟨x, hx⟩ : ∃ x, a.ks[i]? = some x := ⟨_, List.getElem?_eq_getElem (by rw [← HNA.out]; omega)⟩
                obtain ⟨y, hy⟩ : ∃ y, b.ks[i]? = some y := ⟨_, List.getElem?_eq_getElem (by rw [← HNB.out]; omega)⟩
                obtain ⟨ga, oa, kva, m1, rfl, -, hga, hata, hm1, hkx⟩ := HKA.out.at hx
                obtain ⟨gb, ob, kvb, m2', rfl, -, hgb, hatb, hm2, hky⟩ := HKB.out.at hy
                subst hm1
                subst hm2
                obtain ⟨p0, p1, p2, p3, p4⟩ := hata.fr (HF.out.drew) hga (by simp)
                obtain ⟨r0, r1, r2, r3, r4⟩ := hatb.fr (HF.out.drew) hgb (by simp)
                have hcall : ∀ w', Fr [] w w' → Calls Tryz.prog 11 #[trAgg x.k x.t x.f x.b kva, trAgg y.k y.t y.f y.b kvb] w' (SamePost x y w') := fun w' hw' =>
                  HI.out m1 (by omega) m2' x y _ _ P P' w' ⟨kva, rfl, hkx.fr hw' (by simp)⟩ ⟨kvb, rfl, hky.fr hw' (by simp)⟩
                unfold trAgg at hcall
                have HC := hid hcall
                have HX := hid hx
                have HY := hid hy
                have i0 : (0 : Int) ≤ (i : Int) := by omega
                clear hcall hx hy hata hatb hkx hky
                go_wp2_with fail
                refine wp_region_still_tail 10 (by kernel_rfl) (by kernel_rfl) ?_
                simp only [List.take_succ_cons, List.take_zero, List.drop_succ_cons, List.drop_zero]
                change wpStill _ _ wr.drew (fun a' => wpList _ _ _ _ a' wr.drew) _ _
                repeat still_step
                refine wpStill_nil ?_
                go_wp2_with fail
                refine (HC.out _ HF.out.drew).mono ?_
                rintro e w5 ⟨rfl, hF5⟩
                have HF5 := hid (HF.out.drew.trans hF5)
                have HFW5 := hid (HFW.out.drew.trans hF5)
                clear hF5
                by_cases hxy : x = y
                · have e : sameB x y = true := by rw [hxy]; exact sameB_refl _
                  rw [e]
                  have htk : a.ks.take (i + 1) = b.ks.take (i + 1) := by
                    rw [List.take_add_one, List.take_add_one, HX.out, HY.out, HTK.out, hxy]
                  have HTK1 := hid htk
                  clear hxy e htk
                  go_wp2_with fail
                  go_roundw
                  case rel => exact ⟨i + 1, by omega, by go_num, HTK1.out, HF5.out, HFW5.out⟩
                  case measure => simp [intOf]; omega
                · have e : sameB x y = false := sameB_no hxy
                  rw [e]
                  have hne : sameB a b = false := sameB_no (fun h => hxy (by
                    have := HX.out
                    rw [h, HY.out] at this
                    exact (Option.some.inj this).symm))
                  have HNE := hid hne
                  clear hxy e hne
                  go_wp2_with fail
                  go_ret
                  exact ⟨by rw [HNE.out]; rfl, HF5.out⟩
              · have hks : a.ks = b.ks := by
                  have h := HTK.out
                  have e1 : i = a.ks.length := by have := HNA.out; omega
                  have e2 : i = b.ks.length := by have := HNB.out; omega
                  rw [e1, List.take_length, ← e1, e2, List.take_length] at h
                  exact h
                have h := HALL.out hks
                have HH := hid h
                clear h hks
                go_wp2_with fail
                go_ret
                exact ⟨by rw [HH.out]; rfl, HF.out⟩
          · have t4 : ((Na : Int) != (Nb : Int)) = true := by simp; omega
            have fin := hno (fun e => e4 (by rw [HNA.out, HNB.out, e]))
            have HFIN := hid fin
            clear hno fin e1 e2 e3 e4
            go_enter Tryz.func11, Tryz.ntmps11
            go_upto_region 1 with fail
            rw [← HW.out]
            go_wp2_with fail
            go_ret
            exact HFIN.out
        · have t3 : (!(a.f == b.f && a.b == b.b)) = true := by
            by_cases h : a.f = b.f
            · have h' : ¬ a.b = b.b := fun h' => e3 ⟨h, h'⟩
              simp [h']
            · simp [h]
          rw [t3] at hn
          have fin := hno (fun e => e3 (by rw [e]; exact ⟨rfl, rfl⟩))
          have HFIN := hid fin
          clear hno fin e1 e2 e3
          go_enter Tryz.func11, Tryz.ntmps11
          go_upto_region 1 with fail
          rw [← HW.out]
          go_wp2_with fail
          go_ret
          exact HFIN.out
      · have t2 : (a.t != b.t) = true := by simpa using e2
        have fin := hno (fun e => e2 (by rw [e]))
        have HFIN := hid fin
        clear hno fin e1 e2 hn
        go_enter Tryz.func11, Tryz.ntmps11
        go_upto_region 1 with fail
        rw [← HW.out]
        go_wp2_with fail
        go_ret
        exact HFIN.out
    · have t1 : (a.k != b.k) = true := by simpa using e1
      have fin := hno (fun e => e1 (by rw [e]))
      have HFIN := hid fin
      clear hno fin e1 hn
      go_enter Tryz.func11, Tryz.ntmps11
      go_upto_region 1 with fail
      rw [← HW.out]
      go_wp2_with fail
      go_ret
      exact HFIN.out
end Go.Proofs.YtklnpooninbogaaGreatDoor
