
import Derived.RangeFuncNested
import Derived.RangeFuncBound
import Derived.RangeFuncCalls
import Derived.RangeFuncLeaves
import Derived.Shelf.Abstract
import Derived.Shelf.RegionOpen
import Derived.WalkKit
import Derived.OwnWalkIn
import Derived.TacticsInMore
import Derived.LoopNIn
import Derived.LoopIn
import Derived.Test.YtklnpooninbogaaGreatMMHeapAlloc
namespace Go.Proofs.YtklnpooninbogaaGreat
open Go Go.Proofs Go.RowKit Go.Shelf
attribute [local go_sem] Oper.semAt_some
abbrev RB (L : HL) := { x : Nat // x ∈ L.rbs ++ [L.lb] }
def att (L : HL) : List (RB L) := (L.rbs ++ [L.lb]).attach
theorem att_len (L : HL) : (att L).length = L.rbs.length + 1 := by simp [att]
theorem att_get (L : HL) (k : Nat) (h : k < (att L).length) : ((att L)[k]).1 = (L.rbs ++ [L.lb])[k]'(by simpa [att] using h) := by simp only [att, List.getElem_attach]
def KpA (L : HL) (pb : Nat) (A B : World) : Prop := ∀ b ∈ [pb, L.hb, L.rsb], B.heap[b]? = A.heap[b]?
theorem KpA.cell {L : HL} {pb : Nat} {A B : World} (h : KpA L pb A B) {b : Nat} (hb : b ∈ [pb, L.hb, L.rsb]) (i : Nat) : B.cell? ⟨b, i, none⟩ = A.cell? ⟨b, i, none⟩ := World.cell?_of_block (w := A) (h b hb)
theorem KpA.refl (L : HL) (pb : Nat) (A : World) : KpA L pb A A := fun _ _ => rfl
theorem KpA.trans {L : HL} {pb : Nat} {A B C : World} (h : KpA L pb A B) (k : KpA L pb B C) : KpA L pb A C := fun b hb => (k b hb).trans (h b hb)
structure RO (L : HL) (m pb : Nat) (W : World) : Prop where
  p : W.cell? ⟨pb, 0, none⟩ = some (.pointer (some ⟨L.hb, 0, none⟩))
  r : W.cell? ⟨L.hb, 2, none⟩ = some (.slice (some ⟨L.rsb, 0, none⟩) m L.rcap)
  l : W.cell? ⟨L.hb, 3, none⟩ = some (.pointer (some ⟨L.lb, 0, none⟩))
  e : ∀ k rb, L.rbs[k]? = some rb → W.cell? ⟨L.rsb, k, none⟩ = some (.pointer (some ⟨rb, 0, none⟩))
theorem RO.kp {L : HL} {m pb : Nat} {A B : World} (h : RO L m pb A) (k : KpA L pb A B) : RO L m pb B :=
  ⟨(k.cell (by simp) 0).trans h.p, (k.cell (by simp) 2).trans h.r, (k.cell (by simp) 3).trans h.l, fun j rb hj => (k.cell (by simp) j).trans (h.e j rb hj)⟩
set_option maxRecDepth 100000 in
set_option maxHeartbeats 2000000 in
theorem all1_in (F : Fence) (n : Nat) (hf : F.fn 156) (hro : F.round = none) (hn : 1 ≤ n) (l pb m : Nat) (L : HL) (hm : m = L.rbs.length) (hm2 : m ≤ 100) (J Jx : List (RB L) → World → Prop)
    (hY : ∀ pre (x : RB L) W, J pre W → pre.length < m + 1 → YieldAt F (n - 1) Tryz.prog l #[.pointer (some ⟨x.1, 0, none⟩)] W fun e W' =>
      (e = .returned (.bool true) ∧ J (pre ++ [x]) W' ∧ KpA L pb W W') ∨ (e = .returned (.bool false) ∧ Jx (pre ++ [x]) W'))
    (W : World) (hR : RO L m pb W) (h0 : J [] W) :
    CallsIn F n Tryz.prog 156 #[.func (.yield l) #[] #[], .pointer (some ⟨pb, 0, none⟩)] W fun e W' => (∃ v, e = .returned v) ∧
      ((∃ ys, ys = att L ∧ J ys W') ∨ (∃ pre, pre <+: att L ∧ Jx pre W')) := by
  have r1 := hR.p
  have r2 := hR.r
  refine callsIn_of_wp Tryz.func156 rfl hf ?_ hro
  simp only [Tryz.ntmps156, List.size_toArray, List.length_cons, List.length_nil, Nat.reduceAdd, Nat.reduceSub, Array.replicate_succ, Array.replicate_zero, List.push_toArray, List.append_toArray, List.nil_append, List.cons_append]
  gi_wp2
  gi_loopw [10] (fun i wr => ∃ k : Nat, k ≤ m ∧ i = .int .i64 k ∧ J ((att L).take k) wr ∧ KpA L pb W wr) (fun i _ => m - (intOf i).toNat)
  case atStart => exact ⟨0, Nat.zero_le _, rfl, h0, KpA.refl _ _ _⟩
  case round =>
    obtain ⟨k, hk, rfl, hJs, hK⟩ := hrel
    have hRr := hR.kp hK
    clear r1 r2
    have hkl : k < (att L).length := by rw [att_len]; omega
    have htk : ((att L).take k).length < m + 1 := by rw [List.length_take]; omega
    have hsucc : (att L).take (k + 1) = (att L).take k ++ [(att L)[k]] := by rw [List.take_add_one]; simp [hkl]
    by_cases hlt : k < m
    · obtain ⟨rb, hrb⟩ : ∃ rb, L.rbs[k]? = some rb := ⟨_, List.getElem?_eq_getElem (by omega)⟩
      have hx : ((att L)[k]).1 = rb := by
        rw [att_get, List.getElem_append_left (by omega)]
        exact (List.getElem?_eq_some_iff.1 hrb).2
      obtain ⟨fn, tmps, assign, body, hy, hR3⟩ := hY _ ((att L)[k]) wr hJs htk
      rw [hx] at hy
      have c1 := hRr.e k rb hrb
      have HS := hid hsucc
      clear hsucc hx
      gi_wp2
      refine hR3.mono ?_
      rintro e W3 (⟨rfl, hJ3, hk3⟩ | ⟨rfl, hJx3⟩)
      · gi_wp2
        go_roundw
        case rel => exact ⟨k + 1, by omega, by go_num, by rw [HS.out]; exact hJ3, hK.trans hk3⟩
        case measure => simp [intOf]; omega
      · gi_wp2
        refine bodyPost_ret (results_none rfl _ _ _) rfl ?_
        exact ⟨⟨_, rfl⟩, .inr ⟨(att L).take (k + 1), List.take_prefix _ _, by rw [HS.out]; exact hJx3⟩⟩
    · have e : k = m := by omega
      have hx : ((att L)[k]).1 = L.lb := by
        rw [att_get, List.getElem_append_right (by omega)]
        simp
      obtain ⟨fn, tmps, assign, body, hy, hR3⟩ := hY _ ((att L)[k]) wr hJs htk
      rw [hx] at hy
      have c1 := hRr.p
      have c2 := hRr.l
      have HS := hid hsucc
      have hall : (att L).take (k + 1) = att L := List.take_of_length_le (by rw [att_len]; omega)
      have HA := hid hall
      clear hsucc hx hall
      gi_wp2
      refine hR3.mono ?_
      rintro e W3 (⟨rfl, hJ3, hk3⟩ | ⟨rfl, hJx3⟩)
      · gi_wp2
        go_end0
        exact ⟨⟨_, rfl⟩, .inl ⟨_, HS.out.symm.trans HA.out, hJ3⟩⟩
      · gi_wp2
        go_end0
        exact ⟨⟨_, rfl⟩, .inr ⟨(att L).take (k + 1), List.take_prefix _ _, by rw [HS.out]; exact hJx3⟩⟩
end Go.Proofs.YtklnpooninbogaaGreat
