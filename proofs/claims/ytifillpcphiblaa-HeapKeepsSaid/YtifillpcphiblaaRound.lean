import Derived.Test.YtifillpcphiblaaRefNew2
namespace Go.Proofs.Ytifillpcphiblaa
open Go Go.Proofs Go.RowKit

def roundV (cls : List Int) (n : Int) : Int := (if 0 ≤ ixGe cls n then cls.getD (ixGe cls n).toNat 0 else n) + 3

theorem roundV_large {cls : List Int} {n : Int} (h : ixGe cls n = -1) : roundV cls n = n + 3 := by simp [roundV, h]
theorem roundV_small {cls : List Int} {n x : Int} {k : Nat} (h : ixGe cls n = k) (hx : cls[k]? = some x) : roundV cls n = x + 3 := by
  simp [roundV, h, hx]

set_option maxHeartbeats 800000 in
theorem hRound (L : HL) (s : HS) (n : Int) (w : World) (hH : HRep w L s) (hn : -1000000 ≤ n) (hn2 : n ≤ 1000000) (hc : ∀ c ∈ s.cls, 0 ≤ c ∧ c ≤ 24) :
    Calls Try.prog 19 #[.pointer (some ⟨L.hb, 0, none⟩), .int .i64 n] w fun e w' => e = .returned (.int .i64 (roundV s.cls n)) ∧ HRep w' L s ∧ Fr [] w w' := by
  have hm := hH.n3
  rcases ixGe_cases s.cls n with hk | ⟨k, hlt, hk, x, hx, _⟩
  · rw [roundV_large hk]
    have Hk := hid hk
    clear hk
    have a1 : ¬ (n + 3 < -9223372036854775808) := by omega
    clear a1
    go_enter Try.func19, Try.ntmps19
    go_wp2_with fail
    refine (hClass L s n _ hH).mono ?_
    rintro e w1 ⟨rfl, hH1, hF1⟩
    rw [Hk.out]
    go_wp2_with fail
    go_ret
    exact ⟨rfl, hH1, hF1⟩
  · rw [roundV_small hk hx]
    have Hk := hid hk
    have hcx := hc x (List.mem_of_getElem? hx)
    have Hx := hid hx
    clear hk hx hc
    go_enter Try.func19, Try.ntmps19
    go_wp2_with fail
    refine (hClass L s n _ hH).mono ?_
    rintro e w1 ⟨rfl, hH1, hF1⟩
    rw [Hk.out]
    have c1 := hH1.reads.2.1
    have hck : w1.cell? ⟨L.cb, k, none⟩ = some (.int .i64 x) := hH1.c.2 k _ (by simp [Hx.out])
    go_wp2_with fail
    go_ret
    exact ⟨rfl, hH1, hF1⟩

/-- A heap by the document: its configuration's classes. -/
def MCls (w : World) (mb : Nat) (cls : List Int) : Prop := ∃ sv, w.cell? ⟨mb, 6, none⟩ = some sv ∧ SlArg w sv cls

theorem MCls.fr {S : List Nat} {w w' : World} {mb : Nat} {cls : List Int} (h : MCls w mb cls) (hf : Fr S w w') (hm : mb ∉ S) (hl : mb < w.heap.size) (hS : ∀ b ∈ S, w.heap.size ≤ b) : MCls w' mb cls := by
  obtain ⟨sv, h1, h2⟩ := h
  exact ⟨sv, (cell_fr hf hm hl 6).trans h1, h2.fr hf hS⟩

/-- The number of a size's class; as many as there are: large. -/
def clsIx (cls : List Int) (n : Int) : Int := if ixGe cls n = -1 then (cls.length : Int) else ixGe cls n

set_option maxHeartbeats 1600000 in
theorem mClass (mb : Nat) (cls : List Int) (n : Int) (w : World) (hM : MCls w mb cls) (hm : cls.length ≤ 100) :
    Calls Try.prog 70 #[.pointer (some ⟨mb, 0, none⟩), .int .i64 n] w fun e w' => e = .returned (.int .i64 (clsIx cls n)) ∧ w = w' := by
  obtain ⟨sv, h6, hs⟩ := hM
  rcases hs with ⟨rfl, rfl⟩ | ⟨a0, cap0, rfl, rfl⟩ | ⟨b, o, cap, rfl, hr, _⟩
  · go_enter Try.func70, Try.ntmps70
    go_wp2_with fail
    refine wp_loop_rounds 1 ?_
    rw [rounds_succ]
    go_wp2_with fail
    go_ret
    exact ⟨rfl, rfl⟩
  · go_enter Try.func70, Try.ntmps70
    go_wp2_with fail
    refine wp_loop_rounds 1 ?_
    rw [rounds_succ]
    go_wp2_with fail
    go_ret
    exact ⟨rfl, rfl⟩
  · go_enter Try.func70, Try.ntmps70
    go_wp2_with fail
    go_loop [5] (fun i => ∃ k : Nat, k ≤ cls.length ∧ i = .int .i64 k ∧ below cls n k) (fun i => cls.length - (intOf i).toNat)
    case atStart => exact ⟨0, Nat.zero_le _, rfl, below_zero _ _⟩
    case round =>
      obtain ⟨k, hk, rfl, hH⟩ := hrel
      by_cases hlt : k < cls.length
      · obtain ⟨x, hx⟩ : ∃ x, cls[k]? = some x := ⟨_, List.getElem?_eq_getElem hlt⟩
        have hck : w.cell? ⟨b, o + k, none⟩ = some (.int .i64 x) := hr.2 k _ (by simp [hx])
        have Hx := hid hx
        clear hx
        by_cases hs : n ≤ x
        · have hs' : ¬ x < n := by omega
          go_wp2_with fail
          go_ret
          refine ⟨?_, rfl⟩
          have e := ixGe_some hH Hx.out hs
          rw [clsIx, e, if_neg (by omega)]; rfl
        · have hs' : x < n := by omega
          go_wp2_with fail
          go_round
          case rel => exact ⟨k + 1, by omega, by go_num, below_succ hH Hx.out (by omega)⟩
          case measure => simp [intOf]; omega
      · go_wp2_with fail
        go_ret
        have e : k = cls.length := by omega
        subst e
        have e := ixGe_none hH
        exact ⟨by rw [clsIx, e, if_pos rfl]; rfl, rfl⟩

set_option maxHeartbeats 1600000 in
theorem mRound (mb : Nat) (cls : List Int) (n : Int) (w : World) (hM : MCls w mb cls) (hm : cls.length ≤ 100) (hn : -1000000 ≤ n) (hn2 : n ≤ 1000000) (hc : ∀ c ∈ cls, 0 ≤ c ∧ c ≤ 24) :
    Calls Try.prog 21 #[.pointer (some ⟨mb, 0, none⟩), .int .i64 n] w fun e w' => e = .returned (.int .i64 (roundV cls n)) ∧ w = w' := by
  obtain ⟨sv, h6, hs⟩ := id hM
  have hsv : ∃ p cap, sv = .slice p cls.length cap := by
    rcases hs with ⟨e1, e2⟩ | ⟨p, cap, e1, e2⟩ | ⟨p, o, cap, e, _⟩
    · exact ⟨none, 0, by rw [e1, e2]; rfl⟩
    · exact ⟨some p, cap, by rw [e1, e2]; rfl⟩
    · exact ⟨_, cap, e⟩
  obtain ⟨p, cap, rfl⟩ := hsv
  rcases ixGe_cases cls n with hk | ⟨k, hlt, hk, x, hx, _⟩
  · rw [roundV_large hk]
    have Hk := hid hk
    clear hk
    go_enter Try.func21, Try.ntmps21
    go_wp2_with fail
    refine (mClass mb cls n _ hM hm).mono ?_
    rintro e w1 ⟨rfl, rfl⟩
    rw [clsIx, if_pos Hk.out]
    go_wp2_with fail
    go_ret
    exact ⟨rfl, rfl⟩
  · rw [roundV_small hk hx]
    rcases hs with ⟨e1, e2⟩ | ⟨_, _, e1, e2⟩ | ⟨b, o, cap', e1, hr, _⟩
    · rw [e2] at hlt; simp at hlt
    · rw [e2] at hlt; simp at hlt
    cases e1
    have hcx := hc x (List.mem_of_getElem? hx)
    have hck : w.cell? ⟨b, o + k, none⟩ = some (.int .i64 x) := hr.2 k _ (by simp [hx])
    have Hk := hid hk
    clear hk hx hc
    go_enter Try.func21, Try.ntmps21
    go_wp2_with fail
    refine (mClass mb cls n _ hM hm).mono ?_
    rintro e w1 ⟨rfl, rfl⟩
    rw [clsIx, if_neg (by rw [Hk.out]; omega), Hk.out]
    go_wp2_with fail
    go_ret
    exact ⟨rfl, rfl⟩
end Go.Proofs.Ytifillpcphiblaa
