import Derived.Test.YtifillpcphiblaaHNew
namespace Go.Proofs.Ytifillpcphiblaa
open Go Go.Proofs Go.RowKit

/-- A slice of integers that came in. -/
def SlArg (w : World) (sv : Value) (cls : List Int) : Prop :=
  (sv = .slice none 0 0 ∧ cls = []) ∨ (∃ a cap, sv = .slice (some a) 0 cap ∧ cls = []) ∨ ∃ b o cap, sv = .slice (some ⟨b, o, none⟩) cls.length cap ∧ RdAt w b o (cls.map (.int .i64)) ∧ cls.length ≤ maxLen

theorem SlArg.fr {S : List Nat} {w w' : World} {sv : Value} {cls : List Int} (h : SlArg w sv cls) (hf : Fr S w w') (hS : ∀ b ∈ S, w.heap.size ≤ b) : SlArg w' sv cls := by
  rcases h with h | h | ⟨b, o, cap, e, hr, hm⟩
  · exact .inl h
  · exact .inr (.inl h)
  · exact .inr <| .inr ⟨b, o, cap, e, hr.fr hf (fun hc => by have := hS b hc; have := hr.1; omega), hm⟩

/-- Rising, from behind 'last': the loop's words. -/
structure Lst (cls : List Int) (k : Nat) (last : Int) : Prop where
  z : k = 0 → last = 0
  s : 1 ≤ k → cls[k - 1]? = some last ∧ 1 ≤ last

set_option maxHeartbeats 3200000 in
theorem refLoop (W Lg a b c d : Int) (cls : List Int) (cb o cap : Nat) (w : World) (w1 : 1 ≤ W) (w2 : W ≤ 65536) (l1 : 0 ≤ Lg) (l2 : Lg < W) (n1 : 1 ≤ cls.length) (n2 : cls.length ≤ 6) (hr : RdAt w cb o (cls.map (.int .i64))) (v : Bool) (hv : v = true ↔ Inc 0 cls) :
    Calls Try.prog 17 #[.agg #[.int .i64 W, .int .i64 Lg, .int .i64 a, .int .i64 b, .int .i64 c, .int .i64 d, .slice (some ⟨cb, o, none⟩) cls.length cap]] w fun e w' => e = .returned (.bool v) ∧ Fr [] w w' := by
  have hl := hr.1
  have g1 : ¬ W < 1 := by omega
  have g2 : ¬ 65536 < W := by omega
  have g3 : ¬ Lg < 0 := by omega
  have g4 : ¬ W ≤ Lg := by omega
  have g5 : ¬ (cls.length : Int) < 1 := by omega
  have g6 : ¬ 6 < (cls.length : Int) := by omega
  have Hv := hid hv
  clear hv
  go_enter Try.func17, Try.ntmps17
  go_wp2_with fail
  go_loopw [3] (fun i wr => ∃ (k : Nat) (last : Int), k ≤ cls.length ∧ i = .int .i64 k ∧ Hid ((Inc 0 cls ↔ Inc last (cls.drop k)) ∧ Lst cls k last) ∧ Blk wr w.heap.size [.int .i64 W, .int .i64 Lg, .int .i64 a, .int .i64 b, .int .i64 c, .int .i64 d, .slice (some ⟨cb, o, none⟩) cls.length cap] 24 ∧ Fr [] w wr) (fun i _ => cls.length - (intOf i).toNat)
  case atStart => exact ⟨0, 0, Nat.zero_le _, rfl, ⟨by simp, ⟨fun _ => rfl, fun h => by omega⟩⟩, Blk.new w _ _, (Fr.refl _ w).alloc _⟩
  case round =>
    obtain ⟨k, last, hk, rfl, hI, hB, hF⟩ := hrel
    have c6 := hB.cell (i := 6) rfl
    have hrr := hr.fr hF (by simp)
    by_cases hlt : k < cls.length
    · obtain ⟨x, hx⟩ : ∃ x, cls[k]? = some x := ⟨_, List.getElem?_eq_getElem hlt⟩
      have hck : wr.cell? ⟨cb, o + k, none⟩ = some (.int .i64 x) := hrr.2 k _ (by simp [hx])
      have Hx := hid hx
      clear hx
      have hIn : (Inc 0 cls ↔ last < x ∧ x ≤ 24 ∧ Inc x (cls.drop (k + 1))) := by rw [hI.out.1, drop_getElem? Hx.out]; rfl
      have HIn := hid hIn
      clear hIn
      by_cases q1 : x < 1
      · have d1 : decide (x < 1) = true := by simpa using q1
        go_wp2_with fail
        go_quiet (fail)
        go_wp2_with fail
        go_ret
        refine ⟨?_, hF.drewN _⟩
        have : v = false := by rw [Bool.eq_false_iff]; intro hc; have h1 := HIn.out.1 (Hv.out.1 hc); have h2 := hI.out.2; have h3 := h2.z; have h4 := h2.s; rcases Nat.eq_zero_or_pos k with e | e; (· have := h3 e; omega); (· have := (h4 e).2; omega)
        rw [this]; rfl
      · have d1 : decide (x < 1) = false := by simpa using q1
        by_cases q2 : 24 < x
        · have d2 : decide (24 < x) = true := by simpa using q2
          go_wp2_with fail
          go_quiet (fail)
          go_wp2_with fail
          go_ret
          refine ⟨?_, hF.drewN _⟩
          have : v = false := by rw [Bool.eq_false_iff]; intro hc; have h1 := HIn.out.1 (Hv.out.1 hc); omega
          rw [this]; rfl
        · have d2 : decide (24 < x) = false := by simpa using q2
          by_cases q3 : k = 0
          · have d3 : decide ((0 : Int) < (k : Int)) = false := by simp; omega
            have d3' : decide (0 < k) = false := by simp; omega
            have q3' : (k : Int) ≤ 0 := by omega
            have Q3 := hid q3
            clear q3
            go_wp2_with fail
            go_quiet (fail)
            go_wp2_with fail
            go_roundw
            case rel =>
              refine ⟨k + 1, x, by omega, by go_num, ⟨?_, ⟨fun h => by omega, fun _ => ⟨by simpa using Hx.out, by omega⟩⟩⟩, hB.drewN _, hF.drewN _⟩
              rw [HIn.out]
              constructor
              · exact fun h => h.2.2
              · exact fun h => ⟨by have h3 := hI.out.2.z; have := h3 Q3.out; omega, by omega, h⟩
            case measure => simp [intOf]; omega
          · obtain ⟨hp1, hp2⟩ := hI.out.2.s (by omega)
            have hcp : wr.cell? ⟨cb, o + (k - 1), none⟩ = some (.int .i64 last) := hrr.2 (k - 1) _ (by simp [hp1])
            clear hp1
            have d3 : decide ((0 : Int) < (k : Int)) = true := by simp; omega
            have d3' : decide (0 < k) = true := by simp; omega
            have e2 : IntKind.i64.wrap ((k : Int) - 1) = (k : Int) - 1 := by rw [IntKind.wrap_i64]; omega
            have e3 : (0 : Int) ≤ (k : Int) - 1 := by omega
            have e4 : (k : Int) - 1 < cls.length := by omega
            have e1 : ((k : Int) - 1).toNat = k - 1 := by omega
            by_cases q4 : x ≤ last
            · have d4 : decide (x ≤ last) = true := by simpa using q4
              go_wp2_with fail
              go_quiet (fail)
              go_wp2_with fail
              go_ret
              refine ⟨?_, hF.drewN _⟩
              have : v = false := by rw [Bool.eq_false_iff]; intro hc; have h1 := HIn.out.1 (Hv.out.1 hc); omega
              rw [this]; rfl
            · have d4 : decide (x ≤ last) = false := by simpa using q4
              go_wp2_with fail
              go_quiet (fail)
              go_wp2_with fail
              go_roundw
              case rel =>
                refine ⟨k + 1, x, by omega, by go_num, ⟨?_, ⟨fun h => by omega, fun _ => ⟨by simpa using Hx.out, by omega⟩⟩⟩, hB.drewN _, hF.drewN _⟩
                rw [HIn.out]
                constructor
                · exact fun h => h.2.2
                · exact fun h => ⟨by omega, by omega, h⟩
              case measure => simp [intOf]; omega
    · go_wp2_with fail
      go_ret
      refine ⟨?_, hF⟩
      have e : k = cls.length := by omega
      have : v = true := by
        rw [Hv.out, hI.out.1, e, List.drop_length]; trivial
      rw [this]; rfl
end Go.Proofs.Ytifillpcphiblaa
