import Derived.Test.YtifillpcphiblaaRefNew
namespace Go.Proofs.Ytifillpcphiblaa
open Go Go.Proofs Go.RowKit

/-- Empty rows, so many of them. -/
def emptyRows (W : Int) (k : Nat) : List Value := (List.replicate k [Value.slice none 0 0, .slice none 0 0, .slice none 0 0, .slice none 0 0, .int .i64 W]).flatten
theorem emptyRows_succ (W : Int) (k : Nat) : emptyRows W (k + 1) = emptyRows W k ++ [.slice none 0 0, .slice none 0 0, .slice none 0 0, .slice none 0 0, .int .i64 W] := by
  simp [emptyRows, List.replicate_succ']

structure MNew (w' : World) (mb B : Nat) (W Lg : Nat) (a b c d : Int) (sv : Value) (n : Nat) : Prop where
  s : ∃ mp rv fb, Blk w' mb [.int .i64 W, .int .i64 Lg, .int .i64 a, .int .i64 b, .int .i64 c, .int .i64 d, sv, .map (some mp), rv, .pointer (some ⟨fb, 0, none⟩), .int .i64 1, .int .i64 0] 107 ∧
    w'.heap[mp]? = some (.map #[] 0) ∧ w'.ownsRow B 124 5 rv (n + 1) (emptyRows W (n + 1)) ∧ FRep w' fb B ((W : Int) - Lg) (List.replicate Lg true) ∧ B ≤ mp
  b : B ≤ mb

def mNewPost (W Lg : Nat) (a b c d : Int) (sv : Value) (n : Nat) (w : World) (e : Ending) (w' : World) : Prop :=
  ∃ mb, e = .returned (.pointer (some ⟨mb, 0, none⟩)) ∧ MNew w' mb w.heap.size W Lg a b c d sv n ∧ Fr [] w w'

theorem own_ne5 {w : World} {B : Nat} {T T' : TypeId} {v : Value} {n b z : Nat} {xs cs : List Value} (h : w.ownsRow B T z v n xs) (hb : Blk w b cs T') (hT : T' ≠ T) : b ∉ v.ownBlock.toList := by
  intro hc
  obtain ⟨_, h2 | ⟨g, cap, cur, hv, hg, hh, r⟩⟩ := h
  · rw [h2.1] at hc; simp [Value.ownBlock] at hc
  · rw [hv] at hc
    simp [Value.ownBlock] at hc
    subst hc
    unfold Blk at hb
    rw [hh] at hb
    simp at hb
    exact hT hb.2.symm

theorem own_low {w : World} {B : Nat} {T : TypeId} {v : Value} {n z : Nat} {xs : List Value} (h : w.ownsRow B T z v n xs) : ∀ x ∈ v.ownBlock.toList, B ≤ x := by
  intro x hx
  obtain ⟨_, h | ⟨g', cap', cur, hv, hg', _⟩⟩ := h
  · rw [h.1] at hx; simp [Value.ownBlock] at hx
  · rw [hv] at hx; simp [Value.ownBlock] at hx; omega

theorem own_map {w : World} {B : Nat} {T : TypeId} {v : Value} {n z mp : Nat} {xs : List Value} {es : Array MapEntry} {ck : Nat} (h : w.ownsRow B T z v n xs) (hb : w.heap[mp]? = some (.map es ck)) : mp ∉ v.ownBlock.toList := by
  intro hc
  obtain ⟨_, h2 | ⟨g, cap, cur, hv, hg, hh, r⟩⟩ := h
  · rw [h2.1] at hc; simp [Value.ownBlock] at hc
  · rw [hv] at hc
    simp [Value.ownBlock] at hc
    subst hc
    rw [hh] at hb
    cases hb

theorem ownsRow_base {w : World} {B B' : Nat} {e : TypeId} {sz n : Nat} {v : Value} {xs : List Value} (h : w.ownsRow B e sz v n xs) (hB : B' ≤ B) : w.ownsRow B' e sz v n xs := by
  obtain ⟨h1, h2⟩ := h
  refine ⟨h1, ?_⟩
  rcases h2 with h2 | ⟨g, cap, cur, hv, hg, r⟩
  · exact .inl h2
  · exact .inr ⟨g, cap, cur, hv, by omega, r⟩

theorem FRep.fr {S : List Nat} {w w' : World} {fb B : Nat} {first : Int} {l : List Bool} (h : FRep w fb B first l) (hf : Fr S w w') (hS : ∀ x ∈ S, x < B) : FRep w' fb B first l := by
  obtain ⟨⟨fv, hb, hown⟩, hB⟩ := h
  exact ⟨⟨fv, hb.fr hf (fun hc => by have := hS _ hc; omega), ownsRow_fr hown hf (fun g hg hc => by have := hS _ hc; have := own_low hown g (by simp [hg]); omega)⟩, hB⟩

set_option maxRecDepth 200000 in
set_option maxHeartbeats 3200000 in
theorem mNew (W Lg : Nat) (a b c d : Int) (sv : Value) (cls : List Int) (w : World) (hR : RightC W Lg cls) (hs : SlArg w sv cls) :
    Calls Try.prog 20 #[.agg #[.int .i64 W, .int .i64 Lg, .int .i64 a, .int .i64 b, .int .i64 c, .int .i64 d, sv]] w (mNewPost W Lg a b c d sv cls.length w) := by
  have hsv : ∃ p cap, sv = .slice p cls.length cap := by
    rcases hs with ⟨e1, e2⟩ | ⟨p, cap, e1, e2⟩ | ⟨p, o, cap, e, _⟩
    · exact ⟨none, 0, by rw [e1, e2]; rfl⟩
    · exact ⟨some p, cap, by rw [e1, e2]; rfl⟩
    · exact ⟨_, cap, e⟩
  obtain ⟨p, cap, rfl⟩ := hsv
  clear hs
  have HI := hid (info_parts info_ring5)
  have hmm := @run_makeMap Try.prog
  have w2' := hR.w2
  have l1' := hR.l1
  have l2' := hR.l2
  have hn2 := hR.n2
  go_enter Try.func20, Try.ntmps20
  go_wp2_with fail
  have hB0 := ((Blk.new w [.int .i64 W, .int .i64 Lg, .int .i64 a, .int .i64 b, .int .i64 c, .int .i64 d, .slice p cls.length cap] 24).alloc (.map #[] 0)).alloc (.cells #[.int .i64 W, .int .i64 Lg, .int .i64 a, .int .i64 b, .int .i64 c, .int .i64 d, .slice p cls.length cap, .map (some (w.heap.size + 1)), .slice none 0 0, .pointer none, .int .i64 1, .int .i64 0] 107)
  have hM0 := Blk.new ((w.alloc (.cells #[.int .i64 W, .int .i64 Lg, .int .i64 a, .int .i64 b, .int .i64 c, .int .i64 d, .slice p cls.length cap] 24)).alloc (.map #[] 0)) [.int .i64 W, .int .i64 Lg, .int .i64 a, .int .i64 b, .int .i64 c, .int .i64 d, .slice p cls.length cap, .map (some (w.heap.size + 1)), .slice none 0 0, .pointer none, .int .i64 1, .int .i64 0] 107
  have hP0 : (((w.alloc (.cells #[.int .i64 W, .int .i64 Lg, .int .i64 a, .int .i64 b, .int .i64 c, .int .i64 d, .slice p cls.length cap] 24)).alloc (.map #[] 0)).alloc (.cells #[.int .i64 W, .int .i64 Lg, .int .i64 a, .int .i64 b, .int .i64 c, .int .i64 d, .slice p cls.length cap, .map (some (w.heap.size + 1)), .slice none 0 0, .pointer none, .int .i64 1, .int .i64 0] 107)).heap[w.heap.size + 1]? = some (.map #[] 0) := by
    rw [Below.heap_alloc _ _ _ (by simp)]
    have := heap_alloc_new (w.alloc (.cells #[.int .i64 W, .int .i64 Lg, .int .i64 a, .int .i64 b, .int .i64 c, .int .i64 d, .slice p cls.length cap] 24)) (.map #[] 0)
    simpa using this
  simp only [World.size_alloc] at hM0
  have hF0 : Fr [] w _ := ((((Fr.refl [] w).alloc (.cells #[.int .i64 W, .int .i64 Lg, .int .i64 a, .int .i64 b, .int .i64 c, .int .i64 d, .slice p cls.length cap] 24)).alloc (.map #[] 0)).alloc (.cells #[.int .i64 W, .int .i64 Lg, .int .i64 a, .int .i64 b, .int .i64 c, .int .i64 d, .slice p cls.length cap, .map (some (w.heap.size + 1)), .slice none 0 0, .pointer none, .int .i64 1, .int .i64 0] 107))
  obtain ⟨w0, hw0⟩ : ∃ w0, w0 = (((w.alloc (.cells #[.int .i64 W, .int .i64 Lg, .int .i64 a, .int .i64 b, .int .i64 c, .int .i64 d, .slice p cls.length cap] 24)).alloc (.map #[] 0)).alloc (.cells #[.int .i64 W, .int .i64 Lg, .int .i64 a, .int .i64 b, .int .i64 c, .int .i64 d, .slice p cls.length cap, .map (some (w.heap.size + 1)), .slice none 0 0, .pointer none, .int .i64 1, .int .i64 0] 107)) := ⟨_, rfl⟩
  rw [← hw0] at hB0 hM0 hP0 hF0 ⊢
  clear hw0 hmm
  go_loopw [4] (fun i wr => ∃ k : Nat, k ≤ cls.length + 1 ∧ i = .int .i64 k ∧ Blk wr w.heap.size [.int .i64 W, .int .i64 Lg, .int .i64 a, .int .i64 b, .int .i64 c, .int .i64 d, .slice p cls.length cap] 24 ∧ (∃ rv, Blk wr (w.heap.size + 1 + 1) [.int .i64 W, .int .i64 Lg, .int .i64 a, .int .i64 b, .int .i64 c, .int .i64 d, .slice p cls.length cap, .map (some (w.heap.size + 1)), rv, .pointer none, .int .i64 1, .int .i64 0] 107 ∧ wr.ownsRow w.heap.size 124 5 rv k (emptyRows W k)) ∧ wr.heap[w.heap.size + 1]? = some (.map #[] 0) ∧ Fr [] w wr) (fun i _ => cls.length + 1 - (intOf i).toNat)
  case atStart => exact ⟨0, Nat.zero_le _, rfl, hB0, ⟨_, hM0, ⟨rfl, .inl ⟨rfl, rfl⟩⟩⟩, hP0, hF0⟩
  case round =>
    obtain ⟨k, hk, rfl, hB, ⟨rv, hM, hown⟩, hP, hF⟩ := hrel
    clear hB0 hM0 hP0 hF0
    have hsz := hF.size
    have lM0 := hM.lt
    by_cases hlt : k < cls.length + 1
    · have c0 := hB.cell (i := 0) rfl
      have c6 := hB.cell (i := 6) rfl
      have q8 := hM.cell (i := 8) rfl
      have y8 := hM.frozen 8
      have lM := hM.lt
      have HP := hid hP
      have hO := hid hown
      have hne := own_ne5 hown hM (by decide)
      clear hP
      go_wp2_with fail
      go_region_law (first
        | (obtain ⟨i0, hi, hz0, hz1, hz2⟩ := HI.out; refine step_append_lies _ (by rfl) _ _ _ (by rfl) w.heap.size 124 i0 (.agg #[.slice none 0 0, .slice none 0 0, .slice none 0 0, .slice none 0 0, .int .i64 0]) 5 104 Try.underlying104 hi hz0 hz1 hz2 rfl (by decide) rv k _ (by rfl) (hown.drew.alloc _) ⟨wr.heap.size, 0, none⟩ 1 1 [.slice none 0 0, .slice none 0 0, .slice none 0 0, .slice none 0 0, .int .i64 W] (by rfl) (by rfl) (World.news_of_block (cs := #[.slice none 0 0, .slice none 0 0, .slice none 0 0, .slice none 0 0, .int .i64 W]) (t := 124) (fr := (0, 0)) (heap_alloc_new wr.drew _)) (by simp [Value.oneCell']) (by decide) (by simp [maxLen]; omega) (by omega) (by simp; omega) _ rfl ?_; clear hi hz0 hz1 hz2; intro gg cap2 w9 hown9 hgrow hat hlt9; have hFa := Fr.of_grownBy hgrow (S := rv.ownBlock.toList) (by intro k' hk'; left; simp [hk']); have q9 := ((hM.drew.alloc (.cells #[.slice none 0 0, .slice none 0 0, .slice none 0 0, .slice none 0 0, .int .i64 W] 124)).fr hFa hne).cell (i := 8) rfl; have y9 := ((hM.drew.alloc (.cells #[.slice none 0 0, .slice none 0 0, .slice none 0 0, .slice none 0 0, .int .i64 W] 124)).fr hFa hne).frozen 8))
      all_goals
        have hG0 : Fr rv.ownBlock.toList wr w9 := (((Fr.refl _ wr).drew).alloc (.cells #[.slice none 0 0, .slice none 0 0, .slice none 0 0, .slice none 0 0, .int .i64 W] 124)).trans hFa
        have hG : Fr ((w.heap.size + 1 + 1) :: rv.ownBlock.toList) wr (w9.setCell ⟨w.heap.size + 1 + 1, 8, none⟩ (.slice (some ⟨gg, 0, none⟩) (k + 1) cap2)) := (hG0.here (by intro x hx; exact List.mem_cons_of_mem _ hx)).set (by simp) _
        have hnB : w.heap.size ∉ (w.heap.size + 1 + 1) :: rv.ownBlock.toList := by
          intro hc
          rcases List.mem_cons.1 hc with e | e
          · omega
          · exact own_ne5 hO.out hB (by decide) e
        have hnP : w.heap.size + 1 ∉ (w.heap.size + 1 + 1) :: rv.ownBlock.toList := by
          intro hc
          rcases List.mem_cons.1 hc with e | e
          · omega
          · exact own_map hO.out HP.out e
        have hlP : w.heap.size + 1 < wr.heap.size := by omega
        have hB' := hB.fr hG hnB
        have hP' := (hG.block _ hlP hnP).trans HP.out
        have hMo : Blk (w9.setCell ⟨w.heap.size + 1 + 1, 8, none⟩ (.slice (some ⟨gg, 0, none⟩) (k + 1) cap2)) (w.heap.size + 1 + 1) [.int .i64 W, .int .i64 Lg, .int .i64 a, .int .i64 b, .int .i64 c, .int .i64 d, .slice p cls.length cap, .map (some (w.heap.size + 1)), .slice (some ⟨gg, 0, none⟩) (k + 1) cap2, .pointer none, .int .i64 1, .int .i64 0] 107 := by
          have := (hM.fr hG0 hne).set 8 (.slice (some ⟨gg, 0, none⟩) (k + 1) cap2)
          simpa using this
        have hwo : (w9.setCell ⟨w.heap.size + 1 + 1, 8, none⟩ (.slice (some ⟨gg, 0, none⟩) (k + 1) cap2)).ownsRow w.heap.size 124 5 (.slice (some ⟨gg, 0, none⟩) (k + 1) cap2) (k + 1) (emptyRows W (k + 1)) := by
          have hM9 := hM.fr hG0 hne
          have hn2 := own_ne5 hown9 hM9 (by decide)
          rw [emptyRows_succ]
          exact ownsRow_fr hown9 ((Fr.refl [w.heap.size + 1 + 1] w9).set (by simp) _) (by intro g hg; simp [Value.ownBlock] at hg hn2; simp; omega)
        have hF' := hF.step hG (by intro x hx; right; rcases List.mem_cons.1 hx with e | e; (· omega); (· exact own_low hO.out x e))
        clear c0 c6 q8 y8 q9 y9 hown hown9 hgrow hat hFa hG hG0 hM hB hF HP
        have HP2 := hid hP'
        clear hP'
        go_wp2_with fail
        go_roundw
        case rel => exact ⟨k + 1, by omega, by go_num, hB', ⟨_, hMo, hwo⟩, HP2.out, hF'⟩
        case measure => simp [intOf]; omega
    · have e : k = cls.length + 1 := by omega
      subst e
      have c0 := hB.cell (i := 0) rfl
      have c1 := hB.cell (i := 1) rfl
      have c6 := hB.cell (i := 6) rfl
      have HP := hid hP
      clear hP
      go_wp2_with fail
      refine (fNew ((W : Int) - Lg) Lg _ (by omega) (by omega) (by omega)).mono ?_
      rintro e w5 ⟨fb, rfl, hFR, hF5⟩
      clear c0 c1 c6
      have hM5 := hM.fr hF5 (by simp)
      have hO5 := ownsRow_fr hown hF5 (by simp)
      have hP5 := (hF5.block _ (by omega) (by simp)).trans HP.out
      have q9 := hM5.cell (i := 9) rfl
      have y9 := hM5.frozen 9
      have HP5 := hid hP5
      clear hP5
      go_wp2_with fail
      go_ret
      have hMf := hM5.set 9 (.pointer (some ⟨fb, 0, none⟩))
      have hlow : w.heap.size ≤ wr.heap.size := hsz
      refine ⟨w.heap.size + 1 + 1, rfl, ⟨⟨w.heap.size + 1, rv, fb, by simpa using hMf, ?_, ?_, ?_, by omega⟩, by omega⟩, (hF.trans hF5).set (by simp; omega) _⟩
      · rw [Below.heap_setCell _ _ _ _ (by simp)]; exact HP5.out
      · exact ownsRow_fr hO5 ((Fr.refl [w.heap.size + 1 + 1] w5).set (by simp) _) (by intro g hg hc; have := own_ne5 hO5 hM5 (by decide); simp at hc; subst hc; simp [hg] at this)
      · have h1 := hFR.fr ((Fr.refl [w.heap.size + 1 + 1] w5).set (p := ⟨w.heap.size + 1 + 1, 9, none⟩) (by simp) (.pointer (some ⟨fb, 0, none⟩))) (by simp; have := hM.lt; omega)
        obtain ⟨⟨fv, g1, g2⟩, g3⟩ := h1
        exact ⟨⟨fv, g1, ownsRow_base g2 hlow⟩, by omega⟩
end Go.Proofs.Ytifillpcphiblaa
