import Derived.Test.YtifillpcphiblaaRefRight2
namespace Go.Proofs.Ytifillpcphiblaa
open Go Go.Proofs Go.RowKit

theorem info_bool : (Try.prog.info? 4).map (fun i => (i.zero, i.size, i.bytes)) = some (some (.bool false), 1, 1) := by kernel_rfl
theorem info_ring5 : (Try.prog.info? 124).map (fun i => (i.zero, i.size, i.bytes)) = some (some (.agg #[.slice none 0 0, .slice none 0 0, .slice none 0 0, .slice none 0 0, .int .i64 0]), 5, 104) := by kernel_rfl

/-- A place-by-place room: which places are free. -/
structure FRep (w : World) (fb B : Nat) (first : Int) (l : List Bool) : Prop where
  s : ∃ fv, Blk w fb [.int .i64 first, fv] 189 ∧ w.ownsRow B 4 1 fv l.length (l.map .bool)
  b : B ≤ fb

theorem blk_ne {w : World} {b b' : Nat} {cs cs' : List Value} {T T' : TypeId} (h : Blk w b cs T) (h' : Blk w b' cs' T') (hT : T ≠ T') : b ≠ b' := by
  intro e
  subst e
  unfold Blk at h h'
  rw [h] at h'
  simp at h'
  exact hT h'.2

def fNewPost (first : Int) (n : Nat) (w : World) (e : Ending) (w' : World) : Prop :=
  ∃ fb, e = .returned (.tuple #[.pointer (some ⟨fb, 0, none⟩), .int .i64 0]) ∧ FRep w' fb w.heap.size first (List.replicate n true) ∧ Fr [] w w'

set_option maxRecDepth 200000 in
set_option maxHeartbeats 3200000 in
theorem fNew (first : Int) (n : Nat) (w : World) (h1 : 0 ≤ first) (h2 : first ≤ 65536) (h4 : n ≤ 65536) :
    Calls Try.prog 69 #[.int .i64 first, .int .i64 n] w (fNewPost first n w) := by
  have g1 : ¬ first < 0 := by omega
  have g2 : ¬ 65536 < first := by omega
  have g3 : ¬ (n : Int) < 0 := by omega
  have g4 : ¬ 65536 < (n : Int) := by omega
  have HI := hid (info_parts info_bool)
  have B0 := Blk.new w [.int .i64 first, .slice none 0 0] 189
  go_enter Try.func69, Try.ntmps69
  go_wp2_with fail
  go_loopw [7] (fun i wr => ∃ k : Nat, k ≤ n ∧ i = .int .i64 k ∧ (∃ fv, Blk wr w.heap.size [.int .i64 first, fv] 189 ∧ wr.ownsRow w.heap.size 4 1 fv k (List.replicate k (.bool true))) ∧ Fr [] w wr) (fun i _ => n - (intOf i).toNat)
  case atStart => exact ⟨0, Nat.zero_le _, rfl, ⟨_, B0, ⟨rfl, .inl ⟨rfl, rfl⟩⟩⟩, (Fr.refl _ w).alloc _⟩
  case round =>
    obtain ⟨k, hk, rfl, ⟨fv, hB, hown⟩, hF⟩ := hrel
    clear B0
    by_cases hlt : k < n
    · have q1 := hB.cell (i := 1) rfl
      have hsz := hF.size
      have hlB := hB.lt
      obtain ⟨i0, hi, hz0, hz1, hz2⟩ := HI.out
      have h1' := hid hi
      have h2' := hid hz0
      have h3' := hid hz1
      have h4' := hid hz2
      have h5' := hid hown
      have hne := own_ne hown hB (by decide)
      have h6' := hid hne
      clear hi hz0 hz1 hz2 hown hne HI
      go_wp2_with (at_builtin; refine wpList_append_own _ rfl _ _ 46 rfl w.heap.size 4 i0 (.bool false) 1 1 Try.underlying46 h1'.out h2'.out h3'.out h4'.out rfl (by decide) fv k _ rfl (h5'.out.alloc _) ⟨wr.heap.size, 0, none⟩ 1 1 [.bool true] rfl rfl (cell_one_new _ _ _) ?c1 ?c2 ?c3 ?c4 ?c5)
      case c1 => simp [Value.oneCell']
      case c2 => simp only [maxLen]; omega
      case c3 => omega
      case c4 => simp; omega
      case c5 =>
        intro v' w1 hown' hgrow hniliff
        have hGr : Fr fv.ownBlock.toList wr w1 := ((Fr.refl _ wr).alloc _).trans (Fr.of_grownBy hgrow (by intro k' hk'; left; simp [hk']))
        have hB1 := hB.fr hGr h6'.out
        have q1' := hB1.cell (i := 1) rfl
        have y1' := hB1.frozen 1
        have hS : ∀ x ∈ fv.ownBlock.toList, w.heap.size ≤ x := by
          intro x hx
          obtain ⟨_, h | ⟨g', cap', cur, hv, hg', _⟩⟩ := h5'.out
          · rw [h.1] at hx; simp [Value.ownBlock] at hx
          · rw [hv] at hx; simp [Value.ownBlock] at hx; omega
        have hF1 := hF.step hGr (by intro x hx; right; exact hS x hx)
        have hv' : ∃ g c, v' = .slice (some ⟨g, 0, none⟩) (k + 1) c := by
          obtain ⟨_, h | ⟨g', cap', cur, hv, hg', _⟩⟩ := hown'
          · omega
          · exact ⟨g', cap', hv⟩
        obtain ⟨g, c, rfl⟩ := hv'
        have H7 := hid hown'
        clear q1 hgrow hniliff hown'
        go_wp2_with fail
        go_roundw
        case rel =>
          refine ⟨k + 1, by omega, by go_num, ⟨.slice (some ⟨g, 0, none⟩) (k + 1) c, ?_, ?_⟩, hF1.set (by simp) _⟩
          · simpa using hB1.set 1 (.slice (some ⟨g, 0, none⟩) (k + 1) c)
          · have hn2 := own_ne H7.out hB1 (by decide)
            have := ownsRow_fr H7.out ((Fr.refl [w.heap.size] w1).set (p := ⟨w.heap.size, 1, none⟩) (by simp) (.slice (some ⟨g, 0, none⟩) (k + 1) c)) (by intro x hx; simp [Value.ownBlock] at hx hn2 ⊢; omega)
            rw [List.replicate_succ']; exact this
        case measure => simp [intOf]; omega
    · have e : k = n := by omega
      subst e
      have hfin : fNewPost first k w (.returned (.tuple #[.pointer (some ⟨w.heap.size, 0, none⟩), .int .i64 0])) wr := ⟨w.heap.size, rfl, ⟨⟨fv, hB, by simpa using hown⟩, Nat.le_refl _⟩, hF⟩
      clear hB hown hF
      go_wp2_with fail
      go_ret2
      exact hfin
end Go.Proofs.Ytifillpcphiblaa
