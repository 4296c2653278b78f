import Derived.Test.YtifillpcphiblaaHCells
import Derived.Test.YtifillpcphiblaaMHNew
namespace Go.Proofs.Ytifillpcphiblaa
open Go Go.Proofs Go.RowKit

def nats (l : List Nat) : List Value := l.map fun n => .int .i64 (n : Nat)
def intv (l : List Int) : List Value := l.map (.int .i64)
theorem nats_get {l : List Nat} {i n : Nat} (h : l[i]? = some n) : (nats l)[i]? = some (.int .i64 (n : Nat)) := by simp [nats, h]

theorem info_i : (Try.prog.info? 3).map (fun i => (i.zero, i.size, i.bytes)) = some (some (.int .i64 0), 1, 8) := by kernel_rfl

theorem four_ptr {w : World} {b ob : Nat} {T : TypeId} (h : Blk w b [.pointer (some ⟨ob, 0, none⟩), .pointer (some ⟨ob, 1, none⟩), .pointer (some ⟨ob, 2, none⟩), .pointer (some ⟨ob, 3, none⟩)] T) {j : Nat} (hj : j < 4) : w.cell? ⟨b, j, none⟩ = some (.pointer (some ⟨ob, j, none⟩)) := by
  rcases (by omega : j = 0 ∨ j = 1 ∨ j = 2 ∨ j = 3) with rfl | rfl | rfl | rfl <;> exact h.cell rfl

def colAt (w : World) (cb : Nat) : Nat := (intOf ((w.cell? ⟨cb, 0, none⟩).getD undef)).toNat
theorem colAt_of {w : World} {cb k : Nat} {T : TypeId} (h : Blk w cb [.int .i64 (k : Nat)] T) : colAt w cb = k := by
  unfold colAt
  rw [h.cell (i := 0) rfl]
  simp [intOf]

theorem listFin (cb lf ob base k' m n gg cap2 : Nat) (ls : List Nat) (vs : List Value) (v : Value) (xs : List Int) (c : Int) (w W1 w9 : World)
    (hc1 : Blk W1 cb [.int .i64 (k' : Nat)] 3) (hl1 : Blk W1 lf ((nats ls).set k' (.int .i64 (m : Nat))) 180) (ho1 : Blk W1 ob vs 58) (hF1 : Fr [cb, lf] w W1)
    (low : ∀ x ∈ v.ownBlock.toList, base ≤ x) (d3 : cb ≠ ob) (d5 : lf ≠ ob) (b1 : cb < base) (b2 : lf < base) (b4 : ob < base) (hb : base ≤ w.heap.size)
    (hown9 : w9.ownsRow base 3 1 (.slice (some ⟨gg, 0, none⟩) (n + 1) cap2) (n + 1) (intv xs ++ [.int .i64 c])) (hFa : Fr v.ownBlock.toList (W1.drew.alloc (.cells #[.int .i64 c] 3)) w9)
    (hat : v.ownBlock = some gg ∨ gg = (W1.drew.alloc (.cells #[.int .i64 c] 3)).heap.size) :
    ∃ g cap, Blk (w9.setCell ⟨ob, k', none⟩ (.slice (some ⟨gg, 0, none⟩) (n + 1) cap2)) cb [.int .i64 (k' : Nat)] 3 ∧ Blk (w9.setCell ⟨ob, k', none⟩ (.slice (some ⟨gg, 0, none⟩) (n + 1) cap2)) lf (nats (ls.set k' m)) 180 ∧ Blk (w9.setCell ⟨ob, k', none⟩ (.slice (some ⟨gg, 0, none⟩) (n + 1) cap2)) ob (vs.set k' (.slice (some ⟨g, 0, none⟩) (n + 1) cap)) 58 ∧
      (w9.setCell ⟨ob, k', none⟩ (.slice (some ⟨gg, 0, none⟩) (n + 1) cap2)).ownsRow base 3 1 (.slice (some ⟨g, 0, none⟩) (n + 1) cap) (n + 1) (intv (xs ++ [c])) ∧ (v.ownBlock = some g ∨ w.heap.size ≤ g) ∧ Fr (cb :: lf :: ob :: v.ownBlock.toList) w (w9.setCell ⟨ob, k', none⟩ (.slice (some ⟨gg, 0, none⟩) (n + 1) cap2)) := by
  have n1 : cb ∉ v.ownBlock.toList := fun hx => by have := low cb hx; omega
  have n2 : lf ∉ v.ownBlock.toList := fun hx => by have := low lf hx; omega
  have n3 : ob ∉ v.ownBlock.toList := fun hx => by have := low ob hx; omega
  have hs := hF1.size
  refine ⟨gg, cap2, ?_, ?_, ?_, ?_, ?_, ?_⟩
  · exact ((hc1.drew.alloc _).fr hFa n1).other d3 _
  · have := ((hl1.drew.alloc (.cells #[.int .i64 c] 3)).fr hFa n2).other (a := ⟨ob, k', none⟩) d5 (.slice (some ⟨gg, 0, none⟩) (n + 1) cap2)
    have e : (nats ls).set k' (.int .i64 (m : Nat)) = nats (ls.set k' m) := by simp [nats, List.map_set]
    rw [e] at this
    exact this
  · exact ((ho1.drew.alloc (.cells #[.int .i64 c] 3)).fr hFa n3).set k' _
  · have e : intv (xs ++ [c]) = intv xs ++ [.int .i64 c] := by simp [intv]
    rw [e]
    refine ownsRow_fr hown9 ((Fr.refl [ob] w9).set (by simp) _) ?_
    intro g hg hc
    simp [Value.ownBlock] at hg
    simp at hc
    have h1 : base ≤ g := by
      rcases hat with h | h
      · exact low g (by simp [h, hg])
      · rw [← hg, h]; simp; omega
    omega
  · rcases hat with h | h
    · exact .inl h
    · right; rw [h]; simp; omega
  · have h1 : Fr (cb :: lf :: ob :: v.ownBlock.toList) w w9 := (((hF1.here (by simp)).drew).alloc _).trans (hFa.here (by intro x hx; simp [hx]))
    exact h1.set (by simp) _

set_option maxRecDepth 100000 in
set_option maxHeartbeats 2000000 in
theorem listStep (cb lf rwb ob base : Nat) (k k' m n : Nat) (ls : List Nat) (vs : List Value) (v : Value) (xs : List Int) (c : Int) (w : World)
    (hc : Blk w cb [.int .i64 (k : Nat)] 3) (hl : Blk w lf (nats ls) 180) (hr : Blk w rwb [.pointer (some ⟨ob, 0, none⟩), .pointer (some ⟨ob, 1, none⟩), .pointer (some ⟨ob, 2, none⟩), .pointer (some ⟨ob, 3, none⟩)] 196) (ho : Blk w ob vs 58)
    (h1 : k ≤ k') (h2 : k' < 4) (hz : ∀ j, k ≤ j → j < k' → ls[j]? = some 0) (hm : ls[k']? = some (m + 1)) (hmb : m ≤ 65536) (hv : vs[k']? = some v) (hown : w.ownsRow base 3 1 v n (intv xs)) (hn : n ≤ 65536)
    (d1 : cb ≠ lf) (d2 : cb ≠ rwb) (d3 : cb ≠ ob) (d4 : lf ≠ rwb) (d5 : lf ≠ ob) (_d6 : rwb ≠ ob) (b1 : cb < base) (b2 : lf < base) (b3 : rwb < base) (b4 : ob < base) (hb : base ≤ w.heap.size) :
    Calls Try.prog 128 #[.int .i64 c, .pointer (some ⟨lf, 0, none⟩), .pointer (some ⟨cb, 0, none⟩), .pointer (some ⟨rwb, 0, none⟩)] w fun e w' => e = .returned (.tuple #[]) ∧ ∃ g cap, Blk w' cb [.int .i64 (k' : Nat)] 3 ∧ Blk w' lf (nats (ls.set k' m)) 180 ∧ Blk w' ob (vs.set k' (.slice (some ⟨g, 0, none⟩) (n + 1) cap)) 58 ∧
      w'.ownsRow base 3 1 (.slice (some ⟨g, 0, none⟩) (n + 1) cap) (n + 1) (intv (xs ++ [c])) ∧ (v.ownBlock = some g ∨ w.heap.size ≤ g) ∧ Fr (cb :: lf :: ob :: v.ownBlock.toList) w w' := by
  have HM := hid hm
  have HV := hid hv
  have HZ := hid hz
  clear hm hv hz
  go_enter Try.func128, Try.ntmps128
  go_wp2_with fail
  go_loopw [] (fun wr => ∃ j : Nat, k ≤ j ∧ j ≤ k' ∧ Blk wr cb [.int .i64 (j : Nat)] 3 ∧ Fr [cb] w wr) (fun wr => k' - colAt wr cb)
  case atStart => exact ⟨k, Nat.le_refl _, h1, hc, Fr.refl _ _⟩
  case round =>
    obtain ⟨j, hj1, hj2, hcj, hFj⟩ := hrel
    have hlj := hl.fr hFj (by simp [Ne.symm d1])
    have q0 := hcj.cell (i := 0) rfl
    have f0 := hcj.frozen 0
    by_cases hlt : j < k'
    · have q1 : wr.cell? ⟨lf, j, none⟩ = some (.int .i64 0) := hlj.cell (nats_get (HZ.out j hj1 hlt))
      go_wp2_with fail
      go_roundw
      case rel => exact ⟨j + 1, by omega, by omega, by have := hcj.set 0 (.int .i64 (j + 1 : Nat)); simpa using this, hFj.set (by simp) _⟩
      case measure =>
        rw [colAt_of hcj, colAt_of (k := j + 1) (by have := hcj.set 0 (.int .i64 (j + 1 : Nat)); simpa using this)]
        omega
    · obtain rfl : j = k' := by omega
      have q1 : wr.cell? ⟨lf, j, none⟩ = some (.int .i64 (m + 1 : Nat)) := hlj.cell (nats_get HM.out)
      have f1 := hlj.frozen j
      go_wp2_with fail
      have hr1 := (hr.fr hFj (by simp [Ne.symm d2])).other (a := ⟨lf, j, none⟩) (Ne.symm d4) (.int .i64 (m : Nat))
      have ho1 := (ho.fr hFj (by simp [Ne.symm d3])).other (a := ⟨lf, j, none⟩) (Ne.symm d5) (.int .i64 (m : Nat))
      have hc1 := hcj.other (a := ⟨lf, j, none⟩) d1 (.int .i64 (m : Nat))
      have hl1 := hlj.set j (.int .i64 (m : Nat))
      have hF1 : Fr [cb, lf] w (wr.setCell ⟨lf, j, none⟩ (.int .i64 (m : Nat))) := (hFj.here (by simp)).set (by simp) _
      obtain ⟨W1, hW1⟩ : ∃ W1, W1 = wr.setCell ⟨lf, j, none⟩ (.int .i64 (m : Nat)) := ⟨_, rfl⟩
      rw [← hW1] at hr1 ho1 hc1 hl1 hF1 ⊢
      clear hW1 q0 f0 q1 f1
      have low := own_low hown
      have hown1 := ownsRow_fr hown hF1 (fun g hg hx => by have := low g (by simp [hg]); simp at hx; omega)
      have HI := hid (info_parts info_i)
      have hW1s := hF1.size
      have q0 := hc1.cell (i := 0) rfl
      have q2 := four_ptr hr1 h2
      have q3 := ho1.cell HV.out
      have y3 := ho1.frozen j
      have hne : ob ∉ v.ownBlock.toList := fun hx => by have := low ob hx; omega
      have hneR : rwb ∉ v.ownBlock.toList := fun hx => by have := low rwb hx; omega
      have hneC : cb ∉ v.ownBlock.toList := fun hx => by have := low cb hx; omega
      have lo1 := ho1.lt
      have hj4 : (j : Int) < 4 := by omega
      have a0 := (hc1.alloc (.cells #[.int .i64 c] 3)).cell (i := 0) rfl
      have a2 := four_ptr (hr1.alloc (.cells #[.int .i64 c] 3)) h2
      have a3 := (ho1.alloc (.cells #[.int .i64 c] 3)).cell HV.out
      go_region_law (first
        | (obtain ⟨i0, hi, hz0, hz1, hz2⟩ := HI.out; refine step_append_lies _ (by rfl) _ _ _ (by rfl) base 3 i0 (.int .i64 0) 1 8 Try.underlying22 hi hz0 hz1 hz2 rfl (by decide) v n _ (by rfl) (hown1.drew.alloc _) ⟨W1.heap.size, 0, none⟩ 1 1 [.int .i64 c] (by rfl) (by rfl) (World.news_of_block (cs := #[.int .i64 c]) (t := 3) (fr := (0, 0)) (heap_alloc_new W1.drew _)) (by simp [Value.oneCell']) (by decide) (by simp [maxLen]; omega) (by omega) (by simp; omega) _ rfl ?_; clear hi hz0 hz1 hz2; intro gg cap2 w9 hown9 hgrow hat hlt9; have hFa := Fr.of_grownBy hgrow (S := v.ownBlock.toList) (by intro k' hk'; left; simp [hk']); have q10 := ((hc1.drew.alloc (.cells #[.int .i64 c] 3)).fr hFa hneC).cell (i := 0) rfl; have q11 := four_ptr ((hr1.drew.alloc (.cells #[.int .i64 c] 3)).fr hFa hneR) h2; have q9 := ((ho1.drew.alloc (.cells #[.int .i64 c] 3)).fr hFa hne).cell HV.out; have y9 := ((ho1.drew.alloc (.cells #[.int .i64 c] 3)).fr hFa hne).frozen j))
      all_goals
        go_wp2_with fail
        go_end0
        exact ⟨rfl, listFin cb lf ob base j m n gg cap2 ls vs v xs c w W1 w9 hc1 hl1 ho1 hF1 low d3 d5 b1 b2 b4 hb hown9 hFa hat⟩
end Go.Proofs.Ytifillpcphiblaa
