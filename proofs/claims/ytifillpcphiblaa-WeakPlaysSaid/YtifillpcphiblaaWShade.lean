import Derived.Test.YtifillpcphiblaaWStep
import Derived.Test.YtifillpcphiblaaHList
namespace Go.Proofs.Ytifillpcphiblaa
open Go Go.Proofs Go.RowKit

/-- What the law's world keeps of what was shaded: a box that leads to its struct, whose last cell is the row. -/
structure ShP (w : World) (bx vb base : Nat) (cs : List Value) (l : List Int) : Prop where
  six : cs.length = 6
  ex : ∃ sv, Blk w bx [.pointer (some ⟨vb, 0, none⟩)] 62 ∧ Blk w vb (cs ++ [sv]) 69 ∧ w.ownsRow base 2 1 sv l.length (intv l)
  b1 : bx < base
  b2 : vb < base
  hb : base ≤ w.heap.size

theorem ShP.fr {S : List Nat} {w w' : World} {bx vb base : Nat} {cs : List Value} {l : List Int} (h : ShP w bx vb base cs l) (hf : Fr S w w') (h1 : bx ∉ S) (h2 : vb ∉ S) (hS : ∀ b ∈ S, b < base ∨ ∀ c f, w.heap[b]? ≠ some (.cells c 2 f)) : ShP w' bx vb base cs l := by
  obtain ⟨sv, a, b, c⟩ := h.ex
  refine ⟨h.six, ⟨sv, a.fr hf h1, b.fr hf h2, ownsRow_fr c hf ?_⟩, h.b1, h.b2, Nat.le_trans h.hb hf.size⟩
  intro g hg hc
  obtain ⟨_, k | ⟨g', cap', cur, hv, hg', hh, _⟩⟩ := c
  · rw [k.1] at hg; simp [Value.ownBlock] at hg
  · rw [hv] at hg; simp [Value.ownBlock] at hg; subst hg
    rcases hS _ hc with h3 | h3
    · omega
    · exact h3 _ _ hh

theorem info_i64 : (Try.prog.info? 2).map (fun i => (i.zero, i.size, i.bytes)) = some (some (.int .i64 0), 1, 8) := by kernel_rfl

theorem shadeFin (bx vb base n gg cap2 : Nat) (cs : List Value) (sv : Value) (l : List Int) (v : Int) (w w9 : World) (hb : base ≤ w.heap.size) (b1 : bx < base) (b2 : vb < base) (hne : bx ≠ vb) (h6 : cs.length = 6) (hn : n = l.length)
    (hB : Blk w bx [.pointer (some ⟨vb, 0, none⟩)] 62) (hV : Blk w vb (cs ++ [sv]) 69) (hown : w.ownsRow base 2 1 sv n (intv l))
    (hown9 : w9.ownsRow base 2 1 (.slice (some ⟨gg, 0, none⟩) (n + 1) cap2) (n + 1) (intv l ++ [.int .i64 v])) (hFa : Fr sv.ownBlock.toList (w.drew.alloc (.cells #[.int .i64 v] 2)) w9) :
    ShP (w9.setCell ⟨vb, 6, none⟩ (.slice (some ⟨gg, 0, none⟩) (n + 1) cap2)) bx vb base cs (l ++ [v]) ∧ Fr (vb :: sv.ownBlock.toList) w (w9.setCell ⟨vb, 6, none⟩ (.slice (some ⟨gg, 0, none⟩) (n + 1) cap2)) := by
  subst hn
  have low := own_low hown
  have n1 : bx ∉ sv.ownBlock.toList := fun hx => by have := low bx hx; omega
  have n2 : vb ∉ sv.ownBlock.toList := fun hx => by have := low vb hx; omega
  have hB9 := (hB.drew.alloc (.cells #[.int .i64 v] 2)).fr hFa n1
  have hV9 := (hV.drew.alloc (.cells #[.int .i64 v] 2)).fr hFa n2
  have hs9 := hFa.size
  simp at hs9
  have hFw : Fr (vb :: sv.ownBlock.toList) w w9 := (((Fr.refl (vb :: sv.ownBlock.toList) w).drew).alloc _).trans (hFa.here (by intro x hx; simp [hx]))
  refine ⟨⟨h6, ⟨.slice (some ⟨gg, 0, none⟩) (l.length + 1) cap2, hB9.other hne _, ?_, ?_⟩, b1, b2, by simp [World.setCell] at *; omega⟩, hFw.set (by simp) _⟩
  · have := hV9.set 6 (.slice (some ⟨gg, 0, none⟩) (l.length + 1) cap2)
    have e : (cs ++ [sv]).set 6 (.slice (some ⟨gg, 0, none⟩) (l.length + 1) cap2) = cs ++ [.slice (some ⟨gg, 0, none⟩) (l.length + 1) cap2] := by
      rw [List.set_append_right _ _ (by omega), h6]; rfl
    rw [e] at this; exact this
  · have h1 : intv (l ++ [v]) = intv l ++ [.int .i64 v] := by simp [intv]
    rw [h1, List.length_append]
    refine ownsRow_fr hown9 ((Fr.refl [vb] w9).set (by simp) _) (fun g hg hc => ?_)
    have := (own_lt hown9 hg).1
    simp at hc; omega
where
  own_lt {w : World} {B : Nat} {T : TypeId} {v : Value} {n z : Nat} {xs : List Value} (h : w.ownsRow B T z v n xs) {g : Nat} (hg : v.ownBlock = some g) : B ≤ g ∧ g < w.heap.size := by
    obtain ⟨_, h | ⟨g', cap', cur, hv, hg', hh, _⟩⟩ := h
    · rw [h.1] at hg; simp [Value.ownBlock] at hg
    · rw [hv] at hg; simp [Value.ownBlock] at hg; subst hg; exact ⟨hg', (Array.getElem?_eq_some_iff.1 hh).1⟩

set_option maxRecDepth 100000 in
set_option maxHeartbeats 4000000 in
theorem shadeLaw (bx vb base : Nat) (cs : List Value) (l : List Int) (v : Int) (w : World) (h : ShP w bx vb base cs l) (hne : bx ≠ vb) (hl : l.length ≤ 65536) :
    Calls Try.prog 90 #[.int .i64 v, .pointer (some ⟨bx, 0, none⟩)] w fun e w' => e = .returned (.tuple #[]) ∧ ShP w' bx vb base cs (l ++ [v]) ∧ ∃ sv n, w.ownsRow base 2 1 sv n (intv l) ∧ Fr (vb :: sv.ownBlock.toList) w w' := by
  obtain ⟨sv, hB, hV, hown⟩ := h.ex
  have h6 := h.six
  have hb := h.hb
  have b1 := h.b1
  have b2 := h.b2
  have q0 := hB.cell (i := 0) rfl
  have hsv : (cs ++ [sv])[6]? = some sv := by rw [List.getElem?_append_right (by omega), h6]; rfl
  have q6 := hV.cell hsv
  have a0 := (hB.alloc (.cells #[.int .i64 v] 2)).cell (i := 0) rfl
  have a6 := (hV.alloc (.cells #[.int .i64 v] 2)).cell hsv
  have low := own_low hown
  have n1 : bx ∉ sv.ownBlock.toList := fun hx => by have := low bx hx; omega
  have n2 : vb ∉ sv.ownBlock.toList := fun hx => by have := low vb hx; omega
  have HI := hid (info_parts info_i64)
  have HS := hid hsv
  have H6 := hid h6
  obtain ⟨n, hn⟩ : ∃ n, n = l.length := ⟨_, rfl⟩
  rw [← hn] at hown hl
  have HN := hid hn
  clear hsv h6 hn
  go_enter Try.func90, Try.ntmps90
  go_wp2_with fail
  go_region_law (first
    | (obtain ⟨i0, hi, hz0, hz1, hz2⟩ := HI.out; refine step_append_lies _ (by rfl) _ _ _ (by rfl) base 2 i0 (.int .i64 0) 1 8 Try.underlying67 hi hz0 hz1 hz2 rfl (by decide) sv n _ (by rfl) (hown.drew.alloc _) ⟨w.heap.size, 0, none⟩ 1 1 [.int .i64 v] (by rfl) (by rfl) (World.news_of_block (cs := #[.int .i64 v]) (t := 2) (fr := (0, 0)) (heap_alloc_new w.drew _)) (by simp [Value.oneCell']) (by decide) (by simp [maxLen]; omega) (by omega) (by simp; omega) _ rfl ?_; clear hi hz0 hz1 hz2; intro gg cap2 w9 hown9 hgrow hat hlt9; have hFa := Fr.of_grownBy hgrow (S := sv.ownBlock.toList) (by intro k' hk'; left; simp [hk']); have q10 := ((hB.drew.alloc (.cells #[.int .i64 v] 2)).fr hFa n1).cell (i := 0) rfl; have q9 := ((hV.drew.alloc (.cells #[.int .i64 v] 2)).fr hFa n2).cell HS.out; have y9 := ((hV.drew.alloc (.cells #[.int .i64 v] 2)).fr hFa n2).frozen 6))
  all_goals
    go_wp2_with fail
    go_end0
    obtain ⟨r1, r2⟩ := shadeFin bx vb base n gg cap2 cs sv l v w w9 hb b1 b2 hne H6.out HN.out hB hV hown hown9 hFa
    exact ⟨rfl, r1, sv, n, hown, r2⟩
end Go.Proofs.Ytifillpcphiblaa
