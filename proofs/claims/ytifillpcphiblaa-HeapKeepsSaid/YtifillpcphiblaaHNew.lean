import Derived.Test.YtifillpcphiblaaNew
import Derived.Deep.RegionHeld3
import Derived.Deep.AppendLies
import Derived.Deep.RegionLaw
namespace Go.Proofs.Ytifillpcphiblaa
open Go Go.Proofs Go.RowKit

def xs0 (W Lg : Int) : XS := ⟨W - Lg, Lg, if Lg = 0 then [] else [(W - Lg, Lg)]⟩

def xNewPost (first n : Int) (w : World) (e : Ending) (w' : World) : Prop :=
  ∃ xb xlbs, e = .returned (.tuple #[.pointer (some ⟨xb, 0, none⟩), .int .i64 0]) ∧ XRep w' xb xlbs ⟨first, n, if n = 0 then [] else [(first, n)]⟩ ∧ Fr [] w w' ∧ w.heap.size ≤ xb ∧ (∀ b ∈ xlbs, w.heap.size ≤ b) ∧ xb ∉ xlbs ∧ xlbs.Nodup

theorem xNew (first n : Int) (w : World) (h1 : 0 ≤ first) (h2 : first ≤ 65536) (h3 : 0 ≤ n) (h4 : n ≤ 65536) :
    Calls Try.prog 67 #[.int .i64 first, .int .i64 n] w (xNewPost first n w) := by
  by_cases h : n = 0
  · subst h
    refine (xNew0 first w h1 h2).mono ?_
    rintro e w' ⟨xb, rfl, hx, hF, hl⟩
    exact ⟨xb, [], rfl, hx, hF, hl, by simp, by simp, by simp⟩
  · refine (xNew1 first n w h1 h2 (by omega) h4).mono ?_
    rintro e w' ⟨xb, xl, rfl, hx, hF, hl, hl2, hne⟩
    exact ⟨xb, [xl], rfl, by rw [if_neg h]; exact hx, hF, hl, by simpa using hl2, by simpa using hne, by simp⟩

theorem info_rptr : (Try.prog.info? 87).map (fun i => (i.zero, i.size, i.bytes)) = some (some (.pointer none), 1, 8) := by kernel_rfl

theorem ownsRow_fr {S : List Nat} {w w' : World} {B : Nat} {e : TypeId} {sz n : Nat} {v : Value} {xs : List Value} (h : w.ownsRow B e sz v n xs) (hf : Fr S w w') (hS : ∀ g, v.ownBlock = some g → g ∉ S) : w'.ownsRow B e sz v n xs := by
  obtain ⟨h1, h2⟩ := h
  refine ⟨h1, ?_⟩
  rcases h2 with h2 | ⟨g, cap, cur, hv, hg, hh, r⟩
  · exact .inl h2
  · refine .inr ⟨g, cap, cur, hv, hg, ?_, r⟩
    have hl : g < w.heap.size := (Array.getElem?_eq_some_iff.1 hh).1
    rw [hf.block g hl (hS g (by rw [hv]; rfl))]; exact hh

theorem own_ne {w : World} {B : Nat} {T T' : TypeId} {v : Value} {n b : Nat} {xs cs : List Value} (h : w.ownsRow B T 1 v n xs) (hb : Blk w b cs T') (hT : T' ≠ T) : b ∉ v.ownBlock.toList := by
  intro hc
  obtain ⟨_, h2 | ⟨g, cap, cur, hv, hg, hh, r⟩⟩ := h
  · rw [h2.1] at hc; simp [Value.ownBlock] at hc
  · rw [hv] at hc
    simp [Value.ownBlock] at hc
    subst hc
    unfold Blk at hb
    rw [hh] at hb
    simp at hb
    exact hT hb.2.symm

/-- k rings are made. -/
def NI (w : World) (W Lg : Nat) (cls : List Int) (hb ab wb cb lb xb : Nat) (xlbs : List Nat) (ccap B : Nat) (wr : World) (k : Nat) : Prop :=
  ∃ (rv : Value) (rbs : List Nat), rbs.length = k ∧ Blk wr hb [.pointer (some ⟨ab, 0, none⟩), .slice (some ⟨cb, 0, none⟩) cls.length ccap, rv, .pointer (some ⟨lb, 0, none⟩), .pointer (some ⟨xb, 0, none⟩), .int .i64 1, .int .i64 ((W : Int) - Lg), .int .i64 0] 90 ∧
    wr.ownsRow B 87 1 rv k (rbs.map fun b => .pointer (some ⟨b, 0, none⟩)) ∧ ARep wr ab wb (List.replicate W 0) 0 ∧ Rd wr cb (cls.map (.int .i64)) ∧ RRep wr lb ab ⟨0, 0, 0, 0, 0, 0⟩ ∧ XRep wr xb xlbs ⟨(W : Int) - Lg, Lg, if (Lg : Int) = 0 then [] else [((W : Int) - Lg, Lg)]⟩ ∧
    (∀ rb ∈ rbs, RRep wr rb ab ⟨0, 0, 0, 0, 0, 0⟩ ∧ B ≤ rb) ∧ rbs.Nodup ∧ Fr [] w wr

def HS.new (W Lg : Nat) (cls : List Int) : HS :=
  { ws := List.replicate W 0, u := 0, cls := cls, rs := cls.map (fun _ => ⟨0, 0, 0, 0, 0, 0⟩), lg := ⟨0, 0, 0, 0, 0, 0⟩, x := ⟨W - Lg, Lg, if (Lg : Int) = 0 then [] else [((W : Int) - Lg, Lg)]⟩, top := 1, edge := W - Lg, parity := 0 }

def NewPost (s : HS) (w : World) (e : Ending) (w' : World) : Prop :=
  ∃ L, e = .returned (.tuple #[.pointer (some ⟨L.hb, 0, none⟩), .int .i64 0]) ∧ HRep w' L s ∧ Fr [] w w' ∧ ∀ b ∈ L.all, w.heap.size ≤ b

set_option maxRecDepth 200000 in
set_option maxHeartbeats 3200000 in
theorem hNew (W Lg : Nat) (a b c d : Int) (cls : List Int) (cb o cap : Nat) (w : World) (hR : RightC W Lg cls) (hr : RdAt w cb o (cls.map (.int .i64))) :
    Calls Try.prog 18 #[.agg #[.int .i64 W, .int .i64 Lg, .int .i64 a, .int .i64 b, .int .i64 c, .int .i64 d, .slice (some ⟨cb, o, none⟩) cls.length cap]] w (NewPost (HS.new W Lg cls) w) := by
  have l1 := hr.1
  have B0 := Blk.new w [.int .i64 W, .int .i64 Lg, .int .i64 a, .int .i64 b, .int .i64 c, .int .i64 d, .slice (some ⟨cb, o, none⟩) cls.length cap] 24
  have hr0 := hr.fr ((Fr.refl [] w).alloc (.cells #[.int .i64 W, .int .i64 Lg, .int .i64 a, .int .i64 b, .int .i64 c, .int .i64 d, .slice (some ⟨cb, o, none⟩) cls.length cap] 24)) (by simp)
  go_enter Try.func18, Try.ntmps18
  go_wp2_with fail
  refine (hRight W Lg a b c d cls cb o cap _ hR hr0).mono ?_
  rintro e w1 ⟨rfl, hF1⟩
  have B1 := B0.fr hF1 (by simp)
  have hr1 := hr0.fr hF1 (by simp)
  have hF1' : Fr [] w w1 := ((Fr.refl _ w).alloc _).trans hF1
  have hw01 := hF1'.size
  clear B0 hr0 hF1
  have c0 := B1.cell (i := 0) rfl
  have c1 := B1.cell (i := 1) rfl
  have c6 := B1.cell (i := 6) rfl
  go_wp2_with fail
  refine (aNew W _ (by have := hR.w1; omega) (by have := hR.w2; omega)).mono ?_
  rintro e w2 ⟨ab, wb, rfl, hA2, hF2, g1, g2⟩
  have B2 := B1.fr hF2 (by simp)
  have hr2 := hr1.fr hF2 (by simp)
  have hF2' := hF1'.trans hF2
  clear B1 hr1 hF2 c0 c1 c6 hF1'
  have c0 := B2.cell (i := 0) rfl
  have c1 := B2.cell (i := 1) rfl
  have c6 := B2.cell (i := 6) rfl
  go_wp2_with fail
  have lx := B2.lt
  have hwr : IntKind.i64.wrap ((W : Int) - Lg) = (W : Int) - Lg := by have := hR.w2; have := hR.l1; have := hR.l2; rw [IntKind.wrap_i64]; omega
  have hl := hr2
  go_region_held3 (fun w' => w'.cell? ⟨w.heap.size, 0, none⟩ = some (.int .i64 W) ∧ w'.cell? ⟨w.heap.size, 1, none⟩ = some (.int .i64 Lg) ∧ w'.cell? ⟨w.heap.size, 6, none⟩ = some (.slice (some ⟨cb, o, none⟩) cls.length cap))
    (first
      | go_keep
      | (go_split_ands
         refine ⟨?_, ?_, ?_⟩ <;> (rw [cell_fr hFn (by simp) (by have := hFn.size; have := hFc.size; simp at *; omega)]; assumption))
      | (go_split_ands
         refine ⟨?_, ?_, ?_⟩ <;> (rw [cell_fr hFc (by simp) (by have := hFc.size; simp at *; omega)]; assumption)))
    (first
      | (go_at_call 65; refine (sClone cb o cap cls _ hR.n1 (by have := hR.n2; omega) (hl.fr ((Fr.refl [] _).drew) (by simp))).mono ?_; rintro e w3 ⟨cb', ccap, rfl, hrd, hFc, hgc⟩)
      | (go_at_call 66; refine (rNew ab _).mono ?_; rintro e w4 ⟨rfl, hRn, hFn, hsn⟩))
  rename_i hHeld
  clear hwr hHeld
  have hw3 : w2.heap.size ≤ w3.heap.size := hFc.size
  have hFc' : Fr [] w2 w3 := ((Fr.refl _ w2).drew).trans hFc
  have hF4' : Fr [] w w4 := (hF2'.trans hFc').trans hFn
  have hA4 := (hA2.fr hFc' (by simp) (by simp)).fr hFn (by simp) (by simp)
  have hrd4 := hrd.fr hFn (by simp)
  have B4 := (B2.fr hFc' (by simp)).fr hFn (by simp)
  have hr4 := (hr2.fr hFc' (by simp)).fr hFn (by simp)
  have hcb1 : w2.heap.size ≤ cb' := hgc
  have hcb2 := hrd.1
  have hab := hA2.s.lt
  have hwb := hA2.c.lt
  have hw1 := hF2'.size
  clear c0 c1 c6 hA2 hr2 B2 hl hFc hFn hrd hFc' hF2' hgc
  rw [← hsn]
  have BH := Blk.new w4 [.pointer (some ⟨ab, 0, none⟩), .slice (some ⟨cb', 0, none⟩) cls.length ccap, .slice none 0 0, .pointer (some ⟨w3.heap.size, 0, none⟩), .pointer none, .int .i64 1, .int .i64 ((W : Int) - Lg), .int .i64 0] 90
  obtain ⟨w5, hw5⟩ : ∃ w5, w5 = w4.alloc (.cells #[.pointer (some ⟨ab, 0, none⟩), .slice (some ⟨cb', 0, none⟩) cls.length ccap, .slice none 0 0, .pointer (some ⟨w3.heap.size, 0, none⟩), .pointer none, .int .i64 1, .int .i64 ((W : Int) - Lg), .int .i64 0] 90) := ⟨_, rfl⟩
  rw [← hw5] at BH ⊢
  have hsn' : w3.heap.size < w4.heap.size := by omega
  have hw5s : w4.heap.size < w5.heap.size := BH.lt
  have hA5 : ARep w5 ab wb (List.replicate W 0) 0 := hw5 ▸ hA4.alloc _
  have hrd5 : Rd w5 cb' (cls.map (.int .i64)) := hw5 ▸ hrd4.alloc _
  have hr5 : RdAt w5 cb o (cls.map (.int .i64)) := hw5 ▸ hr4.fr ((Fr.refl [] w4).alloc _) (by simp)
  have B5 : Blk w5 w.heap.size [.int .i64 W, .int .i64 Lg, .int .i64 a, .int .i64 b, .int .i64 c, .int .i64 d, .slice (some ⟨cb, o, none⟩) cls.length cap] 24 := hw5 ▸ B4.alloc _
  have hRn5 : RRep w5 w3.heap.size ab ⟨0, 0, 0, 0, 0, 0⟩ := hw5 ▸ hRn.alloc _
  have hF5 : Fr [] w w5 := hw5 ▸ hF4'.alloc _
  clear hw5 hsn hF4' hA4 hrd4 B4 hr4 hRn
  have q6 := BH.cell (i := 6) rfl
  have q4 := BH.cell (i := 4) rfl
  have y4 := BH.frozen 4
  have c1 := B5.cell (i := 1) rfl
  have w2' := hR.w2
  have l1' := hR.l1
  have l2' := hR.l2
  go_wp2_with fail
  have hne1 : w.heap.size ≠ w4.heap.size := by omega
  go_region_held3 (fun w' => w'.cell? ⟨w4.heap.size, 6, none⟩ = some (.int .i64 ((W : Int) - Lg)) ∧ w'.cell? ⟨w.heap.size, 1, none⟩ = some (.int .i64 Lg))
    (first
      | go_keep
      | (go_split_ands
         refine ⟨?_, ?_⟩ <;> (rw [cell_fr hFx (by simp) (by simp; omega)]; assumption))
      | (go_split_ands
         refine ⟨?_, ?_⟩ <;> (rw [World.cell?_setCell_other _ _ _ _ (by simp <;> omega)]; assumption)))
    (first
      | (go_at_call 67; refine (xNew ((W : Int) - Lg) Lg _ (by omega) (by omega) (by omega) (by omega)).mono ?_; rintro e w6 ⟨xb, xlbs, rfl, hx, hFx, gx, gxl, gxn, gxd⟩; have q4' := (cell_fr hFx (by simp) (by simp; omega) 4).trans q4; have y4' := (frozen_fr hFx (by simp) (by simp; omega) 4).trans y4))
  rename_i hHeld
  clear hHeld
  have hw5w6 : w5.heap.size ≤ w6.heap.size := hFx.size
  have hFx' : Fr [] w5 w6 := ((Fr.refl _ w5).drew).trans hFx
  have gx' : w5.heap.size ≤ xb := gx
  have gxl' : ∀ b ∈ xlbs, w5.heap.size ≤ b := gxl
  obtain ⟨sv, hxb, -⟩ := id hx.s
  have hxlt := hxb.lt
  have hxlbs : ∀ b ∈ xlbs, b < w6.heap.size := by
    intro b hb
    obtain ⟨sv, h1, h2⟩ := hx.s
    rcases h2 with ⟨e, _⟩ | ⟨b', cap, rest, e1, e2, e3, e4⟩
    · rw [e] at hb; cases hb
    · rw [e1] at hb; cases List.mem_singleton.1 hb; exact e3.lt
  clear hxb
  have BH6 := (BH.fr hFx' (by simp)).set 4 (.pointer (some ⟨xb, 0, none⟩))
  have hA6 := (hA5.fr hFx' (by simp) (by simp)).other (a := ⟨w4.heap.size, 4, none⟩) (by simp; omega) (by simp; omega) (.pointer (some ⟨xb, 0, none⟩))
  have hrd6 := (hrd5.fr hFx' (by simp)).other (a := ⟨w4.heap.size, 4, none⟩) (by simp; omega) (.pointer (some ⟨xb, 0, none⟩))
  have hRn6 := (hRn5.fr hFx' (by simp)).other (a := ⟨w4.heap.size, 4, none⟩) (by simp; omega) (.pointer (some ⟨xb, 0, none⟩))
  have hx6 := hx.fr ((Fr.refl [w4.heap.size] w6).set (p := ⟨w4.heap.size, 4, none⟩) (by simp) (.pointer (some ⟨xb, 0, none⟩))) (by simp; omega) (fun b hb => by have := gxl' b hb; simp; omega)
  have B6 := (B5.fr hFx' (by simp)).other (a := ⟨w4.heap.size, 4, none⟩) (by simp; omega) (.pointer (some ⟨xb, 0, none⟩))
  have hF6 : Fr [] w (w6.setCell ⟨w4.heap.size, 4, none⟩ (.pointer (some ⟨xb, 0, none⟩))) := (hF5.trans hFx').set (by simp; omega) _
  obtain ⟨w7, hw7⟩ : ∃ w7, w7 = w6.setCell ⟨w4.heap.size, 4, none⟩ (.pointer (some ⟨xb, 0, none⟩)) := ⟨_, rfl⟩
  have hw7s : w7.heap.size = w6.heap.size := by rw [hw7]; simp
  rw [← hw7] at BH6 hA6 hrd6 hRn6 hx6 B6 hF6 ⊢
  have hw7s' : w7.heap.size ≤ w6.heap.size ∧ w6.heap.size ≤ w7.heap.size := by omega
  clear hw7 hw7s hx hFx hFx' hA5 hrd5 hr5 B5 BH hRn5 hF5 q4 y4 q6 c1 q4' y4' gx gxl
  have c6 := B6.cell (i := 6) rfl
  go_wp2_with fail
  have hBB : w7.heap.size = w7.heap.size := rfl
  obtain ⟨B, hB⟩ : ∃ B, B = w7.heap.size := ⟨_, rfl⟩
  have hB' : B ≤ w7.heap.size ∧ w7.heap.size ≤ B := by omega
  clear hB hBB
  have hhb : w4.heap.size < B := by omega
  have hxB : xb < B := by omega
  have hxlB : ∀ b ∈ xlbs, b < B := fun b hb => by have := hxlbs b hb; omega
  have HI := hid (info_parts info_rptr)
  clear c6 B6
  have hnn := hR.n2
  clear w2' l1' l2'
  go_loopw [45] (fun i wr => ∃ k : Nat, k ≤ cls.length ∧ i = .int .i64 k ∧ NI w W Lg cls w4.heap.size ab wb cb' w3.heap.size xb xlbs ccap B wr k ∧ B ≤ wr.heap.size) (fun i _ => cls.length - (intOf i).toNat)
  case atStart =>
    refine ⟨0, Nat.zero_le _, rfl, ⟨.slice none 0 0, [], rfl, by simpa using BH6, ⟨rfl, .inl ⟨rfl, rfl⟩⟩, hA6, hrd6, hRn6, hx6, by simp, by simp, hF6⟩, by omega⟩
  case round =>
    obtain ⟨k, hk, rfl, hN, hBr⟩ := hrel
    clear BH6 hA6 hrd6 hRn6 hx6 hF6 hB'
    obtain ⟨rv, rbs, hlen, BHr, hown, hAr, hrdr, hRr, hxr, hrbs, hnd, hFr⟩ := hN
    by_cases hlt : k < cls.length
    · have Hlen := hid hlen
      clear hlen
      have q2 := BHr.cell (i := 2) rfl
      have y2 := BHr.frozen 2
      have lhb := BHr.lt
      have hrvb : ∀ g, rv.ownBlock = some g → B ≤ g := by
        intro g hg
        obtain ⟨_, h | ⟨g', cap', cur, hv, hg', _⟩⟩ := hown
        · rw [h.1] at hg; cases hg
        · rw [hv] at hg; cases hg; exact hg'
      have Hrvb := hid hrvb
      clear hrvb
      go_wp2_with fail
      go_region_law (first
          | (obtain ⟨i0, hi, hz0, hz1, hz2⟩ := HI.out; refine step_append_lies _ (by rfl) _ _ _ (by rfl) B 87 i0 (.pointer none) 1 8 Try.underlying86 hi hz0 hz1 hz2 rfl (by decide) rv k _ (by rfl) ((ownsRow_fr hown.drew hFn (by simp)).alloc _) ⟨w8.heap.size, 0, none⟩ 1 1 [.pointer (some ⟨wr.heap.size, 0, none⟩)] (by rfl) (by rfl) (cell_one_new _ _ _) (by simp [Value.oneCell']) (by decide) (by simp [maxLen]; omega) (by omega) (by simp; omega) _ rfl ?_; clear hi hz0 hz1 hz2; intro gg cap2 w9 hown9 hgrow hat hlt9; have hFa := Fr.of_grownBy hgrow (S := rv.ownBlock.toList) (by intro k' hk'; left; simp [hk']); have hSa : ∀ g ∈ rv.ownBlock.toList, B ≤ g := (by intro g hg; exact Hrvb.out g (by simpa using hg)); have hgB : B ≤ gg := (by rcases hat with h | h; (· exact Hrvb.out gg h); (· simp at h; omega)); have hnS : w4.heap.size ∉ rv.ownBlock.toList := (by intro hc; have := hSa _ hc; omega); have y9 := (frozen_fr hFa hnS (by simp; omega) 2).trans (((BHr.drew.fr hFn (by simp)).alloc (.cells #[.pointer (some ⟨wr.heap.size, 0, none⟩)] 87)).frozen 2); have q9 := (cell_fr hFa hnS (by simp; omega) 2).trans (((BHr.drew.fr hFn (by simp)).alloc (.cells #[.pointer (some ⟨wr.heap.size, 0, none⟩)] 87)).cell (i := 2) rfl))
          | (go_simp; go_at_call 66; refine (rNew ab _).mono ?_; rintro e w8 ⟨rfl, hRn, hFn, hsn⟩; have q8 := (cell_fr hFn (by simp) (by simp; omega) 2).trans q2; have l8 : w4.heap.size < w8.heap.size := (by have := hFn.size; simp at this; omega); have hsn' : w8.heap.size ≤ wr.heap.size + 1 ∧ wr.heap.size + 1 ≤ w8.heap.size := (by simp at hsn; omega); clear hsn))
      all_goals
        have hG0 : Fr rv.ownBlock.toList wr w9 := (((Fr.refl _ wr).drew).trans (hFn.here (by simp))).alloc (.cells #[.pointer (some ⟨wr.heap.size, 0, none⟩)] 87) |>.trans hFa
        have hG : Fr (w4.heap.size :: rv.ownBlock.toList) wr (w9.setCell ⟨w4.heap.size, 2, none⟩ (.slice (some ⟨gg, 0, none⟩) (k + 1) cap2)) := (hG0.here (by intro x hx; exact List.mem_cons_of_mem _ hx)).set (by simp) _
        have hlow : ∀ x, x < B → x ≠ w4.heap.size → x ∉ w4.heap.size :: rv.ownBlock.toList := by
          intro x hx hne hc
          rcases List.mem_cons.1 hc with e | e
          · exact hne e
          · have := hSa x e; omega
        have hrb : ∀ rb ∈ rbs, rb ∉ w4.heap.size :: rv.ownBlock.toList := by
          intro rb hr hc
          rcases List.mem_cons.1 hc with e | e
          · have := (hrbs rb hr).2; omega
          · exact own_ne hown (hrbs rb hr).1.s (by decide) e
        have hnew : RRep (w9.setCell ⟨w4.heap.size, 2, none⟩ (.slice (some ⟨gg, 0, none⟩) (k + 1) cap2)) wr.heap.size ab ⟨0, 0, 0, 0, 0, 0⟩ := by
          have h1 : RRep w8 wr.heap.size ab ⟨0, 0, 0, 0, 0, 0⟩ := hRn
          have h2 := h1.alloc (.cells #[.pointer (some ⟨wr.heap.size, 0, none⟩)] 87)
          refine (h2.fr hFa ?_).other (by simp; omega) _
          intro hc
          have hown8 := (ownsRow_fr hown.drew hFn (by simp)).alloc (.cells #[.pointer (some ⟨wr.heap.size, 0, none⟩)] 87)
          exact own_ne hown8 h2.s (by decide) hc
        have hszw : wr.heap.size ≤ w9.heap.size := hG0.size
        have hlt10 : ∀ rb ∈ rbs, rb < wr.heap.size := fun rb hr => (hrbs rb hr).1.s.lt
        have hN' : NI w W Lg cls w4.heap.size ab wb cb' w3.heap.size xb xlbs ccap B (w9.setCell ⟨w4.heap.size, 2, none⟩ (.slice (some ⟨gg, 0, none⟩) (k + 1) cap2)) (k + 1) := by
          refine ⟨.slice (some ⟨gg, 0, none⟩) (k + 1) cap2, rbs ++ [wr.heap.size], by simp [Hlen.out], ?_, ?_, hAr.fr hG (hlow _ (by omega) (by omega)) (hlow _ (by omega) (by omega)), hrdr.fr hG (hlow _ (by omega) (by omega)), hRr.fr hG (hlow _ (by omega) (by omega)), hxr.fr hG (hlow _ (by omega) (by omega)) (fun b hb => hlow _ (hxlB b hb) (by have := gxl' b hb; omega)), ?_, ?_, (hFr.step hG (by intro x hx; right; rcases List.mem_cons.1 hx with e | e; (· omega); (· have := hSa x e; omega)))⟩
          · have := (BHr.fr hG0 (by intro hc; have := hSa _ hc; omega)).set 2 (.slice (some ⟨gg, 0, none⟩) (k + 1) cap2)
            simpa using this
          · have h1 : (w9.setCell ⟨w4.heap.size, 2, none⟩ (.slice (some ⟨gg, 0, none⟩) (k + 1) cap2)).ownsRow B 87 1 (.slice (some ⟨gg, 0, none⟩) (k + 1) cap2) (k + 1) (rbs.map (fun b => Value.pointer (some ⟨b, 0, none⟩)) ++ [.pointer (some ⟨wr.heap.size, 0, none⟩)]) :=
              ownsRow_fr hown9 ((Fr.refl [w4.heap.size] w9).set (by simp) _) (by intro g hg; simp [Value.ownBlock] at hg; simp; omega)
            simpa using h1
          · intro rb hr
            rcases List.mem_append.1 hr with h | h
            · exact ⟨(hrbs rb h).1.fr hG (hrb rb h), (hrbs rb h).2⟩
            · cases List.mem_singleton.1 h; exact ⟨hnew, hBr⟩
          · rw [List.nodup_append]
            exact ⟨hnd, by simp, fun x hx y hy e => by cases List.mem_singleton.1 hy; have := hlt10 x hx; omega⟩
        have hsz10 : B ≤ (w9.setCell ⟨w4.heap.size, 2, none⟩ (.slice (some ⟨gg, 0, none⟩) (k + 1) cap2)).heap.size := by simp; omega
        clear hRn hown9 hgrow hat hnew hG hG0 hown q2 y2 q8 q9 y9 BHr hAr hrdr hRr hxr hrbs hFr
        go_wp2_with fail
        go_roundw
        case rel => exact ⟨k + 1, by omega, by go_num, hN', hsz10⟩
        case measure => simp [intOf]; omega
    · have e : k = cls.length := by omega
      subst e
      obtain ⟨gg, cap2, hv, hgB, hrd⟩ := ownsRow_rd hown hR.n1
      subst hv
      have hnot : gg ∉ rbs := by
        intro hc
        exact own_ne hown (hrbs gg hc).1.s (by decide) (by simp [Value.ownBlock])
      have hfin : NewPost (HS.new W Lg cls) w (.returned (.tuple #[.pointer (some ⟨w4.heap.size, 0, none⟩), .int .i64 0])) wr := by
        refine ⟨⟨w4.heap.size, ab, wb, cb', gg, w3.heap.size, xb, xlbs, rbs, ccap, cap2⟩, rfl, ?_, hFr, ?_⟩
        · refine { h := by simpa [HL.cells, HS.new] using BHr, a := hAr, c := hrdr, r := hrd, rr := ?_, lr := hRr, x := hxr, nd := ?_, n1 := hlen, n2 := by simp [HS.new], n3 := by show cls.length ≤ 100; omega, t := by simp [HS.new], e := by have := hR.w2; have := hR.l1; have := hR.l2; simp only [HS.new]; omega }
          · intro j rb r hj hr
            have h1 := (hrbs rb (List.mem_of_getElem? hj)).1
            simp only [HS.new, List.getElem?_map, Option.map_eq_some_iff] at hr
            obtain ⟨_, _, rfl⟩ := hr
            exact h1
          · have hne := hAr.ne
            simp only [HL.all, HL.fp, List.nodup_cons, List.mem_cons, List.mem_append, not_or, List.nodup_append]
            have hx1 : ∀ x, x < w5.heap.size → x ∉ xlbs := fun x hx hc => by have := gxl' x hc; omega
            have hr1 : ∀ x, x < B → x ∉ rbs := fun x hx hc => by have := (hrbs x hc).2; omega
            refine ⟨⟨by omega, by omega, by omega, by omega, by omega, by omega, hx1 _ (by omega), hr1 _ (by omega)⟩, ⟨by omega, by omega, by omega, by omega, by omega, fun hc => by have := hxlB _ hc; omega, hnot⟩, ⟨by omega, by omega, by omega, by omega, hx1 _ (by omega), hr1 _ (by omega)⟩, ⟨hne, by omega, by omega, hx1 _ (by omega), hr1 _ (by omega)⟩, ⟨by omega, by omega, hx1 _ (by omega), hr1 _ (by omega)⟩, ⟨by omega, hx1 _ (by omega), hr1 _ (by omega)⟩, ⟨gxn, hr1 _ hxB⟩, gxd, hnd, fun x hx y hy e => by subst e; exact hr1 x (hxlB x hx) hy⟩
        · intro x hx
          simp only [HL.all, HL.fp, List.mem_cons, List.mem_append] at hx
          have hw12 := g1
          rcases hx with rfl | rfl | rfl | rfl | rfl | rfl | rfl | hx | hx
          · omega
          · omega
          · omega
          · omega
          · omega
          · omega
          · omega
          · have := gxl' x hx; omega
          · have := (hrbs x hx).2; omega
      clear hrd hown BHr hAr hrdr hRr hxr hrbs hFr
      go_wp2_with fail
      go_ret2
      exact hfin
end Go.Proofs.Ytifillpcphiblaa
