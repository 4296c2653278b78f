
import Derived.Test.YtklnpooninbogaaGreatMMHeapAlloc
import Derived.Deep.RegionHeld3
import Derived.Deep.AppendLies
import Derived.Deep.RegionLaw
import Derived.Test.YtklnpooninbogaaGreatMRing
namespace Go.Proofs.YtklnpooninbogaaGreat
open Go Go.Proofs Go.RowKit
def xNewPost (first n : Int) (w : World) (e : Ending) (w' : World) : Prop :=
  ∃ xb xlbs, e = .returned (.tuple #[.pointer (some ⟨xb, 0, none⟩), .int .i64 0]) ∧ XRep w' xb xlbs ⟨first, n, if n = 0 then [] else [(first, n)]⟩ ∧ Fr [] w w' ∧ w.heap.size ≤ xb ∧ (∀ b ∈ xlbs, w.heap.size ≤ b) ∧ xb ∉ xlbs ∧ xlbs.Nodup
theorem xNew (first n : Int) (w : World) (h1 : 0 ≤ first) (h2 : first ≤ 65536) (h3 : 0 ≤ n) (h4 : n ≤ 65536) :
    Calls Tryz.prog 67 #[.int .i64 first, .int .i64 n] w (xNewPost first n w) := by
  by_cases h : n = 0
  · subst h
    refine (xNew0 first w h1 h2).mono ?_
    rintro e w' ⟨xb, rfl, hx, hF, hl⟩
    exact ⟨xb, [], rfl, hx, hF, hl, by simp, by simp, by simp⟩
  · refine (xNew1 first n w h1 h2 (by omega) h4).mono ?_
    rintro e w' ⟨xb, xl, rfl, hx, hF, hl, hl2, hne⟩
    exact ⟨xb, [xl], rfl, by rw [if_neg h]; exact hx, hF, hl, by simpa using hl2, by simpa using hne, by simp⟩
theorem info_rptr : (Tryz.prog.info? 44).map (fun i => (i.zero, i.size, i.bytes)) = some (some (.pointer none), 1, 8) := by kernel_rfl
theorem ownsRow_fr {S : List Nat} {w w' : World} {B : Nat} {e : TypeId} {sz n : Nat} {v : Value} {xs : List Value} (h : w.ownsRow B e sz v n xs) (hf : Fr S w w') (hS : ∀ g, v.ownBlock = some g → g ∉ S) : w'.ownsRow B e sz v n xs := by
  obtain ⟨h1, h2⟩ := h
  refine ⟨h1, ?_⟩
  rcases h2 with h2 | ⟨g, cap, cur, hv, hg, hh, r⟩
  · exact .inl h2
  · refine .inr ⟨g, cap, cur, hv, hg, ?_, r⟩
    have hl : g < w.heap.size := (Array.getElem?_eq_some_iff.1 hh).1
    rw [hf.block g hl (hS g (by rw [hv]; rfl))]; exact hh
theorem own_ne {w : World} {B : Nat} {T T' : TypeId} {v : Value} {n b : Nat} {xs cs : List Value} (h : w.ownsRow B T 1 v n xs) (hb : Blk w b cs T') (hT : T' ≠ T) : b ∉ v.ownBlock.toList := by
  intro hc
  obtain ⟨_, h2 | ⟨g, cap, cur, hv, hg, hh, r⟩⟩ := h
  · rw [h2.1] at hc; simp [Value.ownBlock] at hc
  · rw [hv] at hc
    simp [Value.ownBlock] at hc
    subst hc
    unfold Blk at hb
    rw [hh] at hb
    simp at hb
    exact hT hb.2.symm
def NI (w : World) (W Lg : Nat) (cls : List Int) (hb ab wb cb lb xb : Nat) (xlbs : List Nat) (ccap B : Nat) (wr : World) (k : Nat) : Prop :=
  ∃ (rv : Value) (rbs : List Nat), rbs.length = k ∧ Blk wr hb [.pointer (some ⟨ab, 0, none⟩), .slice (some ⟨cb, 0, none⟩) cls.length ccap, rv, .pointer (some ⟨lb, 0, none⟩), .pointer (some ⟨xb, 0, none⟩), .int .i64 1, .int .i64 ((W : Int) - Lg), .int .i64 0] 47 ∧
    wr.ownsRow B 44 1 rv k (rbs.map fun b => .pointer (some ⟨b, 0, none⟩)) ∧ ARep wr ab wb (List.replicate W 0) 0 ∧ Rd wr cb (cls.map (.int .i64)) ∧ RRep wr lb ab ⟨0, 0, 0, 0, 0, 0⟩ ∧ XRep wr xb xlbs ⟨(W : Int) - Lg, Lg, if (Lg : Int) = 0 then [] else [((W : Int) - Lg, Lg)]⟩ ∧
    (∀ rb ∈ rbs, RRep wr rb ab ⟨0, 0, 0, 0, 0, 0⟩ ∧ B ≤ rb) ∧ rbs.Nodup ∧ Fr [] w wr
def HS.new (W Lg : Nat) (cls : List Int) : HS :=
  { ws := List.replicate W 0, u := 0, cls := cls, rs := cls.map (fun _ => ⟨0, 0, 0, 0, 0, 0⟩), lg := ⟨0, 0, 0, 0, 0, 0⟩, x := ⟨W - Lg, Lg, if (Lg : Int) = 0 then [] else [((W : Int) - Lg, Lg)]⟩, top := 1, edge := W - Lg, parity := 0 }
def NewPost (s : HS) (w : World) (e : Ending) (w' : World) : Prop :=
  ∃ L, e = .returned (.tuple #[.pointer (some ⟨L.hb, 0, none⟩), .int .i64 0]) ∧ HRep w' L s ∧ Fr [] w w' ∧ ∀ b ∈ L.all, w.heap.size ≤ b
set_option maxRecDepth 200000 in
set_option maxHeartbeats 3200000 in
theorem hNew (W Lg : Nat) (a b c d : Int) (cls : List Int) (cb o cap : Nat) (w : World) (hR : RightC W Lg cls) (hr : RdAt w cb o (cls.map (.int .i64))) :
    Calls Tryz.prog 29 #[.agg #[.int .i64 W, .int .i64 Lg, .int .i64 a, .int .i64 b, .int .i64 c, .int .i64 d, .slice (some ⟨cb, o, none⟩) cls.length cap]] w (NewPost (HS.new W Lg cls) w) := by
  have l1 := hr.1
  have B0 := Blk.new w [.int .i64 W, .int .i64 Lg, .int .i64 a, .int .i64 b, .int .i64 c, .int .i64 d, .slice (some ⟨cb, o, none⟩) cls.length cap] 24
  have hr0 := hr.fr ((Fr.refl [] w).alloc (.cells #[.int .i64 W, .int .i64 Lg, .int .i64 a, .int .i64 b, .int .i64 c, .int .i64 d, .slice (some ⟨cb, o, none⟩) cls.length cap] 24)) (by simp)
  go_enter Tryz.func29, Tryz.ntmps29
  go_wp2_with fail
  refine (hRight W Lg a b c d cls cb o cap _ hR hr0).mono ?_
  rintro e w1 ⟨rfl, hF1⟩
  have B1 := B0.fr hF1 (by simp)
  have hr1 := hr0.fr hF1 (by simp)
  have hF1' : Fr [] w w1 := ((Fr.refl _ w).alloc _).trans hF1
  have hw01 := hF1'.size
  clear B0 hr0 hF1
  have c0 := B1.cell (i := 0) rfl
  have c1 := B1.cell (i := 1) rfl
  have c6 := B1.cell (i := 6) rfl
  go_wp2_with fail
  refine (aNew W _ (by have := hR.w1; omega) (by have := hR.w2; omega)).mono ?_
  rintro e w2 ⟨ab, wb, rfl, hA2, hF2, g1, g2⟩
  have B2 := B1.fr hF2 (by simp)
  have hr2 := hr1.fr hF2 (by simp)
  have hF2' := hF1'.trans hF2
  clear B1 hr1 hF2 c0 c1 c6 hF1'
  have c0 := B2.cell (i := 0) rfl
  have c1 := B2.cell (i := 1) rfl
  have c6 := B2.cell (i := 6) rfl
  go_wp2_with fail
  have lx := B2.lt
  have hwr : IntKind.i64.wrap ((W : Int) - Lg) = (W : Int) - Lg := by have := hR.w2; have := hR.l1; have := hR.l2; rw [IntKind.wrap_i64]; omega
  have hl := hr2
  go_region_held3 (fun w' => w'.cell? ⟨w.heap.size, 0, none⟩ = some (.int .i64 W) ∧ w'.cell? ⟨w.heap.size, 1, none⟩ = some (.int .i64 Lg) ∧ w'.cell? ⟨w.heap.size, 6, none⟩ = some (.slice (some ⟨cb, o, none⟩) cls.length cap))
    (first
      | go_keep
      | (go_split_ands
         refine ⟨?_, ?_, ?_⟩ <;> (rw [cell_fr hFn (by simp) (by have := hFn.size; have := hFc.size; simp at *; omega)]; assumption))
      | (go_split_ands
         refine ⟨?_, ?_, ?_⟩ <;> (rw [cell_fr hFc (by simp) (by have := hFc.size; simp at *; omega)]; assumption)))
    (first
      | (go_at_call 65; refine (sClone cb o cap cls _ hR.n1 (by have := hR.n2; omega) (hl.fr ((Fr.refl [] _).drew) (by simp))).mono ?_; rintro e w3 ⟨cb', ccap, rfl, hrd, hFc, hgc⟩)
      | (go_at_call 66; refine (rNew ab _).mono ?_; rintro e w4 ⟨rfl, hRn, hFn, hsn⟩))
  rename_i hHeld
  clear hwr hHeld
  have hw3 : w2.heap.size ≤ w3.heap.size := hFc.size
  have hFc' : Fr [] w2 w3 := ((Fr.refl _ w2).drew).trans hFc
  have hF4' : Fr [] w w4 := (hF2'.trans hFc').trans hFn
  have hA4 := (hA2.fr hFc' (by simp) (by simp)).fr hFn (by simp) (by simp)
  have hrd4 := hrd.fr hFn (by simp)
  have B4 := (B2.fr hFc' (by simp)).fr hFn (by simp)
  have hr4 := (hr2.fr hFc' (by simp)).fr hFn (by simp)
  have hcb1 : w2.heap.size ≤ cb' := hgc
  have hcb2 := hrd.1
  have hab := hA2.s.lt
  have hwb := hA2.c.lt
  have hw1 := hF2'.size
  clear c0 c1 c6 hA2 hr2 B2 hl hFc hFn hrd hFc' hF2' hgc
  rw [← hsn]
  have BH := Blk.new w4 [.pointer (some ⟨ab, 0, none⟩), .slice (some ⟨cb', 0, none⟩) cls.length ccap, .slice none 0 0, .pointer (some ⟨w3.heap.size, 0, none⟩), .pointer none, .int .i64 1, .int .i64 ((W : Int) - Lg), .int .i64 0] 47
  obtain ⟨w5, hw5⟩ : ∃ w5, w5 = w4.alloc (.cells #[.pointer (some ⟨ab, 0, none⟩), .slice (some ⟨cb', 0, none⟩) cls.length ccap, .slice none 0 0, .pointer (some ⟨w3.heap.size, 0, none⟩), .pointer none, .int .i64 1, .int .i64 ((W : Int) - Lg), .int .i64 0] 47) := ⟨_, rfl⟩
  rw [← hw5] at BH ⊢
  have hsn' : w3.heap.size < w4.heap.size := by omega
  have hw5s : w4.heap.size < w5.heap.size := BH.lt
  have hA5 : ARep w5 ab wb (List.replicate W 0) 0 := hw5 ▸ hA4.alloc _
  have hrd5 : Rd w5 cb' (cls.map (.int .i64)) := hw5 ▸ hrd4.alloc _
  have hr5 : RdAt w5 cb o (cls.map (.int .i64)) := hw5 ▸ hr4.fr ((Fr.refl [] w4).alloc _) (by simp)
  have B5 : Blk w5 w.heap.size [.int .i64 W, .int .i64 Lg, .int .i64 a, .int .i64 b, .int .i64 c, .int .i64 d, .slice (some ⟨cb, o, none⟩) cls.length cap] 24 := hw5 ▸ B4.alloc _
  have hRn5 : RRep w5 w3.heap.size ab ⟨0, 0, 0, 0, 0, 0⟩ := hw5 ▸ hRn.alloc _
  have hF5 : Fr [] w w5 := hw5 ▸ hF4'.alloc _
  clear hw5 hsn hF4' hA4 hrd4 B4 hr4 hRn
  have q6 := BH.cell (i := 6) rfl
  have q4 := BH.cell (i := 4) rfl
  have y4 := BH.frozen 4
  have c1 := B5.cell (i := 1) rfl
  have w2' := hR.w2
  have l1' := hR.l1
  have l2' := hR.l2
  go_wp2_with fail
  have hne1 : w.heap.size ≠ w4.heap.size := by omega
  go_region_held3 (fun w' => w'.cell? ⟨w4.heap.size, 6, none⟩ = some (.int .i64 ((W : Int) - Lg)) ∧ w'.cell? ⟨w.heap.size, 1, none⟩ = some (.int .i64 Lg))
    (first
      | go_keep
      | (go_split_ands
         refine ⟨?_, ?_⟩ <;> (rw [cell_fr hFx (by simp) (by simp; omega)]; assumption))
      | (go_split_ands
         refine ⟨?_, ?_⟩ <;> (rw [World.cell?_setCell_other _ _ _ _ (by simp <;> omega)]; assumption)))
    (first
      | (go_at_call 67; refine (xNew ((W : Int) - Lg) Lg _ (by omega) (by omega) (by omega) (by omega)).mono ?_; rintro e w6 ⟨xb, xlbs, rfl, hx, hFx, gx, gxl, gxn, gxd⟩; have q4' := (cell_fr hFx (by simp) (by simp; omega) 4).trans q4; have y4' := (frozen_fr hFx (by simp) (by simp; omega) 4).trans y4))
  rename_i hHeld
  clear hHeld
  have hw5w6 : w5.heap.size ≤ w6.heap.size := hFx.size
  have hFx' : Fr [] w5 w6 := ((Fr.refl _ w5).drew).trans hFx
  have gx' : w5.heap.size ≤ xb := gx
  have gxl' : ∀ b ∈ xlbs, w5.heap.size ≤ b := gxl
  obtain ⟨sv, hxb, -⟩ := id hx.s
  have hxlt := hxb.lt
  have hxlbs : ∀ b ∈ xlbs, b < w6.heap.size := by
    intro b hb
    obtain ⟨sv, h1, h2⟩ := hx.s
    rcases h2 with ⟨e, _⟩ | ⟨b', cap, rest, e1, e2, e3, e4⟩
    · rw [e] at hb; cases hb
    · rw [e1] at hb; cases List.mem_singleton.1 hb; exact e3.lt
  clear hxb
  have BH6 := (BH.fr hFx' (by simp)).set 4 (.pointer (some ⟨xb, 0, none⟩))
  have hA6 := (hA5.fr hFx' (by simp) (by simp)).other (a := ⟨w4.heap.size, 4, none⟩) (by simp; omega) (by simp; omega) (.pointer (some ⟨xb, 0, none⟩))
  have hrd6 := (hrd5.fr hFx' (by simp)).other (a := ⟨w4.heap.size, 4, none⟩) (by simp; omega) (.pointer (some ⟨xb, 0, none⟩))
  have hRn6 := (hRn5.fr hFx' (by simp)).other (a := ⟨w4.heap.size, 4, none⟩) (by simp; omega) (.pointer (some ⟨xb, 0, none⟩))
  have hx6 := hx.fr ((Fr.refl [w4.heap.size] w6).set (p := ⟨w4.heap.size, 4, none⟩) (by simp) (.pointer (some ⟨xb, 0, none⟩))) (by simp; omega) (fun b hb => by have := gxl' b hb; simp; omega)
  have B6 := (B5.fr hFx' (by simp)).other (a := ⟨w4.heap.size, 4, none⟩) (by simp; omega) (.pointer (some ⟨xb, 0, none⟩))
  have hF6 : Fr [] w (w6.setCell ⟨w4.heap.size, 4, none⟩ (.pointer (some ⟨xb, 0, none⟩))) := (hF5.trans hFx').set (by simp; omega) _
  obtain ⟨w7, hw7⟩ : ∃ w7, w7 = w6.setCell ⟨w4.heap.size, 4, none⟩ (.pointer (some ⟨xb, 0, none⟩)) := ⟨_, rfl⟩
  have hw7s : w7.heap.size = w6.heap.size := by rw [hw7]; simp
  rw [← hw7] at BH6 hA6 hrd6 hRn6 hx6 B6 hF6 ⊢
  have hw7s' : w7.heap.size ≤ w6.heap.size ∧ w6.heap.size ≤ w7.heap.size := by omega
  clear hw7 hw7s hx hFx hFx' hA5 hrd5 hr5 B5 BH hRn5 hF5 q4 y4 q6 c1 q4' y4' gx gxl
  have c6 := B6.cell (i := 6) rfl
  go_wp2_with fail
  have hBB : w7.heap.size = w7.heap.size := rfl
  obtain ⟨B, hB⟩ : ∃ B, B = w7.heap.size := ⟨_, rfl⟩
  have hB' : B ≤ w7.heap.size ∧ w7.heap.size ≤ B := by omega
  clear hB hBB
  have hhb : w4.heap.size < B := by omega
  have hxB : xb < B := by omega
  have hxlB : ∀ b ∈ xlbs, b < B := fun b hb => by have := hxlbs b hb; omega
  have HI := hid (info_parts info_rptr)
  clear c6 B6
  have hnn := hR.n2
  clear w2' l1' l2'
  go_loopw [45] (fun i wr => ∃ k : Nat, k ≤ cls.length ∧ i = .int .i64 k ∧ NI w W Lg cls w4.heap.size ab wb cb' w3.heap.size xb xlbs ccap B wr k ∧ B ≤ wr.heap.size) (fun i _ => cls.length - (intOf i).toNat)
  case atStart =>
    refine ⟨0, Nat.zero_le _, rfl, ⟨.slice none 0 0, [], rfl, by simpa using BH6, ⟨rfl, .inl ⟨rfl, rfl⟩⟩, hA6, hrd6, hRn6, hx6, by simp, by simp, hF6⟩, by omega⟩
  case round =>
    obtain ⟨k, hk, rfl, hN, hBr⟩ := hrel
    clear BH6 hA6 hrd6 hRn6 hx6 hF6 hB'
    obtain ⟨rv, rbs, hlen, BHr, hown, hAr, hrdr, hRr, hxr, hrbs, hnd, hFr⟩ := hN
    by_cases hlt : k < cls.length
    · have Hlen := hid hlen
      clear hlen
      have q2 := BHr.cell (i := 2) rfl
      have y2 := BHr.frozen 2
      have lhb := BHr.lt
      have hrvb : ∀ g, rv.ownBlock = some g → B ≤ g := by
        intro g hg
        obtain ⟨_, h | ⟨g', cap', cur, hv, hg', _⟩⟩ := hown
        · rw [h.1] at hg; cases hg
        · rw [hv] at hg; cases hg; exact hg'
      have Hrvb := hid hrvb
      clear hrvb
      go_wp2_with fail
      go_region_law (first
          | (obtain ⟨i0, hi, hz0, hz1, hz2⟩ := HI.out; refine step_append_lies _ (by rfl) _ _ _ (by rfl) B 44 i0 (.pointer none) 1 8 Tryz.underlying43 hi hz0 hz1 hz2 rfl (by decide) rv k _ (by rfl) ((ownsRow_fr hown.drew hFn (by simp)).alloc _) ⟨w8.heap.size, 0, none⟩ 1 1 [.pointer (some ⟨wr.heap.size, 0, none⟩)] (by rfl) (by rfl) (cell_one_new _ _ _) (by simp [Value.oneCell']) (by decide) (by simp [maxLen]; omega) (by omega) (by simp; omega) _ rfl ?_; clear hi hz0 hz1 hz2; intro gg cap2 w9 hown9 hgrow hat hlt9; have hFa := Fr.of_grownBy hgrow (S := rv.ownBlock.toList) (by intro k' hk'; left; simp [hk']); have hSa : ∀ g ∈ rv.ownBlock.toList, B ≤ g := (by intro g hg; exact Hrvb.out g (by simpa using hg)); have hgB : B ≤ gg := (by rcases hat with h | h; (· exact Hrvb.out gg h); (· simp at h; omega)); have hnS : w4.heap.size ∉ rv.ownBlock.toList := (by intro hc; have := hSa _ hc; omega); have y9 := (frozen_fr hFa hnS (by simp; omega) 2).trans (((BHr.drew.fr hFn (by simp)).alloc (.cells #[.pointer (some ⟨wr.heap.size, 0, none⟩)] 44)).frozen 2); have q9 := (cell_fr hFa hnS (by simp; omega) 2).trans (((BHr.drew.fr hFn (by simp)).alloc (.cells #[.pointer (some ⟨wr.heap.size, 0, none⟩)] 44)).cell (i := 2) rfl))
          | (go_simp; go_at_call 66; refine (rNew ab _).mono ?_; rintro e w8 ⟨rfl, hRn, hFn, hsn⟩; have q8 := (cell_fr hFn (by simp) (by simp; omega) 2).trans q2; have l8 : w4.heap.size < w8.heap.size := (by have := hFn.size; simp at this; omega); have hsn' : w8.heap.size ≤ wr.heap.size + 1 ∧ wr.heap.size + 1 ≤ w8.heap.size := (by simp at hsn; omega); clear hsn))
      all_goals
        have hG0 : Fr rv.ownBlock.toList wr w9 := (((Fr.refl _ wr).drew).trans (hFn.here (by simp))).alloc (.cells #[.pointer (some ⟨wr.heap.size, 0, none⟩)] 44) |>.trans hFa
        have hG : Fr (w4.heap.size :: rv.ownBlock.toList) wr (w9.setCell ⟨w4.heap.size, 2, none⟩ (.slice (some ⟨gg, 0, none⟩) (k + 1) cap2)) := (hG0.here (by intro x hx; exact List.mem_cons_of_mem _ hx)).set (by simp) _
        have hlow : ∀ x, x < B → x ≠ w4.heap.size → x ∉ w4.heap.size :: rv.ownBlock.toList := by
          intro x hx hne hc
          rcases List.mem_cons.1 hc with e | e
          · exact hne e
          · have := hSa x e; omega
        have hrb : ∀ rb ∈ rbs, rb ∉ w4.heap.size :: rv.ownBlock.toList := by
          intro rb hr hc
          rcases List.mem_cons.1 hc with e | e
          · have := (hrbs rb hr).2; omega
          · exact own_ne hown (hrbs rb hr).1.s (by decide) e
        have hnew : RRep (w9.setCell ⟨w4.heap.size, 2, none⟩ (.slice (some ⟨gg, 0, none⟩) (k + 1) cap2)) wr.heap.size ab ⟨0, 0, 0, 0, 0, 0⟩ := by
          have h1 : RRep w8 wr.heap.size ab ⟨0, 0, 0, 0, 0, 0⟩ := hRn
          have h2 := h1.alloc (.cells #[.pointer (some ⟨wr.heap.size, 0, none⟩)] 44)
          refine (h2.fr hFa ?_).other (by simp; omega) _
          intro hc
          have hown8 := (ownsRow_fr hown.drew hFn (by simp)).alloc (.cells #[.pointer (some ⟨wr.heap.size, 0, none⟩)] 44)
          exact own_ne hown8 h2.s (by decide) hc
        have hszw : wr.heap.size ≤ w9.heap.size := hG0.size
        have hlt10 : ∀ rb ∈ rbs, rb < wr.heap.size := fun rb hr => (hrbs rb hr).1.s.lt
        have hN' : NI w W Lg cls w4.heap.size ab wb cb' w3.heap.size xb xlbs ccap B (w9.setCell ⟨w4.heap.size, 2, none⟩ (.slice (some ⟨gg, 0, none⟩) (k + 1) cap2)) (k + 1) := by
          refine ⟨.slice (some ⟨gg, 0, none⟩) (k + 1) cap2, rbs ++ [wr.heap.size], by simp [Hlen.out], ?_, ?_, hAr.fr hG (hlow _ (by omega) (by omega)) (hlow _ (by omega) (by omega)), hrdr.fr hG (hlow _ (by omega) (by omega)), hRr.fr hG (hlow _ (by omega) (by omega)), hxr.fr hG (hlow _ (by omega) (by omega)) (fun b hb => hlow _ (hxlB b hb) (by have := gxl' b hb; omega)), ?_, ?_, (hFr.step hG (by intro x hx; right; rcases List.mem_cons.1 hx with e | e; (· omega); (· have := hSa x e; omega)))⟩
          · have := (BHr.fr hG0 (by intro hc; have := hSa _ hc; omega)).set 2 (.slice (some ⟨gg, 0, none⟩) (k + 1) cap2)
            simpa using this
          · have h1 : (w9.setCell ⟨w4.heap.size, 2, none⟩ (.slice (some ⟨gg, 0, none⟩) (k + 1) cap2)).ownsRow B 44 1 (.slice (some ⟨gg, 0, none⟩) (k + 1) cap2) (k + 1) (rbs.map (fun b => Value.pointer (some ⟨b, 0, none⟩)) ++ [.pointer (some ⟨wr.heap.size, 0, none⟩)]) :=
              ownsRow_fr hown9 ((Fr.refl [w4.heap.size] w9).set (by simp) _) (by intro g hg; simp [Value.ownBlock] at hg; simp; omega)
            simpa using h1
          · intro rb hr
            rcases List.mem_append.1 hr with h | h
            · exact ⟨(hrbs rb h).1.fr hG (hrb rb h), (hrbs rb h).2⟩
            · cases List.mem_singleton.1 h; exact ⟨hnew, hBr⟩
          · rw [List.nodup_append]
            exact ⟨hnd, by simp, fun x hx y hy e => by cases List.mem_singleton.1 hy; have := hlt10 x hx; omega⟩
        have hsz10 : B ≤ (w9.setCell ⟨w4.heap.size, 2, none⟩ (.slice (some ⟨gg, 0, none⟩) (k + 1) cap2)).heap.size := by simp; omega
        clear hRn hown9 hgrow hat hnew hG hG0 hown q2 y2 q8 q9 y9 BHr hAr hrdr hRr hxr hrbs hFr
        go_wp2_with fail
        go_roundw
        case rel => exact ⟨k + 1, by omega, by go_num, hN', hsz10⟩
        case measure => simp [intOf]; omega
    · have e : k = cls.length := by omega
      subst e
      obtain ⟨gg, cap2, hv, hgB, hrd⟩ := ownsRow_rd hown hR.n1
      subst hv
      have hnot : gg ∉ rbs := by
        intro hc
        exact own_ne hown (hrbs gg hc).1.s (by decide) (by simp [Value.ownBlock])
      have hfin : NewPost (HS.new W Lg cls) w (.returned (.tuple #[.pointer (some ⟨w4.heap.size, 0, none⟩), .int .i64 0])) wr := by
        refine ⟨⟨w4.heap.size, ab, wb, cb', gg, w3.heap.size, xb, xlbs, rbs, ccap, cap2⟩, rfl, ?_, hFr, ?_⟩
        · refine { h := by simpa [HL.cells, HS.new] using BHr, a := hAr, c := hrdr, r := hrd, rr := ?_, lr := hRr, x := hxr, nd := ?_, n1 := hlen, n2 := by simp [HS.new], n3 := by show cls.length ≤ 100; omega, t := by simp [HS.new], e := by have := hR.w2; have := hR.l1; have := hR.l2; simp only [HS.new]; omega }
          · intro j rb r hj hr
            have h1 := (hrbs rb (List.mem_of_getElem? hj)).1
            simp only [HS.new, List.getElem?_map, Option.map_eq_some_iff] at hr
            obtain ⟨_, _, rfl⟩ := hr
            exact h1
          · have hne := hAr.ne
            simp only [HL.all, HL.fp, List.nodup_cons, List.mem_cons, List.mem_append, not_or, List.nodup_append]
            have hx1 : ∀ x, x < w5.heap.size → x ∉ xlbs := fun x hx hc => by have := gxl' x hc; omega
            have hr1 : ∀ x, x < B → x ∉ rbs := fun x hx hc => by have := (hrbs x hc).2; omega
            refine ⟨⟨by omega, by omega, by omega, by omega, by omega, by omega, hx1 _ (by omega), hr1 _ (by omega)⟩, ⟨by omega, by omega, by omega, by omega, by omega, fun hc => by have := hxlB _ hc; omega, hnot⟩, ⟨by omega, by omega, by omega, by omega, hx1 _ (by omega), hr1 _ (by omega)⟩, ⟨hne, by omega, by omega, hx1 _ (by omega), hr1 _ (by omega)⟩, ⟨by omega, by omega, hx1 _ (by omega), hr1 _ (by omega)⟩, ⟨by omega, hx1 _ (by omega), hr1 _ (by omega)⟩, ⟨gxn, hr1 _ hxB⟩, gxd, hnd, fun x hx y hy e => by subst e; exact hr1 x (hxlB x hx) hy⟩
        · intro x hx
          simp only [HL.all, HL.fp, List.mem_cons, List.mem_append] at hx
          have hw12 := g1
          rcases hx with rfl | rfl | rfl | rfl | rfl | rfl | rfl | hx | hx
          · omega
          · omega
          · omega
          · omega
          · omega
          · omega
          · omega
          · have := gxl' x hx; omega
          · have := (hrbs x hx).2; omega
      clear hrd hown BHr hAr hrdr hRr hxr hrbs hFr
      go_wp2_with fail
      go_ret2
      exact hfin
abbrev Rg := Option Nat → Rows
def Rg.up (A : Rg) (q : Option Nat) (R : Rows) : Rg := fun q' => if q' = q then R else A q'
theorem Rg.up_same (A : Rg) (q : Option Nat) (R : Rows) : A.up q R q = R := by simp [Rg.up]
theorem Rg.up_ne (A : Rg) {q q' : Option Nat} (h : q' ≠ q) (R : Rows) : A.up q R q' = A q' := by simp [Rg.up, h]
def ln (cls : List Int) (z : Int → Int) : Option Nat → Int → Int
  | some k, _ => (cls[k]?).getD 0 + 3
  | none, c => z c
structure HI (s : HS) (A : Rg) (z : Int → Int) : Prop where
  ring : ∀ (k : Nat) (r : RS), s.rs[k]? = some r → RI s.ws r (A (some k))
  lring : RI s.ws s.lg (A none)
  out : ∀ k, s.rs.length ≤ k → (A (some k)).all = []
  pos : ∀ q c, c ∈ (A q).all → 3 ≤ ln s.cls z q c
  inn : ∀ k c, c ∈ (A (some k)).all → 1 ≤ c ∧ c + ln s.cls z (some k) c ≤ s.top
  linn : ∀ c, c ∈ (A none).all → s.edge ≤ c ∧ c + z c ≤ s.ws.length
  apart : ∀ q c q' c', c ∈ (A q).all → c' ∈ (A q').all → (q ≠ q' ∨ c ≠ c') → c + ln s.cls z q c ≤ c' ∨ c' + ln s.cls z q' c' ≤ c
  top1 : 1 ≤ s.top
  top2 : s.top ≤ s.edge
  edge : s.edge ≤ s.ws.length
  len : s.ws.length ≤ 65536
  nrs : s.rs.length = s.cls.length
  cls : ∀ n ∈ s.cls, 1 ≤ n ∧ n ≤ 24
  runs : ∀ x ∈ s.x.l, 1 ≤ x.2 ∧ s.edge ≤ x.1 ∧ x.1 + x.2 ≤ s.ws.length
  rap : s.x.l.Pairwise (fun a b => a.1 + a.2 ≤ b.1)
  rlarge : ∀ x ∈ s.x.l, ∀ c ∈ (A none).all, c + z c ≤ x.1 ∨ x.1 + x.2 ≤ c
theorem HI.bound {s : HS} {A : Rg} {z : Int → Int} (h : HI s A z) {q : Option Nat} {c : Int} (hc : c ∈ (A q).all) : 1 ≤ c ∧ 3 ≤ ln s.cls z q c ∧ c + ln s.cls z q c ≤ s.ws.length := by
  have hp := h.pos q c hc
  have h1 := h.top1
  have h2 := h.top2
  have h3 := h.edge
  cases q with
  | none => have := h.linn c hc; simp only [ln] at *; omega
  | some k => have := h.inn k c hc; omega
structure Holds (s s' : HS) (z : Int → Int) (q : Option Nat) (c : Int) : Prop where
  head : gw s'.ws c = gw s.ws c
  body : ∀ j, 3 ≤ j → j < ln s.cls z q c → gw s'.ws (c + j) = gw s.ws (c + j)
theorem Holds.trans {a b d : HS} {z z' : Int → Int} {q : Option Nat} {c : Int} (h : Holds a b z q c) (k : Holds b d z' q c) (e : ln b.cls z' q c = ln a.cls z q c) : Holds a d z q c :=
  ⟨k.head.trans h.head, fun j h1 h2 => (k.body j h1 (by rw [e]; exact h2)).trans (h.body j h1 h2)⟩
theorem Holds.refl (s : HS) (z : Int → Int) (q : Option Nat) (c : Int) : Holds s s z q c := ⟨rfl, fun _ _ _ => rfl⟩
theorem HI.holds {s s' : HS} {A : Rg} {z : Int → Int} (h : HI s A z) {X : List Int} (hs : Same s.ws s'.ws X) {q : Option Nat} {c : Int} (hc : c ∈ (A q).all)
    (hX : ∀ y ∈ X, y = c ∨ c + ln s.cls z q c ≤ y ∨ y + 3 ≤ c) : Holds s s' z q c := by
  have hb := h.bound hc
  refine ⟨hs.eq _ (by omega) (fun y hy => ?_), fun j h1 h2 => hs.eq _ (by omega) (fun y hy => ?_)⟩
  · have := hX y hy; omega
  · have := hX y hy; omega
theorem HI.of {s s' : HS} {A : Rg} {z : Int → Int} (h : HI s A z) (e1 : s'.ws = s.ws) (e2 : s'.cls = s.cls) (e3 : s'.rs = s.rs) (e4 : s'.lg = s.lg) (e5 : s'.x.l = s.x.l) (e6 : s'.top = s.top) (e7 : s'.edge = s.edge) : HI s' A z := by
  obtain ⟨a1, a2, a3, a4, a5, a6, a7, a8, a9, a10, a11, a12, a13, a14, a15, a16⟩ := h
  constructor <;> simp only [e1, e2, e3, e4, e5, e6, e7] <;> assumption
theorem HI.tick {s : HS} {A : Rg} {z : Int → Int} (h : HI s A z) (n : Int) : HI (s.tick n) A z := h.of rfl rfl rfl rfl rfl rfl rfl
theorem HI.words {s : HS} {A : Rg} {z : Int → Int} (h : HI s A z) (ws' : List Int) (u' : Int) (hl : ws'.length = s.ws.length) (hs : ∀ q c, c ∈ (A q).all → gw ws' (c + 1) = gw s.ws (c + 1) ∧ gw ws' (c + 2) = gw s.ws (c + 2)) : HI { s with ws := ws', u := u' } A z := by
  obtain ⟨a1, a2, a3, a4, a5, a6, a7, a8, a9, a10, a11, a12, a13, a14, a15, a16⟩ := h
  exact { ring := fun k r hr => (a1 k r hr).congr hl (fun y hy => hs _ y hy), lring := a2.congr hl (fun y hy => hs _ y hy), out := a3, pos := a4, inn := a5, linn := fun c hc => by have := a6 c hc; simp only [hl]; exact this, apart := a7, top1 := a8, top2 := a9, edge := by simp only [hl]; exact a10, len := by simp only [hl]; exact a11, nrs := a12, cls := a13, runs := fun x hx => by have := a14 x hx; simp only [hl]; exact this, rap := a15, rlarge := a16 }
theorem HI.put {s : HS} {A : Rg} {z : Int → Int} (h : HI s A z) {q : Option Nat} {c j : Int} (hc : c ∈ (A q).all) (hj : j = 0 ∨ (3 ≤ j ∧ j < ln s.cls z q c)) (v : Int) (n : Int) : HI (s.put (c + j) v n) A z := by
  have hb := h.bound hc
  have hlen : c + j < s.ws.length := by omega
  refine h.words (sw s.ws (c + j) v) (s.u + n) (sw_len _ _ _) (fun q' c' hc' => ?_)
  have hb' := h.bound hc'
  have hne : c + j ≠ c' + 1 ∧ c + j ≠ c' + 2 := by
    by_cases e : q = q' ∧ c = c'
    · obtain ⟨_, rfl⟩ := e; omega
    · have hd : q ≠ q' ∨ c ≠ c' := by
        by_cases e1 : q = q'
        · exact .inr (fun e2 => e ⟨e1, e2⟩)
        · exact .inl e1
      have := h.apart q c q' c' hc hc' hd
      omega
  exact ⟨by rw [gw_sw _ _ _ _ (by omega) hlen (by omega), if_neg (by omega)], by rw [gw_sw _ _ _ _ (by omega) hlen (by omega), if_neg (by omega)]⟩
theorem HI.put_other {s : HS} {A : Rg} {z : Int → Int} (h : HI s A z) {q : Option Nat} {c j : Int} (hc : c ∈ (A q).all) (hj : 0 ≤ j ∧ j < ln s.cls z q c) (v : Int) (n : Int) {q' : Option Nat} {c' : Int} (hc' : c' ∈ (A q').all) (hne : q ≠ q' ∨ c ≠ c') : Holds s (s.put (c + j) v n) z q' c' := by
  have hb := h.bound hc
  have hb' := h.bound hc'
  have ha := h.apart q c q' c' hc hc' hne
  have hlen : c + j < s.ws.length := by omega
  exact ⟨by show gw (sw s.ws (c + j) v) c' = _; rw [gw_sw _ _ _ _ (by omega) hlen (by omega), if_neg (by omega)], fun i h1 h2 => by show gw (sw s.ws (c + j) v) (c' + i) = _; rw [gw_sw _ _ _ _ (by omega) hlen (by omega), if_neg (by omega)]⟩
theorem Inc_pos {last : Int} {l : List Int} (h : Inc last l) (h0 : 0 ≤ last) : ∀ n ∈ l, 1 ≤ n ∧ n ≤ 24 := by
  induction l generalizing last with
  | nil => simp
  | cons n r ih =>
    obtain ⟨h1, h2, h3⟩ := h
    intro c hc
    rcases List.mem_cons.1 hc with rfl | hc
    · exact ⟨by omega, h2⟩
    · exact ih h3 (by omega) c hc
theorem HI.new {W Lg : Nat} {cls : List Int} (hR : RightC W Lg cls) : HI (HS.new W Lg cls) (fun _ => ⟨[], [], [], []⟩) (fun _ => 0) := by
  have h1 := hR.w1
  have h2 := hR.w2
  have h3 := hR.l1
  have h4 := hR.l2
  have e0 : (⟨[], [], [], []⟩ : Rows).all = [] := rfl
  refine { ring := ?_, lring := RI.empty _ _ _, out := fun _ _ => rfl, pos := by simp [e0], inn := by simp [e0], linn := by simp [e0], apart := by simp [e0], top1 := by simp [HS.new], top2 := by simp only [HS.new]; omega, edge := by simp only [HS.new, List.length_replicate]; omega, len := by simp only [HS.new, List.length_replicate]; omega, nrs := by simp [HS.new], cls := ?_, runs := ?_, rap := ?_, rlarge := by simp [e0] }
  · intro k r hr
    simp only [HS.new, List.getElem?_map, Option.map_eq_some_iff] at hr
    obtain ⟨_, _, rfl⟩ := hr
    exact RI.empty _ _ _
  · exact Inc_pos hR.inc (by omega)
  · intro x hx
    simp only [HS.new] at hx ⊢
    split at hx
    · simp at hx
    · simp at hx; subst hx; simp only [List.length_replicate]; omega
  · simp only [HS.new]
    split <;> simp
theorem mem_up {A : Rg} {q : Option Nat} {R : Rows} (hsub : ∀ x ∈ R.all, x ∈ (A q).all) {q' : Option Nat} {c : Int} (h : c ∈ ((A.up q R) q').all) : c ∈ (A q').all := by
  by_cases e : q' = q
  · subst e; rw [Rg.up_same] at h; exact hsub c h
  · rw [Rg.up_ne A e] at h; exact h
theorem HI.others {s : HS} {A : Rg} {z : Int → Int} (h : HI s A z) {ws' : List Int} {q : Option Nat} (hs : Same s.ws ws' (A q).all) {q' : Option Nat} (hq : q' ≠ q) : ∀ y ∈ (A q').all, gw ws' (y + 1) = gw s.ws (y + 1) ∧ gw ws' (y + 2) = gw s.ws (y + 2) := by
  intro y hy
  have hb := h.bound hy
  have g : ∀ x ∈ (A q).all, ∀ i, (i = 1 ∨ i = 2) → y + i ≠ x + 1 ∧ y + i ≠ x + 2 := by
    intro x hx i hi
    have hbx := h.bound hx
    have := h.apart q' y q x hy hx (.inl hq)
    omega
  exact ⟨hs.eq _ (by omega) (fun x hx => g x hx 1 (.inl rfl)), hs.eq _ (by omega) (fun x hx => g x hx 2 (.inr rfl))⟩
theorem HI.ringK {s : HS} {A : Rg} {z : Int → Int} (h : HI s A z) {k : Nat} {r' : RS} {R' : Rows} {ws' : List Int} (u' : Int) (hs : Same s.ws ws' (A (some k)).all) (hR : RI ws' r' R') (hsub : ∀ x ∈ R'.all, x ∈ (A (some k)).all) :
    HI { s with ws := ws', u := u', rs := s.rs.set k r' } (A.up (some k) R') z := by
  have hl := hs.len
  obtain ⟨a1, a2, a3, a4, a5, a6, a7, a8, a9, a10, a11, a12, a13, a14, a15, a16⟩ := id h
  refine { ring := fun j r hr => ?_, lring := ?_, out := fun j hj => ?_, pos := fun q c hc => a4 q c (mem_up hsub hc), inn := fun j c hc => a5 j c (mem_up hsub hc), linn := fun c hc => by have := a6 c (mem_up hsub hc); simp only [hl]; exact this, apart := fun q c q' c' hc hc' => a7 q c q' c' (mem_up hsub hc) (mem_up hsub hc'), top1 := a8, top2 := a9, edge := by simp only [hl]; exact a10, len := by simp only [hl]; exact a11, nrs := by simp only [List.length_set]; exact a12, cls := a13, runs := fun x hx => by have := a14 x hx; simp only [hl]; exact this, rap := a15, rlarge := fun x hx c hc => a16 x hx c (mem_up hsub hc) }
  · by_cases e : j = k
    · subst e
      rw [Rg.up_same]
      rw [List.getElem?_set] at hr
      simp at hr
      rw [← hr.2]; exact hR
    · rw [Rg.up_ne A (by simpa using e)]
      rw [List.getElem?_set_ne (Ne.symm e)] at hr
      exact (a1 j r hr).congr hl (h.others hs (by simpa using e))
  · rw [Rg.up_ne A (by simp)]
    exact a2.congr hl (h.others hs (by simp))
  · simp only [List.length_set] at hj
    by_cases e : j = k
    · subst e
      rw [Rg.up_same]
      have := a3 j hj
      rw [List.eq_nil_iff_forall_not_mem]
      intro x hx
      have := hsub x hx
      simp [a3 j hj] at this
    · rw [Rg.up_ne A (by simpa using e)]; exact a3 j hj
theorem HI.ringL {s : HS} {A : Rg} {z : Int → Int} (h : HI s A z) {r' : RS} {R' : Rows} {ws' : List Int} (u' : Int) (hs : Same s.ws ws' (A none).all) (hR : RI ws' r' R') (hsub : ∀ x ∈ R'.all, x ∈ (A none).all) :
    HI { s with ws := ws', u := u', lg := r' } (A.up none R') z := by
  have hl := hs.len
  obtain ⟨a1, a2, a3, a4, a5, a6, a7, a8, a9, a10, a11, a12, a13, a14, a15, a16⟩ := id h
  refine { ring := fun j r hr => ?_, lring := ?_, out := fun j hj => ?_, pos := fun q c hc => a4 q c (mem_up hsub hc), inn := fun j c hc => a5 j c (mem_up hsub hc), linn := fun c hc => by have := a6 c (mem_up hsub hc); simp only [hl]; exact this, apart := fun q c q' c' hc hc' => a7 q c q' c' (mem_up hsub hc) (mem_up hsub hc'), top1 := a8, top2 := a9, edge := by simp only [hl]; exact a10, len := by simp only [hl]; exact a11, nrs := a12, cls := a13, runs := fun x hx => by have := a14 x hx; simp only [hl]; exact this, rap := a15, rlarge := fun x hx c hc => a16 x hx c (mem_up hsub hc) }
  · rw [Rg.up_ne A (by simp)]
    exact (a1 j r hr).congr hl (h.others hs (by simp))
  · rw [Rg.up_same]; exact hR
  · rw [Rg.up_ne A (by simp)]; exact a3 j hj
theorem HI.took {s : HS} {A : Rg} {z : Int → Int} (h : HI s A z) {k : Nat} {r : RS} {c : Int} {W : List Int} (hr : s.rs[k]? = some r) (hW : (A (some k)).W = c :: W) :
    r.first = c ∧ HI (s.took k r) (A.up (some k) ⟨W, (A (some k)).F, (A (some k)).G, (A (some k)).B ++ [c]⟩) z := by
  obtain ⟨h1, h2⟩ := (h.ring k r hr).alloc hW
  refine ⟨h1, h.ringK (s.u + 1) (Same.refl _ _) h2 ?_⟩
  intro x hx
  simp only [Rows.all, hW, List.mem_append, List.mem_cons, List.mem_nil_iff, or_false] at hx ⊢
  rcases hx with hx | hx | hx | hx | hx <;> simp [hx]
def Rows.addW (R : Rows) (c : Int) : Rows := { R with W := c :: R.W }
theorem Rows.addW_all (R : Rows) (c : Int) : (R.addW c).all = c :: R.all := rfl
theorem mem_add {A : Rg} {q : Option Nat} {p : Int} {q' : Option Nat} {c : Int} (h : c ∈ ((A.up q ((A q).addW p)) q').all) : (q' = q ∧ c = p) ∨ c ∈ (A q').all := by
  by_cases e : q' = q
  · subst e
    rw [Rg.up_same, Rows.addW_all] at h
    rcases List.mem_cons.1 h with h | h
    · exact .inl ⟨rfl, h⟩
    · exact .inr h
  · rw [Rg.up_ne A e] at h; exact .inr h
theorem HI.grown {s : HS} {A : Rg} {z : Int → Int} (h : HI s A z) {k : Nat} {r : RS} {n : Int} (hr : s.rs[k]? = some r) (hn : s.cls[k]? = some n) (hfit : n + 3 ≤ s.edge - s.top) (du : Nat) :
    HI (s.grown k n r du) (A.up (some k) ((A (some k)).addW s.top)) z ∧ (∀ q c, c ∈ (A q).all → Holds s (s.grown k n r du) z q c) ∧ (∀ q c, c ∈ (A q).all → q ≠ some k ∨ c ≠ s.top) := by
  have hlt : k < s.rs.length := (List.getElem?_eq_some_iff.1 hr).1
  have hn1 := h.cls n (List.mem_of_getElem? hn)
  have hlnk : ∀ c, ln s.cls z (some k) c = n + 3 := fun c => by simp [ln, hn]
  have ht := h.top1
  have ht2 := h.top2
  have he := h.edge
  have far : ∀ q c, c ∈ (A q).all → c + ln s.cls z q c ≤ s.top ∨ s.edge ≤ c := by
    intro q c hc
    cases q with
    | none => exact .inr (h.linn c hc).1
    | some j => exact .inl (h.inn j c hc).2
  have hC : Cells s.ws.length (s.top :: (A (some k)).all) := by
    have hc := (h.ring k r hr).cells
    refine ⟨?_, List.pairwise_cons.2 ⟨?_, hc.far⟩⟩
    · intro c hc'
      rcases List.mem_cons.1 hc' with rfl | hc'
      · omega
      · exact hc.ok c hc'
    · intro c hc'
      have := (h.inn k c hc').2
      rw [hlnk] at this
      exact .inr (by omega)
  obtain ⟨g1, g2⟩ := (h.ring k r hr).grow hC
  have hl : (growW s.ws r s.top).length = s.ws.length := growW_len _ _ _
  have hX : ∀ q c, c ∈ (A q).all → ∀ y ∈ s.top :: (A (some k)).all, y = c ∨ c + ln s.cls z q c ≤ y ∨ y + 3 ≤ c := by
    intro q c hc y hy
    rcases List.mem_cons.1 hy with rfl | hy
    · have := far q c hc; omega
    · by_cases e : q = some k ∧ c = y
      · exact .inl e.2.symm
      · have hd : q ≠ some k ∨ c ≠ y := by
          by_cases e1 : q = some k
          · exact .inr (fun e2 => e ⟨e1, e2⟩)
          · exact .inl e1
        have := h.apart q c (some k) y hc hy hd
        have := h.pos _ _ hy
        omega
  have hH : ∀ q c, c ∈ (A q).all → Holds s (s.grown k n r du) z q c := fun q c hc => h.holds g2 hc (hX q c hc)
  have hO : ∀ q', q' ≠ some k → ∀ y ∈ (A q').all, gw (growW s.ws r s.top) (y + 1) = gw s.ws (y + 1) ∧ gw (growW s.ws r s.top) (y + 2) = gw s.ws (y + 2) := by
    intro q' hq y hy
    have hb := h.bound hy
    have g : ∀ x ∈ s.top :: (A (some k)).all, ∀ i, (i = 1 ∨ i = 2) → y + i ≠ x + 1 ∧ y + i ≠ x + 2 := by
      intro x hx i hi
      rcases List.mem_cons.1 hx with rfl | hx
      · have := far q' y hy; omega
      · have hbx := h.bound hx
        have := h.apart q' y _ x hy hx (.inl hq)
        omega
    exact ⟨g2.eq _ (by omega) (fun x hx => g x hx 1 (.inl rfl)), g2.eq _ (by omega) (fun x hx => g x hx 2 (.inr rfl))⟩
  refine ⟨?_, hH, ?_⟩
  · obtain ⟨a1, a2, a3, a4, a5, a6, a7, a8, a9, a10, a11, a12, a13, a14, a15, a16⟩ := id h
    refine { ring := fun j r' hr' => ?_, lring := ?_, out := fun j hj => ?_, pos := fun q c hc => ?_, inn := fun j c hc => ?_, linn := fun c hc => ?_, apart := fun q c q' c' hc hc' hne => ?_, top1 := by simp only [HS.grown]; omega, top2 := by simp only [HS.grown]; omega, edge := by simp only [HS.grown, hl]; exact a10, len := by simp only [HS.grown, hl]; exact a11, nrs := by simp only [HS.grown, List.length_set]; exact a12, cls := a13, runs := fun x hx => by have := a14 x hx; simp only [HS.grown, hl]; exact this, rap := a15, rlarge := fun x hx c hc => ?_ }
    · by_cases e : j = k
      · subst e
        rw [Rg.up_same]
        simp only [HS.grown, List.getElem?_set] at hr'
        simp at hr'
        rw [← hr'.2]; exact g1
      · rw [Rg.up_ne A (by simpa using e)]
        simp only [HS.grown] at hr'
        rw [List.getElem?_set_ne (Ne.symm e)] at hr'
        exact (a1 j r' hr').congr hl (hO _ (by simpa using e))
    · rw [Rg.up_ne A (by simp)]
      exact a2.congr hl (hO _ (by simp))
    · simp only [HS.grown, List.length_set] at hj
      rw [Rg.up_ne A (by simp; omega)]; exact a3 j hj
    · rcases mem_add hc with ⟨rfl, rfl⟩ | hc
      · show 3 ≤ ln s.cls z _ _; rw [hlnk]; omega
      · exact a4 q c hc
    · rcases mem_add hc with ⟨e, rfl⟩ | hc
      · rw [e]
        show _ ∧ _ + ln s.cls z _ _ ≤ s.top + (n + 3)
        rw [hlnk]; omega
      · have := a5 j c hc
        show _ ∧ _ + ln s.cls z _ _ ≤ s.top + (n + 3)
        omega
    · rcases mem_add hc with ⟨e, _⟩ | hc
      · exact absurd e (by simp)
      · have := a6 c hc; simp only [HS.grown, hl]; exact this
    · show _ + ln s.cls z _ _ ≤ _ ∨ _ + ln s.cls z _ _ ≤ _
      rcases mem_add hc with ⟨rfl, rfl⟩ | hc <;> rcases mem_add hc' with ⟨rfl, rfl⟩ | hc'
      · rcases hne with hne | hne <;> exact absurd rfl hne
      · have := far q' c' hc'; rw [hlnk]; omega
      · have := far q c hc; rw [hlnk]; omega
      · exact a7 q c q' c' hc hc' hne
    · rcases mem_add hc with ⟨e, _⟩ | hc
      · exact absurd e (by simp)
      · exact a16 x hx c hc
  · intro q c hc
    by_cases e : q = some k
    · subst e
      have := (h.inn k c hc).2
      rw [hlnk] at this
      exact .inr (by omega)
    · exact .inl e
def cutRun (l1 : List (Int × Int)) (p m n : Int) (l2 : List (Int × Int)) : List (Int × Int) := l1 ++ (if m = n then l2 else (p + n, m - n) :: l2)
def upz (z : Int → Int) (p n : Int) : Int → Int := fun c => if c = p then n else z c
theorem mem_cutRun {l1 l2 : List (Int × Int)} {p m n : Int} {x : Int × Int} (h : x ∈ cutRun l1 p m n l2) : x ∈ l1 ∨ x ∈ l2 ∨ (m ≠ n ∧ x = (p + n, m - n)) := by
  unfold cutRun at h
  rcases List.mem_append.1 h with h | h
  · exact .inl h
  · split at h
    · exact .inr (.inl h)
    · rcases List.mem_cons.1 h with h | h
      · exact .inr (.inr ⟨‹_›, h⟩)
      · exact .inr (.inl h)
def HS.largeGrown (s : HS) (p : Int) (l' : List (Int × Int)) (u' : Int) : HS := { s with ws := growW s.ws s.lg p, u := u', lg := s.lg.grown p, x := { s.x with l := l' } }
theorem HI.largeGrown {s : HS} {A : Rg} {z : Int → Int} (h : HI s A z) {l1 l2 : List (Int × Int)} {p m n : Int} (hx : s.x.l = l1 ++ (p, m) :: l2) (hn : 3 ≤ n) (hm : n ≤ m) (u' : Int) :
    HI (s.largeGrown p (cutRun l1 p m n l2) u') (A.up none ((A none).addW p)) (upz z p n) ∧ (∀ q c, c ∈ (A q).all → Holds s (s.largeGrown p (cutRun l1 p m n l2) u') z q c ∧ ln s.cls (upz z p n) q c = ln s.cls z q c) ∧ (∀ q c, c ∈ (A q).all → q ≠ none ∨ c ≠ p) := by
  have hpm : (p, m) ∈ s.x.l := by rw [hx]; simp
  obtain ⟨_, hpe, hpl⟩ := h.runs _ hpm
  simp only at hpe hpl
  have ht := h.top1
  have ht2 := h.top2
  have he := h.edge
  have far : ∀ q c, c ∈ (A q).all → c + ln s.cls z q c ≤ p ∨ p + m ≤ c := by
    intro q c hc
    cases q with
    | none => exact h.rlarge _ hpm c hc
    | some j => have := h.inn j c hc; omega
  have hne : ∀ q c, c ∈ (A q).all → c ≠ p := by
    intro q c hc e
    have := far q c hc
    have := h.pos q c hc
    omega
  have hln : ∀ q c, c ∈ (A q).all → ln s.cls (upz z p n) q c = ln s.cls z q c := by
    intro q c hc
    cases q with
    | none => simp only [ln, upz]; rw [if_neg (hne _ c hc)]
    | some j => rfl
  have hlp : ln s.cls (upz z p n) none p = n := by simp [ln, upz]
  have hC : Cells s.ws.length (p :: (A none).all) := by
    have hc := h.lring.cells
    refine ⟨?_, List.pairwise_cons.2 ⟨?_, hc.far⟩⟩
    · intro c hc'
      rcases List.mem_cons.1 hc' with rfl | hc'
      · omega
      · exact hc.ok c hc'
    · intro c hc'
      have := far none c hc'
      have := h.pos _ c hc'
      rcases far none c hc' with g | g
      · exact .inr (by omega)
      · exact .inl (by omega)
  obtain ⟨g1, g2⟩ := h.lring.grow hC
  have hl : (growW s.ws s.lg p).length = s.ws.length := growW_len _ _ _
  have hX : ∀ q c, c ∈ (A q).all → ∀ y ∈ p :: (A none).all, y = c ∨ c + ln s.cls z q c ≤ y ∨ y + 3 ≤ c := by
    intro q c hc y hy
    rcases List.mem_cons.1 hy with rfl | hy
    · have := far q c hc; omega
    · by_cases e : q = none ∧ c = y
      · exact .inl e.2.symm
      · have hd : q ≠ none ∨ c ≠ y := by
          by_cases e1 : q = none
          · exact .inr (fun e2 => e ⟨e1, e2⟩)
          · exact .inl e1
        have := h.apart q c none y hc hy hd
        have := h.pos _ _ hy
        omega
  have hH : ∀ q c, c ∈ (A q).all → Holds s (s.largeGrown p (cutRun l1 p m n l2) u') z q c := fun q c hc => h.holds g2 hc (hX q c hc)
  have hO : ∀ q', q' ≠ none → ∀ y ∈ (A q').all, gw (growW s.ws s.lg p) (y + 1) = gw s.ws (y + 1) ∧ gw (growW s.ws s.lg p) (y + 2) = gw s.ws (y + 2) := by
    intro q' hq y hy
    have hb := h.bound hy
    have g : ∀ x ∈ p :: (A none).all, ∀ i, (i = 1 ∨ i = 2) → y + i ≠ x + 1 ∧ y + i ≠ x + 2 := by
      intro x hx i hi
      rcases List.mem_cons.1 hx with rfl | hx
      · have := far q' y hy; omega
      · have hbx := h.bound hx
        have := h.apart q' y _ x hy hx (.inl hq)
        omega
    exact ⟨g2.eq _ (by omega) (fun x hx => g x hx 1 (.inl rfl)), g2.eq _ (by omega) (fun x hx => g x hx 2 (.inr rfl))⟩
  have hrap := h.rap
  rw [hx, List.pairwise_append] at hrap
  obtain ⟨b1, b2, b3⟩ := hrap
  rw [List.pairwise_cons] at b2
  have hmem : ∀ x ∈ cutRun l1 p m n l2, (x ∈ s.x.l ∧ (x.1 + x.2 ≤ p ∨ p + m ≤ x.1)) ∨ (m ≠ n ∧ x = (p + n, m - n)) := by
    intro x hx'
    rcases mem_cutRun hx' with g | g | g
    · exact .inl ⟨by rw [hx]; simp [g], .inl (b3 x g (p, m) (by simp))⟩
    · exact .inl ⟨by rw [hx]; simp [g], .inr (b2.1 x g)⟩
    · exact .inr g
  refine ⟨?_, fun q c hc => ⟨hH q c hc, hln q c hc⟩, fun q c hc => .inr (hne q c hc)⟩
  obtain ⟨a1, a2, a3, a4, a5, a6, a7, a8, a9, a10, a11, a12, a13, a14, a15, a16⟩ := id h
  refine { ring := fun j r' hr' => ?_, lring := ?_, out := fun j hj => ?_, pos := fun q c hc => ?_, inn := fun j c hc => ?_, linn := fun c hc => ?_, apart := fun q c q' c' hc hc' hne => ?_, top1 := a8, top2 := a9, edge := by simp only [HS.largeGrown, hl]; exact a10, len := by simp only [HS.largeGrown, hl]; exact a11, nrs := a12, cls := a13, runs := fun x hx' => ?_, rap := ?_, rlarge := fun x hx' c hc => ?_ }
  · rw [Rg.up_ne A (by simp)]
    exact (a1 j r' hr').congr hl (hO _ (by simp))
  · rw [Rg.up_same]; exact g1
  · rw [Rg.up_ne A (by simp)]; exact a3 j hj
  · show 3 ≤ ln s.cls _ _ _
    rcases mem_add hc with ⟨rfl, rfl⟩ | hc
    · rw [hlp]; exact hn
    · rw [hln q c hc]; exact a4 q c hc
  · rcases mem_add hc with ⟨e, rfl⟩ | hc
    · exact absurd e (by simp)
    · exact a5 j c hc
  · rcases mem_add hc with ⟨_, rfl⟩ | hc
    · simp only [HS.largeGrown, hl, upz]; simp; omega
    · have := a6 c hc
      have h2 := hln none c hc
      simp only [ln] at h2
      simp only [HS.largeGrown, hl, h2]; exact this
  · show _ + ln s.cls _ _ _ ≤ _ ∨ _ + ln s.cls _ _ _ ≤ _
    rcases mem_add hc with ⟨e1, e2⟩ | hc1 <;> rcases mem_add hc' with ⟨e3, e4⟩ | hc2
    · rw [e1, e2, e3, e4] at hne; rcases hne with hne | hne <;> exact absurd rfl hne
    · have := far q' c' hc2; rw [e1, e2, hlp, hln _ _ hc2]; omega
    · have := far q c hc1; rw [e3, e4, hlp, hln _ _ hc1]; omega
    · rw [hln _ _ hc1, hln _ _ hc2]; exact a7 q c q' c' hc1 hc2 hne
  · rcases hmem x hx' with ⟨g, _⟩ | ⟨g, rfl⟩
    · have := a14 x g; simp only [HS.largeGrown, hl]; exact this
    · simp only [HS.largeGrown, hl]; omega
  · show List.Pairwise _ (cutRun l1 p m n l2)
    unfold cutRun
    rw [List.pairwise_append]
    refine ⟨b1, ?_, ?_⟩
    · split
      · exact b2.2
      · rw [List.pairwise_cons]
        exact ⟨fun y hy => by have := b2.1 y hy; simp only at this ⊢; omega, b2.2⟩
    · intro x hx1 y hy
      split at hy
      · exact b3 x hx1 y (List.mem_cons_of_mem _ hy)
      · rcases List.mem_cons.1 hy with rfl | hy
        · have := b3 x hx1 (p, m) (by simp); simp only at this ⊢; omega
        · exact b3 x hx1 y (List.mem_cons_of_mem _ hy)
  · have hx2 := hmem x hx'
    rcases mem_add hc with ⟨_, rfl⟩ | hc
    · simp only [upz]; simp
      rcases hx2 with ⟨_, g⟩ | ⟨g, rfl⟩
      · omega
      · simp
    · have h2 := hln none c hc
      simp only [ln] at h2
      rw [h2]
      rcases hx2 with ⟨g, _⟩ | ⟨g, rfl⟩
      · exact a16 x g c hc
      · have := far none c hc; simp only [ln] at this; simp only; omega
theorem HI.lTook {s : HS} {A : Rg} {z : Int → Int} (h : HI s A z) {c : Int} {W : List Int} (hW : (A none).W = c :: W) :
    s.lg.first = c ∧ HI { s with u := s.u + 1, lg := s.lg.allocd s.ws } (A.up none ⟨W, (A none).F, (A none).G, (A none).B ++ [c]⟩) z := by
  obtain ⟨h1, h2⟩ := h.lring.alloc hW
  refine ⟨h1, h.ringL (s.u + 1) (Same.refl _ _) h2 ?_⟩
  intro x hx
  simp only [Rows.all, hW, List.mem_append, List.mem_cons, List.mem_nil_iff, or_false] at hx ⊢
  rcases hx with hx | hx | hx | hx | hx <;> simp [hx]
theorem gw_zr (ws : List Int) (a : Int) (n : Nat) (h0 : 0 ≤ a) (h1 : a + n ≤ ws.length) (j : Int) (hj : 0 ≤ j) : gw (zr ws a n) j = if a ≤ j ∧ j < a + n then 0 else gw ws j := by
  induction n with
  | zero => simp only [zr]; rw [if_neg (by omega)]
  | succ n ih =>
    simp only [zr]
    rw [gw_sw _ _ _ _ (by omega) (by rw [zr_len]; omega) hj, ih (by omega)]
    by_cases e : j = a + n
    · rw [if_pos e, if_pos (by omega)]
    · rw [if_neg e]
      by_cases e2 : a ≤ j ∧ j < a + n
      · rw [if_pos e2, if_pos (by omega)]
      · rw [if_neg e2, if_neg (by omega)]
theorem HI.laid {s : HS} {A : Rg} {z : Int → Int} (h : HI s A z) {q : Option Nat} {p : Int} (hp : p ∈ (A q).all) {n : Nat} (hn : n + 3 ≤ ln s.cls z q p) (word : Int) :
    HI (s.laid p word n) A z ∧ gw (s.laid p word n).ws p = word ∧ (∀ j : Int, 0 ≤ j → j < n → gw (s.laid p word n).ws (p + 3 + j) = 0) ∧
    (∀ q' c', c' ∈ (A q').all → (q ≠ q' ∨ p ≠ c') → Holds s (s.laid p word n) z q' c') := by
  have hb := h.bound hp
  have hl1 : (sw s.ws p word).length = s.ws.length := sw_len _ _ _
  have key : ∀ j, 0 ≤ j → gw (s.laid p word n).ws j = if p + 3 ≤ j ∧ j < p + 3 + n then 0 else if j = p then word else gw s.ws j := by
    intro j hj
    show gw (zr (sw s.ws p word) (p + 3) n) j = _
    rw [gw_zr _ _ _ (by omega) (by rw [hl1]; omega) j hj, gw_sw _ _ _ _ (by omega) (by omega) hj]
  have hlk : ∀ q' c', c' ∈ (A q').all → (q ≠ q' ∨ p ≠ c') → ∀ j, 0 ≤ j → j < ln s.cls z q' c' → gw (s.laid p word n).ws (c' + j) = gw s.ws (c' + j) := by
    intro q' c' hc' hne j h0 h1
    have hb' := h.bound hc'
    have := h.apart q p q' c' hp hc' hne
    rw [key _ (by omega), if_neg (by omega), if_neg (by omega)]
  refine ⟨?_, ?_, ?_, ?_⟩
  · refine h.words _ _ (by rw [zr_len, sw_len]) (fun q' c' hc' => ?_)
    have hb' := h.bound hc'
    by_cases e : q = q' ∧ p = c'
    · obtain ⟨_, rfl⟩ := e
      exact ⟨by rw [show gw (zr (sw s.ws p word) (p + 3) n) (p + 1) = _ from key _ (by omega), if_neg (by omega), if_neg (by omega)], by rw [show gw (zr (sw s.ws p word) (p + 3) n) (p + 2) = _ from key _ (by omega), if_neg (by omega), if_neg (by omega)]⟩
    · have hd : q ≠ q' ∨ p ≠ c' := by
        by_cases e1 : q = q'
        · exact .inr (fun e2 => e ⟨e1, e2⟩)
        · exact .inl e1
      exact ⟨hlk q' c' hc' hd 1 (by omega) (by omega), hlk q' c' hc' hd 2 (by omega) (by omega)⟩
  · rw [key _ (by omega), if_neg (by omega), if_pos rfl]
  · intro j h0 h1
    rw [key _ (by omega), if_pos (by omega)]
  · intro q' c' hc' hne
    have hb' := h.bound hc'
    refine ⟨?_, fun j h1 h2 => hlk q' c' hc' hne j (by omega) h2⟩
    have := hlk q' c' hc' hne 0 (by omega) (by omega)
    simpa using this
theorem HI.linksApart {s : HS} {A : Rg} {z : Int → Int} (h : HI s A z) {q q' : Option Nat} {c : Int} (hc : c ∈ (A q').all) : ∀ y ∈ (A q).all, y = c ∨ c + ln s.cls z q' c ≤ y ∨ y + 3 ≤ c := by
  intro y hy
  by_cases e : q' = q ∧ c = y
  · exact .inl e.2.symm
  · have hd : q' ≠ q ∨ c ≠ y := by
      by_cases e1 : q' = q
      · exact .inr (fun e2 => e ⟨e1, e2⟩)
      · exact .inl e1
    have := h.apart q' c q y hc hy hd
    have := h.pos _ _ hy
    omega
theorem HI.headPut {s : HS} {A : Rg} {z : Int → Int} (h : HI s A z) {q : Option Nat} {p : Int} (hp : p ∈ (A q).all) (word n : Int) :
    HI (s.put p word n) A z ∧ gw (s.put p word n).ws p = word ∧ (∀ j, 3 ≤ j → j < ln s.cls z q p → gw (s.put p word n).ws (p + j) = gw s.ws (p + j)) ∧ ∀ q' c, c ∈ (A q').all → (q' ≠ q ∨ c ≠ p) → Holds s (s.put p word n) z q' c := by
  have hb := h.bound hp
  have key : ∀ j, 0 ≤ j → gw (s.put p word n).ws j = if j = p then word else gw s.ws j := fun j hj => by
    show gw (sw s.ws p word) j = _
    rw [gw_sw _ _ _ _ (by omega) (by omega) hj]
  refine ⟨?_, ?_, ?_, ?_⟩
  · have := h.put (j := 0) hp (.inl rfl) word n
    rw [Int.add_zero] at this; exact this
  · rw [key _ (by omega), if_pos rfl]
  · intro j h1 h2; rw [key _ (by omega), if_neg (by omega)]
  · intro q' c hc hne
    have := h.put_other (j := 0) hp ⟨by omega, by omega⟩ word n hc (by rcases hne with h | h; (· exact .inl (Ne.symm h)); (· exact .inr (Ne.symm h)))
    rw [Int.add_zero] at this; exact this
theorem HI.shadeK {s : HS} {A : Rg} {z : Int → Int} (h : HI s A z) {k : Nat} {r : RS} (hr : s.rs[k]? = some r) {F1 F2 : List Int} {p : Int} (hF : (A (some k)).F = F1 ++ p :: F2) (word : Int) :
    (1 < r.tot → Okc (sw s.ws p word) p ∧ Okc (sw s.ws p word) (gw (sw s.ws p word) (p + 2)) ∧ Okc (sw s.ws p word) (gw (sw s.ws p word) (p + 1)) ∧ Okc (sw s.ws p word) (shB (sw s.ws p word) r p) ∧ Okc (sw s.ws p word) (gw (ct (sw s.ws p word) p) (shB (sw s.ws p word) r p + 2))) ∧
    ∀ u', HI { s with ws := shW (sw s.ws p word) r p, u := u', rs := s.rs.set k (r.shaded (sw s.ws p word) p) } (A.up (some k) ⟨(A (some k)).W, F1 ++ F2, (A (some k)).G ++ [p], (A (some k)).B⟩) z ∧
      gw (shW (sw s.ws p word) r p) p = word ∧ (∀ j, 3 ≤ j → j < ln s.cls z (some k) p → gw (shW (sw s.ws p word) r p) (p + j) = gw s.ws (p + j)) ∧
      ∀ q c, c ∈ (A q).all → (q ≠ some k ∨ c ≠ p) → Holds s { s with ws := shW (sw s.ws p word) r p, u := u', rs := s.rs.set k (r.shaded (sw s.ws p word) p) } z q c := by
  have hp : p ∈ (A (some k)).all := by simp [Rows.all, hF]
  obtain ⟨g1, g2, g3, g4⟩ := h.headPut hp word 0
  have hr1 : (s.put p word 0).rs[k]? = some r := hr
  obtain ⟨r1, r2, r3⟩ := (g1.ring k r hr1).shade hF
  refine ⟨r3, fun u' => ?_⟩
  have hsub : ∀ x ∈ (⟨(A (some k)).W, F1 ++ F2, (A (some k)).G ++ [p], (A (some k)).B⟩ : Rows).all, x ∈ (A (some k)).all := by
    intro x hx
    simp only [Rows.all, hF, List.mem_append, List.mem_cons, List.mem_nil_iff, or_false] at hx ⊢
    rcases hx with h | (h | h) | (h | h) | h <;> simp [h]
  have hK := g1.ringK u' r2 r1 hsub
  have hH : ∀ q c, c ∈ (A q).all → Holds (s.put p word 0) { s with ws := shW (sw s.ws p word) r p, u := u', rs := s.rs.set k (r.shaded (sw s.ws p word) p) } z q c := fun q c hc => g1.holds r2 hc (g1.linksApart hc)
  refine ⟨hK, ?_, ?_, ?_⟩
  · exact (hH _ _ hp).head.trans g2
  · intro j h1 h2; exact ((hH _ _ hp).body j h1 h2).trans (g3 j h1 h2)
  · intro q c hc hne; exact (g4 q c hc hne).trans (hH q c hc) rfl
theorem HI.shadeL {s : HS} {A : Rg} {z : Int → Int} (h : HI s A z) {F1 F2 : List Int} {p : Int} (hF : (A none).F = F1 ++ p :: F2) (word : Int) :
    (1 < s.lg.tot → Okc (sw s.ws p word) p ∧ Okc (sw s.ws p word) (gw (sw s.ws p word) (p + 2)) ∧ Okc (sw s.ws p word) (gw (sw s.ws p word) (p + 1)) ∧ Okc (sw s.ws p word) (shB (sw s.ws p word) s.lg p) ∧ Okc (sw s.ws p word) (gw (ct (sw s.ws p word) p) (shB (sw s.ws p word) s.lg p + 2))) ∧
    ∀ u', HI { s with ws := shW (sw s.ws p word) s.lg p, u := u', lg := s.lg.shaded (sw s.ws p word) p } (A.up none ⟨(A none).W, F1 ++ F2, (A none).G ++ [p], (A none).B⟩) z ∧
      gw (shW (sw s.ws p word) s.lg p) p = word ∧ (∀ j, 3 ≤ j → j < ln s.cls z none p → gw (shW (sw s.ws p word) s.lg p) (p + j) = gw s.ws (p + j)) ∧
      ∀ q c, c ∈ (A q).all → (q ≠ none ∨ c ≠ p) → Holds s { s with ws := shW (sw s.ws p word) s.lg p, u := u', lg := s.lg.shaded (sw s.ws p word) p } z q c := by
  have hp : p ∈ (A none).all := by simp [Rows.all, hF]
  obtain ⟨g1, g2, g3, g4⟩ := h.headPut hp word 0
  obtain ⟨r1, r2, r3⟩ := (show RI (s.put p word 0).ws s.lg (A none) from g1.lring).shade hF
  refine ⟨r3, fun u' => ?_⟩
  have hsub : ∀ x ∈ (⟨(A none).W, F1 ++ F2, (A none).G ++ [p], (A none).B⟩ : Rows).all, x ∈ (A none).all := by
    intro x hx
    simp only [Rows.all, hF, List.mem_append, List.mem_cons, List.mem_nil_iff, or_false] at hx ⊢
    rcases hx with h | (h | h) | (h | h) | h <;> simp [h]
  have hK := g1.ringL u' r2 r1 hsub
  have hH : ∀ q c, c ∈ (A q).all → Holds (s.put p word 0) { s with ws := shW (sw s.ws p word) s.lg p, u := u', lg := s.lg.shaded (sw s.ws p word) p } z q c := fun q c hc => g1.holds r2 hc (g1.linksApart hc)
  refine ⟨hK, ?_, ?_, ?_⟩
  · exact (hH _ _ hp).head.trans g2
  · intro j h1 h2; exact ((hH _ _ hp).body j h1 h2).trans (g3 j h1 h2)
  · intro q c hc hne; exact (g4 q c hc hne).trans (hH q c hc) rfl
theorem takeLit (a m n : Int) (pb : Nat) (w : World) (h : w.cell? ⟨pb, 0, none⟩ = some (.int .i64 n)) (hl : pb < w.heap.size) :
    Calls Tryz.prog 130 #[.agg #[.int .i64 a, .int .i64 m], .pointer (some ⟨pb, 0, none⟩)] w fun e w' => e = .returned (.bool (decide (n ≤ m))) ∧ Fr [] w w' := by
  have B0 := Blk.new w [.int .i64 a, .int .i64 m] 175
  have q1 := B0.cell (i := 1) rfl
  have h' : (w.alloc (.cells #[.int .i64 a, .int .i64 m] 175)).cell? ⟨pb, 0, none⟩ = some (.int .i64 n) := by
    rw [World.cell?_alloc_past _ _ _ hl]; exact h
  clear h
  go_enter Tryz.func130, Tryz.ntmps130
  go_wp2_with fail
  go_ret
  exact ⟨rfl, (Fr.refl _ w).alloc _⟩
def ixRun (l : List (Int × Int)) (n : Int) : Int := ixGe (l.map (·.2)) n
theorem flat_cons (x : Int × Int) (l : List (Int × Int)) : flat (x :: l) = .int .i64 x.1 :: .int .i64 x.2 :: flat l := rfl
theorem flat_append (l l' : List (Int × Int)) : flat (l ++ l') = flat l ++ flat l' := by simp [flat]
theorem flat_len (l : List (Int × Int)) : (flat l).length = 2 * l.length := by
  induction l with
  | nil => rfl
  | cons x l ih => rw [flat_cons]; simp [ih]; omega
theorem flat_get (l : List (Int × Int)) (k : Nat) (x : Int × Int) (h : l[k]? = some x) : (flat l)[k * 2]? = some (.int .i64 x.1) ∧ (flat l)[k * 2 + 1]? = some (.int .i64 x.2) := by
  induction l generalizing k with
  | nil => simp at h
  | cons y l ih =>
    cases k with
    | zero => simp at h; subst h; exact ⟨rfl, rfl⟩
    | succ k =>
      have := ih k (by simpa using h)
      rw [flat_cons]
      exact ⟨by rw [show (k + 1) * 2 = k * 2 + 1 + 1 by omega]; simpa using this.1, by rw [show (k + 1) * 2 + 1 = k * 2 + 1 + 1 + 1 by omega]; simpa using this.2⟩
set_option maxHeartbeats 1600000 in
theorem ixTake (b : Nat) (l : List (Int × Int)) (cap : Nat) (n : Int) (pb : Nat) (w : World) (hm : l.length ≤ 65536) (hc : Rd w b (flat l)) (h : w.cell? ⟨pb, 0, none⟩ = some (.int .i64 n)) (hl : pb < w.heap.size) :
    Calls Tryz.prog 129 #[.slice (some ⟨b, 0, none⟩) l.length cap, .func (.func 130) #[] #[.pointer (some ⟨pb, 0, none⟩)]] w fun e w' => e = .returned (.int .i64 (ixRun l n)) ∧ Fr [] w w' := by
  go_enter Tryz.func129, Tryz.ntmps129
  go_wp2_with fail
  go_loopw [8] (fun i wr => ∃ k : Nat, k ≤ l.length ∧ i = .int .i64 k ∧ below (l.map (·.2)) n k ∧ Fr [] w wr) (fun i _ => l.length - (intOf i).toNat)
  case atStart => exact ⟨0, Nat.zero_le _, rfl, below_zero _ _, Fr.refl _ _⟩
  case round =>
    obtain ⟨k, hk, rfl, hH, hFr⟩ := hrel
    have hcr := hc.fr hFr (by simp)
    have hr : wr.cell? ⟨pb, 0, none⟩ = some (.int .i64 n) := by
      exact (World.cell?_of_block (w := w) (hFr.block _ hl (by simp))).trans h
    have hlr := Nat.lt_of_lt_of_le hl hFr.size
    by_cases hlt : k < l.length
    · obtain ⟨x, hx⟩ : ∃ x, l[k]? = some x := ⟨_, List.getElem?_eq_getElem hlt⟩
      obtain ⟨g1, g2⟩ := flat_get l k x hx
      have c1 := hcr.2 _ _ g1
      have c2 := hcr.2 _ _ g2
      have hx2 : (l.map (·.2))[k]? = some x.2 := by simp [hx]
      have Hx := hid hx2
      clear hx g1 g2 hx2
      obtain ⟨x1, x2⟩ := x
      simp only at c1 c2 Hx
      by_cases hs : n ≤ x2
      · go_wp2_with (go_at_call 130; refine (takeLit _ _ _ _ _ hr hlr).mono ?_; rintro e w' ⟨rfl, hF⟩)
        go_ret
        exact ⟨by unfold ixRun; rw [ixGe_some hH Hx.out hs]; rfl, hFr.trans hF⟩
      · go_wp2_with (go_at_call 130; refine (takeLit _ _ _ _ _ hr hlr).mono ?_; rintro e w' ⟨rfl, hF⟩)
        go_roundw
        case rel => exact ⟨k + 1, by omega, by go_num, below_succ hH Hx.out (by omega), hFr.trans hF⟩
        case measure => simp [intOf]; omega
    · go_wp2_with fail
      go_ret
      have e : k = l.length := by omega
      subst e
      exact ⟨by unfold ixRun; rw [ixGe_none (by simpa using hH)]; rfl, hFr⟩
def SlArg (w : World) (sv : Value) (cls : List Int) : Prop :=
  (sv = .slice none 0 0 ∧ cls = []) ∨ (∃ a cap, sv = .slice (some a) 0 cap ∧ cls = []) ∨ ∃ b o cap, sv = .slice (some ⟨b, o, none⟩) cls.length cap ∧ RdAt w b o (cls.map (.int .i64)) ∧ cls.length ≤ maxLen
theorem SlArg.fr {S : List Nat} {w w' : World} {sv : Value} {cls : List Int} (h : SlArg w sv cls) (hf : Fr S w w') (hS : ∀ b ∈ S, w.heap.size ≤ b) : SlArg w' sv cls := by
  rcases h with h | h | ⟨b, o, cap, e, hr, hm⟩
  · exact .inl h
  · exact .inr (.inl h)
  · exact .inr <| .inr ⟨b, o, cap, e, hr.fr hf (fun hc => by have := hS b hc; have := hr.1; omega), hm⟩
structure Lst (cls : List Int) (k : Nat) (last : Int) : Prop where
  z : k = 0 → last = 0
  s : 1 ≤ k → cls[k - 1]? = some last ∧ 1 ≤ last
set_option maxHeartbeats 3200000 in
theorem refLoop (W Lg a b c d : Int) (cls : List Int) (cb o cap : Nat) (w : World) (w1 : 1 ≤ W) (w2 : W ≤ 65536) (l1 : 0 ≤ Lg) (l2 : Lg < W) (n1 : 1 ≤ cls.length) (n2 : cls.length ≤ 6) (hr : RdAt w cb o (cls.map (.int .i64))) (v : Bool) (hv : v = true ↔ Inc 0 cls) :
    Calls Tryz.prog 28 #[.agg #[.int .i64 W, .int .i64 Lg, .int .i64 a, .int .i64 b, .int .i64 c, .int .i64 d, .slice (some ⟨cb, o, none⟩) cls.length cap]] w fun e w' => e = .returned (.bool v) ∧ Fr [] w w' := by
  have hl := hr.1
  have g1 : ¬ W < 1 := by omega
  have g2 : ¬ 65536 < W := by omega
  have g3 : ¬ Lg < 0 := by omega
  have g4 : ¬ W ≤ Lg := by omega
  have g5 : ¬ (cls.length : Int) < 1 := by omega
  have g6 : ¬ 6 < (cls.length : Int) := by omega
  have Hv := hid hv
  clear hv
  go_enter Tryz.func28, Tryz.ntmps28
  go_wp2_with fail
  go_loopw [3] (fun i wr => ∃ (k : Nat) (last : Int), k ≤ cls.length ∧ i = .int .i64 k ∧ Hid ((Inc 0 cls ↔ Inc last (cls.drop k)) ∧ Lst cls k last) ∧ Blk wr w.heap.size [.int .i64 W, .int .i64 Lg, .int .i64 a, .int .i64 b, .int .i64 c, .int .i64 d, .slice (some ⟨cb, o, none⟩) cls.length cap] 24 ∧ Fr [] w wr) (fun i _ => cls.length - (intOf i).toNat)
  case atStart => exact ⟨0, 0, Nat.zero_le _, rfl, ⟨by simp, ⟨fun _ => rfl, fun h => by omega⟩⟩, Blk.new w _ _, (Fr.refl _ w).alloc _⟩
  case round =>
    obtain ⟨k, last, hk, rfl, hI, hB, hF⟩ := hrel
    have c6 := hB.cell (i := 6) rfl
    have hrr := hr.fr hF (by simp)
    by_cases hlt : k < cls.length
    · obtain ⟨x, hx⟩ : ∃ x, cls[k]? = some x := ⟨_, List.getElem?_eq_getElem hlt⟩
      have hck : wr.cell? ⟨cb, o + k, none⟩ = some (.int .i64 x) := hrr.2 k _ (by simp [hx])
      have Hx := hid hx
      clear hx
      have hIn : (Inc 0 cls ↔ last < x ∧ x ≤ 24 ∧ Inc x (cls.drop (k + 1))) := by rw [hI.out.1, drop_getElem? Hx.out]; rfl
      have HIn := hid hIn
      clear hIn
      by_cases q1 : x < 1
      · have d1 : decide (x < 1) = true := by simpa using q1
        go_wp2_with fail
        go_quiet (fail)
        go_wp2_with fail
        go_ret
        refine ⟨?_, hF.drewN _⟩
        have : v = false := by rw [Bool.eq_false_iff]; intro hc; have h1 := HIn.out.1 (Hv.out.1 hc); have h2 := hI.out.2; have h3 := h2.z; have h4 := h2.s; rcases Nat.eq_zero_or_pos k with e | e; (· have := h3 e; omega); (· have := (h4 e).2; omega)
        rw [this]; rfl
      · have d1 : decide (x < 1) = false := by simpa using q1
        by_cases q2 : 24 < x
        · have d2 : decide (24 < x) = true := by simpa using q2
          go_wp2_with fail
          go_quiet (fail)
          go_wp2_with fail
          go_ret
          refine ⟨?_, hF.drewN _⟩
          have : v = false := by rw [Bool.eq_false_iff]; intro hc; have h1 := HIn.out.1 (Hv.out.1 hc); omega
          rw [this]; rfl
        · have d2 : decide (24 < x) = false := by simpa using q2
          by_cases q3 : k = 0
          · have d3 : decide ((0 : Int) < (k : Int)) = false := by simp; omega
            have d3' : decide (0 < k) = false := by simp; omega
            have q3' : (k : Int) ≤ 0 := by omega
            have Q3 := hid q3
            clear q3
            go_wp2_with fail
            go_quiet (fail)
            go_wp2_with fail
            go_roundw
            case rel =>
              refine ⟨k + 1, x, by omega, by go_num, ⟨?_, ⟨fun h => by omega, fun _ => ⟨by simpa using Hx.out, by omega⟩⟩⟩, hB.drewN _, hF.drewN _⟩
              rw [HIn.out]
              constructor
              · exact fun h => h.2.2
              · exact fun h => ⟨by have h3 := hI.out.2.z; have := h3 Q3.out; omega, by omega, h⟩
            case measure => simp [intOf]; omega
          · obtain ⟨hp1, hp2⟩ := hI.out.2.s (by omega)
            have hcp : wr.cell? ⟨cb, o + (k - 1), none⟩ = some (.int .i64 last) := hrr.2 (k - 1) _ (by simp [hp1])
            clear hp1
            have d3 : decide ((0 : Int) < (k : Int)) = true := by simp; omega
            have d3' : decide (0 < k) = true := by simp; omega
            have e2 : IntKind.i64.wrap ((k : Int) - 1) = (k : Int) - 1 := by rw [IntKind.wrap_i64]; omega
            have e3 : (0 : Int) ≤ (k : Int) - 1 := by omega
            have e4 : (k : Int) - 1 < cls.length := by omega
            have e1 : ((k : Int) - 1).toNat = k - 1 := by omega
            by_cases q4 : x ≤ last
            · have d4 : decide (x ≤ last) = true := by simpa using q4
              go_wp2_with fail
              go_quiet (fail)
              go_wp2_with fail
              go_ret
              refine ⟨?_, hF.drewN _⟩
              have : v = false := by rw [Bool.eq_false_iff]; intro hc; have h1 := HIn.out.1 (Hv.out.1 hc); omega
              rw [this]; rfl
            · have d4 : decide (x ≤ last) = false := by simpa using q4
              go_wp2_with fail
              go_quiet (fail)
              go_wp2_with fail
              go_roundw
              case rel =>
                refine ⟨k + 1, x, by omega, by go_num, ⟨?_, ⟨fun h => by omega, fun _ => ⟨by simpa using Hx.out, by omega⟩⟩⟩, hB.drewN _, hF.drewN _⟩
                rw [HIn.out]
                constructor
                · exact fun h => h.2.2
                · exact fun h => ⟨by omega, by omega, h⟩
              case measure => simp [intOf]; omega
    · go_wp2_with fail
      go_ret
      refine ⟨?_, hF⟩
      have e : k = cls.length := by omega
      have : v = true := by
        rw [Hv.out, hI.out.1, e, List.drop_length]; trivial
      rw [this]; rfl
def incB : Int → List Int → Bool
  | _, [] => true
  | last, n :: r => decide (last < n) && decide (n ≤ 24) && incB n r
theorem incB_iff (last : Int) (l : List Int) : incB last l = true ↔ Inc last l := by
  induction l generalizing last with
  | nil => simp [incB, Inc]
  | cons n r ih => simp [incB, Inc, ih, and_assoc]
def rightB (W Lg : Int) (cls : List Int) : Bool :=
  decide (1 ≤ W) && decide (W ≤ 65536) && decide (0 ≤ Lg) && decide (Lg < W) && decide (1 ≤ cls.length) && decide (cls.length ≤ 6) && incB 0 cls
theorem rightB_iff (W Lg : Int) (cls : List Int) : rightB W Lg cls = true ↔ RightC W Lg cls := by
  simp only [rightB, Bool.and_eq_true, decide_eq_true_eq, incB_iff]
  constructor
  · rintro ⟨⟨⟨⟨⟨⟨h1, h2⟩, h3⟩, h4⟩, h5⟩, h6⟩, h7⟩
    exact ⟨h1, h2, h3, h4, h5, h6, h7⟩
  · rintro ⟨h1, h2, h3, h4, h5, h6, h7⟩
    exact ⟨⟨⟨⟨⟨⟨h1, h2⟩, h3⟩, h4⟩, h5⟩, h6⟩, h7⟩
set_option maxHeartbeats 1600000 in
theorem refRightBad (W Lg a b c d : Int) (sv : Value) (n : Nat) (w : World) (hs : sv = .slice none 0 0 ∧ n = 0 ∨ ∃ p cap, sv = .slice (some p) n cap) (h : ¬ (1 ≤ W ∧ W ≤ 65536 ∧ 0 ≤ Lg ∧ Lg < W ∧ 1 ≤ n ∧ n ≤ 6)) :
    Calls Tryz.prog 28 #[.agg #[.int .i64 W, .int .i64 Lg, .int .i64 a, .int .i64 b, .int .i64 c, .int .i64 d, sv]] w fun e w' => e = .returned (.bool false) ∧ Fr [] w w' := by
  rcases hs with ⟨rfl, rfl⟩ | ⟨p, cap, rfl⟩
  all_goals
    by_cases g1 : W < 1
    · clear h
      go_enter Tryz.func28, Tryz.ntmps28
      go_wp2_with fail
      go_ret
      exact ⟨rfl, (Fr.refl _ w).alloc _⟩
    by_cases g2 : 65536 < W
    · clear h
      go_enter Tryz.func28, Tryz.ntmps28
      go_wp2_with fail
      go_ret
      exact ⟨rfl, (Fr.refl _ w).alloc _⟩
    by_cases g3 : Lg < 0
    · clear h
      go_enter Tryz.func28, Tryz.ntmps28
      go_wp2_with fail
      go_ret
      exact ⟨rfl, (Fr.refl _ w).alloc _⟩
    by_cases g4 : W ≤ Lg
    · clear h
      go_enter Tryz.func28, Tryz.ntmps28
      go_wp2_with fail
      go_ret
      exact ⟨rfl, (Fr.refl _ w).alloc _⟩
  · clear h
    go_enter Tryz.func28, Tryz.ntmps28
    go_wp2_with fail
    go_ret
    exact ⟨rfl, (Fr.refl _ w).alloc _⟩
  · by_cases g5 : (n : Int) < 1
    · clear h
      go_enter Tryz.func28, Tryz.ntmps28
      go_wp2_with fail
      go_ret
      exact ⟨rfl, (Fr.refl _ w).alloc _⟩
    · have g6 : 6 < (n : Int) := by omega
      clear h
      go_enter Tryz.func28, Tryz.ntmps28
      go_wp2_with fail
      go_ret
      exact ⟨rfl, (Fr.refl _ w).alloc _⟩
theorem refRight (W Lg a b c d : Int) (sv : Value) (cls : List Int) (w : World) (hs : SlArg w sv cls) :
    Calls Tryz.prog 28 #[.agg #[.int .i64 W, .int .i64 Lg, .int .i64 a, .int .i64 b, .int .i64 c, .int .i64 d, sv]] w fun e w' => e = .returned (.bool (rightB W Lg cls)) ∧ Fr [] w w' := by
  by_cases h : 1 ≤ W ∧ W ≤ 65536 ∧ 0 ≤ Lg ∧ Lg < W ∧ 1 ≤ cls.length ∧ cls.length ≤ 6
  · obtain ⟨h1, h2, h3, h4, h5, h6⟩ := h
    rcases hs with ⟨_, e⟩ | ⟨_, _, _, e⟩ | ⟨p, o, cap, rfl, hr, hm⟩
    · rw [e] at h5; simp at h5
    · rw [e] at h5; simp at h5
    · refine refLoop W Lg a b c d cls p o cap w h1 h2 h3 h4 h5 h6 hr _ ?_
      rw [rightB_iff]
      exact ⟨fun h => h.inc, fun h => ⟨h1, h2, h3, h4, h5, h6, h⟩⟩
  · have e : rightB W Lg cls = false := by
      rw [Bool.eq_false_iff]
      intro hc
      have := (rightB_iff _ _ _).1 hc
      exact h ⟨this.w1, this.w2, this.l1, this.l2, this.n1, this.n2⟩
    rw [e]
    refine refRightBad W Lg a b c d sv cls.length w ?_ h
    rcases hs with ⟨e1, e2⟩ | ⟨p, cap, e1, e2⟩ | ⟨p, o, cap, rfl, hr, hm⟩
    · exact .inl ⟨e1, by rw [e2]; rfl⟩
    · exact .inr ⟨p, cap, by rw [e1, e2]; rfl⟩
    · exact .inr ⟨_, _, rfl⟩
theorem blk_ne {w : World} {b b' : Nat} {cs cs' : List Value} {T T' : TypeId} (h : Blk w b cs T) (h' : Blk w b' cs' T') (hT : T ≠ T') : b ≠ b' := by
  intro e
  subst e
  unfold Blk at h h'
  rw [h] at h'
  simp at h'
  exact hT h'.2
end Go.Proofs.YtklnpooninbogaaGreat
