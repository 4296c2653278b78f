
import Derived.Test.YtklnpooninbogaaGreatXGive
import Derived.Test.YtklnpooninbogaaGreatMMHeapAlloc
import Derived.Test.YtklnpooninbogaaGreatMHRows
namespace Go.Proofs.YtklnpooninbogaaGreat
open Go Go.Proofs Go.RowKit
def XOk (s : HS) : Prop := s.x.first = s.edge ∧ s.x.first + s.x.places = s.ws.length
def HS.swept (s : HS) (c n : Int) (u' : Int) : HS := { s with ws := ct s.ws c, u := u', lg := s.lg.dropped s.ws, x := { s.x with l := giveAt s.x.l (spotOf s.x.l c) c n } }
def HL.newX (L : HL) (b : Nat) : HL := { L with xlbs := [b] }
theorem HRep.newX {w w' : World} {L : HL} {s : HS} {x' : XS} {b0 b : Nat} (h : HRep w L s) (hx0 : L.xlbs = [b0]) (hf : Fr [L.xb, b0] w w') (hb : b = b0 ∨ w.heap.size ≤ b) (hx : XRep w' L.xb [b] x') : HRep w' (L.newX b) { s with x := x' } := by
  obtain ⟨⟨p1, p2, p3, p4, p5, p6⟩, ⟨q1, q2, q3, q4, q5⟩, ⟨r1, r2, r3, r4⟩, ⟨t1, t2, t3⟩, ⟨y1, y2⟩, _⟩ := h.apart
  have hm : b0 ∈ L.xlbs := by rw [hx0]; simp
  obtain ⟨m1, m2, m3, m4, m5, m6, m7, m8⟩ := h.xapart hm
  have g : ∀ x, x ≠ L.xb → b0 ≠ x → x ∉ [L.xb, b0] := fun x h1 h2 hc => by
    simp only [List.mem_cons, List.mem_nil_iff, or_false] at hc
    rcases hc with e | e
    · exact h1 e
    · exact h2 e.symm
  have nd : (L.newX b).all.Nodup := by
    have e0 : L.all = [L.cb, L.rsb, L.hb, L.ab, L.wb, L.lb, L.xb] ++ b0 :: L.rbs := by simp [HL.all, HL.fp, hx0]
    have e1 : (L.newX b).all = [L.cb, L.rsb, L.hb, L.ab, L.wb, L.lb, L.xb] ++ b :: L.rbs := by simp [HL.all, HL.fp, HL.newX]
    rcases hb with rfl | hb
    · rw [e1, ← e0]; exact h.nd
    · have hd := h.nd
      rw [e0, List.perm_middle.nodup_iff, List.nodup_cons] at hd
      rw [e1, List.perm_middle.nodup_iff, List.nodup_cons]
      refine ⟨fun hc => ?_, hd.2⟩
      have : b ∈ L.all := by
        rw [e0]
        rcases List.mem_append.1 hc with hc | hc
        · exact List.mem_append.2 (.inl hc)
        · exact List.mem_append.2 (.inr (List.mem_cons_of_mem _ hc))
      have := all_lt h this
      omega
  exact { h := h.h.fr hf (g _ p4 m1), a := h.a.fr hf (g _ q3 m2) (g _ r2 m3), c := h.c.fr hf (g _ (Ne.symm y1) m6), r := h.r.fr hf (g _ (Ne.symm y2) m7),
          rr := fun j rb r' hj hr' => (h.rr j rb r' hj hr').fr hf (g _ (h.rapart (List.mem_of_getElem? hj)).2.2.2.2.1 (fun e => m8 (by rw [e]; exact List.mem_of_getElem? hj))),
          lr := h.lr.fr hf (g _ t1 m4), x := hx, nd := nd, n1 := h.n1, n2 := h.n2, n3 := h.n3, t := h.t, e := h.e }
theorem HI.roomed {s : HS} {A : Rg} {z : Int → Int} (h : HI s A z) {l' : List (Int × Int)} (hR : Runs s.ws.length s.edge l') (ho : ∀ c ∈ (A none).all, Off c (z c) l') : HI { s with x := { s.x with l := l' } } A z := by
  obtain ⟨a1, a2, a3, a4, a5, a6, a7, a8, a9, a10, a11, a12, a13, a14, a15, a16⟩ := id h
  obtain ⟨r1, r2⟩ := runs_iff.1 hR
  exact { ring := a1, lring := a2, out := a3, pos := a4, inn := a5, linn := a6, apart := a7, top1 := a8, top2 := a9, edge := a10, len := a11, nrs := a12, cls := a13, runs := r1, rap := r2, rlarge := fun x hx c hc => ho c hc x hx }
theorem HI.theRuns {s : HS} {A : Rg} {z : Int → Int} (h : HI s A z) : Runs s.ws.length s.edge s.x.l := runs_iff.2 ⟨h.runs, h.rap⟩
theorem HI.swept {s : HS} {A : Rg} {z : Int → Int} (h : HI s A z) {c n : Int} {W : List Int} (hW : (A none).W = c :: W) (hn : 1 ≤ n) (hnz : n ≤ z c) (u' : Int) :
    HI (s.swept c n u') (A.up none ⟨W, (A none).F, (A none).G, (A none).B⟩) z ∧ Off c n s.x.l ∧ Same s.ws (ct s.ws c) (A none).all := by
  obtain ⟨h1, h2, h3, -⟩ := h.lring.drop hW
  have hsub : ∀ x ∈ (⟨W, (A none).F, (A none).G, (A none).B⟩ : Rows).all, x ∈ (A none).all := by
    intro x hx
    simp only [Rows.all, hW, List.cons_append, List.mem_cons]
    exact .inr hx
  have hc : c ∈ (A none).all := by simp [Rows.all, hW]
  have hoff : Off c n s.x.l := fun x hx => by
    have := h.rlarge x hx c hc
    omega
  have g1 := h.ringL (r' := s.lg.dropped s.ws) u' h3 h2 hsub
  have hnd := h.lring.cells.nodup
  have hbd := h.linn c hc
  refine ⟨?_, hoff, h3⟩
  have g2 := g1.roomed (l' := giveAt s.x.l (spotOf s.x.l c) c n) ?_ ?_
  · exact g2
  · show Runs (ct s.ws c).length s.edge _
    rw [ct_len]
    exact giveAt_runs hn (by omega) hbd.1 h.theRuns (spotOf_spot hn h.theRuns hoff)
  · intro c' hc'
    rw [Rg.up_same] at hc'
    have hne : c' ≠ c := by
      rintro rfl
      simp only [Rows.all, hW, List.cons_append, List.nodup_cons] at hnd
      exact hnd.1 hc'
    have hp := h.pos none c' (hsub c' hc')
    have hap := h.apart none c none c' hc (hsub c' hc') (.inr (Ne.symm hne))
    simp only [ln] at hp hap
    refine giveAt_off (by omega) hn (by omega) hbd.1 h.theRuns (spotOf_spot hn h.theRuns hoff) (fun x hx => ?_) (by omega)
    have := h.rlarge x hx c' (hsub c' hc')
    omega
theorem hSweepNo (L : HL) (s : HS) (A : Rg) (z : Int → Int) (w : World) (hH : HRep w L s) (hI : HI s A z) (hW : (A none).W = []) :
    Calls Tryz.prog 77 #[.pointer (some ⟨L.hb, 0, none⟩)] w fun e w' => e = .returned (.bool false) ∧ w = w' := by
  have h0 : s.lg.w = 0 := by rw [hI.lring.nw, hW]; rfl
  obtain ⟨-, -, -, c3, -, -, -, -⟩ := hH.reads
  have hR := hH.lr
  have H0 := hid h0
  clear h0
  go_enter Tryz.func77, Tryz.ntmps77
  go_wp2_with fail
  refine (rDropNone L.lb L.ab s.lg w hR H0.out).mono ?_
  rintro e w' ⟨rfl, rfl⟩
  go_wp2_with fail
  go_ret
  exact ⟨rfl, rfl⟩
def SweepPost (L : HL) (s : HS) (b0 : Nat) (c n : Int) (w : World) (e : Ending) (w' : World) : Prop :=
  e = .returned (.bool true) ∧ (∃ b u', (s.u ≤ u' ∧ u' ≤ s.u + 5) ∧ (b = b0 ∨ w.heap.size ≤ b) ∧ HRep w' (L.newX b) (s.swept c n u')) ∧ Fr L.fp w w'
set_option maxHeartbeats 3200000 in
set_option maxRecDepth 100000 in
theorem hSweepYes (L : HL) (s : HS) (A : Rg) (z : Int → Int) (c : Int) (W : List Int) (k n a m : Int) (b0 : Nat) (w : World) (hH : HRep w L s) (hI : HI s A z) (hX : XOk s) (hx0 : L.xlbs = [b0]) (hW : (A none).W = c :: W)
    (hp : gw s.ws c = packed k n a m) (hd : Hd k n a m) (hnz : n + 3 ≤ z c) :
    Calls Tryz.prog 77 #[.pointer (some ⟨L.hb, 0, none⟩)] w (SweepPost L s b0 c (n + 3) w) := by
  obtain ⟨d1, d2, d3, d4, d5, d6⟩ := hI.lring.drop hW
  have hs0 := hd.s0
  obtain ⟨i1, i2, i3⟩ := hI.swept hW (show 1 ≤ n + 3 by omega) hnz 0
  have hc : c ∈ (A none).all := by simp [Rows.all, hW]
  have hbc := hI.linn c hc
  have hbd := hI.bound hc
  have hlen := hI.len
  have hrl := hI.runs_len
  have hRun := hI.theRuns
  have hw1 : 1 ≤ s.lg.w := by rw [hI.lring.nw, hW]; simp
  have hhead : gw (ct s.ws c) c = packed k n a m := by
    have := (hI.holds (s' := { s with ws := ct s.ws c }) (z := z) i3 hc (hI.linksApart (q := none) hc)).head
    exact this.trans hp
  obtain ⟨-, t2, t3⟩ : True ∧ s.x.first = s.edge ∧ s.x.first + s.x.places = s.ws.length := ⟨trivial, hX.1, hX.2⟩
  obtain ⟨-, -, -, c3, -, -, -, -⟩ := hH.reads
  obtain ⟨⟨-, -, -, -, -, -⟩, ⟨q1, q2, -, -, -⟩, ⟨r1, -, -, -⟩, -, -, -⟩ := hH.apart
  have HD := hid (show Okc s.ws s.lg.first ∧ Okc s.ws (gw s.ws (s.lg.first + 2)) ∧ Okc s.ws (gw s.ws (s.lg.first + 1)) by rw [d1]; exact ⟨d4, d5, d6⟩)
  have HP := hid hhead
  have HT := hid (show s.x.first = s.edge ∧ s.x.first + s.x.places = s.ws.length from ⟨t2, t3⟩)
  have HRun := hid hRun
  have HOff := hid i2
  have HX0 := hid hx0
  have D1 := hid d1
  have hfpl : ∀ x ∈ [L.ab, L.wb, L.lb], x ∈ L.fp := by intro x hx; simp at hx; rcases hx with rfl | rfl | rfl <;> simp [HL.fp]
  clear d1 d2 d3 d4 d5 d6 i1 i2 i3 hp hhead t2 t3 hx0 hRun hX hW
  go_enter Tryz.func77, Tryz.ntmps77
  go_wp2_with fail
  refine (rDrop L.lb L.ab L.wb s.lg s.ws s.u w hH.lr hH.a hw1 HD.out.1 HD.out.2.1 HD.out.2.2 (Ne.symm q2) (Ne.symm r1)).mono ?_
  rintro e w1 ⟨rfl, hA1, hR1, hF1⟩
  rw [D1.out] at hA1 ⊢
  have hH1 := hH.large hF1 (by simp) hA1 hR1
  have hF1' := hF1.here hfpl
  obtain ⟨s1, hs1⟩ : ∃ s1 : HS, s1 = { s with ws := ct s.ws c, u := s.u + 4, lg := s.lg.dropped s.ws } := ⟨_, rfl⟩
  rw [← hs1] at hH1
  have e1 : s1.ws.length = s.ws.length := by rw [hs1]; exact ct_len _ _
  have e2 : gw s1.ws c = packed k n a m := by rw [hs1]; exact HP.out
  have E1 := hid e1
  have E2 := hid e2
  have HS1 := hid hs1
  have hlt1 : c < s1.ws.length := by omega
  clear hF1 hA1 hR1 c3 hs1 e1 e2
  go_wp2_with fail
  refine (hCell L s1 c k n a m _ hH1 (by omega) hlt1 E2.out hd).mono ?_
  rintro e w2 ⟨rfl, hH2, hF2⟩
  have hF2' := hF1'.trans (hF2.here (fpab L))
  have C1 := Blk.new w2 [.int .i64 k, .int .i64 n, .int .i64 a, .int .i64 m] 60
  have hH3 := hH2.alloc (.cells #[.int .i64 k, .int .i64 n, .int .i64 a, .int .i64 m] 60)
  have hF3' := hF2'.alloc (.cells #[.int .i64 k, .int .i64 n, .int .i64 a, .int .i64 m] 60)
  obtain ⟨-, -, -, -, c4, -, -, -⟩ := hH3.reads
  have v1 := C1.cell (i := 1) rfl
  have hw3 : IntKind.i64.wrap (n + 3) = n + 3 := by have := hd.s1; rw [IntKind.wrap_i64]; omega
  have hn32 := hd.s1
  clear hH2 hH1 hF1' hF2'
  go_wp2_with fail
  have hX3 := hH3.x
  obtain ⟨sv, xs, hx | ⟨b, cap, rest, eb, esv, hxb, hxl, hxc⟩⟩ := hX3
  · exact absurd hx.1 (by rw [HX0.out]; simp)
  obtain rfl : b = b0 := by have := HX0.out; rw [eb] at this; simpa using this
  have HXA : Hid (XAt (w2.alloc (.cells #[.int .i64 k, .int .i64 n, .int .i64 a, .int .i64 m] 60)).drew L.xb b s.x.first s.x.places s.x.l rest cap) := by
    have hx1 : (s1.tick 1).x = s.x := by rw [HS1.out]; rfl
    rw [hx1] at xs hxb hxl esv
    rw [esv] at xs
    exact ⟨xs.drew, hxb.drew, hxl, hxc⟩
  obtain ⟨w3, hw3e⟩ : ∃ w3, w3 = w2.alloc (.cells #[.int .i64 k, .int .i64 n, .int .i64 a, .int .i64 m] 60) := ⟨_, rfl⟩
  rw [← hw3e] at HXA hH3 hF3' c4 v1 ⊢
  have hsz := hF3'.size
  clear hw3e C1 xs hxb hxl hxc esv
  refine wp_region_still_tail 8 (by kernel_rfl) (by kernel_rfl) ?_
  simp only [List.take_succ_cons, List.take_zero, List.drop_succ_cons, List.drop_zero]
  change wpStill _ _ (w3.drew) (fun a' => wpList _ _ _ _ a' (w3.drew)) _ _
  repeat still_step
  refine wpStill_nil ?_
  go_wp2_with fail
  refine (xGive L.xb b s.x.first s.x.places c (n + 3) s.x.l rest cap w3.drew HXA.out hrl (by rw [HT.out.2, HT.out.1]; exact HRun.out) HOff.out (by omega) (by rw [HT.out.1]; exact hbc.1) (by rw [HT.out.2]; omega) (by have := HT.out.1; have := hI.edge; have := hI.top1; have := hI.top2; omega) (by rw [HT.out.2]; omega)).mono ?_
  rintro e w4 ⟨b', rest', cap', rfl, hXA, hb', hF4⟩
  have hH5 := (hH3.drew).newX (x' := ⟨s.x.first, s.x.places, giveAt s.x.l (spotOf s.x.l c) c (n + 3)⟩) (b0 := b) (b := b') HX0.out hF4 hb' ⟨_, hXA.s, .inr ⟨b', cap', rest', rfl, rfl, hXA.c, hXA.len, hXA.cb⟩⟩
  have hF5 : Fr L.fp w w4 := (hF3'.drew).trans (hF4.here (by intro x hx; simp at hx; rcases hx with rfl | rfl; (· simp [HL.fp]); (· simp [HL.fp, HX0.out])))
  have HH5 := hid hH5
  clear hH5 hXA hF4 hH3 c4 v1
  go_wp2_with fail
  go_ret
  refine ⟨rfl, ⟨b', s.u + 4 + 1, by omega, ?_, ?_⟩, hF5⟩
  · rcases hb' with h | h
    · exact .inl h
    · exact .inr (Nat.le_trans hsz h)
  · refine HH5.out.cast ?_
    rw [HS1.out]; rfl
end Go.Proofs.YtklnpooninbogaaGreat
