
import Derived.Test.YtklnpooninbogaaGreatMHNext2
import Derived.Test.YtklnpooninbogaaGreatMMHNew
import Derived.Test.YtklnpooninbogaaGreatMMHeapAlloc
namespace Go.Proofs.YtklnpooninbogaaGreat
open Go Go.Proofs Go.RowKit
set_option maxHeartbeats 800000 in
theorem rBeginNo (rb ab : Nat) (r : RS) (w : World) (hR : RRep w rb ab r) (h1 : 1 ≤ r.f + r.g) :
    Calls Tryz.prog 92 #[.pointer (some ⟨rb, 0, none⟩)] w fun e w' => e = .returned (.int .i64 18) ∧ RRep w' rb ab r ∧ Fr [rb] w w' := by
  obtain ⟨c0, c1, c2, c3, c4, c5, c6⟩ := hR.reads
  have hle := hR.le
  unfold RS.tot at hle
  have h2 : 0 < (r.f : Int) + r.g := by omega
  go_enter Tryz.func92, Tryz.ntmps92
  go_wp2_with fail
  go_quiet (fail)
  go_wp2_with fail
  go_ret
  exact ⟨rfl, hR.drewN nq, (Fr.refl _ w).drewN nq⟩
set_option maxHeartbeats 800000 in
theorem rEndNo (rb ab : Nat) (r : RS) (w : World) (hR : RRep w rb ab r) (h1 : 1 ≤ r.g) :
    Calls Tryz.prog 154 #[.pointer (some ⟨rb, 0, none⟩)] w fun e w' => e = .returned (.int .i64 18) ∧ RRep w' rb ab r ∧ Fr [rb] w w' := by
  obtain ⟨c0, c1, c2, c3, c4, c5, c6⟩ := hR.reads
  have h2 : 0 < (r.g : Int) := by omega
  go_enter Tryz.func154, Tryz.ntmps154
  go_wp2_with fail
  go_ret
  exact ⟨rfl, hR, Fr.refl _ w⟩
def RS.beginT (r : RS) : RS := if r.f = 0 ∧ r.g = 0 then r.begun else r
def RS.endT (r : RS) : RS := if r.g = 0 then r.ended else r
theorem rBeginT (rb ab : Nat) (r : RS) (w : World) (hR : RRep w rb ab r) :
    Calls Tryz.prog 92 #[.pointer (some ⟨rb, 0, none⟩)] w fun e w' => (∃ v, e = .returned v) ∧ RRep w' rb ab r.beginT ∧ Fr [rb] w w' := by
  by_cases h : r.f = 0 ∧ r.g = 0
  · refine (rBegin rb ab r w hR h.1 h.2).mono ?_
    rintro e w' ⟨rfl, h1, h2⟩
    unfold RS.beginT; rw [if_pos h]
    exact ⟨⟨_, rfl⟩, h1, h2⟩
  · refine (rBeginNo rb ab r w hR (by omega)).mono ?_
    rintro e w' ⟨rfl, h1, h2⟩
    unfold RS.beginT; rw [if_neg h]
    exact ⟨⟨_, rfl⟩, h1, h2⟩
theorem rEndT (rb ab : Nat) (r : RS) (w : World) (hR : RRep w rb ab r) :
    Calls Tryz.prog 154 #[.pointer (some ⟨rb, 0, none⟩)] w fun e w' => (∃ v, e = .returned v) ∧ RRep w' rb ab r.endT ∧ Fr [rb] w w' := by
  by_cases h : r.g = 0
  · refine (rEnd rb ab r w hR h).mono ?_
    rintro e w' ⟨rfl, h1, h2⟩
    unfold RS.endT; rw [if_pos h]
    exact ⟨⟨_, rfl⟩, h1, h2⟩
  · refine (rEndNo rb ab r w hR (by omega)).mono ?_
    rintro e w' ⟨rfl, h1, h2⟩
    unfold RS.endT; rw [if_neg h]
    exact ⟨⟨_, rfl⟩, h1, h2⟩
theorem ringAt_uniq {w : World} {L : HL} {s : HS} (h : HRep w L s) : ∀ x r r', RingAt L s x r → RingAt L s x r' → r = r' := by
  intro x r r' h1 h2
  rcases h1 with ⟨k, a, b⟩ | ⟨a, b⟩
  · rcases h2 with ⟨k', a', b'⟩ | ⟨a', b'⟩
    · have := h.rinj a a'
      subst this
      rw [b] at b'; exact Option.some.inj b'
    · exact absurd a' ((h.rapart (List.mem_of_getElem? a)).2.2.2.1)
  · rcases h2 with ⟨k', a', b'⟩ | ⟨a', b'⟩
    · exact absurd a ((h.rapart (List.mem_of_getElem? a')).2.2.2.1)
    · exact b.symm.trans b'
def BeginPost (L : HL) (s : HS) (w : World) (e : Ending) (w' : World) : Prop :=
  (e = .returned (.int .i64 18) ∧ HRep w' L s ∧ Fr L.fp w w' ∧ HasCol L s [1, 2]) ∨
    (e = .returned (.int .i64 0) ∧ HRep w' L { s with rs := s.rs.map RS.beginT, lg := s.lg.beginT, parity := 1 - s.parity } ∧ Fr L.fp w w' ∧ ∀ x r, RingAt L s x r → r.f = 0 ∧ r.g = 0)
set_option maxHeartbeats 1600000 in
theorem hBegin (L : HL) (s : HS) (w : World) (hH : HRep w L s) (p0 : 0 ≤ s.parity) (p1 : s.parity ≤ 1) :
    Calls Tryz.prog 44 #[.pointer (some ⟨L.hb, 0, none⟩)] w (BeginPost L s w) := by
  have hB := Blk.new w [.int .i64 1, .int .i64 2] 3
  have hn := new_apart hH
  have hH0 := hH.alloc (.cells #[.int .i64 1, .int .i64 2] 3)
  go_enter Tryz.func44, Tryz.ntmps44
  go_wp2_with fail
  refine (hEach L s 92 RS.beginT [1, 2] w.heap.size 2 _ hH0 (by simp) (by simp) ?c1 hn (ringAt_uniq hH) (enters_of Tryz.func92 (by kernel_rfl) rfl) (fun rb r w hR => rBeginT rb L.ab r w hR)).mono ?_
  case c1 =>
    refine ⟨by simp, ?_⟩
    intro i v hv
    exact hB.cell hv
  rintro e w1 (⟨rfl, hH1, hF1, hc⟩ | ⟨rfl, hH1, hF1, hc⟩)
  · go_wp2_with fail
    go_ret
    exact .inl ⟨rfl, hH1, (((Fr.refl [] w).alloc _).trans hF1).here (by simp), hc⟩
  · have c7 := hH1.reads.2.2.2.2.2.2.2
    have f7 := hH1.h.frozen 7
    go_wp2_with fail
    go_ret
    refine .inr ⟨rfl, ?_, ?_, ?_⟩
    · exact hH1.setParity (1 - s.parity)
    · exact ((((Fr.refl L.fp w).alloc _).trans hF1).set (by simp [HL.fp]) _)
    · intro x r hr
      exact ⟨hc x r hr 1 (by simp), hc x r hr 2 (by simp)⟩
def EndPost (L : HL) (s : HS) (w : World) (e : Ending) (w' : World) : Prop :=
  (e = .returned (.int .i64 18) ∧ HRep w' L s ∧ Fr L.fp w w' ∧ HasCol L s [2]) ∨
    (e = .returned (.int .i64 0) ∧ HRep w' L { s with rs := s.rs.map RS.endT, lg := s.lg.endT } ∧ Fr L.fp w w' ∧ ∀ x r, RingAt L s x r → r.g = 0)
set_option maxHeartbeats 1600000 in
theorem hEnd (L : HL) (s : HS) (w : World) (hH : HRep w L s) :
    Calls Tryz.prog 117 #[.pointer (some ⟨L.hb, 0, none⟩)] w (EndPost L s w) := by
  have hB := Blk.new w [.int .i64 2] 3
  have hn := new_apart hH
  have hH0 := hH.alloc (.cells #[.int .i64 2] 3)
  go_enter Tryz.func117, Tryz.ntmps117
  go_wp2_with fail
  refine (hEach L s 154 RS.endT [2] w.heap.size 1 _ hH0 (by simp) (by simp) ?c1 hn (ringAt_uniq hH) (enters_of Tryz.func154 (by kernel_rfl) rfl) (fun rb r w hR => rEndT rb L.ab r w hR)).mono ?_
  case c1 =>
    refine ⟨by simp, ?_⟩
    intro i v hv
    exact hB.cell hv
  rintro e w1 (⟨rfl, hH1, hF1, hc⟩ | ⟨rfl, hH1, hF1, hc⟩)
  · go_wp2_with fail
    go_ret
    exact .inl ⟨rfl, hH1, (((Fr.refl [] w).alloc _).trans hF1).here (by simp), hc⟩
  · go_wp2_with fail
    go_ret
    refine .inr ⟨rfl, hH1, ((Fr.refl L.fp w).alloc _).trans hF1, fun x r hr => hc x r hr 2 (by simp)⟩
theorem HI.mapped {s : HS} {A : Rg} {z : Int → Int} (h : HI s A z) (f : RS → RS) (g : Rows → Rows) (hg : ∀ R, ∀ x, x ∈ (g R).all ↔ x ∈ R.all) (hf : ∀ q r, RI s.ws r (A q) → RI s.ws (f r) (g (A q))) :
    HI { s with rs := s.rs.map f, lg := f s.lg } (fun q => g (A q)) z := by
  obtain ⟨a1, a2, a3, a4, a5, a6, a7, a8, a9, a10, a11, a12, a13, a14, a15, a16⟩ := h
  refine { ring := fun k r hr => ?_, lring := hf none _ a2, out := fun k hk => ?_, pos := fun q c hc => a4 q c ((hg _ c).1 hc), inn := fun k c hc => a5 k c ((hg _ c).1 hc), linn := fun c hc => a6 c ((hg _ c).1 hc), apart := fun q c q' c' hc hc' => a7 q c q' c' ((hg _ c).1 hc) ((hg _ c').1 hc'), top1 := a8, top2 := a9, edge := a10, len := a11, nrs := by simpa using a12, cls := a13, runs := a14, rap := a15, rlarge := fun x hx c hc => a16 x hx c ((hg _ c).1 hc) }
  · simp only [List.getElem?_map, Option.map_eq_some_iff] at hr
    obtain ⟨r0, h0, rfl⟩ := hr
    exact hf (some k) r0 (a1 k r0 h0)
  · have h0 := a3 k (by simpa using hk)
    cases e : (g (A (some k))).all with
    | nil => rfl
    | cons x l =>
      have := (hg (A (some k)) x).1 (by rw [e]; simp)
      rw [h0] at this; cases this
def Rows.begun (R : Rows) : Rows := if R.F = [] ∧ R.G = [] then ⟨R.W, R.B, [], []⟩ else R
def Rows.ended (R : Rows) : Rows := if R.G = [] then ⟨R.W ++ R.F, [], [], R.B⟩ else R
theorem RI.beginT {ws : List Int} {r : RS} {R : Rows} (h : RI ws r R) : RI ws r.beginT R.begun := by
  unfold RS.beginT Rows.begun
  by_cases e : R.F = [] ∧ R.G = []
  · rw [if_pos e, if_pos ⟨by rw [h.nf, e.1]; rfl, by rw [h.ng, e.2]; rfl⟩]
    exact h.begin e.1 e.2
  · rw [if_neg e, if_neg]
    · exact h
    · rintro ⟨h1, h2⟩
      exact e ⟨List.length_eq_zero_iff.1 (h.nf.symm.trans h1), List.length_eq_zero_iff.1 (h.ng.symm.trans h2)⟩
theorem RI.endT {ws : List Int} {r : RS} {R : Rows} (h : RI ws r R) : RI ws r.endT R.ended := by
  unfold RS.endT Rows.ended
  by_cases e : R.G = []
  · rw [if_pos e, if_pos (by rw [h.ng, e]; rfl)]
    exact h.end' e
  · rw [if_neg e, if_neg]
    · exact h
    · intro h1
      exact e (List.length_eq_zero_iff.1 (h.ng.symm.trans h1))
theorem Rows.begun_all (R : Rows) (x : Int) : x ∈ R.begun.all ↔ x ∈ R.all := by
  unfold Rows.begun
  split
  · rename_i h
    simp [Rows.all, h.1, h.2]
  · exact Iff.rfl
theorem Rows.ended_all (R : Rows) (x : Int) : x ∈ R.ended.all ↔ x ∈ R.all := by
  unfold Rows.ended
  split
  · rename_i h
    simp [Rows.all, h]
  · exact Iff.rfl
theorem HI.parity {s : HS} {A : Rg} {z : Int → Int} (h : HI s A z) (p : Int) : HI { s with parity := p } A z := h.of rfl rfl rfl rfl rfl rfl rfl
theorem ringAt_rows {w : World} {L : HL} {s : HS} {A : Rg} {z : Int → Int} (_h : HRep w L s) (hI : HI s A z) {x : Nat} {r : RS} (hr : RingAt L s x r) : ∃ q, RI s.ws r (A q) ∧ ((x = L.lb ∧ q = none) ∨ ∃ k, L.rbs[k]? = some x ∧ q = some k) := by
  rcases hr with ⟨k, a, b⟩ | ⟨a, b⟩
  · exact ⟨some k, hI.ring k r b, .inr ⟨k, a, rfl⟩⟩
  · exact ⟨none, b ▸ hI.lring, .inl ⟨a, rfl⟩⟩
theorem rows_ringAt {w : World} {L : HL} {s : HS} {A : Rg} {z : Int → Int} (h : HRep w L s) (hI : HI s A z) (q : Option Nat) (hq : (A q).all ≠ []) : ∃ x r, RingAt L s x r ∧ RI s.ws r (A q) ∧ ((x = L.lb ∧ q = none) ∨ ∃ k, L.rbs[k]? = some x ∧ q = some k) := by
  cases q with
  | none => exact ⟨L.lb, s.lg, .inr ⟨rfl, rfl⟩, hI.lring, .inl ⟨rfl, rfl⟩⟩
  | some k =>
    have hk : k < s.rs.length := by
      rcases Nat.lt_or_ge k s.rs.length with h | h
      · exact h
      · exact absurd (hI.out k h) hq
    obtain ⟨rb, r, e1, e2, e3, e4⟩ := h.at (by rw [← hI.nrs]; exact hk)
    exact ⟨rb, r, .inl ⟨k, e1, e2⟩, hI.ring k r e2, .inr ⟨k, e1, rfl⟩⟩
def NoFG (A : Rg) : Prop := ∀ q, (A q).F = [] ∧ (A q).G = []
def NoG (A : Rg) : Prop := ∀ q, (A q).G = []
def Rg.begun (A : Rg) : Rg := fun q => ⟨(A q).W, (A q).B, [], []⟩
def Rg.ended (A : Rg) : Rg := fun q => ⟨(A q).W ++ (A q).F, [], [], (A q).B⟩
def BeginRows (L : HL) (s : HS) (A : Rg) (z : Int → Int) (w : World) (e : Ending) (w' : World) : Prop :=
  Fr L.fp w w' ∧ ((¬ NoFG A ∧ e = .returned (.int .i64 18) ∧ HRep w' L s) ∨
    (NoFG A ∧ e = .returned (.int .i64 0) ∧ ∃ s', HRep w' L s' ∧ HI s' A.begun z ∧ s'.ws = s.ws ∧ s'.cls = s.cls ∧ s'.edge = s.edge ∧ s'.top = s.top ∧ s'.x = s.x ∧ s'.u = s.u ∧ s'.parity = 1 - s.parity))
theorem hBeginRows (L : HL) (s : HS) (A : Rg) (z : Int → Int) (w : World) (hH : HRep w L s) (hI : HI s A z) (p0 : 0 ≤ s.parity) (p1 : s.parity ≤ 1) :
    Calls Tryz.prog 44 #[.pointer (some ⟨L.hb, 0, none⟩)] w (BeginRows L s A z w) := by
  refine (hBegin L s w hH p0 p1).mono ?_
  rintro e w1 (⟨rfl, hH1, hF1, x, r, c, hr, hc, hn⟩ | ⟨rfl, hH1, hF1, hc⟩)
  · refine ⟨hF1, .inl ⟨?_, rfl, hH1⟩⟩
    intro hno
    obtain ⟨q, hR, _⟩ := ringAt_rows hH hI hr
    have h1 := hR.nf
    have h2 := hR.ng
    rw [(hno q).1] at h1
    rw [(hno q).2] at h2
    simp at h1 h2
    simp at hc
    rcases hc with rfl | rfl <;> simp only [RS.cnt] at hn <;> omega
  · have hno : NoFG A := by
      intro q
      by_cases hq : (A q).all = []
      · simp [Rows.all] at hq; exact ⟨hq.2.1, hq.2.2.1⟩
      · obtain ⟨x, r, hr, hR, _⟩ := rows_ringAt hH hI q hq
        obtain ⟨h1, h2⟩ := hc x r hr
        exact ⟨List.length_eq_zero_iff.1 (hR.nf.symm.trans h1), List.length_eq_zero_iff.1 (hR.ng.symm.trans h2)⟩
    refine ⟨hF1, .inr ⟨hno, rfl, _, hH1, ?_, rfl, rfl, rfl, rfl, rfl, rfl, rfl⟩⟩
    have h2 := (hI.mapped RS.beginT Rows.begun Rows.begun_all (fun q r h => h.beginT)).parity (1 - s.parity)
    have e : (fun q => (A q).begun) = A.begun := by
      funext q
      simp only [Rows.begun, Rg.begun, if_pos (hno q)]
    rw [e] at h2
    exact h2
def EndRows (L : HL) (s : HS) (A : Rg) (z : Int → Int) (w : World) (e : Ending) (w' : World) : Prop :=
  Fr L.fp w w' ∧ ((¬ NoG A ∧ e = .returned (.int .i64 18) ∧ HRep w' L s) ∨
    (NoG A ∧ e = .returned (.int .i64 0) ∧ ∃ s', HRep w' L s' ∧ HI s' A.ended z ∧ s'.ws = s.ws ∧ s'.cls = s.cls ∧ s'.edge = s.edge ∧ s'.top = s.top ∧ s'.x = s.x ∧ s'.u = s.u ∧ s'.parity = s.parity))
theorem hEndRows (L : HL) (s : HS) (A : Rg) (z : Int → Int) (w : World) (hH : HRep w L s) (hI : HI s A z) :
    Calls Tryz.prog 117 #[.pointer (some ⟨L.hb, 0, none⟩)] w (EndRows L s A z w) := by
  refine (hEnd L s w hH).mono ?_
  rintro e w1 (⟨rfl, hH1, hF1, x, r, c, hr, hc, hn⟩ | ⟨rfl, hH1, hF1, hc⟩)
  · refine ⟨hF1, .inl ⟨?_, rfl, hH1⟩⟩
    intro hno
    obtain ⟨q, hR, _⟩ := ringAt_rows hH hI hr
    have h2 := hR.ng
    rw [hno q] at h2
    simp at h2
    simp at hc
    subst hc
    simp only [RS.cnt] at hn
    omega
  · have hno : NoG A := by
      intro q
      by_cases hq : (A q).all = []
      · simp [Rows.all] at hq; exact hq.2.2.1
      · obtain ⟨x, r, hr, hR, _⟩ := rows_ringAt hH hI q hq
        exact List.length_eq_zero_iff.1 (hR.ng.symm.trans (hc x r hr))
    refine ⟨hF1, .inr ⟨hno, rfl, _, hH1, ?_, rfl, rfl, rfl, rfl, rfl, rfl, rfl⟩⟩
    have h2 := hI.mapped RS.endT Rows.ended Rows.ended_all (fun q r h => h.endT)
    have e : (fun q => (A q).ended) = A.ended := by
      funext q
      simp only [Rows.ended, Rg.ended, if_pos (hno q)]
    rw [e] at h2
    exact h2
end Go.Proofs.YtklnpooninbogaaGreat
