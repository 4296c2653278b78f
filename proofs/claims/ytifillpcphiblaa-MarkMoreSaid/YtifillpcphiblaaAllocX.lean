import Derived.Test.YtifillpcphiblaaMXDel
namespace Go.Proofs.Ytifillpcphiblaa
open Go Go.Proofs Go.RowKit

/-- Where an allocation's cell came from. -/
def How (s s' : HS) (A : Rg) (z z' : Int → Int) (q : Option Nat) (p : Int) (n : Nat) : Prop :=
  (∃ j W, q = some j ∧ (A (some j)).W = p :: W ∧ s'.top = s.top ∧ s'.x = s.x ∧ z' = z) ∨
  (∃ j c, q = some j ∧ (A (some j)).W = [] ∧ s.cls[j]? = some c ∧ p = s.top ∧ c + 3 ≤ s.edge - s.top ∧ s'.top = s.top + (c + 3) ∧ s'.x = s.x ∧ z' = z) ∨
  (q = none ∧ ∃ l1 m l2, s.x.l = l1 ++ (p, m) :: l2 ∧ (∀ y ∈ l1, y.2 < (n : Int) + 3) ∧ (n : Int) + 3 ≤ m ∧ s'.x = { s.x with l := cutRun l1 p m (n + 3) l2 } ∧ s'.top = s.top ∧ z' = upz z p (n + 3))
/-- There is no cell for an object of n words. -/
def NoCell (s : HS) (A : Rg) (n : Nat) : Prop :=
  (ixGe s.cls n = -1 ∧ ∀ y ∈ s.x.l, y.2 < (n : Int) + 3) ∨ ∃ (j : Nat) (c : Int), ixGe s.cls n = j ∧ (A (some j)).W = [] ∧ s.cls[j]? = some c ∧ s.edge - s.top < c + 3

def AllocPostX (L : HL) (s : HS) (A : Rg) (z : Int → Int) (word : Int) (n : Nat) (w : World) (e : Ending) (w' : World) : Prop :=
  Fr L.fp w w' ∧ ((e = .returned (.tuple #[.int .i64 0, .int .i64 2]) ∧ HRep w' L s ∧ NoCell s A n) ∨
    ∃ q p s' A' z', e = .returned (.tuple #[.int .i64 p, .int .i64 0]) ∧ HRep w' L s' ∧ Alc s s' A A' z z' q p word n ∧ How s s' A z z' q p n)

theorem hAllocLargeX (L : HL) (s : HS) (A : Rg) (z : Int → Int) (k a : Int) (n : Nat) (w : World) (hH : HRep w L s) (hI : HI s A z) (hd : Hd k n a s.parity) (hk : ixGe s.cls n = -1) :
    Calls Try.prog 22 #[.pointer (some ⟨L.hb, 0, none⟩), .int .i64 k, .int .i64 a, .int .i64 n] w (AllocPostX L s A z (packed k n a s.parity) n w) := by
  have hn := hd.s1
  have hrl := hI.runs_len
  rcases run_cases s.x.l (n + 3) with hno | ⟨l1, p, m, l2, hx, hno, hm⟩
  · refine (hAllocFull L s k a n w hH hd (fun w hH => hCellNoRoom L s n w hH hk (by omega) (by omega) hrl hno)).mono ?_
    rintro e w' ⟨rfl, hH', hF⟩
    exact ⟨hF, .inl ⟨rfl, hH', .inl ⟨hk, hno⟩⟩⟩
  · obtain ⟨r1, r2, r3⟩ := hI.runs (p, m) (by rw [hx]; simp)
    simp only at r1 r2 r3
    have ht1 := hI.top1
    have ht2 := hI.top2
    obtain ⟨g1, g2, g3⟩ : (∀ u', HI (s.largeGrown p (cutRun l1 p m (n + 3) l2) u') (A.up none ((A none).addW p)) (upz z p (n + 3))) ∧ _ ∧ _ := ⟨fun u' => (hI.largeGrown hx (n := n + 3) (by omega) hm u').1, fun u' => (hI.largeGrown hx (n := n + 3) (by omega) hm u').2.1, (hI.largeGrown hx (n := n + 3) (by omega) hm 0).2.2⟩
    have hlen : (growW s.ws s.lg p).length = s.ws.length := growW_len _ _ _
    refine (hAlloc L s k a n p (fun s' => ∃ u' : Int, s' = { (s.largeGrown p (cutRun l1 p m (n + 3) l2) u') with u := u' + 1, lg := (s.lg.grown p).allocd (growW s.ws s.lg p) }) w hH hd ?_ ?_ (by omega) (by omega)).mono ?_
    · intro w hH
      refine (hCellLarge L s n p m l1 l2 w hH hk (by omega) (by omega) hrl hx hno hm (by omega) (by omega) (fun h => hI.lring.okFirst h) (hI.tot hI.lring)).mono ?_
      rintro e w' ⟨rfl, ⟨u', hH'⟩, hF⟩
      exact ⟨rfl, ⟨_, ⟨u', rfl⟩, hH'⟩, hF⟩
    · rintro s' ⟨u', rfl⟩
      exact hlen
    · rintro e w' ⟨rfl, ⟨s1, ⟨u', rfl⟩, hH'⟩, hF⟩
      have hW : ((A.up none ((A none).addW p)) none).W = p :: (A none).W := by rw [Rg.up_same]; rfl
      obtain ⟨-, h2⟩ := (g1 u').lTook hW
      rw [up_up, Rg.up_same] at h2
      refine ⟨hF, .inr ⟨none, p, _, _, _, rfl, hH', Alc.fin _ h2 ⟨(A none).W, rfl, .inr ⟨rfl, ?_, by simp⟩⟩ ?_ (fun q' c hc => ((g2 u') q' c hc).2) ?_ rfl rfl rfl hlen (by simp [hk]), .inr (.inr ⟨rfl, l1, m, l2, hx, hno, hm, rfl, rfl, rfl⟩)⟩⟩
      · intro hc
        rcases g3 none p hc with h | h <;> exact absurd rfl h
      · simp [ln, upz]
      · intro q' c hc _
        exact ⟨((g2 u') q' c hc).1.head, ((g2 u') q' c hc).1.body⟩

theorem hAllocClassX (L : HL) (s : HS) (A : Rg) (z : Int → Int) (k a : Int) (n j : Nat) (w : World) (hH : HRep w L s) (hI : HI s A z) (hd : Hd k n a s.parity) (hj : ixGe s.cls n = j) :
    Calls Try.prog 22 #[.pointer (some ⟨L.hb, 0, none⟩), .int .i64 k, .int .i64 a, .int .i64 n] w (AllocPostX L s A z (packed k n a s.parity) n w) := by
  have hn := hd.s1
  have ht1 := hI.top1
  have ht2 := hI.top2
  have he := hI.edge
  have hq : (some j : Option Nat) = if ixGe s.cls n = -1 then none else some (ixGe s.cls n).toNat := by rw [hj, if_neg (by omega)]; simp
  obtain ⟨c, hc, hnc⟩ : ∃ c, s.cls[j]? = some c ∧ (n : Int) ≤ c := by
    rcases ixGe_cases s.cls n with h | ⟨j', hlt, h, c, hc, hs⟩
    · omega
    · have : j = j' := by omega
      subst this
      exact ⟨c, hc, hs⟩
  have hjl : j < s.cls.length := (List.getElem?_eq_some_iff.1 hc).1
  obtain ⟨r, hr⟩ : ∃ r, s.rs[j]? = some r := ⟨_, List.getElem?_eq_getElem (by rw [hI.nrs]; exact hjl)⟩
  have hcb := hI.cls c (List.mem_of_getElem? hc)
  have hR := hI.ring j r hr
  have hln : ∀ z' x, ln s.cls z' (some j) x = c + 3 := fun z' x => by simp [ln, hc]
  have hlnz : ∀ q' x, ln s.cls z q' x = ln s.cls z q' x := fun _ _ => rfl
  by_cases hw : 1 ≤ r.w
  · obtain ⟨p, W, hW⟩ : ∃ p W, (A (some j)).W = p :: W := by
      have := hR.nw
      cases e : (A (some j)).W with
      | nil => rw [e] at this; simp at this; omega
      | cons p W => exact ⟨p, W, rfl⟩
    obtain ⟨h1, h2⟩ := hI.took hr hW
    have hp : p ∈ (A (some j)).all := by simp [Rows.all, hW]
    have hb := hI.bound hp
    rw [hln] at hb
    have htot : r.tot ≠ 0 := by unfold RS.tot; omega
    refine (hAlloc L s k a n p (fun s' => s' = s.took j r) w hH hd ?_ ?_ (by omega) (by omega)).mono ?_
    · intro w hH
      refine (hCellWhite L s n j r w hH hj hr hw (hR.okFirst htot).1).mono ?_
      rintro e w' ⟨rfl, hH', hF⟩
      rw [h1]
      exact ⟨rfl, ⟨_, rfl, hH'⟩, hF⟩
    · rintro s' rfl; rfl
    · rintro e w' ⟨rfl, ⟨s1, rfl, hH'⟩, hF⟩
      exact ⟨hF, .inr ⟨some j, p, _, _, _, rfl, hH', Alc.fin _ h2 ⟨W, rfl, .inl hW⟩ (by rw [hln]; omega) (fun q' c _ => rfl) (fun q' c _ _ => ⟨rfl, fun _ _ _ => rfl⟩) rfl rfl rfl rfl hq, .inl ⟨j, W, rfl, hW, rfl, rfl, rfl⟩⟩⟩
  · have hw0 : r.w = 0 := by omega
    have hWn : (A (some j)).W = [] := by
      have := hR.nw
      rw [hw0] at this
      exact List.length_eq_zero_iff.1 this.symm
    by_cases hfit : c + 3 ≤ s.edge - s.top
    · have hlen : (growW s.ws r s.top).length = s.ws.length := growW_len _ _ _
      have hrl : j < s.rs.length := (List.getElem?_eq_some_iff.1 hr).1
      refine (hAlloc L s k a n s.top (fun s' => ∃ du : Nat, s' = (s.grown j c r du).took j (r.grown s.top)) w hH hd ?_ ?_ (by omega) (by omega)).mono ?_
      · intro w hH
        refine (hCellGrow L s n j r c w hH hj hr hc hw0 hcb.1 hcb.2 hfit ht1 he (fun h => hR.okFirst h) (hI.tot hR)).mono ?_
        rintro e w' ⟨rfl, ⟨du, _, hH'⟩, hF⟩
        exact ⟨rfl, ⟨_, ⟨du, rfl⟩, hH'⟩, hF⟩
      · rintro s' ⟨du, rfl⟩; exact hlen
      · rintro e w' ⟨rfl, ⟨s1, ⟨du, rfl⟩, hH'⟩, hF⟩
        obtain ⟨g1, g2, g3⟩ := hI.grown hr hc hfit du
        have hr1 : (s.grown j c r du).rs[j]? = some (r.grown s.top) := by simp [HS.grown, hrl]
        have hW : ((A.up (some j) ((A (some j)).addW s.top)) (some j)).W = s.top :: [] := by rw [Rg.up_same]; simp [Rows.addW, hWn]
        obtain ⟨-, h2⟩ := g1.took hr1 hW
        rw [up_up, Rg.up_same] at h2
        refine ⟨hF, .inr ⟨some j, s.top, _, _, _, rfl, hH', Alc.fin _ h2 ⟨[], rfl, .inr ⟨hWn, ?_, fun _ => rfl⟩⟩ (by rw [hln]; omega) (fun q' c _ => rfl) ?_ rfl rfl rfl hlen hq, .inr (.inl ⟨j, c, rfl, hWn, hc, rfl, hfit, rfl, rfl, rfl⟩)⟩⟩
        · intro hm
          rcases g3 _ _ hm with h | h <;> exact absurd rfl h
        · intro q' x hx _
          exact ⟨(g2 q' x hx).head, (g2 q' x hx).body⟩
    · refine (hAllocFull L s k a n w hH hd (fun w hH => hCellFull L s n j r c w hH hj hr hc hw0 hcb.1 hcb.2 (by omega))).mono ?_
      rintro e w' ⟨rfl, hH', hF⟩
      exact ⟨hF, .inl ⟨rfl, hH', .inr ⟨j, c, hj, hWn, hc, by omega⟩⟩⟩

theorem hAllocX (L : HL) (s : HS) (A : Rg) (z : Int → Int) (k a : Int) (n : Nat) (w : World) (hH : HRep w L s) (hI : HI s A z) (hd : Hd k n a s.parity) :
    Calls Try.prog 22 #[.pointer (some ⟨L.hb, 0, none⟩), .int .i64 k, .int .i64 a, .int .i64 n] w (AllocPostX L s A z (packed k n a s.parity) n w) := by
  rcases ixGe_cases s.cls n with h | ⟨j, _, h, _⟩
  · exact hAllocLargeX L s A z k a n w hH hI hd h
  · exact hAllocClassX L s A z k a n j w hH hI hd h
end Go.Proofs.Ytifillpcphiblaa
