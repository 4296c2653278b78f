import Derived.Test.YtifillpcphiblaaAllocAny
namespace Go.Proofs.Ytifillpcphiblaa
open Go Go.Proofs Go.RowKit

theorem Alc.fin {s s1 : HS} {A A1 : Rg} {z z1 : Int → Int} {q : Option Nat} {p : Int} {n : Nat} (word : Int) (h1 : HI s1 A1 z1)
    (row : ∃ W, A1 = A.up q ⟨W, (A q).F, (A q).G, (A q).B ++ [p]⟩ ∧ ((A q).W = p :: W ∨ ((A q).W = W ∧ p ∉ (A q).all ∧ (q ≠ none → W = []))))
    (room : n + 3 ≤ ln s.cls z1 q p) (lns : ∀ q' c, c ∈ (A q').all → ln s.cls z1 q' c = ln s.cls z q' c)
    (hold : ∀ q' c, c ∈ (A q').all → (q' ≠ q ∨ c ≠ p) → Holds s s1 z q' c) (cls : s1.cls = s.cls) (parity : s1.parity = s.parity) (edge : s1.edge = s.edge) (len : s1.ws.length = s.ws.length)
    (ring : q = if ixGe s.cls n = -1 then none else some (ixGe s.cls n).toNat) : Alc s (s1.laid p word n) A A1 z z1 q p word n := by
  have hp : p ∈ (A1 q).all := by
    obtain ⟨W, rfl, _⟩ := row
    rw [Rg.up_same]; simp [Rows.all]
  have sub : ∀ q' c, c ∈ (A q').all → c ∈ (A1 q').all := by
    intro q' c hc
    obtain ⟨W, rfl, hW⟩ := row
    by_cases e : q' = q
    · subst e
      rw [Rg.up_same]
      rcases hW with hW | ⟨hW, _, _⟩ <;> simp [Rows.all, hW] at hc ⊢
      · rcases hc with hc | hc | hc | hc | hc <;> simp [hc]
      · rcases hc with hc | hc | hc | hc <;> simp [hc]
    · rw [Rg.up_ne A e]; exact hc
  obtain ⟨g1, g2, g3, g4⟩ := h1.laid hp (n := n) (by rw [cls]; exact room) word
  refine { hi := g1, row := row, room := room, lns := lns, head := g2, body := g3, holds := fun q' c hc hne => ?_, cls := cls, parity := parity, edge := edge, len := ?_, ring := ring }
  · refine (hold q' c hc hne).trans (g4 q' c (sub q' c hc) ?_) (by rw [cls]; exact lns q' c hc)
    rcases hne with h | h
    · exact .inl (Ne.symm h)
    · exact .inr (Ne.symm h)
  · show (zr _ _ _).length = _
    rw [zr_len, sw_len, len]

theorem hAllocLargeAny (L : HL) (s : HS) (A : Rg) (z : Int → Int) (k a : Int) (n : Nat) (w : World) (hH : HRep w L s) (hI : HI s A z) (hd : Hd k n a s.parity) (hk : ixGe s.cls n = -1) :
    Calls Try.prog 22 #[.pointer (some ⟨L.hb, 0, none⟩), .int .i64 k, .int .i64 a, .int .i64 n] w (AllocPost L s A z (packed k n a s.parity) n w) := by
  have hn := hd.s1
  have hrl := hI.runs_len
  rcases run_cases s.x.l (n + 3) with hno | ⟨l1, p, m, l2, hx, hno, hm⟩
  · refine (hAllocFull L s k a n w hH hd (fun w hH => hCellNoRoom L s n w hH hk (by omega) (by omega) hrl hno)).mono ?_
    rintro e w' ⟨rfl, hH', hF⟩
    exact ⟨hF, .inl ⟨rfl, hH'⟩⟩
  · obtain ⟨r1, r2, r3⟩ := hI.runs (p, m) (by rw [hx]; simp)
    simp only at r1 r2 r3
    have ht1 := hI.top1
    have ht2 := hI.top2
    obtain ⟨g1, g2, g3⟩ : (∀ u', HI (s.largeGrown p (cutRun l1 p m (n + 3) l2) u') (A.up none ((A none).addW p)) (upz z p (n + 3))) ∧ _ ∧ _ := ⟨fun u' => (hI.largeGrown hx (n := n + 3) (by omega) hm u').1, fun u' => (hI.largeGrown hx (n := n + 3) (by omega) hm u').2.1, (hI.largeGrown hx (n := n + 3) (by omega) hm 0).2.2⟩
    have hlen : (growW s.ws s.lg p).length = s.ws.length := growW_len _ _ _
    refine (hAlloc L s k a n p (fun s' => ∃ u' : Int, s' = { (s.largeGrown p (cutRun l1 p m (n + 3) l2) u') with u := u' + 1, lg := (s.lg.grown p).allocd (growW s.ws s.lg p) }) w hH hd ?_ ?_ (by omega) (by omega)).mono ?_
    · intro w hH
      refine (hCellLarge L s n p m l1 l2 w hH hk (by omega) (by omega) hrl hx hno hm (by omega) (by omega) (fun h => hI.lring.okFirst h) (hI.tot hI.lring)).mono ?_
      rintro e w' ⟨rfl, ⟨u', hH'⟩, hF⟩
      exact ⟨rfl, ⟨_, ⟨u', rfl⟩, hH'⟩, hF⟩
    · rintro s' ⟨u', rfl⟩
      exact hlen
    · rintro e w' ⟨rfl, ⟨s1, ⟨u', rfl⟩, hH'⟩, hF⟩
      have hW : ((A.up none ((A none).addW p)) none).W = p :: (A none).W := by rw [Rg.up_same]; rfl
      obtain ⟨-, h2⟩ := (g1 u').lTook hW
      rw [up_up, Rg.up_same] at h2
      refine ⟨hF, .inr ⟨none, p, _, _, _, rfl, hH', Alc.fin _ h2 ⟨(A none).W, rfl, .inr ⟨rfl, ?_, by simp⟩⟩ ?_ (fun q' c hc => ((g2 u') q' c hc).2) ?_ rfl rfl rfl hlen (by simp [hk])⟩⟩
      · intro hc
        rcases g3 none p hc with h | h <;> exact absurd rfl h
      · simp [ln, upz]
      · intro q' c hc _
        exact ⟨((g2 u') q' c hc).1.head, ((g2 u') q' c hc).1.body⟩

theorem hAllocClassAny (L : HL) (s : HS) (A : Rg) (z : Int → Int) (k a : Int) (n j : Nat) (w : World) (hH : HRep w L s) (hI : HI s A z) (hd : Hd k n a s.parity) (hj : ixGe s.cls n = j) :
    Calls Try.prog 22 #[.pointer (some ⟨L.hb, 0, none⟩), .int .i64 k, .int .i64 a, .int .i64 n] w (AllocPost L s A z (packed k n a s.parity) n w) := by
  have hn := hd.s1
  have ht1 := hI.top1
  have ht2 := hI.top2
  have he := hI.edge
  have hq : (some j : Option Nat) = if ixGe s.cls n = -1 then none else some (ixGe s.cls n).toNat := by rw [hj, if_neg (by omega)]; simp
  obtain ⟨c, hc, hnc⟩ : ∃ c, s.cls[j]? = some c ∧ (n : Int) ≤ c := by
    rcases ixGe_cases s.cls n with h | ⟨j', hlt, h, c, hc, hs⟩
    · omega
    · have : j = j' := by omega
      subst this
      exact ⟨c, hc, hs⟩
  have hjl : j < s.cls.length := (List.getElem?_eq_some_iff.1 hc).1
  obtain ⟨r, hr⟩ : ∃ r, s.rs[j]? = some r := ⟨_, List.getElem?_eq_getElem (by rw [hI.nrs]; exact hjl)⟩
  have hcb := hI.cls c (List.mem_of_getElem? hc)
  have hR := hI.ring j r hr
  have hln : ∀ z' x, ln s.cls z' (some j) x = c + 3 := fun z' x => by simp [ln, hc]
  have hlnz : ∀ q' x, ln s.cls z q' x = ln s.cls z q' x := fun _ _ => rfl
  by_cases hw : 1 ≤ r.w
  · obtain ⟨p, W, hW⟩ : ∃ p W, (A (some j)).W = p :: W := by
      have := hR.nw
      cases e : (A (some j)).W with
      | nil => rw [e] at this; simp at this; omega
      | cons p W => exact ⟨p, W, rfl⟩
    obtain ⟨h1, h2⟩ := hI.took hr hW
    have hp : p ∈ (A (some j)).all := by simp [Rows.all, hW]
    have hb := hI.bound hp
    rw [hln] at hb
    have htot : r.tot ≠ 0 := by unfold RS.tot; omega
    refine (hAlloc L s k a n p (fun s' => s' = s.took j r) w hH hd ?_ ?_ (by omega) (by omega)).mono ?_
    · intro w hH
      refine (hCellWhite L s n j r w hH hj hr hw (hR.okFirst htot).1).mono ?_
      rintro e w' ⟨rfl, hH', hF⟩
      rw [h1]
      exact ⟨rfl, ⟨_, rfl, hH'⟩, hF⟩
    · rintro s' rfl; rfl
    · rintro e w' ⟨rfl, ⟨s1, rfl, hH'⟩, hF⟩
      exact ⟨hF, .inr ⟨some j, p, _, _, _, rfl, hH', Alc.fin _ h2 ⟨W, rfl, .inl hW⟩ (by rw [hln]; omega) (fun q' c _ => rfl) (fun q' c _ _ => ⟨rfl, fun _ _ _ => rfl⟩) rfl rfl rfl rfl hq⟩⟩
  · have hw0 : r.w = 0 := by omega
    have hWn : (A (some j)).W = [] := by
      have := hR.nw
      rw [hw0] at this
      exact List.length_eq_zero_iff.1 this.symm
    by_cases hfit : c + 3 ≤ s.edge - s.top
    · have hlen : (growW s.ws r s.top).length = s.ws.length := growW_len _ _ _
      have hrl : j < s.rs.length := (List.getElem?_eq_some_iff.1 hr).1
      refine (hAlloc L s k a n s.top (fun s' => ∃ du : Nat, s' = (s.grown j c r du).took j (r.grown s.top)) w hH hd ?_ ?_ (by omega) (by omega)).mono ?_
      · intro w hH
        refine (hCellGrow L s n j r c w hH hj hr hc hw0 hcb.1 hcb.2 hfit ht1 he (fun h => hR.okFirst h) (hI.tot hR)).mono ?_
        rintro e w' ⟨rfl, ⟨du, _, hH'⟩, hF⟩
        exact ⟨rfl, ⟨_, ⟨du, rfl⟩, hH'⟩, hF⟩
      · rintro s' ⟨du, rfl⟩; exact hlen
      · rintro e w' ⟨rfl, ⟨s1, ⟨du, rfl⟩, hH'⟩, hF⟩
        obtain ⟨g1, g2, g3⟩ := hI.grown hr hc hfit du
        have hr1 : (s.grown j c r du).rs[j]? = some (r.grown s.top) := by simp [HS.grown, hrl]
        have hW : ((A.up (some j) ((A (some j)).addW s.top)) (some j)).W = s.top :: [] := by rw [Rg.up_same]; simp [Rows.addW, hWn]
        obtain ⟨-, h2⟩ := g1.took hr1 hW
        rw [up_up, Rg.up_same] at h2
        refine ⟨hF, .inr ⟨some j, s.top, _, _, _, rfl, hH', Alc.fin _ h2 ⟨[], rfl, .inr ⟨hWn, ?_, fun _ => rfl⟩⟩ (by rw [hln]; omega) (fun q' c _ => rfl) ?_ rfl rfl rfl hlen hq⟩⟩
        · intro hm
          rcases g3 _ _ hm with h | h <;> exact absurd rfl h
        · intro q' x hx _
          exact ⟨(g2 q' x hx).head, (g2 q' x hx).body⟩
    · refine (hAllocFull L s k a n w hH hd (fun w hH => hCellFull L s n j r c w hH hj hr hc hw0 hcb.1 hcb.2 (by omega))).mono ?_
      rintro e w' ⟨rfl, hH', hF⟩
      exact ⟨hF, .inl ⟨rfl, hH'⟩⟩

theorem hAllocAny (L : HL) (s : HS) (A : Rg) (z : Int → Int) (k a : Int) (n : Nat) (w : World) (hH : HRep w L s) (hI : HI s A z) (hd : Hd k n a s.parity) :
    Calls Try.prog 22 #[.pointer (some ⟨L.hb, 0, none⟩), .int .i64 k, .int .i64 a, .int .i64 n] w (AllocPost L s A z (packed k n a s.parity) n w) := by
  rcases ixGe_cases s.cls n with h | ⟨j, _, h, _⟩
  · exact hAllocLargeAny L s A z k a n w hH hI hd h
  · exact hAllocClassAny L s A z k a n j w hH hI hd h
end Go.Proofs.Ytifillpcphiblaa
