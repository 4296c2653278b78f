import Derived.Test.YtifillpcphiblaaPCollects
import Derived.Test.YtifillpcphiblaaHRings
import Derived.Test.YtifillpcphiblaaMHNew
namespace Go.Proofs.Ytifillpcphiblaa
open Go Go.Proofs Go.RowKit

/-- What an allocation comes to, whatever size is asked for. -/
def AllocEv (L : HL) (s : HS) (A : Rg) (z : Int → Int) (k a x : Int) (w : World) (e : Ending) (w' : World) : Prop :=
  Fr L.fp w w' ∧ ((∃ er : Int, er ≠ 0 ∧ e = .returned (.tuple #[.int .i64 0, .int .i64 er]) ∧ HRep w' L s) ∨
    ∃ (n : Nat) (q : Option Nat) (p : Int) (s' : HS) (A' : Rg) (z' : Int → Int), x = n ∧ n < 32 ∧ e = .returned (.tuple #[.int .i64 p, .int .i64 0]) ∧ HRep w' L s' ∧ Alc s s' A A' z z' q p (packed k n a s.parity) n)

theorem hAllocEv (L : HL) (s : HS) (A : Rg) (z : Int → Int) (k a x : Int) (w : World) (hH : HRep w L s) (hI : HI s A z) (hm : 0 ≤ s.parity ∧ s.parity < 2) (k0 : 0 ≤ k) (k1 : k ≤ 10) (a0 : 0 ≤ a) (a1 : a < 16777216) :
    Calls Try.prog 22 #[.pointer (some ⟨L.hb, 0, none⟩), .int .i64 k, .int .i64 a, .int .i64 x] w (AllocEv L s A z k a x w) := by
  by_cases hx : x < 0 ∨ 32 ≤ x
  · refine (hAllocBad L s k a x w hH hm (.inr (.inl hx))).mono ?_
    rintro e w' ⟨rfl, hH', hF⟩
    rw [if_neg (by omega)]
    exact ⟨hF.here (by simp), .inl ⟨1, by decide, rfl, hH'⟩⟩
  · obtain ⟨n, rfl⟩ := Int.eq_ofNat_of_zero_le (show 0 ≤ x by omega)
    refine (hAllocAny L s A z k a n w hH hI ⟨k0, k1, hm.1, hm.2, by omega, by omega, a0, a1⟩).mono ?_
    rintro e w' ⟨hF, ⟨rfl, hH'⟩ | ⟨q, p, s', A', z', rfl, hH', hA⟩⟩
    · exact ⟨hF, .inl ⟨2, by decide, rfl, hH'⟩⟩
    · exact ⟨hF, .inr ⟨n, q, p, s', A', z', rfl, by omega, rfl, hH', hA⟩⟩

/-- A slice of truth values that came in. -/
def SlB (w : World) (sv : Value) (l : List Bool) : Prop :=
  (sv = .slice none 0 0 ∧ l = []) ∨ (∃ a cap, sv = .slice (some a) 0 cap ∧ l = []) ∨ ∃ b o cap, sv = .slice (some ⟨b, o, none⟩) l.length cap ∧ RdAt w b o (l.map .bool) ∧ l.length ≤ maxLen
theorem SlB.fr {S : List Nat} {w w' : World} {sv : Value} {l : List Bool} (h : SlB w sv l) (hf : Fr S w w') (hS : ∀ b ∈ S, w.heap.size ≤ b) : SlB w' sv l := by
  rcases h with h | h | ⟨b, o, cap, e, hr, hm⟩
  · exact .inl h
  · exact .inr (.inl h)
  · exact .inr <| .inr ⟨b, o, cap, e, hr.fr hf (fun hc => by have := hS b hc; have := hr.1; omega), hm⟩
theorem SlB.shape {w : World} {sv : Value} {l : List Bool} (h : SlB w sv l) : ∃ p cap, sv = .slice p l.length cap := by
  rcases h with ⟨e1, e2⟩ | ⟨p, cap, e1, e2⟩ | ⟨b, o, cap, e, _⟩
  · exact ⟨none, 0, by rw [e1, e2]; rfl⟩
  · exact ⟨some p, cap, by rw [e1, e2]; rfl⟩
  · exact ⟨_, cap, e⟩
theorem SlArg.shape {w : World} {sv : Value} {l : List Int} (h : SlArg w sv l) : ∃ p cap, sv = .slice p l.length cap := by
  rcases h with ⟨e1, e2⟩ | ⟨p, cap, e1, e2⟩ | ⟨b, o, cap, e, _⟩
  · exact ⟨none, 0, by rw [e1, e2]; rfl⟩
  · exact ⟨some p, cap, by rw [e1, e2]; rfl⟩
  · exact ⟨_, cap, e⟩
theorem SlArg.at {w : World} {p : Option Addr} {cap : Nat} {l : List Int} (h : SlArg w (.slice p l.length cap) l) (hl : 0 < l.length) : ∃ b o, p = some ⟨b, o, none⟩ ∧ RdAt w b o (l.map (.int .i64)) := by
  rcases h with ⟨_, e2⟩ | ⟨_, _, _, e2⟩ | ⟨b, o, cap', e, hr, _⟩
  · rw [e2] at hl; simp at hl
  · rw [e2] at hl; simp at hl
  · cases e; exact ⟨b, o, rfl, hr⟩
theorem SlB.at {w : World} {p : Option Addr} {cap : Nat} {l : List Bool} (h : SlB w (.slice p l.length cap) l) (hl : 0 < l.length) : ∃ b o, p = some ⟨b, o, none⟩ ∧ RdAt w b o (l.map .bool) := by
  rcases h with ⟨_, e2⟩ | ⟨_, _, _, e2⟩ | ⟨b, o, cap', e, hr, _⟩
  · rw [e2] at hl; simp at hl
  · rw [e2] at hl; simp at hl
  · cases e; exact ⟨b, o, rfl, hr⟩

def obw (l : List Ob) : List Value := l.flatMap fun o => [.int .i64 7, .int .i64 o.n, .int .i64 o.a, .int .i64 0]
theorem obw_len (l : List Ob) : (obw l).length = l.length * 4 := by induction l with | nil => rfl | cons o l ih => simp [obw] at ih ⊢; omega
theorem info_c4 : (Try.prog.info? 48).map (fun i => (i.zero, i.size, i.bytes)) = some (some (.agg #[.int .i64 0, .int .i64 0, .int .i64 0, .int .i64 0]), 4, 32) := by kernel_rfl

/-- What the first loop says. -/
structure CI1 (w w3 : World) (L : HL) (cls : List Int) (atv wv : Value) (obs : List Ob) (wr : World) : Prop where
  at_ : wr.ownsRow w3.heap.size 3 1 atv obs.length (intv (obs.map (·.p)))
  was : wr.ownsRow w3.heap.size 48 4 wv obs.length (obw obs)
  st : ∃ s A z, HRep wr L s ∧ C1 s A z obs ∧ s.cls = cls ∧ s.ws.length ≤ 65536
  ob : ∀ o ∈ obs, 0 ≤ o.a ∧ o.a ≤ 30
  fr : Fr [] w wr
  fr3 : Fr L.fp w3 wr

theorem HRep.fpBlocks {w : World} {L : HL} {s : HS} (h : HRep w L s) : ∀ x ∈ L.fp, x < w.heap.size := fun x hx => all_lt h (by simp only [HL.all, List.mem_cons]; exact .inr (.inr hx))
theorem obw_snoc (l : List Ob) (o : Ob) : obw (l ++ [o]) = obw l ++ [.int .i64 7, .int .i64 o.n, .int .i64 o.a, .int .i64 0] := by simp [obw]
theorem own_slice' {w : World} {B : Nat} {T : TypeId} {v : Value} {n z : Nat} {xs : List Value} (h : w.ownsRow B T z v n xs) (hn : 0 < n) : ∃ g c, v = .slice (some ⟨g, 0, none⟩) n c := by
  obtain ⟨_, h | ⟨g', cap', cur, hv, _⟩⟩ := h
  · omega
  · exact ⟨_, _, hv⟩

theorem own_apart {w : World} {B B' : Nat} {T T' : TypeId} {v v' : Value} {n n' z z' : Nat} {xs xs' : List Value} (h : w.ownsRow B T z v n xs) (h' : w.ownsRow B' T' z' v' n' xs') (hT : T ≠ T') : ∀ g, v.ownBlock = some g → g ∉ v'.ownBlock.toList := by
  intro g hg hc
  obtain ⟨_, h2 | ⟨g1, cap1, cur1, hv1, hg1, hh1, _⟩⟩ := h
  · rw [h2.1] at hg; simp [Value.ownBlock] at hg
  obtain ⟨_, h3 | ⟨g2, cap2, cur2, hv2, hg2, hh2, _⟩⟩ := h'
  · rw [h3.1] at hc; simp [Value.ownBlock] at hc
  rw [hv1] at hg
  rw [hv2] at hc
  simp [Value.ownBlock] at hg hc
  subst hg
  subst hc
  rw [hh1] at hh2
  simp at hh2
  exact hT hh2.2

/-- One object more: behind both appends. -/
theorem CI1.step {w w3 : World} {L : HL} {cls : List Int} {atv wv atv' wv' : Value} {obs : List Ob} {wr w4 w5 w7 : World} (h : CI1 w w3 L cls atv wv obs wr) {o1 : Ob} (ho : 0 ≤ o1.a ∧ o1.a ≤ 30)
    (hst : ∃ s A z, HRep w4 L s ∧ C1 s A z (obs ++ [o1]) ∧ s.cls = cls ∧ s.ws.length ≤ 65536) (hH3 : ∀ x ∈ L.all, x < w3.heap.size) (hw3 : w.heap.size ≤ w3.heap.size) (hfp : ∀ x ∈ L.fp, w.heap.size ≤ x) (hF4 : Fr L.fp wr w4) {n4 : Nat} (hn4 : w4.heap.size = n4)
    (hF5 : Fr atv.ownBlock.toList (w4.alloc (.cells #[.int .i64 o1.p] 3)) w5) (hown5 : w5.ownsRow w3.heap.size 3 1 atv' (obs.length + 1) (intv (obs.map (·.p)) ++ [.int .i64 o1.p]))
    (hF7 : Fr wv.ownBlock.toList (w5.alloc (.cells #[.int .i64 7, .int .i64 o1.n, .int .i64 o1.a, .int .i64 0] 48)) w7) (hown7 : w7.ownsRow w3.heap.size 48 4 wv' (obs.length + 1) (obw obs ++ [.int .i64 7, .int .i64 o1.n, .int .i64 o1.a, .int .i64 0])) :
    CI1 w w3 L cls atv' wv' (obs ++ [o1]) w7 := by
  have la := own_low h.at_
  have lw := own_low h.was
  have hF47 : Fr (atv.ownBlock.toList ++ wv.ownBlock.toList) w4 w7 := ((((Fr.refl _ w4).alloc _).trans (hF5.here (by intro x hx; simp only [List.mem_append]; exact .inl hx))).alloc _).trans (hF7.here (by intro x hx; simp only [List.mem_append]; exact .inr hx))
  have hlow : ∀ x ∈ atv.ownBlock.toList ++ wv.ownBlock.toList, w3.heap.size ≤ x := by
    intro x hx
    rcases List.mem_append.1 hx with hx | hx
    · exact la x hx
    · exact lw x hx
  refine ⟨?_, by rw [obw_snoc]; simpa using hown7, ?_, ?_, ?_, ?_⟩
  · have h5 : w7.ownsRow w3.heap.size 3 1 atv' (obs.length + 1) (intv (obs.map (·.p)) ++ [.int .i64 o1.p]) := by
      refine ownsRow_fr (hown5.alloc _) hF7 ?_
      intro g hg hc
      have hw5 := h.was
      obtain ⟨_, h2 | ⟨g', cap', cur, hv, hg', hh, _⟩⟩ := hw5
      · rw [h2.1] at hc; simp [Value.ownBlock] at hc
      · rw [hv] at hc
        simp [Value.ownBlock] at hc
        subst hc
        have hl := (Array.getElem?_eq_some_iff.1 hh).1
        have e4 : w4.heap[g]? = wr.heap[g]? := hF4.block g hl (fun hc => by have := hH3 g (by simp only [HL.all, List.mem_cons]; exact .inr (.inr hc)); omega)
        have hn : g ∉ atv.ownBlock.toList := by
          intro hc
          obtain ⟨_, h3 | ⟨g2, cap2, cur2, hv2, hg2, hh2, _⟩⟩ := h.at_
          · rw [h3.1] at hc; simp [Value.ownBlock] at hc
          · rw [hv2] at hc
            simp [Value.ownBlock] at hc
            subst hc
            rw [hh] at hh2
            simp at hh2
        have l4 : g < w4.heap.size := Nat.lt_of_lt_of_le hl hF4.size
        have e5 : w5.heap[g]? = w4.heap[g]? := (hF5.block g (by simp; omega) hn).trans (Below.heap_alloc _ _ _ l4)
        obtain ⟨_, h5 | ⟨g3, cap3, cur3, hv3, hg3, hh3, _⟩⟩ := hown5
        · omega
        · rw [hv3] at hg
          simp [Value.ownBlock] at hg
          subst hg
          rw [e5, e4, hh] at hh3
          simp at hh3
    simpa [intv] using h5
  · obtain ⟨s, A, z, h1, h2⟩ := hst
    exact ⟨s, A, z, h1.fr hF47 (fun x hx hc => by have := hlow x hx; have := hH3 x hc; omega), h2⟩
  · intro o ho'
    rcases List.mem_append.1 ho' with h1 | h1
    · exact h.ob o h1
    · obtain rfl := List.mem_singleton.1 h1; exact ho
  · exact (h.fr.step hF4 (fun x hx => .inr (hfp x hx))).step hF47 (fun x hx => .inr (by have := hlow x hx; omega))
  · exact (h.fr3.trans hF4).step hF47 (fun x hx => .inr (hlow x hx))

/-- What stays behind the first loop. -/
structure CF (w w3 : World) (L : HL) (atv wv : Value) (obs : List Ob) (wr : World) : Prop where
  at_ : wr.ownsRow w3.heap.size 3 1 atv obs.length (intv (obs.map (·.p)))
  was : wr.ownsRow w3.heap.size 48 4 wv obs.length (obw obs)
  fr : Fr [] w wr
  fr3 : Fr L.fp w3 wr
theorem CF.step {w w3 : World} {L : HL} {atv wv : Value} {obs : List Ob} {wr w4 : World} (h : CF w w3 L atv wv obs wr) (hF : Fr L.fp wr w4) (h3 : ∀ x ∈ L.all, x < w3.heap.size) (hfp : ∀ x ∈ L.fp, w.heap.size ≤ x) : CF w w3 L atv wv obs w4 :=
  ⟨ownsRow_fr h.at_ hF (fun g hg hc => by have := (own_lt h.at_ hg).1; have := h3 g (by simp only [HL.all, List.mem_cons]; exact .inr (.inr hc)); omega), ownsRow_fr h.was hF (fun g hg hc => by have := (own_lt h.was hg).1; have := h3 g (by simp only [HL.all, List.mem_cons]; exact .inr (.inr hc)); omega), h.fr.step hF (fun x hx => .inr (hfp x hx)), h.fr3.trans hF⟩
theorem own_len {w : World} {B : Nat} {T : TypeId} {v : Value} {n z : Nat} {xs : List Value} (h : w.ownsRow B T z v n xs) : ∃ p c, v = .slice p n c := by
  obtain ⟨_, h | ⟨g', cap', cur, hv, _⟩⟩ := h
  · exact ⟨none, 0, by rw [h.1, h.2]⟩
  · exact ⟨_, _, hv⟩
theorem own_cell {w : World} {B : Nat} {T : TypeId} {p : Option Addr} {c n z : Nat} {xs : List Value} (h : w.ownsRow B T z (.slice p n c) n xs) (hn : 0 < n) : ∃ g, p = some ⟨g, 0, none⟩ ∧ ∀ (j : Nat) (x : Value), xs[j]? = some x → w.cell? ⟨g, j, none⟩ = some x := by
  obtain ⟨hl, h | ⟨g', cap', cur, hv, _, hh, hnc, _, hsz, ht⟩⟩ := h
  · omega
  · cases hv
    refine ⟨g', rfl, fun j x hx => ?_⟩
    have hj := (List.getElem?_eq_some_iff.1 hx).1
    rw [← ht, List.getElem?_take] at hx
    split at hx
    · simpa [World.cell?, hh] using hx
    · cases hx

theorem flatten4 {segs : List (List Value)} (h : ∀ sg ∈ segs, sg.length = 4) : ∀ (i j : Nat) (sg : List Value), segs[i]? = some sg → j < 4 → segs.flatten[i * 4 + j]? = sg[j]? := by
  induction segs with
  | nil => intro i j sg hi; simp at hi
  | cons s0 l ih =>
    intro i j sg hi hj
    have h0 := h s0 (by simp)
    cases i with
    | zero =>
      simp at hi; subst hi
      simp only [List.flatten_cons, Nat.zero_mul, Nat.zero_add]
      rw [List.getElem?_append_left (by omega)]
    | succ i =>
      simp only [List.flatten_cons]
      rw [List.getElem?_append_right (by omega), h0, show (i + 1) * 4 + j - 4 = i * 4 + j by omega]
      exact ih (fun sg hs => h sg (by simp [hs])) i j sg (by simpa using hi) hj
theorem obw_get {l : List Ob} {i : Nat} {o : Ob} (h : l[i]? = some o) : (obw l)[i * 4 + 1]? = some (.int .i64 o.n) ∧ (obw l)[i * 4 + 2]? = some (.int .i64 o.a) := by
  have e : obw l = (l.map (fun o => [.int .i64 7, .int .i64 o.n, .int .i64 o.a, .int .i64 0])).flatten := by simp [obw, List.flatMap]
  have h4 : ∀ sg ∈ l.map (fun o : Ob => [Value.int .i64 7, .int .i64 o.n, .int .i64 o.a, .int .i64 0]), sg.length = 4 := by
    intro sg hs
    obtain ⟨o, _, rfl⟩ := List.mem_map.1 hs
    rfl
  have hi : (l.map (fun o : Ob => [Value.int .i64 7, .int .i64 o.n, .int .i64 o.a, .int .i64 0]))[i]? = some [.int .i64 7, .int .i64 o.n, .int .i64 o.a, .int .i64 0] := by simp [h]
  rw [e]
  exact ⟨flatten4 h4 i 1 _ hi (by decide), flatten4 h4 i 2 _ hi (by decide)⟩
theorem SegsI.black {W : World} {base n : Nat} {p : Option Addr} {c : Nat} {Rs : List Rows} (h : SegsI W base (.slice p n c) Rs) (hn : n = Rs.length) {i : Nat} {R : Rows} (hR : Rs[i]? = some R) : ∃ g, p = some ⟨g, 0, none⟩ ∧ ∃ x cc, W.cell? ⟨g, i * 4 + 3, none⟩ = some (.slice x R.B.length cc) := by
  subst hn
  obtain ⟨segs, h1, h2, h3⟩ := h.ex
  have hi := (List.getElem?_eq_some_iff.1 hR).1
  obtain ⟨g, hg, hc⟩ := own_cell h1 (by omega)
  refine ⟨g, hg, ?_⟩
  obtain ⟨sg, hsg⟩ : ∃ sg, segs[i]? = some sg := ⟨_, List.getElem?_eq_getElem (by omega)⟩
  have h4 : ∀ sg ∈ segs, sg.length = 4 := by
    intro sg hs
    obtain ⟨k, hk, rfl⟩ := List.getElem_of_mem hs
    obtain ⟨v0, v1, v2, v3, e, _⟩ := (h3 k _ Rs[k] (List.getElem?_eq_getElem hk) (List.getElem?_eq_getElem (by omega))).ex
    have := congrArg (fun v : Value => match v with | .agg a => a.size | _ => 0) e
    simpa using this
  obtain ⟨v0, v1, v2, v3, e, _, _, _, w3⟩ := (h3 i sg R hsg hR).ex
  have e2 : sg = [v0, v1, v2, v3] := by
    have := congrArg (fun v : Value => match v with | .agg a => a.toList | _ => []) e
    simpa using this
  obtain ⟨x, cc, rfl⟩ := own_len w3
  refine ⟨x, cc, hc _ _ ?_⟩
  rw [flatten4 h4 i 3 sg hsg (by decide), e2]
  rfl
def blackTo (Rs : List Rows) (k : Nat) : Nat := ((Rs.take k).map (fun R => R.B.length)).sum
theorem blackTo_succ {Rs : List Rows} {k : Nat} {R : Rows} (h : Rs[k]? = some R) : blackTo Rs (k + 1) = blackTo Rs k + R.B.length := by
  unfold blackTo
  rw [List.take_add_one, h]
  simp
theorem blackTo_le (Rs : List Rows) (k : Nat) : blackTo Rs k ≤ blackTo Rs Rs.length := by
  have e : blackTo Rs Rs.length = blackTo Rs k + ((Rs.drop k).map (fun R => R.B.length)).sum := by
    unfold blackTo
    rw [List.take_length, ← List.sum_append, ← List.map_append, List.take_append_drop]
  omega
theorem blackTo_all (A : Rg) (n : Nat) : blackTo (rowsTo A n ++ [A none]) (n + 1) = bN A n := by
  unfold blackTo bN sumK rowsTo
  rw [List.take_of_length_le (by simp)]
  simp [List.map_map]
  rfl

theorem hParity' (L : HL) (s : HS) (pr : Int) (hpr : s.parity = pr) (w : World) (hH : HRep w L s) :
    Calls Try.prog 34 #[.pointer (some ⟨L.hb, 0, none⟩)] w fun e w' => e = .returned (.int .i64 pr) ∧ w' = w := by
  subst hpr
  refine (hParity L s w hH).mono ?_
  rintro e w' ⟨rfl, rfl⟩
  exact ⟨rfl, rfl⟩

theorem hGetV (L : HL) (s : HS) (p : Int) (k z a m : Int) (j v : Int) (w : World) (hH : HRep w L s) (p0 : 0 ≤ p) (p1 : p + 3 + z ≤ s.ws.length) (hp : gw s.ws p = packed k z a m) (hd : Hd k z a m) (j0 : 0 ≤ j) (j1 : j < z) (hv : gw s.ws (p + 3 + j) = v) :
    Calls Try.prog 26 #[.pointer (some ⟨L.hb, 0, none⟩), .int .i64 p, .int .i64 j] w fun e w' => e = .returned (.tuple #[.int .i64 v, .int .i64 0]) ∧ HRep w' L (s.tick 2) ∧ Fr [L.ab] w w' := by
  subst hv; exact hGet L s p k z a m j w hH p0 p1 hp hd j0 j1

/-- Is the object number j kept? -/
def kpt (kp : List Bool) (j : Nat) : Bool := (kp[j]?).getD false

end Go.Proofs.Ytifillpcphiblaa
