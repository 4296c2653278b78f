import Derived.Test.YtifillpcphiblaaWNew
namespace Go.Proofs.Ytifillpcphiblaa
open Go Go.Proofs Go.RowKit Go.Shelf

attribute [local go_sem] Oper.semAt_some

theorem HRep.keep {w w' : World} {L : HL} {s : HS} (h : HRep w L s) (g : ∀ b ∈ L.all, w'.heap[b]? = w.heap[b]?) : HRep w' L s := by
  have rd : ∀ {b : Nat} {vs : List Value}, Rd w b vs → w'.heap[b]? = w.heap[b]? → Rd w' b vs := fun {b vs} k e =>
    ⟨by
      have := k.1
      rw [Array.getElem?_eq_getElem this] at e
      exact (Array.getElem?_eq_some_iff.1 e).1, fun i v hv => (World.cell?_of_block (w := w) e).trans (k.2 i v hv)⟩
  simp only [HL.all, HL.fp, List.mem_cons, List.mem_append] at g
  have gx : XRep w' L.xb L.xlbs s.x := by
    obtain ⟨sv, hb, k⟩ := h.x
    refine ⟨sv, (g _ (by simp)).trans hb, ?_⟩
    rcases k with k | ⟨b, cap, rest, e1, e2, e3, e4⟩
    · exact .inl k
    · exact .inr ⟨b, cap, rest, e1, e2, (g _ (by simp [e1])).trans e3, e4⟩
  exact { h := (g _ (by simp)).trans h.h, a := ⟨(g _ (by simp)).trans h.a.s, (g _ (by simp)).trans h.a.c, h.a.ne, h.a.le⟩, c := rd h.c (g _ (by simp)), r := rd h.r (g _ (by simp)),
          rr := fun k rb r hk hr => ⟨(g _ (by simp [List.mem_of_getElem? hk])).trans (h.rr k rb r hk hr).s, (h.rr k rb r hk hr).le⟩, lr := ⟨(g _ (by simp)).trans h.lr.s, h.lr.le⟩,
          x := gx, nd := h.nd, n1 := h.n1, n2 := h.n2, n3 := h.n3, t := h.t, e := h.e }

/-- Steps that leave all as it was, but the count of an arena's uses and a box of one's own. -/
structure AbF (ab wb atb : Nat) (A B : World) : Prop where
  fr : Fr [ab, atb] A B
  cells : ∀ b ∈ [ab, atb], ∀ o, A.heap[b]? = some o → o.isCells = true
  arena : ∀ ws u, ARep A ab wb ws u → ∃ k : Nat, ARep B ab wb ws (u + k)
theorem AbF.others {ab wb atb : Nat} {A B : World} (h : AbF ab wb atb A B) : KeepsOthers A B := h.fr.others h.cells

theorem AbF.rep {L : HL} {atb : Nat} {A B : World} {s : HS} (h : AbF L.ab L.wb atb A B) (hA : HRep A L s) (hn : atb ∉ L.all) : ∃ k : Nat, HRep B L (s.tick k) := by
  obtain ⟨k, hk⟩ := h.arena _ _ hA.a
  refine ⟨k, ?_⟩
  obtain ⟨⟨p1, p2, -, -, -, -⟩, ⟨-, q2, q3, q4, q5⟩, -, -, -, -⟩ := hA.apart
  have g : ∀ x, x ∈ L.all → x ≠ L.ab → x ∉ [L.ab, atb] := fun x hx h1 hc => by
    simp at hc
    rcases hc with rfl | rfl
    · exact h1 rfl
    · exact hn hx
  generalize hS : [L.ab, atb] = S at g
  simp only [HL.all, HL.fp, List.mem_cons, List.mem_append] at g
  subst hS
  exact { h := hA.h.fr h.fr (g _ (by simp) p1), a := hk, c := hA.c.fr h.fr (g _ (by simp) (Ne.symm q4)), r := hA.r.fr h.fr (g _ (by simp) (Ne.symm q5)),
          rr := fun k rb r hk hr => (hA.rr k rb r hk hr).fr h.fr (g _ (by simp [List.mem_of_getElem? hk]) (hA.rapart (List.mem_of_getElem? hk)).2.1), lr := hA.lr.fr h.fr (g _ (by simp) (Ne.symm q2)),
          x := hA.x.fr h.fr (g _ (by simp) (Ne.symm q3)) (fun b hb => g _ (by simp [hb]) (hA.xapart hb).2.1), nd := hA.nd, n1 := hA.n1, n2 := hA.n2, n3 := hA.n3, t := hA.t, e := hA.e }

/-- Places that hang on each other by their words at 3. -/
def Chn (ws : List Int) : Int → List Int → Prop
  | v, [] => v = 0
  | v, p :: l => v = p ∧ p ≠ 0 ∧ Chn ws (gw ws (p + 3 + (3 : Nat))) l
def clen (ws : List Int) : Nat → Int → Nat
  | 0, _ => 0
  | f + 1, v => if v = 0 then 0 else clen ws f (gw ws (v + 3 + (3 : Nat))) + 1
theorem Chn.len {ws : List Int} : ∀ {l : List Int} {v : Int} (_ : Chn ws v l) (f : Nat), l.length ≤ f → clen ws f v = l.length
  | [], v, h, f, _ => by cases f <;> simp [clen, show v = 0 from h]
  | p :: l, v, h, 0, hf => by simp at hf
  | p :: l, v, h, f + 1, hf => by
    obtain ⟨rfl, h1, h2⟩ := h
    have := Chn.len h2 f (by simpa using hf)
    simp only [clen, if_neg h1, List.length_cons, this]
def meas (ws : List Int) (N atb : Nat) (w : World) : Nat := match w.cell? ⟨atb, 0, none⟩ with | some (.int .i64 v) => clen ws N v | _ => 0
theorem meas_of {ws : List Int} {N atb : Nat} {w : World} {v : Int} {l : List Int} (hB : Blk w atb [.int .i64 v] 3) (h : Chn ws v l) (hl : l.length ≤ N) : meas ws N atb w = l.length := by
  unfold meas
  rw [hB.cell (i := 0) rfl]
  exact h.len N hl

theorem arep_like {ab wb : Nat} {A B : World} {ws : List Int} {u : Int} (hA : ARep A ab wb ws u) {k : Nat} (hB : ARep B ab wb ws (u + k)) : ∀ ws' u', ARep A ab wb ws' u' → ∃ k : Nat, ARep B ab wb ws' (u' + k) := by
  refine fun ws' u' hA' => ⟨k, ?_⟩
  have e1 : ws'.length = ws.length := by
    have h1 := hA.s; have h2 := hA'.s
    unfold Blk at h1 h2
    rw [h1] at h2
    simp at h2
    omega
  have e2 : ws' = ws := by
    have h1 := hA.c; have h2 := hA'.c
    unfold Blk at h1 h2
    rw [h1] at h2
    simp at h2
    refine List.ext_getElem? (fun i => ?_)
    have := congrArg (fun l : List Value => l[i]?) h2
    simp only [List.getElem?_map] at this
    cases h3 : ws[i]? <;> cases h4 : ws'[i]? <;> simp [h3, h4] at this ⊢
    exact this.symm
  have e3 : wrap64 u' = wrap64 u := by
    have h1 := hA.s; have h2 := hA'.s
    unfold Blk at h1 h2
    rw [h1] at h2
    simp at h2
    exact h2.2.symm
  subst e2
  refine ⟨?_, hB.c, hB.ne, hB.le⟩
  have h4 := hB.s
  have : wrap64 (u + k) = wrap64 (u' + k) := by rw [← wrap64_bump u, ← wrap64_bump u', e3]
  rw [this] at h4
  exact h4

theorem AbF.of {L : HL} {atb : Nat} {A B : World} {s : HS} {v : Int} (hA : HRep A L s) (hB : Blk A atb [.int .i64 v] 3) (h : Fr [L.ab, atb] A B) {k : Nat} (hk : HRep B L (s.tick k)) : AbF L.ab L.wb atb A B := by
  refine ⟨h, ?_, ?_⟩
  · intro b hb o ho
    simp at hb
    rcases hb with rfl | rfl
    · exact hA.a.s.cells o ho
    · exact hB.cells o ho
  · exact arep_like hA.a hk.a

set_option maxRecDepth 100000 in
set_option maxHeartbeats 2000000 in
theorem from_iter (L : HL) (s : HS) (tb tbx atb : Nat) (sh : Value) (t : TS) (l : List Int) (v : Int) (w : World) (hH : HRep w L s) (hT : TRep w tb L.hb sh t) (hX : Blk w tbx [.pointer (some ⟨tb, 0, none⟩)] 65) (hA : Blk w atb [.int .i64 v] 3)
    (hc : Chn s.ws v l) (hl : ∀ p ∈ l, ∃ o : Ob, o.Lies s ∧ o.p = p ∧ 4 ≤ o.n) (n1 : tb ∉ L.all) (n2 : tbx ∉ L.all) (n3 : atb ∉ L.all) (n4 : atb ≠ tb) (n5 : atb ≠ tbx) :
    IterM 2 152 #[.pointer (some ⟨atb, 0, none⟩), .pointer (some ⟨tbx, 0, none⟩)] (fun x : Int => #[.int .i64 x]) (tb :: tbx :: atb :: L.all) (AbF L.ab L.wb atb) (fun ys => ys = l) (fun pre => pre <+: l) l.length w := by
  intro lp J Jx W hF hJ hY h0
  have hH0 := hH.fr hF (by simp)
  have hT0 := hT.fr hF (by simp)
  have hX0 := hX.fr hF (by simp)
  have hA0 := hA.fr hF (by simp)
  have hab : L.ab ∈ L.all := by simp [HL.all, HL.fp]
  have m1 : tb ∉ [L.ab, atb] := fun h => by simp at h; rcases h with h | h; (· exact n1 (h ▸ hab)); (· exact n4 h.symm)
  have m2 : tbx ∉ [L.ab, atb] := fun h => by simp at h; rcases h with h | h; (· exact n2 (h ▸ hab)); (· exact n5 h.symm)
  have m3 : atb ∉ [L.ab] := fun h => by simp at h; exact n3 (h ▸ hab)
  refine callsIn_of_wp Try.func152 rfl trivial ?_ rfl
  simp only [Try.ntmps152, List.size_toArray, List.length_cons, List.length_nil, Nat.reduceAdd, Nat.reduceSub, Array.replicate_succ, Array.replicate_zero, List.push_toArray, List.append_toArray, List.nil_append, List.cons_append]
  gi_wp2
  gi_loopw [] (fun wr => ∃ (k : Nat) (x n : Int), k ≤ l.length ∧ Chn s.ws x (l.drop k) ∧ J (l.take k) wr ∧ HRep wr L (s.tick n) ∧ TRep wr tb L.hb sh t ∧ Blk wr tbx [.pointer (some ⟨tb, 0, none⟩)] 65 ∧ Blk wr atb [.int .i64 x] 3) (fun wr => meas s.ws l.length atb wr)
  case atStart => exact ⟨0, v, 0, Nat.zero_le _, by simpa using hc, by simpa using h0, by simpa [HS.tick] using hH0, hT0, hX0, hA0⟩
  case round =>
    obtain ⟨k, x, n, hk, hx, hJk, hHk, hTk, hXk, hAk⟩ := hrel
    have a0 := hAk.cell (i := 0) rfl
    by_cases hlt : k < l.length
    · obtain ⟨p, hp⟩ : ∃ p, l[k]? = some p := ⟨_, List.getElem?_eq_getElem hlt⟩
      have hd : l.drop k = p :: l.drop (k + 1) := by rw [List.drop_eq_getElem_cons hlt]; rw [List.getElem?_eq_getElem hlt] at hp; simp at hp; rw [hp]
      have hM := hid (meas_of (N := l.length) hAk hx (by simp))
      rw [hd] at hx
      obtain ⟨rfl, hx0, hx1⟩ := hx
      obtain ⟨o, hol, hop, hon⟩ := hl x (List.mem_of_getElem? hp)
      have htk : (l.take k).length < l.length := by rw [List.length_take]; omega
      have hsucc : l.take (k + 1) = l.take k ++ [x] := by rw [List.take_add_one, hp]; rfl
      obtain ⟨fn, tmps, assign, body, hyl, hR3⟩ := hY _ x wr hJk htk
      try dsimp only at hyl
      have HS := hid hsucc
      have HD := hid hd
      have HP := hid hp
      have HX1 := hid hx1
      subst hop
      clear hsucc hd hp hx1
      gi_wp2
      refine hR3.mono ?_
      rintro e W3 (⟨rfl, hJ3, hk3⟩ | ⟨rfl, hJx3⟩)
      · have hH3 := hHk.keep (fun b hb => hk3 b (by simp [hb]))
        have hT3 : TRep W3 tb L.hb sh t := (hk3 tb (by simp)).trans hTk
        have hX3 : Blk W3 tbx [.pointer (some ⟨tb, 0, none⟩)] 65 := (hk3 tbx (by simp)).trans hXk
        have hA3 : Blk W3 atb [.int .i64 o.p] 3 := (hk3 atb (by simp)).trans hAk
        have x3 := hX3.cell (i := 0) rfl
        have a3 := hA3.cell (i := 0) rfl
        clear a0
        gi_wp2_with (refine ⟨trivial, ?_⟩; gi_at_call 92; refine (callsIn_wide.2 (tWordI L (s.tick n) tb sh t o 3 3 i3 _ hH3 hT3 (hol.tick n) (by omega))).mono ?_; rintro e w4 ⟨rfl, hH4, hF4⟩; have a4 := (hA3.fr hF4 m3).cell (i := 0) rfl; have f4 := (hA3.fr hF4 m3).frozen 0)
        have hH5 := hH4.other (a := ⟨atb, 0, none⟩) n3 (.int .i64 ((s.tick n).wd o 3))
        have hF5 : Fr [L.ab, atb] W3 (w4.setCell ⟨atb, 0, none⟩ (.int .i64 ((s.tick n).wd o 3))) := (hF4.here (by simp)).set (by simp) _
        have hA5 : Blk (w4.setCell ⟨atb, 0, none⟩ (.int .i64 ((s.tick n).wd o 3))) atb [.int .i64 ((s.tick n).wd o 3)] 3 := (hA3.fr hF4 m3).set 0 _
        have hx5 : Chn s.ws ((s.tick n).wd o 3) (l.drop (k + 1)) := HX1.out
        refine ⟨⟨k + 1, _, n + 2, by omega, hx5, ?_, hH5.cast (by rw [tick_tick]), hT3.fr hF5 m1, hX3.fr hF5 m2, hA5⟩, ?_⟩
        · rw [HS.out]; exact hJ _ _ _ hJ3 (AbF.of hH3 hA3 hF5 (k := 2) hH5)
        · rw [meas_of hA5 hx5 (by simp), hM.out]; simp; omega
      · gi_wp2
        refine bodyPost_ret (results_none rfl _ _ _) rfl ?_
        exact ⟨⟨_, rfl⟩, .inr ⟨l.take (k + 1), List.take_prefix _ _, by rw [HS.out]; exact hJx3⟩⟩
    · have hk' : k = l.length := by omega
      subst hk'
      rw [List.drop_length] at hx
      have hx0 : x = 0 := hx
      subst hx0
      have HJ := hid hJk
      gi_wp2
      go_end0
      exact ⟨⟨_, rfl⟩, .inl ⟨_, rfl, by simpa using HJ.out⟩⟩
end Go.Proofs.Ytifillpcphiblaa
