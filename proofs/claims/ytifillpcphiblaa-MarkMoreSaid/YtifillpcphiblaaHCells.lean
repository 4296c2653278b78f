import Derived.Test.YtifillpcphiblaaMHNext2
import Derived.Test.YtifillpcphiblaaHRows
namespace Go.Proofs.Ytifillpcphiblaa
open Go Go.Proofs Go.RowKit Go.Shelf

attribute [local go_sem] Oper.semAt_some

/-- Steps that leave all but an arena's count of uses as it was. -/
structure AbU (ab wb : Nat) (A B : World) : Prop where
  fr : Fr [ab] A B
  cells : ∀ o, A.heap[ab]? = some o → o.isCells = true
  arena : ∀ ws u, ARep A ab wb ws u → ∃ k : Nat, ARep B ab wb ws (u + k)
theorem AbU.others {ab wb : Nat} {A B : World} (h : AbU ab wb A B) : KeepsOthers A B := h.fr.others (fun b hb o ho => by simp at hb; subst hb; exact h.cells o ho)
theorem AbU.of {ab wb : Nat} {A B : World} {ws : List Int} {u : Int} (hA : ARep A ab wb ws u) (h : Fr [ab] A B) {k : Nat} (hB : ARep B ab wb ws (u + k)) : AbU ab wb A B := by
  refine ⟨h, fun o ho => hA.s.cells o ho, fun ws' u' hA' => ⟨k, ?_⟩⟩
  have e1 : ws'.length = ws.length := by
    have h1 := hA.s; have h2 := hA'.s
    unfold Blk at h1 h2
    rw [h1] at h2
    simp at h2
    omega
  have e2 : ws' = ws := by
    have h1 := hA.c; have h2 := hA'.c
    unfold Blk at h1 h2
    rw [h1] at h2
    simp at h2
    refine List.ext_getElem? (fun i => ?_)
    have := congrArg (fun l : List Value => l[i]?) h2
    simp only [List.getElem?_map] at this
    cases h3 : ws[i]? <;> cases h4 : ws'[i]? <;> simp [h3, h4] at this ⊢
    exact this.symm
  have e3 : wrap64 u' = wrap64 u := by
    have h1 := hA.s; have h2 := hA'.s
    unfold Blk at h1 h2
    rw [h1] at h2
    simp at h2
    exact h2.2.symm
  subst e2
  refine ⟨?_, hB.c, hB.ne, hB.le⟩
  have h4 := hB.s
  have : wrap64 (u + k) = wrap64 (u' + k) := by rw [← wrap64_bump u, ← wrap64_bump u', e3]
  rw [this] at h4
  exact h4

/-- Cells, with their numbers. -/
def prs (cs : List Int) : List (Int × Int) := cs.mapIdx (fun i c => ((i : Int), c))
theorem prs_len (cs : List Int) : (prs cs).length = cs.length := by simp [prs]
theorem prs_get (cs : List Int) (k : Nat) : (prs cs)[k]? = (cs[k]?).map (fun c => ((k : Int), c)) := by simp [prs, List.getElem?_mapIdx]
theorem prs_snd (cs : List Int) : (prs cs).map (·.2) = cs := by
  refine List.ext_getElem? (fun i => ?_)
  rw [List.getElem?_map, prs_get]
  cases cs[i]? <;> rfl

/-- Cells of a ring, from the first on, each ahead of the next one. -/
structure Chain (ws : List Int) (r : RS) (cs : List Int) : Prop where
  len : cs.length = r.tot
  first : ∀ c, cs[0]? = some c → r.first = c
  next : ∀ i c c', cs[i]? = some c → cs[i + 1]? = some c' → gw ws (c + 1) = c'
  ok : ∀ c ∈ cs, Okc ws c

theorem Path_at {ws : List Int} : ∀ {l : List Int} (_h : Path ws l) (i : Nat) (c c' : Int), l[i]? = some c → l[i + 1]? = some c' → gw ws (c + 1) = c'
  | [], _, i, c, c', h1, _ => by simp at h1
  | [a], _, i, c, c', _, h2 => by simp at h2
  | a :: b :: r, h, 0, c, c', h1, h2 => by simp at h1 h2; subst h1; subst h2; exact h.1.1
  | a :: b :: r, h, i + 1, c, c', h1, h2 => Path_at h.2 i c c' (by simpa using h1) (by simpa using h2)

theorem RI.chain {ws : List Int} {r : RS} {R : Rows} (h : RI ws r R) : Chain ws r R.all := by
  refine ⟨h.tot.symm, ?_, ?_, fun c hc => h.cells.okc hc⟩
  · intro c hc
    cases e : R.all with
    | nil => rw [e] at hc; simp at hc
    | cons x l => rw [e] at hc; simp at hc; subst hc; exact h.fst _ _ e
  · intro i c c' h1 h2
    have hc := h.circ
    cases e : R.all with
    | nil => rw [e] at h1; simp at h1
    | cons x l =>
      rw [e] at hc h1 h2
      have hp : Path ws ((x :: l) ++ [x]) := hc
      have l2 := (List.getElem?_eq_some_iff.1 h2).1
      refine Path_at hp i c c' ?_ ?_
      · rw [List.getElem?_append_left (by omega)]; exact h1
      · rw [List.getElem?_append_left (by omega)]; exact h2

set_option maxRecDepth 100000 in
set_option maxHeartbeats 2000000 in
theorem cells_iter (pb rb ab wb : Nat) (r : RS) (ws : List Int) (u : Int) (cs : List Int) (w : World) (hP : Blk w pb [.pointer (some ⟨rb, 0, none⟩)] 87) (hR : RRep w rb ab r) (hA : ARep w ab wb ws u) (hC : Chain ws r cs)
    (n1 : pb ≠ ab) (n2 : rb ≠ ab) :
    IterM 2 151 #[.pointer (some ⟨pb, 0, none⟩)] (fun x : Int × Int => #[.int .i64 x.1, .int .i64 x.2]) [pb, rb, ab, wb] (AbU ab wb) (fun ys => ys = prs cs) (fun pre => pre <+: prs cs) cs.length w := by
  intro l J Jx W hF hJ hY h0
  have hle := hR.le
  have hP0 := hP.fr hF (by simp)
  have hR0 := hR.fr hF (by simp)
  have hA0 := hA.fr hF (by simp) (by simp)
  have c0 := hP0.cell (i := 0) rfl
  have r0 := hR0.reads.2.1
  have HLn := hid hC.len
  refine callsIn_of_wp Try.func151 rfl trivial ?_ rfl
  simp only [Try.ntmps151, List.size_toArray, List.length_cons, List.length_nil, Nat.reduceAdd, Nat.reduceSub, Array.replicate_succ, Array.replicate_zero, List.push_toArray, List.append_toArray, List.nil_append, List.cons_append]
  gi_wp2_with (refine ⟨trivial, ?_⟩; gi_at_call 122; refine (callsIn_wide.2 (rAll rb ab r _ hR0)).mono ?_; rintro e w' ⟨rfl, nq, rfl⟩)
  have hJ1 : J [] (W.drewN nq) := hJ _ _ _ h0 (AbU.of hA0 ((Fr.refl _ W).drewN nq) (k := 0) (by simpa using hA0.drewN nq))
  have hP1 := hP0.drewN nq
  have hR1 := hR0.drewN nq
  have hA1 := hA0.drewN nq
  obtain ⟨Wd, hWd⟩ : ∃ Wd, Wd = W.drewN nq := ⟨_, rfl⟩
  rw [← hWd] at hJ1 hP1 hR1 hA1 ⊢
  clear hWd c0 r0
  gi_loopw [11, 3] (fun i c wr => ∃ (k : Nat) (x : Int) (uk : Int), k ≤ r.tot ∧ i = .int .i64 k ∧ c = .int .i64 x ∧ (∀ y, cs[k]? = some y → x = y) ∧ J ((prs cs).take k) wr ∧ Blk wr pb [.pointer (some ⟨rb, 0, none⟩)] 87 ∧ RRep wr rb ab r ∧ ARep wr ab wb ws uk) (fun i _ _ => r.tot - (intOf i).toNat)
  case atStart => exact ⟨0, r.first, u, Nat.zero_le _, rfl, rfl, fun y hy => hC.first y hy, hJ1, hP1, hR1, hA1⟩
  case round =>
    obtain ⟨k, x, uk, hk, rfl, rfl, hx, hJk, hPk, hRk, hAk⟩ := hrel
    by_cases hlt : k < r.tot
    · obtain ⟨y, hy⟩ : ∃ y, cs[k]? = some y := ⟨_, List.getElem?_eq_getElem (by rw [HLn.out]; exact hlt)⟩
      obtain rfl := hx y hy
      have hyo := hC.ok x (List.mem_of_getElem? hy)
      have htk : ((prs cs).take k).length < cs.length := by rw [List.length_take, prs_len, HLn.out]; omega
      have hsucc : (prs cs).take (k + 1) = (prs cs).take k ++ [((k : Int), x)] := by rw [List.take_add_one, prs_get, hy]; rfl
      obtain ⟨fn, tmps, assign, body, hyl, hR3⟩ := hY _ ((k : Int), x) wr hJk htk
      dsimp only at hyl
      have HS := hid hsucc
      have HY := hid hy
      have HX := hid hx
      clear hsucc hy hx
      have q0 := hPk.cell (i := 0) rfl
      gi_wp2
      refine hR3.mono ?_
      rintro e W3 (⟨rfl, hJ3, hk3⟩ | ⟨rfl, hJx3⟩)
      · have hP3 : Blk W3 pb [.pointer (some ⟨rb, 0, none⟩)] 87 := (hk3 pb (by simp)).trans hPk
        have hR3' : RRep W3 rb ab r := ⟨(hk3 rb (by simp)).trans hRk.s, hRk.le⟩
        have hA3 : ARep W3 ab wb ws uk := ⟨(hk3 ab (by simp)).trans hAk.s, (hk3 wb (by simp)).trans hAk.c, hAk.ne, hAk.le⟩
        have q3 := hP3.cell (i := 0) rfl
        clear q0
        gi_wp2_with (refine ⟨trivial, ?_⟩; gi_at_call 146; refine (callsIn_wide.2 (rNext rb ab wb r ws uk x _ hR3' hA3 hyo)).mono ?_; rintro e w4 ⟨rfl, hA4, hF4⟩)
        go_roundw
        case rel => exact ⟨k + 1, _, _, by omega, by go_num, rfl, fun y' hy' => hC.next k x y' HY.out hy', by rw [HS.out]; exact hJ _ _ _ hJ3 (AbU.of hA3 hF4 (k := 1) (by simpa using hA4)), hP3.fr hF4 (by simpa using n1), hR3'.fr hF4 (by simpa using n2), hA4⟩
        case measure => simp [intOf]; omega
      · gi_wp2
        refine bodyPost_ret (results_none rfl _ _ _) rfl ?_
        exact ⟨⟨_, rfl⟩, .inr ⟨(prs cs).take (k + 1), List.take_prefix _ _, by rw [HS.out]; exact hJx3⟩⟩
    · have HA := hid (List.take_of_length_le (l := prs cs) (i := k) (by rw [prs_len, HLn.out]; omega))
      clear hx
      gi_wp2
      go_end0
      exact ⟨⟨_, rfl⟩, .inl ⟨_, HA.out, hJk⟩⟩
end Go.Proofs.Ytifillpcphiblaa
