import Derived.Test.YtifillpcphiblaaPMark2
import Derived.Deep.QuietTactic
import Derived.Deep.DeepCutAuto
import Derived.BigQuiet
namespace Go.Proofs.Ytifillpcphiblaa
open Go Go.Proofs Go.RowKit

/-! ref16: Links, Reached. -/

/-- The links of an object that lead somewhere, up to a word. -/
def lnkTo (o : Ob) (wd : Nat → Int) : Nat → List Int
  | 0 => []
  | j + 1 => if lkB o.k o.n j = true ∧ wd j ≠ 0 then lnkTo o wd j ++ [wd j] else lnkTo o wd j
theorem lnkTo_len (o : Ob) (wd : Nat → Int) (j : Nat) : (lnkTo o wd j).length ≤ j := by
  induction j with
  | zero => simp [lnkTo]
  | succ j ih =>
    unfold lnkTo
    split
    · simp; omega
    · omega
theorem mem_lnkTo {o : Ob} {wd : Nat → Int} {x : Int} {j : Nat} : x ∈ lnkTo o wd j ↔ ∃ i, i < j ∧ lkB o.k o.n i = true ∧ wd i ≠ 0 ∧ x = wd i := by
  induction j with
  | zero => simp [lnkTo]
  | succ j ih =>
    unfold lnkTo
    split
    · rename_i h
      rw [List.mem_append, ih, List.mem_singleton]
      constructor
      · rintro (⟨i, h1, h2⟩ | h1)
        · exact ⟨i, by omega, h2⟩
        · exact ⟨j, by omega, h.1, h.2, h1⟩
      · rintro ⟨i, h1, h2, h3, h4⟩
        by_cases e : i = j
        · subst e; exact .inr h4
        · exact .inl ⟨i, by omega, h2, h3, h4⟩
    · rename_i h
      rw [ih]
      constructor
      · rintro ⟨i, h1, h2⟩; exact ⟨i, by omega, h2⟩
      · rintro ⟨i, h1, h2, h3, h4⟩
        refine ⟨i, ?_, h2, h3, h4⟩
        by_cases e : i = j
        · subst e; exact absurd ⟨h2, h3⟩ h
        · omega
/-- How many links there are, up to a word. -/
def cntTo (o : Ob) : Nat → Nat
  | 0 => 0
  | j + 1 => cntTo o j + (if lkB o.k o.n j = true then 1 else 0)
theorem cntTo_eq (o : Ob) (j : Nat) : cntTo o j = min j o.t - min j o.f := by
  induction j with
  | zero => simp [cntTo]
  | succ j ih =>
    unfold cntTo lkB
    rw [ih]
    unfold Ob.f Ob.t
    by_cases h : lkF o.k ≤ j ∧ j < lkT o.k o.n
    · rw [if_pos (by simpa using h)]; omega
    · rw [if_neg (by simpa using h)]; omega
theorem cntTo_n (o : Ob) : cntTo o o.n = nl o := by
  rw [cntTo_eq]
  unfold nl Ob.t
  have := lkT_le o.k o.n
  by_cases h : o.f ≤ o.n <;> omega

set_option maxRecDepth 100000 in
set_option maxHeartbeats 6400000 in
theorem dLinks (o : Ob) (mk : Int) (wd : Nat → Int) (g : Nat) (w : World) (hB : Blk w g (wcs o wd) 2) (hd : Hd o.k o.n o.a mk) (hwr : ∀ j, j < o.n → 0 ≤ wd j ∧ wd j ≤ 65536) :
    Calls Try.prog 105 #[obV o.k o.n o.a mk g o.n] w fun e w' => ∃ v, e = .returned v ∧ Rowi w' w.heap.size v (lnkTo o wd o.n) ∧ Fr [] w w' := by
  have B0 := Blk.new w [.int .i64 o.k, .int .i64 o.n, .int .i64 o.a, .int .i64 mk, .slice (some ⟨g, 0, none⟩) o.n o.n] 114
  have hF0 : Fr [] w (w.alloc (.cells #[.int .i64 o.k, .int .i64 o.n, .int .i64 o.a, .int .i64 mk, .slice (some ⟨g, 0, none⟩) o.n o.n] 114)) := (Fr.refl _ w).alloc _
  have HB0 := hid B0
  have HF0 := hid hF0
  have HB := hid hB
  have HD := hid hd
  have HWR := hid hwr
  obtain ⟨N, hN⟩ : ∃ N, N = o.n := ⟨_, rfl⟩
  have hN32 : N < 32 := by have := hd.s1; omega
  have HN := hid hN
  unfold obV
  rw [← hN] at HB0 HF0 ⊢
  clear B0 hF0 hB hd hwr hN
  go_enter Try.func105, Try.ntmps105
  go_wp2_with fail
  go_loopw [4, 3] (fun jv out wr => ∃ j : Nat, j ≤ N ∧ jv = .int .i64 j ∧ Rowi wr w.heap.size out (lnkTo o wd j) ∧ Blk wr w.heap.size [.int .i64 o.k, .int .i64 N, .int .i64 o.a, .int .i64 mk, .slice (some ⟨g, 0, none⟩) N N] 114 ∧ Fr [] w wr) (fun jv _ _ => N - (intOf jv).toNat)
  case atStart => exact ⟨0, Nat.zero_le _, rfl, Rowi.nil _ _, HB0.out, HF0.out⟩
  case round =>
    obtain ⟨j, hj, rfl, hrow, hb, hF⟩ := hrel
    obtain ⟨A0, c0, rfl⟩ := hrow.form
    have b0 := hb.cell (i := 0) rfl
    have b1 := hb.cell (i := 1) rfl
    have b2 := hb.cell (i := 2) rfl
    have b3 := hb.cell (i := 3) rfl
    have b4 := hb.cell (i := 4) rfl
    obtain ⟨ln, hln⟩ : ∃ ln, ln = (lnkTo o wd j).length := ⟨_, rfl⟩
    rw [← hln] at hrow ⊢
    have HROW := hid hrow
    have HBB := hid hb
    have HF := hid hF
    have HLN := hid hln
    clear hrow hb hF hln
    by_cases hlt : (j : Int) < (N : Int)
    · go_wp2_with fail
      refine (dLink o.k N o.a mk j (by rw [HN.out]; exact HD.out) wr).mono ?_
      rintro e w2 ⟨rfl, hF2⟩
      have hBw := HB.out.fr (HF.out.trans hF2) (by simp)
      have cg : w2.cell? ⟨g, j, none⟩ = some (.int .i64 (wd j)) := hBw.cell (by
        unfold wcs
        rw [List.getElem?_map, List.getElem?_range (by have := HN.out; omega)]
        rfl)
      have hb2 := HBB.out.fr hF2 (by simp)
      have d4 := hb2.cell (i := 4) rfl
      have d0 := hb2.cell (i := 0) rfl
      have hrow2 : Rowi w2 w.heap.size (.slice A0 ln c0) (lnkTo o wd j) := HROW.out.fr hF2 (by simp)
      have HB2 := hid hb2
      have HROW2 := hid hrow2
      have HF2 := hid (HF.out.trans hF2)
      have j1 : (0 : Int) ≤ (j : Int) := by omega
      have hwj := HWR.out j (by have := HN.out; omega)
      clear hBw hb2 hrow2 hF2 b0 b1 b2 b3 b4
      have hlk : lkB o.k o.n j = lkB o.k N j := by rw [HN.out]
      have HLK := hid hlk
      clear hlk
      by_cases hyes : lkB o.k N j = true ∧ wd j ≠ 0
      · obtain ⟨y1, y2⟩ := hyes
        have y3 : (wd j == 0) = false := by simpa using y2
        rw [y1]
        have hnext : lnkTo o wd (j + 1) = lnkTo o wd j ++ [wd j] := by
          show (if _ then _ else _) = _
          rw [if_pos ⟨by rw [HLK.out]; exact y1, y2⟩]
        have h11 : Rowi (w2.alloc (.cells #[.int .i64 (wd j)] 3)) w.heap.size (.slice A0 ln c0) (lnkTo o wd j) := HROW2.out.alloc _
        have hS1 : Srci (w2.alloc (.cells #[.int .i64 (wd j)] 3)) (some ⟨w2.heap.size, 0, none⟩) 1 [wd j] := (Rowi.one w2 (wd j) (Nat.le_refl w2.heap.size)).src
        have hll := lnkTo_len o wd j
        have hws : w.heap.size ≤ w2.heap.size := HF2.out.size
        have H11 := hid h11
        have HS1 := hid hS1
        have HNEXT := hid hnext
        clear h11 hS1 hnext
        go_wp2_with (at_builtin; refine wpList_appi rfl _ _ rfl w.heap.size (.slice A0 ln c0) (lnkTo o wd j) rfl H11.out (some ⟨w2.heap.size, 0, none⟩) 1 1 [wd j] rfl HS1.out (by simp) (by omega) (by simp; omega) ?_)
        intro v3 w3 h3 f3 b3
        have hb3 := (HB2.out.alloc (.cells #[.int .i64 (wd j)] 3)).fr f3 (fun hc => H11.out.ne (HB2.out.alloc _) (by decide) _ (by simpa using hc) rfl)
        have hF3 : Fr [] w w3 := (HF2.out.trans ((Fr.refl [] w2).alloc _)).step f3 (fun y hy => .inr (HROW2.out.lt y (by simpa using hy)).1)
        have HB3 := hid hb3
        have HF3 := hid hF3
        have H3 := hid h3
        clear hb3 hF3 h3 f3 b3
        go_wp2_with fail
        go_roundw
        case rel => exact ⟨j + 1, by omega, by go_num, by rw [HNEXT.out]; exact H3.out, HB3.out, HF3.out⟩
        case measure => simp [intOf]; omega
      · have hnext : lnkTo o wd (j + 1) = lnkTo o wd j := by
          show (if _ then _ else _) = _
          rw [if_neg (by rw [HLK.out]; exact hyes)]
        have HNEXT := hid hnext
        clear hnext
        cases hl : lkB o.k N j with
        | false =>
          clear hyes hl
          go_wp2_with fail
          go_roundw
          case rel => exact ⟨j + 1, by omega, by go_num, by rw [HNEXT.out]; exact HROW2.out, HB2.out, HF2.out⟩
          case measure => simp [intOf]; omega
        | true =>
          have y2 : wd j = 0 := by
            by_cases e : wd j = 0
            · exact e
            · exact absurd ⟨hl, e⟩ hyes
          rw [y2] at cg
          clear hyes hl hwj y2
          go_wp2_with fail
          go_roundw
          case rel => exact ⟨j + 1, by omega, by go_num, by rw [HNEXT.out]; exact HROW2.out, HB2.out, HF2.out⟩
          case measure => simp [intOf]; omega
    · go_wp2_with fail
      go_ret
      have hjN : j = N := by omega
      exact ⟨_, rfl, by rw [← hjN]; exact HROW.out, HF.out⟩

theorem mget_tr (B : List Int) (p : Int) : mget (B.map fun x => (x, Value.bool true)) p = if p ∈ B then some (.bool true) else none := by
  induction B with
  | nil => simp [mget]
  | cons b r ih =>
    simp only [List.map_cons, mget]
    by_cases e : p = b
    · simp [e]
    · rw [if_neg e, ih]; simp [e]
theorem mput_tr (B : List Int) (p : Int) (h : p ∉ B) : mput (B.map fun x => (x, Value.bool true)) p (.bool true) = (B ++ [p]).map fun x => (x, Value.bool true) := by
  induction B with
  | nil => rfl
  | cons b r ih =>
    have e : ¬ p = b := fun e => h (by simp [e])
    simp only [List.map_cons, mput, if_neg e, List.cons_append]
    rw [ih (fun hc => h (List.mem_cons_of_mem _ hc))]

theorem Rowi.dropLast {w : World} {B : Nat} {A : Option Addr} {r c : Nat} {l : List Int} {x : Int} (h : Rowi w B (.slice A (r + 1) c) (l ++ [x])) (hl : l.length = r) : Rowi w B (.slice A r c) l := by
  rcases h.2 with ⟨h1, h2⟩ | ⟨g, cap, cur, e1, e2, e3, e4, e5, e6, e7⟩
  · simp at h2
  · injection e1 with f1 f2 f3
    subst f1
    subst f3
    refine ⟨by rw [ivs_len]; simp, .inr ⟨g, c, cur, by rw [hl], e2, e3, by simp at e4; omega, e5, e6, ?_⟩⟩
    have := congrArg (List.take (l.length * 1)) e7
    rw [List.take_take] at this
    simp only [List.length_append, List.length_cons, List.length_nil] at this
    rw [Nat.min_eq_left (by omega)] at this
    rw [this]
    unfold ivs
    rw [List.map_append, List.take_append_of_le_length (by simp), List.take_of_length_le (by simp)]

/-- A search from some addresses. -/
structure DFS (obs : List Ob) (W0 : Int → Nat → Int) (fr : List Int) (Lv : List Ob) (work : List Int) (lk : Nat) : Prop where
  nd : Lv.Nodup
  sub : ∀ o ∈ Lv, o ∈ obs ∧ Rch obs W0 fr o.p
  wk : ∀ x ∈ work, ∃ o ∈ obs, o.p = x ∧ Rch obs W0 fr o.p
  clo : ∀ o ∈ Lv, ∀ j, Lk o j → ∀ o' ∈ obs, o'.p = W0 o.p j → o' ∈ Lv ∨ o'.p ∈ work
  rt : ∀ o ∈ obs, o.p ∈ fr → o ∈ Lv ∨ o.p ∈ work
  lk : lk = (Lv.map nl).sum
  len : work.length ≤ fr.length + 31 * Lv.length
theorem DFS.skip {obs : List Ob} {W0 : Int → Nat → Int} {fr : List Int} {Lv : List Ob} {work : List Int} {lk : Nat} {o : Ob} (h : DFS obs W0 fr Lv (work ++ [o.p]) lk) (hone : ∀ o ∈ obs, ∀ o' ∈ obs, o.p = o'.p → o = o') (ho : o ∈ Lv) : DFS obs W0 fr Lv work lk := by
  have hm := (h.sub o ho).1
  have key : ∀ o' ∈ obs, o' ∈ Lv ∨ o'.p ∈ work ++ [o.p] → o' ∈ Lv ∨ o'.p ∈ work := fun o' ho' hc => by
    rcases hc with h1 | h1
    · exact .inl h1
    · rcases List.mem_append.1 h1 with h2 | h2
      · exact .inr h2
      · have := hone o' ho' o hm (List.mem_singleton.1 h2)
        subst this
        exact .inl ho
  exact ⟨h.nd, h.sub, fun x hx => h.wk x (List.mem_append.2 (.inl hx)), fun a ha j hj o' ho' e => key o' ho' (h.clo a ha j hj o' ho' e), fun a ha hp => key a ha (h.rt a ha hp), h.lk, by have := h.len; simp at this; omega⟩
theorem lkB_iff {o : Ob} {j : Nat} : lkB o.k o.n j = true ↔ Lk o j := by unfold lkB Lk Ob.f Ob.t; simp
theorem DFS.visit {obs : List Ob} {W0 : Int → Nat → Int} {fr : List Int} {Lv : List Ob} {work : List Int} {lk : Nat} {o : Ob} (h : DFS obs W0 fr Lv (work ++ [o.p]) lk) (hone : ∀ o ∈ obs, ∀ o' ∈ obs, o.p = o'.p → o = o') (ho : o ∈ obs) (hnew : o ∉ Lv) (hn : o.n < 32)
    (hw : ∀ j, j < o.n → W0 o.p j = 0 ∨ ∃ o' ∈ obs, o'.p = W0 o.p j) (hpos : ∀ o' ∈ obs, o'.p ≠ 0) : DFS obs W0 fr (Lv ++ [o]) (work ++ lnkTo o (W0 o.p) o.n) (lk + nl o) := by
  have hr : Rch obs W0 fr o.p := by
    obtain ⟨o', ho', e, h1⟩ := h.wk o.p (by simp)
    have := hone o' ho' o ho e
    subst this
    exact h1
  have key : ∀ o' ∈ obs, o' ∈ Lv ∨ o'.p ∈ work ++ [o.p] → o' ∈ Lv ++ [o] ∨ o'.p ∈ work ++ lnkTo o (W0 o.p) o.n := fun o' ho' hc => by
    rcases hc with h1 | h1
    · exact .inl (List.mem_append.2 (.inl h1))
    · rcases List.mem_append.1 h1 with h2 | h2
      · exact .inr (List.mem_append.2 (.inl h2))
      · have := hone o' ho' o ho (List.mem_singleton.1 h2)
        subst this
        exact .inl (by simp)
  refine ⟨?_, fun a ha => ?_, fun x hx => ?_, fun a ha j hj o' ho' e => ?_, fun a ha hp => key a ha (h.rt a ha hp), ?_, ?_⟩
  · rw [List.nodup_append]
    exact ⟨h.nd, by simp, fun x hx y hy e => by rw [List.mem_singleton.1 hy] at e; subst e; exact hnew hx⟩
  · rcases List.mem_append.1 ha with h1 | h1
    · exact h.sub a h1
    · rw [List.mem_singleton.1 h1]; exact ⟨ho, hr⟩
  · rcases List.mem_append.1 hx with h1 | h1
    · exact h.wk x (List.mem_append.2 (.inl h1))
    · obtain ⟨j, hj, hb, h0, rfl⟩ := mem_lnkTo.1 h1
      rcases hw j hj with h2 | ⟨o', ho', e⟩
      · exact absurd h2 h0
      · exact ⟨o', ho', e, Rch.step o o' j hr ho (lkB_iff.1 hb) ho' e⟩
  · rcases List.mem_append.1 ha with h1 | h1
    · exact key o' ho' (h.clo a h1 j hj o' ho' e)
    · rw [List.mem_singleton.1 h1] at hj e
      refine .inr (List.mem_append.2 (.inr (mem_lnkTo.2 ⟨j, hj.lt, lkB_iff.2 hj, ?_, e⟩)))
      rw [← e]
      exact hpos o' ho'
  · rw [h.lk]; simp
  · have h1 := h.len
    have h2 := lnkTo_len o (W0 o.p) o.n
    simp at h1 ⊢
    omega
theorem DFS.fin {obs : List Ob} {W0 : Int → Nat → Int} {fr : List Int} {Lv : List Ob} {lk : Nat} (h : DFS obs W0 fr Lv [] lk) (hone : ∀ o ∈ obs, ∀ o' ∈ obs, o.p = o'.p → o = o') : ∀ o ∈ obs, o ∈ Lv ↔ Rch obs W0 fr o.p := by
  have key : ∀ p, Rch obs W0 fr p → ∀ o ∈ obs, o.p = p → o ∈ Lv := by
    intro p hr
    induction hr with
    | root p hp =>
      intro o ho e
      rcases h.rt o ho (e ▸ hp) with h1 | h1
      · exact h1
      · cases h1
    | step o o' j hr ho hj ho' e ih =>
      intro o2 ho2 e2
      have := hone o2 ho2 o' ho' e2
      subst this
      rcases h.clo o (ih o ho rfl) j hj o2 ho' e with h1 | h1
      · exact h1
      · cases h1
  exact fun o ho => ⟨fun h1 => (h.sub o h1).2, fun h1 => key o.p h1 o ho rfl⟩
end Go.Proofs.Ytifillpcphiblaa
