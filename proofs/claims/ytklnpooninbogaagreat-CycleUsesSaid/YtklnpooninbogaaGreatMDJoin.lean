
import Derived.Test.YtklnpooninbogaaGreatDAlloc
import Derived.Test.YtklnpooninbogaaGreatMHList3
import Derived.Test.YtklnpooninbogaaGreatMHRows
import Derived.Deep.QuietTactic
import Derived.BigQuiet
import Derived.Test.YtklnpooninbogaaGreatHBegin
import Derived.Deep.DeepCutAuto
namespace Go.Proofs.YtklnpooninbogaaGreat
open Go Go.Proofs Go.RowKit
theorem obZero (w : World) : (zeroValue 75).run Tryz.prog w = .ok (.agg #[.int .i64 0, .int .i64 0, .int .i64 0, .int .i64 0, .slice none 0 0]) w := by kernel_rfl
def wcs (o : Ob) (wd : Nat → Int) : List Value := (List.range o.n).map fun j => .int .i64 (wd j)
theorem wcs_len (o : Ob) (wd : Nat → Int) : (wcs o wd).length = o.n := by simp [wcs]
theorem wcs_set (o : Ob) (wd : Nat → Int) (j : Nat) (v : Int) : (wcs o wd).set j (.int .i64 v) = wcs o (fun i => if i = j then v else wd i) := by
  apply List.ext_getElem?
  intro i
  unfold wcs
  by_cases e : i = j
  · subst e
    by_cases h : i < o.n
    · rw [List.getElem?_set_self (by simpa using h)]; simp [h]
    · rw [List.getElem?_eq_none (by simp; omega), List.getElem?_eq_none (by simp; omega)]
  · rw [List.getElem?_set_ne (Ne.symm e)]
    by_cases h : i < o.n
    · simp [h, e]
    · rw [List.getElem?_eq_none (by simp; omega), List.getElem?_eq_none (by simp; omega)]
theorem wcs_congr (o : Ob) {wd wd' : Nat → Int} (h : ∀ j, j < o.n → wd' j = wd j) : wcs o wd' = wcs o wd := by
  unfold wcs
  exact List.map_congr_left (fun j hj => by rw [h j (List.mem_range.1 hj)])
structure DObs (w : World) (B : Nat) (m : List (Int × Value)) (mk : Int) (obs : List Ob) (G : Int → Nat) (wd : Ob → Nat → Int) : Prop where
  get : ∀ o ∈ obs, mget m o.p = some (obV o.k o.n o.a mk (G o.p) o.n)
  blk : ∀ o ∈ obs, B ≤ G o.p ∧ Blk w (G o.p) (wcs o (wd o)) 2
  inj : ∀ o ∈ obs, ∀ o' ∈ obs, G o.p = G o'.p → o.p = o'.p
  only : ∀ p, (mget m p).isSome = true → ∃ o ∈ obs, o.p = p
theorem DObs.fr {S : List Nat} {w w' : World} {B : Nat} {m : List (Int × Value)} {mk : Int} {obs : List Ob} {G : Int → Nat} {wd wd' : Ob → Nat → Int} (h : DObs w B m mk obs G wd) (hf : Fr S w w') (hS : ∀ o ∈ obs, G o.p ∉ S) (hw : ∀ o ∈ obs, ∀ j, j < o.n → wd' o j = wd o j) : DObs w' B m mk obs G wd' :=
  ⟨h.get, fun o ho => ⟨(h.blk o ho).1, by rw [wcs_congr o (hw o ho)]; exact (h.blk o ho).2.fr hf (hS o ho)⟩, h.inj, h.only⟩
theorem mget_mput_same (m : List (Int × Value)) (k : Int) (v : Value) : mget (mput m k v) k = some v := by
  induction m with
  | nil => simp [mput, mget]
  | cons x r ih =>
    by_cases e : k = x.1
    · simp [mput, mget, e]
    · simp [mput, mget, e, ih]
theorem mget_mput_ne (m : List (Int × Value)) {k k' : Int} (h : k' ≠ k) (v : Value) : mget (mput m k v) k' = mget m k' := by
  induction m with
  | nil => simp [mput, mget, h]
  | cons x r ih =>
    by_cases e : k = x.1
    · simp [mput, mget, e, show ¬ k' = x.1 from fun e2 => h (e2.trans e.symm)]
    · by_cases e2 : k' = x.1
      · simp [mput, mget, e, e2]
      · simp [mput, mget, e, e2, ih]
theorem DObs.new {w w' : World} {B : Nat} {m : List (Int × Value)} {mk : Int} {obs : List Ob} {G : Int → Nat} {wd wd' : Ob → Nat → Int} (h : DObs w B m mk obs G wd) (hb : ∀ o ∈ obs, Blk w' (G o.p) (wcs o (wd o)) 2) (o : Ob) (g : Nat) (hg : B ≤ g) (hnew : ∀ o' ∈ obs, o'.p ≠ o.p ∧ G o'.p ≠ g) (hB : Blk w' g (List.replicate o.n (.int .i64 0)) 2)
    (hw : ∀ o' ∈ obs, ∀ j, j < o'.n → wd' o' j = wd o' j) (h0 : ∀ j, j < o.n → wd' o j = 0) : DObs w' B (mput m o.p (obV o.k o.n o.a mk g o.n)) mk (obs ++ [o]) (fun p => if p = o.p then g else G p) wd' := by
  refine ⟨fun o' ho' => ?_, fun o' ho' => ?_, fun o1 ho1 o2 ho2 e => ?_, fun p hp => ?_⟩
  · rcases List.mem_append.1 ho' with h1 | h1
    · have hne := (hnew o' h1).1
      rw [mget_mput_ne m hne]
      simp only [if_neg hne]
      exact h.get o' h1
    · obtain rfl := List.mem_singleton.1 h1
      rw [mget_mput_same]
      simp
  · rcases List.mem_append.1 ho' with h1 | h1
    · simp only [if_neg (hnew o' h1).1]
      rw [wcs_congr o' (hw o' h1)]
      exact ⟨(h.blk o' h1).1, hb o' h1⟩
    · obtain rfl := List.mem_singleton.1 h1
      simp only [if_true]
      have : wcs o' (wd' o') = List.replicate o'.n (.int .i64 0) := by
        rw [wcs_congr o' (wd := fun _ => 0) h0]
        unfold wcs
        apply List.ext_getElem?
        intro i
        by_cases hi : i < o'.n
        · simp [hi]
        · rw [List.getElem?_eq_none (by simp; omega), List.getElem?_eq_none (by simp; omega)]
      rw [this]
      exact ⟨hg, hB⟩
  · rcases List.mem_append.1 ho1 with h1 | h1 <;> rcases List.mem_append.1 ho2 with h2 | h2
    · simp only [if_neg (hnew o1 h1).1, if_neg (hnew o2 h2).1] at e
      exact h.inj o1 h1 o2 h2 e
    · obtain rfl := List.mem_singleton.1 h2
      simp only [if_neg (hnew o1 h1).1, if_true] at e
      exact absurd e (hnew o1 h1).2
    · obtain rfl := List.mem_singleton.1 h1
      simp only [if_neg (hnew o2 h2).1, if_true] at e
      exact absurd e.symm (hnew o2 h2).2
    · rw [List.mem_singleton.1 h1, List.mem_singleton.1 h2]
  · by_cases e : p = o.p
    · exact ⟨o, by simp, e.symm⟩
    · rw [mget_mput_ne m e] at hp
      obtain ⟨o', h1, h2⟩ := h.only p hp
      exact ⟨o', List.mem_append.2 (.inl h1), h2⟩
theorem DObs.put {w w' : World} {B : Nat} {m : List (Int × Value)} {mk : Int} {obs : List Ob} {G : Int → Nat} {wd wd' : Ob → Nat → Int} (h : DObs w B m mk obs G wd) (hone : ∀ o ∈ obs, ∀ o' ∈ obs, o.p = o'.p → o = o') {o : Ob} (ho : o ∈ obs) {j : Nat} {v : Int} (hf : Fr [G o.p] w w') (hB : Blk w' (G o.p) ((wcs o (wd o)).set j (.int .i64 v)) 2)
    (hw : ∀ o' ∈ obs, o' ≠ o → ∀ i, i < o'.n → wd' o' i = wd o' i) (hw2 : ∀ i, i < o.n → wd' o i = if i = j then v else wd o i) : DObs w' B m mk obs G wd' := by
  refine ⟨h.get, fun o' ho' => ⟨(h.blk o' ho').1, ?_⟩, h.inj, h.only⟩
  by_cases e : o' = o
  · subst e
    rw [wcs_set] at hB
    rw [wcs_congr o' hw2]
    exact hB
  · rw [wcs_congr o' (hw o' ho' e)]
    refine (h.blk o' ho').2.fr hf (fun hc => e (hone o' ho' o ho (h.inj o' ho' o ho (List.mem_singleton.1 hc))))
theorem fp_all {L : HL} {x : Nat} (h : x ∈ L.fp) : x ∈ L.all := by simp [HL.all, h]
theorem apart_p {s : HS} {A : Rg} {z : Int → Int} (h : HI s A z) {q q' : Option Nat} {c c' : Int} (hc : c ∈ (A q).all) (hc' : c' ∈ (A q').all) (hq : q ≠ q') : c ≠ c' := by
  intro e
  have h1 := h.apart q c q' c' hc hc' (.inl hq)
  have h2 := h.pos q c hc
  have h3 := h.pos q' c' hc'
  subst e
  omega
def W0of (s : HS) : Int → Nat → Int := fun p j => gw s.ws (p + 3 + j)
def MGof (obs : List Ob) (s : HS) (fr : List Int) : MG := ⟨Rch obs (W0of s) fr, W0of s, Rch obs (W0of s) fr⟩
theorem nl_le {o : Ob} (h : o.n < 32) : nl o ≤ 31 := by
  unfold nl Ob.t
  have := lkT_le o.k o.n
  omega
theorem sum_le {f : Ob → Nat} {c : Nat} : ∀ {l : List Ob}, (∀ o ∈ l, f o ≤ c) → (l.map f).sum ≤ c * l.length := by
  intro l
  induction l with
  | nil => intro _; simp
  | cons a l ih =>
    intro h
    have h1 := ih (fun o ho => h o (List.mem_cons_of_mem _ ho))
    have h2 := h a List.mem_cons_self
    simp only [List.map_cons, List.sum_cons, List.length_cons, Nat.mul_add, Nat.mul_one]
    omega
theorem pot_le {A : Rg} {g : MG} {obs : List Ob} (h : ∀ o ∈ obs, o.n < 32) : pot A g obs ≤ 32 * obs.length := by
  unfold pot
  refine sum_le (fun o ho => ?_)
  have := nl_le (h o ho)
  split <;> omega
theorem MI.all {s s' : HS} {A' : Rg} {z : Int → Int} {obs : List Ob} {fr : List Int} {U : Nat} (h : MI s' A' z obs (MGof obs s fr) 0 0 U) (hno : NoG A') (hroot : ∀ o ∈ obs, o.p ∈ fr → Mkd A' o) :
    (∀ o ∈ obs, Mkd A' o ↔ Rch obs (W0of s) fr o.p) ∧ U = 0 := by
  have h1 : ∀ o ∈ obs, Rch obs (W0of s) fr o.p → Mkd A' o := h.fin hno (obs0 := obs) (fr := fr) (fun _ h => h) (fun _ _ h => h) hroot
  refine ⟨fun o ho => ⟨h.mS o ho, h1 o ho⟩, ?_⟩
  obtain ⟨r, hr, hu⟩ := h.u
  have hr0 : r = 0 := by
    rcases hr with ⟨_, e⟩ | ⟨o, ho, e, hb, _⟩
    · exact e
    · have := (h.mh.hi.bound (q := o.q) (c := o.p) (by simp [Rows.all, hb])).1
      omega
  rw [pot_zero (fun o ho hS => by
    rcases h1 o ho hS with h2 | h2
    · rw [hno o.q] at h2; cases h2
    · exact h2)] at hu
  omega
def lnkTo (o : Ob) (wd : Nat → Int) : Nat → List Int
  | 0 => []
  | j + 1 => if lkB o.k o.n j = true ∧ wd j ≠ 0 then lnkTo o wd j ++ [wd j] else lnkTo o wd j
theorem lnkTo_len (o : Ob) (wd : Nat → Int) (j : Nat) : (lnkTo o wd j).length ≤ j := by
  induction j with
  | zero => simp [lnkTo]
  | succ j ih =>
    unfold lnkTo
    split
    · simp; omega
    · omega
theorem mem_lnkTo {o : Ob} {wd : Nat → Int} {x : Int} {j : Nat} : x ∈ lnkTo o wd j ↔ ∃ i, i < j ∧ lkB o.k o.n i = true ∧ wd i ≠ 0 ∧ x = wd i := by
  induction j with
  | zero => simp [lnkTo]
  | succ j ih =>
    unfold lnkTo
    split
    · rename_i h
      rw [List.mem_append, ih, List.mem_singleton]
      constructor
      · rintro (⟨i, h1, h2⟩ | h1)
        · exact ⟨i, by omega, h2⟩
        · exact ⟨j, by omega, h.1, h.2, h1⟩
      · rintro ⟨i, h1, h2, h3, h4⟩
        by_cases e : i = j
        · subst e; exact .inr h4
        · exact .inl ⟨i, by omega, h2, h3, h4⟩
    · rename_i h
      rw [ih]
      constructor
      · rintro ⟨i, h1, h2⟩; exact ⟨i, by omega, h2⟩
      · rintro ⟨i, h1, h2, h3, h4⟩
        refine ⟨i, ?_, h2, h3, h4⟩
        by_cases e : i = j
        · subst e; exact absurd ⟨h2, h3⟩ h
        · omega
def cntTo (o : Ob) : Nat → Nat
  | 0 => 0
  | j + 1 => cntTo o j + (if lkB o.k o.n j = true then 1 else 0)
theorem cntTo_eq (o : Ob) (j : Nat) : cntTo o j = min j o.t - min j o.f := by
  induction j with
  | zero => simp [cntTo]
  | succ j ih =>
    unfold cntTo lkB
    rw [ih]
    unfold Ob.f Ob.t
    by_cases h : lkF o.k ≤ j ∧ j < lkT o.k o.n
    · rw [if_pos (by simpa using h)]; omega
    · rw [if_neg (by simpa using h)]; omega
theorem cntTo_n (o : Ob) : cntTo o o.n = nl o := by
  rw [cntTo_eq]
  unfold nl Ob.t
  have := lkT_le o.k o.n
  by_cases h : o.f ≤ o.n <;> omega
set_option maxRecDepth 100000 in
set_option maxHeartbeats 6400000 in
theorem dLinks (o : Ob) (mk : Int) (wd : Nat → Int) (g : Nat) (w : World) (hB : Blk w g (wcs o wd) 2) (hd : Hd o.k o.n o.a mk) (hwr : ∀ j, j < o.n → 0 ≤ wd j ∧ wd j ≤ 65536) :
    Calls Tryz.prog 107 #[obV o.k o.n o.a mk g o.n] w fun e w' => ∃ v, e = .returned v ∧ Rowi w' w.heap.size v (lnkTo o wd o.n) ∧ Fr [] w w' := by
  have B0 := Blk.new w [.int .i64 o.k, .int .i64 o.n, .int .i64 o.a, .int .i64 mk, .slice (some ⟨g, 0, none⟩) o.n o.n] 75
  have hF0 : Fr [] w (w.alloc (.cells #[.int .i64 o.k, .int .i64 o.n, .int .i64 o.a, .int .i64 mk, .slice (some ⟨g, 0, none⟩) o.n o.n] 75)) := (Fr.refl _ w).alloc _
  have HB0 := hid B0
  have HF0 := hid hF0
  have HB := hid hB
  have HD := hid hd
  have HWR := hid hwr
  obtain ⟨N, hN⟩ : ∃ N, N = o.n := ⟨_, rfl⟩
  have hN32 : N < 32 := by have := hd.s1; omega
  have HN := hid hN
  unfold obV
  rw [← hN] at HB0 HF0 ⊢
  clear B0 hF0 hB hd hwr hN
  go_enter Tryz.func107, Tryz.ntmps107
  go_wp2_with fail
  go_loopw [4, 3] (fun jv out wr => ∃ j : Nat, j ≤ N ∧ jv = .int .i64 j ∧ Rowi wr w.heap.size out (lnkTo o wd j) ∧ Blk wr w.heap.size [.int .i64 o.k, .int .i64 N, .int .i64 o.a, .int .i64 mk, .slice (some ⟨g, 0, none⟩) N N] 75 ∧ Fr [] w wr) (fun jv _ _ => N - (intOf jv).toNat)
  case atStart => exact ⟨0, Nat.zero_le _, rfl, Rowi.nil _ _, HB0.out, HF0.out⟩
  case round =>
    obtain ⟨j, hj, rfl, hrow, hb, hF⟩ := hrel
    obtain ⟨A0, c0, rfl⟩ := hrow.form
    have b0 := hb.cell (i := 0) rfl
    have b1 := hb.cell (i := 1) rfl
    have b2 := hb.cell (i := 2) rfl
    have b3 := hb.cell (i := 3) rfl
    have b4 := hb.cell (i := 4) rfl
    obtain ⟨ln, hln⟩ : ∃ ln, ln = (lnkTo o wd j).length := ⟨_, rfl⟩
    rw [← hln] at hrow ⊢
    have HROW := hid hrow
    have HBB := hid hb
    have HF := hid hF
    have HLN := hid hln
    clear hrow hb hF hln
    by_cases hlt : (j : Int) < (N : Int)
    · go_wp2_with fail
      refine (dLink o.k N o.a mk j (by rw [HN.out]; exact HD.out) wr).mono ?_
      rintro e w2 ⟨rfl, hF2⟩
      have hBw := HB.out.fr (HF.out.trans hF2) (by simp)
      have cg : w2.cell? ⟨g, j, none⟩ = some (.int .i64 (wd j)) := hBw.cell (by
        unfold wcs
        rw [List.getElem?_map, List.getElem?_range (by have := HN.out; omega)]
        rfl)
      have hb2 := HBB.out.fr hF2 (by simp)
      have d4 := hb2.cell (i := 4) rfl
      have d0 := hb2.cell (i := 0) rfl
      have hrow2 : Rowi w2 w.heap.size (.slice A0 ln c0) (lnkTo o wd j) := HROW.out.fr hF2 (by simp)
      have HB2 := hid hb2
      have HROW2 := hid hrow2
      have HF2 := hid (HF.out.trans hF2)
      have j1 : (0 : Int) ≤ (j : Int) := by omega
      have hwj := HWR.out j (by have := HN.out; omega)
      clear hBw hb2 hrow2 hF2 b0 b1 b2 b3 b4
      have hlk : lkB o.k o.n j = lkB o.k N j := by rw [HN.out]
      have HLK := hid hlk
      clear hlk
      by_cases hyes : lkB o.k N j = true ∧ wd j ≠ 0
      · obtain ⟨y1, y2⟩ := hyes
        have y3 : (wd j == 0) = false := by simpa using y2
        rw [y1]
        have hnext : lnkTo o wd (j + 1) = lnkTo o wd j ++ [wd j] := by
          show (if _ then _ else _) = _
          rw [if_pos ⟨by rw [HLK.out]; exact y1, y2⟩]
        have h11 : Rowi (w2.alloc (.cells #[.int .i64 (wd j)] 3)) w.heap.size (.slice A0 ln c0) (lnkTo o wd j) := HROW2.out.alloc _
        have hS1 : Srci (w2.alloc (.cells #[.int .i64 (wd j)] 3)) (some ⟨w2.heap.size, 0, none⟩) 1 [wd j] := (Rowi.one w2 (wd j) (Nat.le_refl w2.heap.size)).src
        have hll := lnkTo_len o wd j
        have hws : w.heap.size ≤ w2.heap.size := HF2.out.size
        have H11 := hid h11
        have HS1 := hid hS1
        have HNEXT := hid hnext
        clear h11 hS1 hnext
        go_wp2_with (at_builtin; refine wpList_appi rfl _ _ rfl w.heap.size (.slice A0 ln c0) (lnkTo o wd j) rfl H11.out (some ⟨w2.heap.size, 0, none⟩) 1 1 [wd j] rfl HS1.out (by simp) (by omega) (by simp; omega) ?_)
        intro v3 w3 h3 f3 b3
        have hb3 := (HB2.out.alloc (.cells #[.int .i64 (wd j)] 3)).fr f3 (fun hc => H11.out.ne (HB2.out.alloc _) (by decide) _ (by simpa using hc) rfl)
        have hF3 : Fr [] w w3 := (HF2.out.trans ((Fr.refl [] w2).alloc _)).step f3 (fun y hy => .inr (HROW2.out.lt y (by simpa using hy)).1)
        have HB3 := hid hb3
        have HF3 := hid hF3
        have H3 := hid h3
        clear hb3 hF3 h3 f3 b3
        go_wp2_with fail
        go_roundw
        case rel => exact ⟨j + 1, by omega, by go_num, by rw [HNEXT.out]; exact H3.out, HB3.out, HF3.out⟩
        case measure => simp [intOf]; omega
      · have hnext : lnkTo o wd (j + 1) = lnkTo o wd j := by
          show (if _ then _ else _) = _
          rw [if_neg (by rw [HLK.out]; exact hyes)]
        have HNEXT := hid hnext
        clear hnext
        cases hl : lkB o.k N j with
        | false =>
          clear hyes hl
          go_wp2_with fail
          go_roundw
          case rel => exact ⟨j + 1, by omega, by go_num, by rw [HNEXT.out]; exact HROW2.out, HB2.out, HF2.out⟩
          case measure => simp [intOf]; omega
        | true =>
          have y2 : wd j = 0 := by
            by_cases e : wd j = 0
            · exact e
            · exact absurd ⟨hl, e⟩ hyes
          rw [y2] at cg
          clear hyes hl hwj y2
          go_wp2_with fail
          go_roundw
          case rel => exact ⟨j + 1, by omega, by go_num, by rw [HNEXT.out]; exact HROW2.out, HB2.out, HF2.out⟩
          case measure => simp [intOf]; omega
    · go_wp2_with fail
      go_ret
      have hjN : j = N := by omega
      exact ⟨_, rfl, by rw [← hjN]; exact HROW.out, HF.out⟩
theorem mget_tr (B : List Int) (p : Int) : mget (B.map fun x => (x, Value.bool true)) p = if p ∈ B then some (.bool true) else none := by
  induction B with
  | nil => simp [mget]
  | cons b r ih =>
    simp only [List.map_cons, mget]
    by_cases e : p = b
    · simp [e]
    · rw [if_neg e, ih]; simp [e]
theorem mput_tr (B : List Int) (p : Int) (h : p ∉ B) : mput (B.map fun x => (x, Value.bool true)) p (.bool true) = (B ++ [p]).map fun x => (x, Value.bool true) := by
  induction B with
  | nil => rfl
  | cons b r ih =>
    have e : ¬ p = b := fun e => h (by simp [e])
    simp only [List.map_cons, mput, if_neg e, List.cons_append]
    rw [ih (fun hc => h (List.mem_cons_of_mem _ hc))]
theorem Rowi.dropLast {w : World} {B : Nat} {A : Option Addr} {r c : Nat} {l : List Int} {x : Int} (h : Rowi w B (.slice A (r + 1) c) (l ++ [x])) (hl : l.length = r) : Rowi w B (.slice A r c) l := by
  rcases h.2 with ⟨h1, h2⟩ | ⟨g, cap, cur, e1, e2, e3, e4, e5, e6, e7⟩
  · simp at h2
  · injection e1 with f1 f2 f3
    subst f1
    subst f3
    refine ⟨by rw [ivs_len]; simp, .inr ⟨g, c, cur, by rw [hl], e2, e3, by simp at e4; omega, e5, e6, ?_⟩⟩
    have := congrArg (List.take (l.length * 1)) e7
    rw [List.take_take] at this
    simp only [List.length_append, List.length_cons, List.length_nil] at this
    rw [Nat.min_eq_left (by omega)] at this
    rw [this]
    unfold ivs
    rw [List.map_append, List.take_append_of_le_length (by simp), List.take_of_length_le (by simp)]
structure DFS (obs : List Ob) (W0 : Int → Nat → Int) (fr : List Int) (Lv : List Ob) (work : List Int) (lk : Nat) : Prop where
  nd : Lv.Nodup
  sub : ∀ o ∈ Lv, o ∈ obs ∧ Rch obs W0 fr o.p
  wk : ∀ x ∈ work, ∃ o ∈ obs, o.p = x ∧ Rch obs W0 fr o.p
  clo : ∀ o ∈ Lv, ∀ j, Lk o j → ∀ o' ∈ obs, o'.p = W0 o.p j → o' ∈ Lv ∨ o'.p ∈ work
  rt : ∀ o ∈ obs, o.p ∈ fr → o ∈ Lv ∨ o.p ∈ work
  lk : lk = (Lv.map nl).sum
  len : work.length ≤ fr.length + 31 * Lv.length
theorem DFS.skip {obs : List Ob} {W0 : Int → Nat → Int} {fr : List Int} {Lv : List Ob} {work : List Int} {lk : Nat} {o : Ob} (h : DFS obs W0 fr Lv (work ++ [o.p]) lk) (hone : ∀ o ∈ obs, ∀ o' ∈ obs, o.p = o'.p → o = o') (ho : o ∈ Lv) : DFS obs W0 fr Lv work lk := by
  have hm := (h.sub o ho).1
  have key : ∀ o' ∈ obs, o' ∈ Lv ∨ o'.p ∈ work ++ [o.p] → o' ∈ Lv ∨ o'.p ∈ work := fun o' ho' hc => by
    rcases hc with h1 | h1
    · exact .inl h1
    · rcases List.mem_append.1 h1 with h2 | h2
      · exact .inr h2
      · have := hone o' ho' o hm (List.mem_singleton.1 h2)
        subst this
        exact .inl ho
  exact ⟨h.nd, h.sub, fun x hx => h.wk x (List.mem_append.2 (.inl hx)), fun a ha j hj o' ho' e => key o' ho' (h.clo a ha j hj o' ho' e), fun a ha hp => key a ha (h.rt a ha hp), h.lk, by have := h.len; simp at this; omega⟩
theorem lkB_iff {o : Ob} {j : Nat} : lkB o.k o.n j = true ↔ Lk o j := by unfold lkB Lk Ob.f Ob.t; simp
theorem DFS.visit {obs : List Ob} {W0 : Int → Nat → Int} {fr : List Int} {Lv : List Ob} {work : List Int} {lk : Nat} {o : Ob} (h : DFS obs W0 fr Lv (work ++ [o.p]) lk) (hone : ∀ o ∈ obs, ∀ o' ∈ obs, o.p = o'.p → o = o') (ho : o ∈ obs) (hnew : o ∉ Lv) (hn : o.n < 32)
    (hw : ∀ j, j < o.n → W0 o.p j = 0 ∨ ∃ o' ∈ obs, o'.p = W0 o.p j) (hpos : ∀ o' ∈ obs, o'.p ≠ 0) : DFS obs W0 fr (Lv ++ [o]) (work ++ lnkTo o (W0 o.p) o.n) (lk + nl o) := by
  have hr : Rch obs W0 fr o.p := by
    obtain ⟨o', ho', e, h1⟩ := h.wk o.p (by simp)
    have := hone o' ho' o ho e
    subst this
    exact h1
  have key : ∀ o' ∈ obs, o' ∈ Lv ∨ o'.p ∈ work ++ [o.p] → o' ∈ Lv ++ [o] ∨ o'.p ∈ work ++ lnkTo o (W0 o.p) o.n := fun o' ho' hc => by
    rcases hc with h1 | h1
    · exact .inl (List.mem_append.2 (.inl h1))
    · rcases List.mem_append.1 h1 with h2 | h2
      · exact .inr (List.mem_append.2 (.inl h2))
      · have := hone o' ho' o ho (List.mem_singleton.1 h2)
        subst this
        exact .inl (by simp)
  refine ⟨?_, fun a ha => ?_, fun x hx => ?_, fun a ha j hj o' ho' e => ?_, fun a ha hp => key a ha (h.rt a ha hp), ?_, ?_⟩
  · rw [List.nodup_append]
    exact ⟨h.nd, by simp, fun x hx y hy e => by rw [List.mem_singleton.1 hy] at e; subst e; exact hnew hx⟩
  · rcases List.mem_append.1 ha with h1 | h1
    · exact h.sub a h1
    · rw [List.mem_singleton.1 h1]; exact ⟨ho, hr⟩
  · rcases List.mem_append.1 hx with h1 | h1
    · exact h.wk x (List.mem_append.2 (.inl h1))
    · obtain ⟨j, hj, hb, h0, rfl⟩ := mem_lnkTo.1 h1
      rcases hw j hj with h2 | ⟨o', ho', e⟩
      · exact absurd h2 h0
      · exact ⟨o', ho', e, Rch.step o o' j hr ho (lkB_iff.1 hb) ho' e⟩
  · rcases List.mem_append.1 ha with h1 | h1
    · exact key o' ho' (h.clo a h1 j hj o' ho' e)
    · rw [List.mem_singleton.1 h1] at hj e
      refine .inr (List.mem_append.2 (.inr (mem_lnkTo.2 ⟨j, hj.lt, lkB_iff.2 hj, ?_, e⟩)))
      rw [← e]
      exact hpos o' ho'
  · rw [h.lk]; simp
  · have h1 := h.len
    have h2 := lnkTo_len o (W0 o.p) o.n
    simp at h1 ⊢
    omega
theorem DFS.fin {obs : List Ob} {W0 : Int → Nat → Int} {fr : List Int} {Lv : List Ob} {lk : Nat} (h : DFS obs W0 fr Lv [] lk) (hone : ∀ o ∈ obs, ∀ o' ∈ obs, o.p = o'.p → o = o') : ∀ o ∈ obs, o ∈ Lv ↔ Rch obs W0 fr o.p := by
  have key : ∀ p, Rch obs W0 fr p → ∀ o ∈ obs, o.p = p → o ∈ Lv := by
    intro p hr
    induction hr with
    | root p hp =>
      intro o ho e
      rcases h.rt o ho (e ▸ hp) with h1 | h1
      · exact h1
      · cases h1
    | step o o' j hr ho hj ho' e ih =>
      intro o2 ho2 e2
      have := hone o2 ho2 o' ho' e2
      subst this
      rcases h.clo o (ih o ho rfl) j hj o2 ho' e with h1 | h1
      · exact h1
      · cases h1
  exact fun o ho => ⟨fun h1 => (h.sub o h1).2, fun h1 => key o.p h1 o ho rfl⟩
def mapLen (w : World) (b : Nat) : Nat := match w.heap[b]? with | some (.map es _) => es.size | _ => 0
theorem IM.mapLen {w : World} {mp : Nat} {m : List (Int × Value)} (h : IM w mp m) : mapLen w mp = m.length := by
  obtain ⟨es, ck, h1, h2, _⟩ := h
  unfold YtklnpooninbogaaGreat.mapLen
  rw [h1]
  have := congrArg List.length h2
  simpa using this
def slLen : Value → Nat
  | .slice _ n _ => n
  | _ => 0
theorem lv_lt {obs Lv : List Ob} (hn : Lv.Nodup) (hs : ∀ o ∈ Lv, o ∈ obs) {o : Ob} (ho : o ∈ obs) (hnew : o ∉ Lv) : Lv.length < obs.length := by
  have : (Lv ++ [o]).length ≤ obs.length := List.Nodup.length_le_of_subset (by
    rw [List.nodup_append]
    exact ⟨hn, by simp, fun x hx y hy e => by rw [List.mem_singleton.1 hy] at e; subst e; exact hnew hx⟩) (fun x hx => by
    rcases List.mem_append.1 hx with h | h
    · exact hs x h
    · rw [List.mem_singleton.1 h]; exact ho)
  simp at this
  omega
def ReachPost (obs : List Ob) (W0 : Int → Nat → Int) (fr : List Int) (w : World) (e : Ending) (w' : World) : Prop :=
  ∃ (om lk : Nat) (Lv : List Ob), e = .returned (.tuple #[.map (some om), .int .i64 lk]) ∧ w.heap.size ≤ om ∧ IM w' om ((Lv.map Ob.p).map fun x => (x, .bool true)) ∧ Lv.Nodup ∧ (∀ o ∈ Lv, o ∈ obs) ∧ (∀ o ∈ obs, o ∈ Lv ↔ Rch obs W0 fr o.p) ∧ lk = (Lv.map nl).sum ∧ Fr [] w w'
set_option maxRecDepth 100000 in
set_option maxHeartbeats 12800000 in
theorem dReached (mp B0 : Nat) (m : List (Int × Value)) (obs : List Ob) (G : Int → Nat) (wd : Ob → Nat → Int) (W0 : Int → Nat → Int) (fr : List Int) (fv : Value) (w : World) (hm : IM w mp m) (hd : DObs w B0 m 0 obs G wd) (hfr : Rowi w B0 fv fr) (hfl : fr.length ≤ 1000) (hol : obs.length ≤ 200) (hW : ∀ o ∈ obs, ∀ j, W0 o.p j = wd o j)
    (hone : ∀ o ∈ obs, ∀ o' ∈ obs, o.p = o'.p → o = o') (hnd : obs.Nodup) (hhd : ∀ o ∈ obs, Hd o.k o.n o.a 0) (hwr : ∀ o ∈ obs, ∀ j, j < o.n → wd o j = 0 ∨ ∃ o' ∈ obs, o'.p = wd o j) (hpos : ∀ o ∈ obs, 1 ≤ o.p ∧ o.p ≤ 65536) (hroots : ∀ x ∈ fr, ∃ o ∈ obs, o.p = x) :
    Calls Tryz.prog 55 #[.map (some mp), fv] w (ReachPost obs W0 fr w) := by
  have hmm := @run_makeMap Tryz.prog
  obtain ⟨Af, cf, rfl⟩ := hfr.form
  obtain ⟨nf, hnf⟩ : ∃ nf, nf = fr.length := ⟨_, rfl⟩
  rw [← hnf] at hfr hfl ⊢
  have M0 : IM ((w.alloc (.map #[] 0)).alloc (.cells #[] 3)) w.heap.size [] := (IM.new w).alloc _
  have hE : Rowi ((w.alloc (.map #[] 0)).alloc (.cells #[] 3)) w.heap.size (.slice (some ⟨w.heap.size + 1, 0, none⟩) 0 0) [] := by
    have := Rowi.empty (w.alloc (.map #[] 0)) (B := w.heap.size) (by simp)
    simpa using this
  have hF0 : Fr [] w ((w.alloc (.map #[] 0)).alloc (.cells #[] 3)) := ((Fr.refl _ w).alloc _).alloc _
  have hSr : Srci ((w.alloc (.map #[] 0)).alloc (.cells #[] 3)) Af nf fr := by
    have := ((hfr.alloc (.map #[] 0)).alloc (.cells #[] 3)).src
    rw [← hnf] at this
    exact this
  have hAf : Af = none → nf = 0 := by
    intro e
    rcases Nat.eq_zero_or_pos nf with h0 | h0
    · exact h0
    · obtain ⟨g, e1, _⟩ := hfr.at (by omega)
      rw [e] at e1; cases e1
  have HM0 := hid M0
  have HE := hid hE
  have HF0 := hid hF0
  have HSR := hid hSr
  have HAF := hid hAf
  have HIM := hid hm
  have HD := hid hd
  have HW := hid hW
  have HONE := hid hone
  have HHD := hid hhd
  have HWR := hid hwr
  have HPOS := hid hpos
  have HROOTS := hid hroots
  have HND := hid hnd
  have hNF := hid hnf
  clear M0 hE hF0 hSr hAf hm hd hW hone hhd hwr hpos hroots hnd hfr hnf
  go_enter Tryz.func55, Tryz.ntmps55
  go_wp2_with (at_builtin; refine wpList_appi rfl _ _ rfl w.heap.size (.slice (some ⟨w.heap.size + 1, 0, none⟩) 0 0) [] rfl HE.out Af nf cf fr rfl HSR.out HAF.out (by simp; omega) (by simp; omega) ?_)
  intro v1 w1 h1 f1 b1
  have hom : w.heap.size ∉ (Value.slice (some ⟨w.heap.size + 1, 0, none⟩) 0 0).ownBlock.toList := by simp [Value.ownBlock]
  have hM1 := HM0.out.fr f1 hom
  have hF1 : Fr [] w w1 := HF0.out.step f1 (fun y hy => .inr (by simp [Value.ownBlock] at hy; omega))
  have hv1 : ∀ g, v1.ownBlock = some g → g ≠ w.heap.size := by
    intro g hg
    rcases b1 with b1 | b1
    · rw [b1] at hg; simp [Value.ownBlock] at hg; omega
    · rw [b1] at hg; simp at hg; omega
  have dfs0 : DFS obs W0 fr [] fr 0 := ⟨List.nodup_nil, fun o ho => (by cases ho), fun x hx => by
      obtain ⟨o, ho, e⟩ := HROOTS.out x hx
      exact ⟨o, ho, e, Rch.root _ (by rw [e]; exact hx)⟩, fun o ho => (by cases ho), fun o _ hp => .inr hp, rfl, by simp⟩
  have HM1 := hid hM1
  have HF1 := hid hF1
  have H1 := hid h1
  have HV1 := hid hv1
  have HDF := hid dfs0
  clear hM1 hF1 h1 f1 b1 hv1 dfs0 hom hmm
  go_wp2_with fail
  go_loopw [7, 8] (fun wv lv wr => ∃ (Lv : List Ob) (work : List Int) (lk : Nat), lv = .int .i64 lk ∧ Rowi wr w.heap.size wv work ∧ (∀ g, wv.ownBlock = some g → g ≠ w.heap.size) ∧ IM wr w.heap.size ((Lv.map Ob.p).map fun x => (x, .bool true)) ∧ DFS obs W0 fr Lv work lk ∧ Fr [] w wr) (fun wv _ wr => (obs.length - mapLen wr w.heap.size) * 40 + slLen wv)
  case atStart => exact ⟨[], fr, 0, rfl, H1.out, HV1.out, HM1.out, HDF.out, HF1.out⟩
  case round =>
    obtain ⟨Lv, work, lk, rfl, hrow, hvo, him, hdfs, hF⟩ := hrel
    have hml := him.mapLen
    simp only [List.length_map] at hml
    obtain ⟨A0, c0, rfl⟩ := hrow.form
    obtain ⟨Vp, hVp⟩ : ∃ Vp, Vp = Lv.map Ob.p := ⟨_, rfl⟩
    rw [← hVp] at him
    have HVP := hid hVp
    clear hVp
    rcases List.eq_nil_or_concat work with rfl | ⟨rest, x, hwk⟩
    · have HDF2 := hid hdfs
      have HF2 := hid hF
      have HIM2 := hid him
      clear hdfs hF him hrow hvo hml
      go_wp2_with fail
      refine bodyPost_ret (v := .tuple #[.map (some w.heap.size), .int .i64 lk]) (by simp [results, Tryz.results55, go_sem]) rfl ⟨w.heap.size, lk, Lv, rfl, Nat.le_refl _, by rw [← HVP.out]; exact HIM2.out, HDF2.out.nd, fun o ho => (HDF2.out.sub o ho).1, HDF2.out.fin HONE.out, HDF2.out.lk, HF2.out⟩
    · rw [List.concat_eq_append] at hwk
      subst hwk
      obtain ⟨r, hr⟩ : ∃ r, r = rest.length := ⟨_, rfl⟩
      have hrl : (rest ++ [x]).length = r + 1 := by simp [hr]
      rw [hrl] at hrow hvo ⊢
      obtain ⟨o, ho, hx, hrch⟩ := hdfs.wk x (by simp)
      subst hx
      obtain ⟨g, eg, hgB, hgl, -, hgc, hgm, hgcell⟩ := hrow.at (by simp)
      subst eg
      rw [hrl] at hgc
      have q0 : wr.cell? ⟨g, r, none⟩ = some (.int .i64 o.p) := hgcell r o.p (by rw [hr]; simp)
      have hrow2 := hrow.dropLast hr.symm
      have hlen := hdfs.len
      simp at hlen
      have hlv : Lv.length ≤ obs.length := List.Nodup.length_le_of_subset hdfs.nd (fun a ha => (hdfs.sub a ha).1)
      have hr2 : r ≤ 8000 := by have := hNF.out; omega
      have w0 : IntKind.i64.wrap (r : Int) = r := by rw [IntKind.wrap_i64]; omega
      have i1 : (0 : Int) ≤ (r : Int) := by omega
      have i2 : (r : Int) < (r : Int) + 1 := by omega
      have i3 : r ≤ c0 := by omega
      have hmW := HIM.out.fr hF (by simp)
      have hlk1 := run_lookup_im (P := Tryz.prog) hmW Tryz.underlying66 Tryz.underlying3 (obZero wr) o.p true
      rw [HD.out.get o ho] at hlk1
      simp only [Option.getD_some, Option.isSome_some, obV, if_pos] at hlk1
      have him3 := him.alloc (.cells #[.int .i64 o.k, .int .i64 o.n, .int .i64 o.a, .int .i64 0, .slice (some ⟨G o.p, 0, none⟩) o.n o.n] 75)
      have hlk2 := run_lookup_im (P := Tryz.prog) him3 Tryz.underlying53 Tryz.underlying3 (z := .bool false) (by kernel_rfl) o.p false
      rw [mget_tr] at hlk2
      simp only [if_neg (show ¬ false = true by decide)] at hlk2
      obtain ⟨gg, hgg⟩ : ∃ gg, gg = G o.p := ⟨_, rfl⟩
      rw [← hgg] at hlk1 hlk2 him3
      have HGG := hid hgg
      have HDF := hid hdfs
      have HF2 := hid hF
      have HIM2 := hid him
      have HIM3 := hid him3
      have HROW2 := hid hrow2
      have HVO := hid hvo
      have HO := hid ho
      have HML := hid hml
      have hr1 := hrl
      clear hdfs hF him him3 hrow hrow2 hvo ho hml hgcell hrch hmW hlen hr hgg hgm hrl hr1
      by_cases hin : o ∈ Lv
      · have hmem : o.p ∈ Vp := by rw [HVP.out]; exact List.mem_map.2 ⟨o, hin, rfl⟩
        rw [if_pos hmem] at hlk2
        simp only [Option.getD_some] at hlk2
        have HIN := hid hin
        clear hin hmem
        go_wp2_with fail
        refine ⟨⟨Lv, rest, lk, rfl, HROW2.out.alloc _, fun g' h => HVO.out g' h, by rw [← HVP.out]; exact HIM3.out, HDF.out.skip HONE.out HIN.out, HF2.out.trans ((Fr.refl _ wr).alloc _)⟩, ?_⟩
        have hl9 : Vp.length = Lv.length := by rw [HVP.out]; simp
        rw [HIM3.out.mapLen, HML.out]
        simp [slLen, hl9]
      · have hmem : o.p ∉ Vp := fun hc => by
          rw [HVP.out] at hc
          obtain ⟨o', h1, h2⟩ := List.mem_map.1 hc
          have := HONE.out o' ((HDF.out.sub o' h1).1) o HO.out h2
          subst this
          exact hin h1
        rw [if_neg hmem] at hlk2
        simp only [Option.getD_none] at hlk2
        have HIN := hid hin
        have HMEM := hid hmem
        clear hin hmem
        go_wp2_with (at_mapUpdate; refine wpList_mapUpdate_im _ rfl _ _ _ 53 rfl _ _ Tryz.underlying53 Tryz.underlying3 w.heap.size _ rfl HIM3.out o.p rfl (.bool true) rfl ?_)
        intro w3 hI3 hF3
        rw [mput_tr _ _ HMEM.out] at hI3
        have hOb := ((Blk.new wr [.int .i64 o.k, .int .i64 o.n, .int .i64 o.a, .int .i64 0, .slice (some ⟨gg, 0, none⟩) o.n o.n] 75).fr hF3 (fun hc => nomap HIM3.out (Blk.new wr [.int .i64 o.k, .int .i64 o.n, .int .i64 o.a, .int .i64 0, .slice (some ⟨gg, 0, none⟩) o.n o.n] 75) (List.mem_singleton.1 hc)))
        have hF3w : Fr [] w w3 := (HF2.out.trans ((Fr.refl _ wr).alloc _)).step hF3 (fun y hy => .inr (by rw [List.mem_singleton.1 hy]; exact Nat.le_refl _))
        have hrow3 : Rowi w3 w.heap.size (.slice (some ⟨g, 0, none⟩) r c0) rest := (HROW2.out.alloc (.cells #[.int .i64 o.k, .int .i64 o.n, .int .i64 o.a, .int .i64 0, .slice (some ⟨gg, 0, none⟩) o.n o.n] 75)).fr hF3 (fun g' hg' hc => HVO.out g' hg' (List.mem_singleton.1 hc))
        have HI3 := hid hI3
        have HOB := hid hOb
        have HF3 := hid hF3w
        have HROW3 := hid hrow3
        have hwl : wr.heap.size < w3.heap.size := hOb.lt
        have hgw : g < wr.heap.size := hgl
        clear hI3 hOb hF3 hF3w hrow3 hlk1 hlk2 q0
        obtain ⟨N, hN⟩ : ∃ N, N = o.n := ⟨_, rfl⟩
        have hN32 : N < 32 := by have := (HHD.out o HO.out).s1; omega
        rw [← hN] at HOB
        have HN := hid hN
        clear hN
        obtain ⟨wt, rfl⟩ : ∃ wt, wt = wr := ⟨_, rfl⟩
        obtain ⟨lk0, hlk0⟩ : ∃ lk0, lk0 = lk := ⟨_, rfl⟩
        have HLK0 := hid hlk0
        have hlkb : lk ≤ 1000000 := by
          have h1 := HDF.out.lk
          have h2 : (Lv.map nl).sum ≤ 31 * Lv.length := sum_le (fun o' ho' => nl_le (by have := (HHD.out o' (HDF.out.sub o' ho').1).s1; omega))
          omega
        go_wp2_with fail
        go_loopw [12, 8] (fun jv lv wr => ∃ j : Nat, j ≤ N ∧ jv = .int .i64 j ∧ lv = .int .i64 (lk + cntTo o j : Nat) ∧ Fr [] w3 wr) (fun jv _ _ => N - (intOf jv).toNat)
        case atStart => exact ⟨0, Nat.zero_le _, rfl, rfl, Fr.refl _ _⟩
        case round =>
          obtain ⟨j, hj, rfl, rfl, hFj⟩ := hrel
          have hob := HOB.out.fr hFj (by simp)
          have b0 := hob.cell (i := 0) rfl
          have b1 := hob.cell (i := 1) rfl
          have b2 := hob.cell (i := 2) rfl
          have b3 := hob.cell (i := 3) rfl
          have b4 := hob.cell (i := 4) rfl
          have HOB2 := hid hob
          have HFJ := hid hFj
          clear hob hFj
          obtain ⟨lj, hlj⟩ : ∃ lj, lj = lk + cntTo o j := ⟨_, rfl⟩
          have hljb : lj ≤ 2000000 := by rw [hlj, cntTo_eq]; omega
          have HLJ := hid hlj
          rw [← hlj]
          clear hlj
          by_cases hlt : (j : Int) < (N : Int)
          · go_wp2_with fail
            refine (dLink o.k N o.a 0 j (by rw [HN.out]; exact HHD.out o HO.out) wr).mono ?_
            rintro e w4 ⟨rfl, hF4⟩
            have hcn : cntTo o (j + 1) = cntTo o j + (if lkB o.k N j = true then 1 else 0) := by rw [HN.out]; rfl
            have HCN := hid hcn
            have HF4 := hid (HFJ.out.trans hF4)
            clear hcn hF4 b0 b1 b2 b3 b4
            cases hl : lkB o.k N j with
            | true =>
              have HL := hid hl
              clear hl
              go_wp2_with fail
              go_roundw
              case rel => exact ⟨j + 1, by omega, by go_num, by rw [HCN.out, HL.out, if_pos rfl, ← Nat.add_assoc, ← HLJ.out]; go_num, HF4.out⟩
              case measure => simp [intOf]; omega
            | false =>
              have HL := hid hl
              clear hl
              go_wp2_with fail
              go_roundw
              case rel => exact ⟨j + 1, by omega, by go_num, by rw [HCN.out, HL.out, if_neg (by decide), Nat.add_zero, ← HLJ.out], HF4.out⟩
              case measure => simp [intOf]; omega
          · have hjN : j = N := by omega
            subst hjN
            go_wp2_with fail
            have hBg : Blk wr gg (wcs o (wd o)) 2 := by
              rw [HGG.out]
              exact (HD.out.blk o HO.out).2.fr (HF3.out.trans HFJ.out) (by simp)
            rw [show (Value.agg #[.int .i64 o.k, .int .i64 (j : Int), .int .i64 o.a, .int .i64 0, .slice (some ⟨gg, 0, none⟩) j j]) = obV o.k o.n o.a 0 gg o.n from by unfold obV; rw [HN.out]]
            refine (dLinks o 0 (wd o) gg wr hBg (HHD.out o HO.out) (fun i hi => by
              rcases HWR.out o HO.out i hi with h | ⟨o', h1, h2⟩
              · omega
              · have := HPOS.out o' h1; omega)).mono ?_
            rintro e w5 ⟨v5, rfl, h5, hF5⟩
            obtain ⟨A5, c5, rfl⟩ := h5.form
            have hll := lnkTo_len o (wd o) o.n
            have hA5 : A5 = none → (lnkTo o (wd o) o.n).length = 0 := by
              intro e
              rcases Nat.eq_zero_or_pos (lnkTo o (wd o) o.n).length with h0 | h0
              · exact h0
              · obtain ⟨g', e1, _⟩ := h5.at h0
                rw [e] at e1; cases e1
            obtain ⟨n5, hn5⟩ : ∃ n5, n5 = (lnkTo o (wd o) o.n).length := ⟨_, rfl⟩
            have hn5b : n5 ≤ 40 := by have := HN.out; omega
            have hrow5 : Rowi w5 w.heap.size (.slice (some ⟨g, 0, none⟩) r c0) rest := (HROW3.out.fr (HFJ.out.trans hF5) (by simp))
            have hrl5 : rest.length = r := by
              have := HROW2.out.form
              obtain ⟨A', c', e⟩ := this
              injection e with _ h2 _
              exact h2.symm
            have hs5 := h5.src
            rw [← hn5] at hs5 hA5 ⊢
            have hI5 : IM w5 w.heap.size ((Vp ++ [o.p]).map fun x => (x, .bool true)) := HI3.out.fr (HFJ.out.trans hF5) (by simp)
            have hws5 : w.heap.size < w5.heap.size := by have := hI5.lt; exact this
            have H5 := hid hs5
            have HA5 := hid hA5
            have HN5 := hid hn5
            have HROW5 := hid hrow5
            have HI5 := hid hI5
            have HF5 := hid (HF3.out.trans (HFJ.out.trans hF5))
            clear hs5 hA5 hn5 hrow5 hI5 hF5 h5 hll hBg b0 b1 b2 b3 b4
            go_wp2_with (at_builtin; refine wpList_appi rfl _ _ rfl w.heap.size (.slice (some ⟨g, 0, none⟩) r c0) rest rfl HROW5.out A5 n5 c5 (lnkTo o (wd o) o.n) rfl H5.out HA5.out (by omega) (by omega) ?_)
            intro v6 w6 h6 f6 b6
            have hgom : g ≠ w.heap.size := HVO.out g rfl
            have hI6 := HI5.out.fr f6 (by simp [Value.ownBlock]; exact Ne.symm hgom)
            have hF6 : Fr [] w w6 := HF5.out.step f6 (fun y hy => .inr (by simp [Value.ownBlock] at hy; omega))
            have hvo6 : ∀ g', v6.ownBlock = some g' → g' ≠ w.heap.size := by
              intro g' hg'
              rcases b6 with b6 | b6
              · rw [b6] at hg'; exact HVO.out g' hg'
              · rw [b6] at hg'; simp at hg'; omega
            have hW0 : W0 o.p = wd o := funext (HW.out o HO.out)
            have hdf6 : DFS obs W0 fr (Lv ++ [o]) (rest ++ lnkTo o (wd o) o.n) (lk + nl o) := by
              have := HDF.out.visit HONE.out HO.out HIN.out (by have := HN.out; omega) (fun i hi => by rw [hW0]; exact HWR.out o HO.out i hi) (fun o' ho' => by have := HPOS.out o' ho'; omega)
              rw [hW0] at this
              exact this
            have hlj6 : lj = lk + nl o := by rw [HLJ.out, HN.out, cntTo_n]
            have hmeas : (obs.length - mapLen w6 w.heap.size) * 40 + slLen v6 < (obs.length - mapLen wt w.heap.size) * 40 + slLen (.slice (some ⟨g, 0, none⟩) (r + 1) c0) := by
              obtain ⟨A6, c6, rfl⟩ := h6.form
              rw [hI6.mapLen, HML.out]
              have h1 := lv_lt HDF.out.nd (fun a ha => (HDF.out.sub a ha).1) HO.out HIN.out
              have h2 : Vp.length = Lv.length := by rw [HVP.out]; simp
              have h3 := lnkTo_len o (wd o) o.n
              have h4 := HN.out
              simp [slLen, h2]
              omega
            have HI6 := hid hI6
            have HF6 := hid hF6
            have HVO6 := hid hvo6
            have HDF6 := hid hdf6
            have HLJ6 := hid hlj6
            have HME := hid hmeas
            have H6 := hid h6
            clear hI6 hF6 hvo6 hdf6 hlj6 hmeas h6 f6 b6 hW0
            go_wp2_with fail
            go_roundw
            case rel => exact ⟨Lv ++ [o], rest ++ lnkTo o (wd o) o.n, lk + nl o, by rw [HLJ6.out], H6.out, HVO6.out, by rw [List.map_append, ← HVP.out]; exact HI6.out, HDF6.out, HF6.out⟩
            case measure => exact HME.out
end Go.Proofs.YtklnpooninbogaaGreat
