import Derived.Test.YtifillpcphiblaaDSet
import Derived.Test.YtifillpcphiblaaHCollects0
import Derived.Test.YtifillpcphiblaaHBegin
namespace Go.Proofs.Ytifillpcphiblaa
open Go Go.Proofs Go.RowKit

/-! The two heaps with the same objects. -/

structure JB (w : World) (L : HL) (D : DL) (W Lg : Int) (cls : List Int) (s : HS) (A : Rg) (z : Int → Int) (bits : List Bool) (m : List (Int × Value)) (obs : List Ob) (G : Int → Nat) : Prop where
  hr : HRep w L s
  jh : JH w D W Lg cls bits m s A z
  low : ∀ x ∈ L.all, x < D.B
  svo : ∀ b o c n, D.sv = .slice (some ⟨b, o, none⟩) n c → b ∉ L.fp
  dob : DObs w D.B m s.parity obs G s.wd
  inn : ∀ o ∈ obs, o.p ∈ (A o.q).B ∧ (o.wm s.parity).In s A z
  nofg : NoFG A
  rows : ∀ q c, c ∈ (A q).B → ∃ o ∈ obs, o.q = q ∧ o.p = c
  nd : (obs.map Ob.p).Nodup

theorem fp_all {L : HL} {x : Nat} (h : x ∈ L.fp) : x ∈ L.all := by simp [HL.all, h]

theorem JB.sl {w w' : World} {L : HL} {D : DL} {W Lg : Int} {cls : List Int} {s : HS} {A : Rg} {z : Int → Int} {bits : List Bool} {m : List (Int × Value)} {obs : List Ob} {G : Int → Nat} (h : JB w L D W Lg cls s A z bits m obs G) (hF : Fr L.fp w w') : SlArg w' D.sv cls := by
  rcases h.jh.dh.cl with h1 | h1 | ⟨b, o, cap, e, hr, hm⟩
  · exact .inl h1
  · exact .inr (.inl h1)
  · exact .inr <| .inr ⟨b, o, cap, e, hr.fr hF (fun hc => h.svo _ _ _ _ e hc), hm⟩

/-- The program's heap has turned; the document's is as it was. -/
theorem JB.dfr {w w' : World} {L : HL} {D : DL} {W Lg : Int} {cls : List Int} {s : HS} {A : Rg} {z : Int → Int} {bits : List Bool} {m : List (Int × Value)} {obs : List Ob} {G : Int → Nat} (h : JB w L D W Lg cls s A z bits m obs G) (hF : Fr L.fp w w') : DH w' D W Lg cls (rowsOf A cls.length) bits s.top s.parity m ∧ DObs w' D.B m s.parity obs G s.wd := by
  refine ⟨h.jh.dh.fr hF (fun b hb => h.low b (fp_all hb)) (h.sl hF), h.dob.fr hF (fun o ho hc => ?_) (fun _ _ _ _ => rfl)⟩
  have h1 := (h.dob.blk o ho).1
  have h2 := h.low _ (fp_all hc)
  omega

theorem JB.tick {w w' : World} {L : HL} {D : DL} {W Lg : Int} {cls : List Int} {s : HS} {A : Rg} {z : Int → Int} {bits : List Bool} {m : List (Int × Value)} {obs : List Ob} {G : Int → Nat} (h : JB w L D W Lg cls s A z bits m obs G) (hF : Fr [] w w') : JB w' L D W Lg cls s A z bits m obs G := by
  obtain ⟨d1, d2⟩ := h.dfr (hF.here (by simp))
  exact ⟨h.hr.fr hF (by simp), ⟨d1, h.jh.hi, h.jh.sv, h.jh.ecls, h.jh.cl, h.jh.edge, h.jh.ew, h.jh.lg, h.jh.same, h.jh.bl, h.jh.par⟩, h.low, h.svo, d2, h.inn, h.nofg, h.rows, h.nd⟩

theorem apart_p {s : HS} {A : Rg} {z : Int → Int} (h : HI s A z) {q q' : Option Nat} {c c' : Int} (hc : c ∈ (A q).all) (hc' : c' ∈ (A q').all) (hq : q ≠ q') : c ≠ c' := by
  intro e
  have h1 := h.apart q c q' c' hc hc' (.inl hq)
  have h2 := h.pos q c hc
  have h3 := h.pos q' c' hc'
  subst e
  omega

/-- Both have allocated. -/
theorem JB.alloc {w w1 w2 : World} {L : HL} {D : DL} {W Lg : Int} {cls : List Int} {s s' : HS} {A A' : Rg} {z z' : Int → Int} {bits bits' : List Bool} {m : List (Int × Value)} {obs : List Ob} {G : Int → Nat} {q : Option Nat} {p k a : Int} {n : Nat} {e : Ending}
    (h : JB w L D W Lg cls s A z bits m obs G) (hd : Hd k n a s.parity) (hr : HRep w1 L s') (hF : Fr L.fp w w1) (hA : Alc s s' A A' z z' q p (packed k n a s.parity) n) (hbl : (bits'.length : Int) = Lg) (hsame : Same3 s'.edge bits' s'.x.l)
    (hY : AlYes w1 D W Lg cls (rowsOf A' cls.length) bits' s'.top s'.parity m k a n p e w2) (m0 : Int) :
    e = .returned (.tuple #[.int .i64 p, .int .i64 0]) ∧ FrD D.B D.mp D.rsb w1 w2 ∧ ∃ g, JB w2 L D W Lg cls s' A' z' bits' (mput m p (obV k n a s.parity g n)) (obs ++ [⟨q, p, k, n, a, m0⟩]) (fun x => if x = p then g else G x) ∧ (∀ o ∈ obs, ∀ j, j < o.n → s'.wd o j = s.wd o j) ∧ (∀ j, j < n → s'.wd ⟨q, p, k, n, a, m0⟩ j = 0) := by
  obtain ⟨he, hFD, g, hg, hdh, hB⟩ := hY
  obtain ⟨d1, d2⟩ := h.dfr hF
  obtain ⟨W', hA', hrow⟩ := hA.row
  have hFD' := hFD
  obtain ⟨⟨S, hFS, hS⟩, _⟩ := hFD'
  have hW : ∀ o ∈ obs, o.p ∉ (A o.q).W := by
    intro o ho hc
    have hn := rows_nodup h.jh.hi o.q
    unfold Rows.all at hn
    rw [List.nodup_append] at hn
    exact hn.2.2 o.p hc o.p (by simp [(h.inn o ho).1]) rfl
  have hold : ∀ o ∈ obs, (o.wm s.parity).In s' A' z' ∧ ∀ j, j < o.n → s'.wd o j = s.wd o j := fun o ho => Ob.In.alloc hA (h.inn o ho).2 (hW o ho)
  obtain ⟨n1, n2⟩ := Ob.In.new hA hd
  have hmem : p ∈ (A' q).all := hA.mem
  have hne : ∀ o ∈ obs, o.p ≠ p := by
    intro o ho
    by_cases eq : o.q = q
    · have := alc_ne hA (h.inn o ho).2.mem (hW o ho)
      rcases this with h1 | h1
      · exact absurd eq h1
      · exact h1
    · exact apart_p hA.hi (hold o ho).1.mem hmem eq
  have hgne : ∀ o ∈ obs, G o.p ≠ g := by
    intro o ho e
    have := (d2.blk o ho).2.lt
    omega
  have hlw1 : ∀ x ∈ L.all, x ∉ S := fun x hx hc => by have := (hS x hc).1; have := h.low x hx; omega
  have hDw : D.B ≤ w1.heap.size := d1.rs.le
  refine ⟨he, hFD, g, ⟨hr.fr hFS (fun x hx hc => hlw1 x hc hx), ⟨?_, hA.hi, h.jh.sv, hA.cls.trans h.jh.ecls, h.jh.cl, hA.edge.trans h.jh.edge, h.jh.ew.trans (by rw [hA.len]), h.jh.lg, hsame, hbl, by rw [hA.parity]; exact h.jh.par⟩, h.low, h.svo, ?_, ?_, ?_, ?_, ?_⟩, fun o ho => (hold o ho).2, n2⟩
  · rw [hA.parity] at hdh ⊢
    exact hdh
  · rw [hA.parity]
    rw [hA.parity] at hdh
    refine DObs.new d2 (fun o ho => ?_) ⟨q, p, k, n, a, m0⟩ g (by omega) (fun o ho => ⟨hne o ho, hgne o ho⟩) hB (fun o ho => (hold o ho).2) n2
    have hb := d2.blk o ho
    exact hFD.blk hb.2 ⟨by decide, by decide, by decide⟩ (nomap d1.im hb.2)
  · intro o ho
    rw [hA.parity]
    rcases List.mem_append.1 ho with h1 | h1
    · refine ⟨?_, (hold o h1).1⟩
      rw [hA']
      by_cases eq : o.q = q
      · rw [eq, Rg.up_same, ← eq]; exact List.mem_append.2 (.inl (h.inn o h1).1)
      · rw [Rg.up_ne A eq]; exact (h.inn o h1).1
    · obtain rfl := List.mem_singleton.1 h1
      refine ⟨?_, n1⟩
      rw [hA', Rg.up_same]; simp
  · intro q'
    rw [hA']
    by_cases eq : q' = q
    · subst eq; rw [Rg.up_same]; exact h.nofg q'
    · rw [Rg.up_ne A eq]; exact h.nofg q'
  · intro q' c hc
    rw [hA'] at hc
    by_cases eq : q' = q
    · subst eq
      rw [Rg.up_same] at hc
      rcases List.mem_append.1 hc with h1 | h1
      · obtain ⟨o, ho, e1, e2⟩ := h.rows _ c h1
        exact ⟨o, List.mem_append.2 (.inl ho), e1, e2⟩
      · exact ⟨_, List.mem_append.2 (.inr (List.mem_singleton.2 rfl)), rfl, (List.mem_singleton.1 h1).symm⟩
    · rw [Rg.up_ne A eq] at hc
      obtain ⟨o, ho, e1, e2⟩ := h.rows _ c hc
      exact ⟨o, List.mem_append.2 (.inl ho), e1, e2⟩
  · rw [List.map_append, List.nodup_append]
    refine ⟨h.nd, by simp, fun x hx y hy => ?_⟩
    obtain ⟨o, ho, rfl⟩ := List.mem_map.1 hx
    simp at hy
    subst hy
    exact hne o ho

/-- Both have set a word. -/
theorem JB.put {w w1 w2 : World} {L : HL} {D : DL} {W Lg : Int} {cls : List Int} {s : HS} {A : Rg} {z : Int → Int} {bits : List Bool} {m : List (Int × Value)} {obs : List Ob} {G : Int → Nat} (h : JB w L D W Lg cls s A z bits m obs G) {o : Ob} (ho : o ∈ obs) {j : Nat} (hj : j < o.n) {v : Int}
    (hr : HRep w1 L (s.put (o.p + 3 + j) v 2)) (hF : Fr L.fp w w1) (hF2 : Fr [G o.p] w1 w2) (hB : Blk w2 (G o.p) ((wcs o (s.wd o)).set j (.int .i64 v)) 2) :
    JB w2 L D W Lg cls (s.put (o.p + 3 + j) v 2) A z bits m obs G ∧ (∀ o' ∈ obs, o' ≠ o → ∀ i, i < o'.n → (s.put (o.p + 3 + j) v 2).wd o' i = s.wd o' i) ∧ (∀ i, i < o.n → (s.put (o.p + 3 + j) v 2).wd o i = if i = j then v else s.wd o i) := by
  obtain ⟨d1, d2⟩ := h.dfr hF
  have hin := (h.inn o ho).2
  have hone : ∀ o1 ∈ obs, ∀ o2 ∈ obs, o1.p = o2.p → o1 = o2 := fun o1 h1 o2 h2 e => nodup_inj h.nd o1 h1 o2 h2 e
  have hput : ∀ o' ∈ obs, (o'.wm s.parity).In (s.put (o.p + 3 + j) v 2) A z ∧ (o' ≠ o → ∀ i, i < o'.n → (s.put (o.p + 3 + j) v 2).wd o' i = s.wd o' i) ∧ (∀ i, i < o.n → (s.put (o.p + 3 + j) v 2).wd o i = if i = j then v else s.wd o i) := by
    intro o' ho'
    obtain ⟨a1, a2, a3⟩ := Ob.In.put (o := o.wm s.parity) (o' := o'.wm s.parity) h.jh.hi hin (h.inn o' ho').2 (j := j) hj v 2
    refine ⟨a1, fun hne => a2 (.inr (fun e => hne (hone o' ho' o ho e.symm))), a3⟩
  have hg := d2.blk o ho
  have hI : HI (s.put (o.p + 3 + j) v 2) A z := HI.putOb (o := o.wm s.parity) h.jh.hi hin hj v 2
  refine ⟨⟨hr.fr hF2 (fun x hx hc => ?_), ⟨d1.word hF2 hg.2 hg.1 h.jh.sv, hI, h.jh.sv, h.jh.ecls, h.jh.cl, h.jh.edge, ?_, h.jh.lg, h.jh.same, h.jh.bl, h.jh.par⟩, h.low, h.svo, ?_, fun o' ho' => ⟨(h.inn o' ho').1, (hput o' ho').1⟩, h.nofg, h.rows, h.nd⟩, fun o' ho' => (hput o' ho').2.1, (hput o ho).2.2⟩
  · rw [List.mem_singleton.1 hx] at hc
    have := h.low _ hc
    omega
  · have := h.jh.ew
    simp only [HS.put, sw_len]
    exact this
  · exact d2.put hone ho hF2 hB (fun o' ho' hne => (hput o' ho').2.1 hne) (hput o ho).2.2

theorem JB.new {W Lg : Nat} {cls : List Int} {a b c d : Int} {sv : Value} {w w1 w2 : World} {L : HL} {mb : Nat} (hR : RightC W Lg cls) (hH1 : HRep w1 L (HS.new W Lg cls)) (hF1 : Fr [] w w1) (hL : ∀ b ∈ L.all, w.heap.size ≤ b) (hsl : SlArg w sv cls)
    (hM : MNew w2 mb w1.heap.size W Lg a b c d sv cls.length) (hF2 : Fr [] w1 w2) :
    ∃ D : DL, D.mb = mb ∧ D.B = w1.heap.size ∧ JB w2 L D W Lg cls (HS.new W Lg cls) (fun _ => ⟨[], [], [], []⟩) (fun _ => 0) (List.replicate Lg true) [] [] (fun _ => 0) := by
  obtain ⟨mp, rv, fb, g1, g2, g3, g4, g5⟩ := hM.s
  obtain ⟨hrv, h0 | ⟨g, cap, cur, e1, e2, e3, e4, e5, e6, e7⟩⟩ := g3
  · omega
  subst e1
  have hI := HI.new hR
  have hsvb : ∀ b o c n, sv = .slice (some ⟨b, o, none⟩) n c → b < w.heap.size := by
    intro b o c n e
    have hn1 := hR.n1
    rcases hsl with ⟨_, h2⟩ | ⟨_, _, _, h2⟩ | ⟨b', o', cap', e', hr, _⟩
    · rw [h2] at hn1; simp at hn1
    · rw [h2] at hn1; simp at hn1
    · rw [e] at e'; cases e'; exact hr.1
  have hmb := hM.b
  have hcur : cur.toList = (List.replicate (cls.length + 1) ((.slice none 0 0, .slice none 0 0, .slice none 0 0, .slice none 0 0) : V4)).flatMap (ringCells W) ++ cur.toList.drop ((cls.length + 1) * 5) := by
    have hc : cur.toList.take ((cls.length + 1) * 5) = emptyRows W (cls.length + 1) := e7
    have e : (List.replicate (cls.length + 1) ((.slice none 0 0, .slice none 0 0, .slice none 0 0, .slice none 0 0) : V4)).flatMap (ringCells W) = emptyRows W (cls.length + 1) := by
      rw [emptyRows, List.flatMap_def, List.map_replicate]
      rfl
    rw [e, ← hc, List.take_append_drop]
  refine ⟨⟨w1.heap.size, mb, g, mp, fb, a, b, c, d, sv, cap⟩, rfl, rfl, ⟨hH1.fr hF2 (by simp), ⟨?_, hI, ?_, rfl, by have := hR.n2; omega, rfl, by simp [HS.new], by omega, ?_, by simp, .inl rfl⟩, ?_, ?_, ⟨fun o ho => (by cases ho), fun o ho => (by cases ho), fun o ho => (by cases ho), fun p hp => (by simp [mget] at hp)⟩, fun o ho => (by cases ho), fun q => ⟨rfl, rfl⟩, fun q c hc => (by cases hc), by simp⟩⟩
  · refine ⟨g1, hsl.fr (hF1.trans hF2) (by simp), ⟨⟨List.replicate (cls.length + 1) (.slice none 0 0, .slice none 0 0, .slice none 0 0, .slice none 0 0), cur.toList.drop ((cls.length + 1) * 5), ?_, ?_, ?_⟩, hF2.size⟩, ?_, g4, ⟨#[], 0, g2, rfl, by simp [Stm]⟩, ⟨hmb, e2, g5⟩⟩
    · rw [← hcur]
      unfold Blk
      rw [e3]
    · rw [rowsOf_len]; simp
    · intro i v R hv hR'
      have hv' : v = (.slice none 0 0, .slice none 0 0, .slice none 0 0, .slice none 0 0) := by
        rw [List.getElem?_replicate] at hv
        split at hv
        · exact (Option.some.inj hv).symm
        · cases hv
      have hR2 : R = ⟨[], [], [], []⟩ := by
        have hi := (List.getElem?_eq_some_iff.1 hR').1
        rw [rowsOf_len] at hi
        by_cases hlt : i < cls.length
        · rw [rowsOf_some _ hlt] at hR'; exact (Option.some.inj hR').symm
        · have : i = cls.length := by omega
          subst this
          rw [rowsOf_none] at hR'; exact (Option.some.inj hR').symm
      subst hv'
      subst hR2
      exact ⟨Rowi.nil _ _, Rowi.nil _ _, Rowi.nil _ _, Rowi.nil _ _⟩
    · rw [rowsOf_len]
  · intro b' o' c' n' e
    have := hsvb b' o' c' n' e
    have := hF1.size
    show b' < w1.heap.size
    omega
  · exact same3_new _ Lg
  · intro x hx
    exact all_lt hH1 hx
  · intro b' o' c' n' e hc
    have h1 := hsvb b' o' c' n' e
    have h2 := hL _ (fp_all hc)
    omega

/-- No row of a ring lies in a block. -/
def OffR (w : World) (rsb n g : Nat) : Prop := ∀ i, i < 5 * n → ∀ x, w.cell? ⟨rsb, i, none⟩ = some x → x.ownBlock ≠ some g
theorem OffR.fr {S : List Nat} {w w' : World} {rsb n g : Nat} (h : OffR w rsb n g) (hf : Fr S w w') (hr : rsb ∉ S) (hl : rsb < w.heap.size) : OffR w' rsb n g := fun i hi x hx => h i hi x (by rw [← cell_fr hf hr hl i]; exact hx)
theorem OffR.doc {B mp : Nat} {w w' : World} {rsb n g : Nat} (h : OffR w rsb n g) (hf : FrD B mp rsb w w') (hl : rsb < w.heap.size) (hg : g < w.heap.size) : OffR w' rsb n g := fun i hi x hx => by
  rcases hf.2 hl i x hx with h1 | h1
  · exact h i hi x h1
  · intro hc
    have := h1 g hc
    omega
theorem DRs.cellOf {w : World} {B rsb : Nat} {W : Int} {Rs : List Rows} (h : DRs w B rsb W Rs) {i : Nat} (hi : i < 5 * Rs.length) {x : Value} (hx : w.cell? ⟨rsb, i, none⟩ = some x) {g : Nat} (hg : x.ownBlock = some g) : g < w.heap.size := by
  have hi5 : i / 5 < Rs.length := by omega
  obtain ⟨v, hd, hc, -⟩ := h.at (i := i / 5) (List.getElem?_eq_getElem hi5)
  have hm : i % 5 < 5 := Nat.mod_lt _ (by decide)
  have he : 5 * (i / 5) + i % 5 = i := Nat.div_add_mod i 5
  have key : ∀ j y, i % 5 = j → (ringCells W v)[j]? = some y → x = y := by
    intro j y hj hy
    have := hc j y hy
    rw [← hj, he, hx] at this
    exact Option.some.inj this
  have h5 : i % 5 = 0 ∨ i % 5 = 1 ∨ i % 5 = 2 ∨ i % 5 = 3 ∨ i % 5 = 4 := by omega
  rcases h5 with e | e | e | e | e
  · rw [key 0 _ e rfl] at hg; exact (hd.wh.lt g hg).2
  · rw [key 1 _ e rfl] at hg; exact (hd.fr0.lt g hg).2
  · rw [key 2 _ e rfl] at hg; exact (hd.gr.lt g hg).2
  · rw [key 3 _ e rfl] at hg; exact (hd.bl.lt g hg).2
  · rw [key 4 _ e rfl] at hg; simp [Value.ownBlock] at hg
theorem OffR.new {w : World} {B rsb : Nat} {W : Int} {Rs : List Rows} (h : DRs w B rsb W Rs) : OffR w rsb Rs.length w.heap.size := fun i hi x hx hc => by
  have := h.cellOf hi hx hc
  omega
theorem DRs.row {w w' : World} {B rsb g : Nat} {W : Int} {Rs : List Rows} (h : DRs w B rsb W Rs) (hf : Fr [g] w w') (hr : rsb ≠ g) (ho : OffR w rsb Rs.length g) : DRs w' B rsb W Rs := by
  obtain ⟨vs, rest, h1, h2, h3⟩ := h.ex
  refine ⟨⟨vs, rest, h1.fr hf (by simpa using hr), h2, fun i v R hv hR => ?_⟩, Nat.le_trans h.le hf.size⟩
  have hd := h3 i v R hv hR
  have hi := (List.getElem?_eq_some_iff.1 hv).1
  have off : ∀ (j : Nat) (y : Value), (ringCells W v)[j]? = some y → y.ownBlock ≠ some g := fun j y hy => by
    have hj : j < 5 := by have := (List.getElem?_eq_some_iff.1 hy).1; simpa [ringCells] using this
    exact ho (5 * i + j) (by omega) y (h1.cell (ringCells_get W vs rest i v hv j y hy))
  have key : ∀ {v : Value} {l : List Int}, v.ownBlock ≠ some g → Rowi w B v l → Rowi w' B v l := fun {v l} hne hr => hr.fr hf (fun x hx hc => hne (by rw [hx, List.mem_singleton.1 hc]))
  exact ⟨key (off 0 _ rfl) hd.wh, key (off 1 _ rfl) hd.fr0, key (off 2 _ rfl) hd.gr, key (off 3 _ rfl) hd.bl⟩

/-- A row of ints of its own has changed. -/
theorem JB.row {w w' : World} {L : HL} {D : DL} {W Lg : Int} {cls : List Int} {s : HS} {A : Rg} {z : Int → Int} {bits : List Bool} {m : List (Int × Value)} {obs : List Ob} {G : Int → Nat} (h : JB w L D W Lg cls s A z bits m obs G) {v : Value} {l : List Int} (hr : Rowi w D.B v l) (ho : ∀ g, v.ownBlock = some g → OffR w D.rsb (cls.length + 1) g) (hf : Fr v.ownBlock.toList w w') : JB w' L D W Lg cls s A z bits m obs G := by
  cases hv : v.ownBlock with
  | none =>
    rw [hv] at hf
    exact h.tick hf
  | some g =>
    rw [hv] at hf
    have hf : Fr [g] w w' := hf
    obtain ⟨hgB, hgl⟩ := hr.lt g hv
    have hbne : ∀ {b : Nat} {cs : List Value} {T : TypeId}, Blk w b cs T → T ≠ 3 → b ∉ [g] := fun hb hT hc => hr.ne hb hT g hv (List.mem_singleton.1 hc).symm
    obtain ⟨cs, hrb⟩ := h.jh.dh.rblk
    have hd := h.jh.dh
    have hmp : D.mp ∉ [g] := fun hc => by
      rcases hr.2 with h0 | ⟨g', cap, cur, e1, e2, e3, e4⟩
      · rw [h0.1] at hv; simp [Value.ownBlock] at hv
      · rw [e1] at hv
        simp [Value.ownBlock] at hv
        subst hv
        obtain ⟨es, ck, h3, _⟩ := hd.im
        rw [List.mem_singleton.1 hc, e3] at h3
        cases h3
    obtain ⟨fv, f1, f2⟩ := hd.rm.s
    have hrm : FRep w' D.fb D.B (W - Lg) bits := by
      refine ⟨⟨fv, f1.fr hf (hbne f1 (by decide)), ownsRow_fr f2 hf (fun x hx hc => ?_)⟩, hd.rm.b⟩
      rcases hr.2 with h0 | ⟨g', cap, cur, e1, e2, e3, e4⟩
      · rw [h0.1] at hv; simp [Value.ownBlock] at hv
      · have hb : Blk w g cur.toList 3 := by
          rw [e1] at hv
          simp [Value.ownBlock] at hv
          subst hv
          unfold Blk
          rw [e3]
        exact own_ne5 f2 hb (by decide) (by rw [← List.mem_singleton.1 hc]; simp [hx])
    have hsl : SlArg w' D.sv cls := by
      rcases hd.cl with h4 | h4 | ⟨b, o, cap, e, hr', hm⟩
      · exact .inl h4
      · exact .inr (.inl h4)
      · exact .inr <| .inr ⟨b, o, cap, e, hr'.fr hf (fun hc => by have := List.mem_singleton.1 hc; have := h.jh.sv _ _ _ _ e; omega), hm⟩
    have hrs : DRs w' D.B D.rsb W (rowsOf A cls.length) := hd.rs.row hf (by simpa using hbne hrb (by decide)) (by rw [rowsOf_len]; exact ho g hv)
    exact ⟨h.hr.fr hf (fun x hx hc => by rw [List.mem_singleton.1 hx] at hc; have := h.low _ hc; omega),
      ⟨⟨hd.s.fr hf (hbne hd.s (by decide)), hsl, hrs, hd.len, hrm, hd.im.fr hf hmp, hd.lo⟩, h.jh.hi, h.jh.sv, h.jh.ecls, h.jh.cl, h.jh.edge, h.jh.ew, h.jh.lg, h.jh.same, h.jh.bl, h.jh.par⟩, h.low, h.svo,
      h.dob.fr hf (fun o ho => hbne (h.dob.blk o ho).2 (by decide)) (fun _ _ _ _ => rfl), h.inn, h.nofg, h.rows, h.nd⟩
end Go.Proofs.Ytifillpcphiblaa
