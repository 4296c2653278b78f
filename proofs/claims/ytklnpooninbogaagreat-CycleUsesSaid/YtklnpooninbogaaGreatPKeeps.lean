
import Derived.Test.YtklnpooninbogaaGreatMDJoin
import Derived.Test.YtklnpooninbogaaGreatIM
import Derived.Maps.RangeWalk
namespace Go.Proofs.YtklnpooninbogaaGreat
open Go Go.Proofs Go.RowKit Go.Maps Go.ChangeMaps
def IR (w : World) (mp r : Nat) (m : List (Int × Value)) (left : List Int) : Prop :=
  ∃ es ck since seen c0, w.heap[mp]? = some (.map es ck) ∧ es.toList.map (fun e => (e.key, e.val)) = m.map (fun x => (Value.int .i64 x.1, x.2)) ∧ Stm es ck ∧
    w.heap[r]? = some (.mapIter (some mp) since seen c0) ∧ (∀ x ∈ es.toList, x.born < since) ∧ since ≤ c0 ∧ since ≤ ck ∧ (leftOf es seen).toList.map (·.key) = left.map (Value.int .i64)
theorem IR.im {w : World} {mp r : Nat} {m : List (Int × Value)} {left : List Int} (h : IR w mp r m left) : IM w mp m := by
  obtain ⟨es, ck, since, seen, c0, h1, h2, h3, _⟩ := h
  exact ⟨es, ck, h1, h2, h3⟩
theorem IR.lt {w : World} {mp r : Nat} {m : List (Int × Value)} {left : List Int} (h : IR w mp r m left) : r < w.heap.size ∧ r ≠ mp := by
  obtain ⟨es, ck, since, seen, c0, h1, h2, h3, h4, _⟩ := h
  exact ⟨(Array.getElem?_eq_some_iff.1 h4).1, fun e => by rw [e, h1] at h4; cases h4⟩
theorem IR.fr {S : List Nat} {w w' : World} {mp r : Nat} {m : List (Int × Value)} {left : List Int} (h : IR w mp r m left) (hf : Fr S w w') (h1 : mp ∉ S) (h2 : r ∉ S) : IR w' mp r m left := by
  have l1 := h.im.lt
  have l2 := h.lt.1
  obtain ⟨es, ck, since, seen, c0, a1, a2, a3, a4, a5⟩ := h
  exact ⟨es, ck, since, seen, c0, by rw [hf.block mp l1 h1]; exact a1, a2, a3, by rw [hf.block r l2 h2]; exact a4, a5⟩
theorem IR.ne {w : World} {mp r : Nat} {m : List (Int × Value)} {left : List Int} (h : IR w mp r m left) {b : Nat} {cs : List Value} {T : TypeId} (hb : Blk w b cs T) : r ≠ b := by
  obtain ⟨es, ck, since, seen, c0, h1, h2, h3, h4, _⟩ := h
  rintro rfl
  unfold Blk at hb
  rw [hb] at h4
  cases h4
theorem IR.meas {w : World} {mp r : Nat} {m : List (Int × Value)} {left : List Int} (h : IR w mp r m left) : w.rangeLeft mp r = left.length := by
  obtain ⟨es, ck, since, seen, c0, h1, _, _, h4, _, _, _, h8⟩ := h
  simp only [World.rangeLeft, h1, h4]
  have := congrArg List.length h8
  simpa using this
theorem left_push {es : Array MapEntry} {seen : Array Nat} {ck : Nat} (hst : Stm es ck) {e : MapEntry} (he : e ∈ (leftOf es seen).toList) : ∃ l1 l2, (leftOf es seen).toList = l1 ++ e :: l2 ∧ (leftOf es (seen.push e.born)).toList = l1 ++ l2 := by
  have h0 : (leftOf es (seen.push e.born)).toList = (leftOf es seen).toList.filter (fun x => !(x.born == e.born)) := by
    unfold leftOf
    rw [Array.toList_filter, Array.toList_filter, List.filter_filter]
    refine List.filter_congr (fun x _ => ?_)
    rw [contains_push]
    cases seen.contains x.born <;> cases (x.born == e.born) <;> rfl
  have hn : ((leftOf es seen).toList.map (·.born)).Nodup := by
    unfold leftOf
    rw [Array.toList_filter]
    exact ((List.filter_sublist).map _).nodup hst.2
  rw [h0]
  generalize (leftOf es seen).toList = L at he hn
  obtain ⟨l1, l2, rfl⟩ := List.append_of_mem he
  refine ⟨l1, l2, rfl, ?_⟩
  rw [List.map_append, List.map_cons, List.nodup_append] at hn
  obtain ⟨-, hn2, hn3⟩ := hn
  rw [List.nodup_cons] at hn2
  rw [List.filter_append, List.filter_cons]
  have e1 : l1.filter (fun x => !(x.born == e.born)) = l1 := List.filter_eq_self.2 (fun x hx => by
    have := hn3 x.born (List.mem_map.2 ⟨x, hx, rfl⟩) e.born (by simp)
    simpa using this)
  have e2 : l2.filter (fun x => !(x.born == e.born)) = l2 := List.filter_eq_self.2 (fun x hx => by
    have : x.born ≠ e.born := fun hc => hn2.1 (List.mem_map.2 ⟨x, hx, hc⟩)
    simpa using this)
  rw [e1, e2]
  simp
theorem IM.range {P : Program} {w : World} {t k e : TypeId} {mp : Nat} {m : List (Int × Value)} (h : IM w mp m) (ht : P.underlying t = some (.map k e)) :
    ∃ w', (Instr.range t (.map (some mp))).run P w = .ok (.pointer (some ⟨w.heap.size, 0, none⟩)) w' ∧ IR w' mp w.heap.size m (m.map (·.1)) ∧ Fr [] w w' := by
  have hlt := h.lt
  obtain ⟨es, ck, hb, he, hst⟩ := h
  refine ⟨_, run_range_map w t k e mp es ck ht hb, ⟨es, ck, ck, #[], ck, ((MapKept.heap_alloc w _).2 mp hlt).trans hb, he, hst, (MapKept.heap_alloc w _).1, hst.1, Nat.le_refl _, Nat.le_refl _, ?_⟩, (Fr.refl _ w).alloc _⟩
  have : (leftOf es #[]).toList = es.toList := by simp [leftOf]
  rw [this]
  have h2 := congrArg (List.map (fun x : Value × Value => x.1)) he
  simpa [List.map_map, Function.comp_def] using h2
theorem IR.next {P : Program} {w : World} {mp r : Nat} {m : List (Int × Value)} {left : List Int} (h : IR w mp r m left) (ty : TypeId) :
    (left = [] ∧ (Instr.next (.pointer (some ⟨r, 0, none⟩)) false ty).run P w = .ok (.tuple #[.bool false]) w) ∨
    ∃ l1 k l2 v w', left = l1 ++ k :: l2 ∧ (Instr.next (.pointer (some ⟨r, 0, none⟩)) false ty).run P w = .ok (.tuple #[.bool true, .int .i64 k, v]) w' ∧ IR w' mp r m (l1 ++ l2) ∧ Fr [r] w w' ∧ w'.heap.size = w.heap.size ∧
      (Instr.entry (.pointer (some ⟨r, 0, none⟩))).run P w' = .ok (.tuple #[.int .i64 k, v]) w' := by
  have hne := h.lt.2
  obtain ⟨es, ck, since, seen, c0, hb, he, hst, hr, hold, hsc, hsk, hl⟩ := h
  rcases run_next_at (P := P) w ty r mp since c0 seen es ck hr hb hold hsc with ⟨h0, hrun⟩ | ⟨e, hem, w1, hal, hrun⟩
  · refine .inl ⟨?_, hrun⟩
    have := congrArg List.length hl
    simp only [List.length_map, Array.length_toList, h0] at this
    exact List.length_eq_zero_iff.1 this.symm
  · obtain ⟨a1, a2, e1, e2⟩ := left_push hst hem
    rw [e1, List.map_append, List.map_cons] at hl
    obtain ⟨l1, l', hll, hl1, hl2⟩ := List.append_eq_map_iff.1 hl
    obtain ⟨k, l2, rfl, hk, hl3⟩ := List.map_eq_cons_iff.1 hl2
    have hr1 : w1.heap[r]? = some (.mapIter (some mp) since seen c0) := by rcases hal with rfl | rfl <;> exact hr
    have hb1 : w1.heap[mp]? = some (.map es ck) := by rcases hal with rfl | rfl <;> exact hb
    have hset := MapKept.heap_set (o' := .mapIter (some mp) since (seen.push e.born) ck) hr1
    have hb' : (setBlock w1 r (.mapIter (some mp) since (seen.push e.born) ck)).heap[mp]? = some (.map es ck) := (hset.2 mp (fun e1 => hne e1.symm)).trans hb1
    refine .inr ⟨l1, k, l2, e.val, _, hll, by rw [hk]; exact hrun, ⟨es, ck, since, seen.push e.born, ck, hb', he, hst, hset.1, hold, hsk, hsk, ?_⟩, ?_, ?_, ?_⟩
    · rw [e2, List.map_append, List.map_append, hl1, hl3]
    · rcases hal with rfl | rfl <;> exact ⟨rfl, rfl, rfl, by simp [setBlock], fun i _ hi => hset.2 i (fun e1 => hi (by rw [e1]; simp))⟩
    · rcases hal with rfl | rfl <;> simp [setBlock]
    · have := run_entry_at (P := P) _ r mp since seen es ck e hset.1 hb' (mem_left hem).1 hst.2
      rw [← hk] at this
      exact this
theorem MH.put {s : HS} {A : Rg} {z : Int → Int} {obs : List Ob} (h : MH s A z obs) {o : Ob} (ho : o ∈ obs) {j : Nat} (hj : j < o.n) (v n : Int) :
    MH (s.put (o.p + 3 + j) v n) A z obs ∧ (∀ o' ∈ obs, o' ≠ o → ∀ i, i < o'.n → (s.put (o.p + 3 + j) v n).wd o' i = s.wd o' i) ∧ (∀ i, i < o.n → (s.put (o.p + 3 + j) v n).wd o i = if i = j then v else s.wd o i) := by
  obtain ⟨mo, hin⟩ := h.any ho
  have key : ∀ o' ∈ obs, ∀ m', (o'.wm m').In s A z → (o'.wm m').In (s.put (o.p + 3 + j) v n) A z ∧ (o' ≠ o → ∀ i, i < o'.n → (s.put (o.p + 3 + j) v n).wd o' i = s.wd o' i) ∧ (∀ i, i < o.n → (s.put (o.p + 3 + j) v n).wd o i = if i = j then v else s.wd o i) := by
    intro o' ho' m' hm'
    obtain ⟨a1, a2, a3⟩ := Ob.In.put (o := o.wm mo) (o' := o'.wm m') h.hi hin hm' (j := j) hj v n
    exact ⟨a1, fun hne => a2 (.inr (fun e => hne (h.one ho' ho e.symm))), a3⟩
  refine ⟨{ hi := HI.putOb (o := o.wm mo) h.hi hin hj v n, par := h.par, rows := h.rows, nd := h.nd, inn := fun o' ho' => ?_ }, fun o' ho' hne => ?_, (key o ho mo hin).2.2⟩
  · rcases h.inn o' ho' with ⟨h1, h2⟩ | ⟨h1, h2⟩
    · exact .inl ⟨h1, (key o' ho' _ h2).1⟩
    · exact .inr ⟨h1, (key o' ho' _ h2).1⟩
  · obtain ⟨m', hm'⟩ := h.any ho'
    exact (key o' ho' m' hm').2.1 hne
theorem MI.put {s : HS} {A : Rg} {z : Int → Int} {obs : List Ob} {g : MG} {a : Int} {nx U : Nat} (h : MI s A z obs g a nx U) {o : Ob} (ho : o ∈ obs) {j : Nat} (hj : Lk o j) {v : Int} (hv : v = 0 ∨ ∃ o' ∈ obs, o'.p = v) (hS : ∀ x, g.S x)
    (hm : ∀ o' ∈ obs, o'.p = s.wd o j → Mkd A o') (n : Int) : MI (s.put (o.p + 3 + j) v n) A z obs g a nx U := by
  obtain ⟨m1, m2, m3⟩ := h.mh.put ho hj.lt v n
  have hwd : ∀ o' ∈ obs, ∀ i, i < o'.n → ¬ (o' = o ∧ i = j) → (s.put (o.p + 3 + j) v n).wd o' i = s.wd o' i := by
    intro o' ho' i hi hne
    by_cases e : o' = o
    · subst e
      rw [m3 i hi, if_neg (fun e => hne ⟨rfl, e⟩)]
    · exact m2 o' ho' e i hi
  refine ⟨m1, fun o' ho' i hi => ?_, h.mS, fun _ _ _ _ _ _ _ _ => hS _, fun o1 ho1 hR i hi o2 ho2 e => ?_, h.u⟩
  · by_cases hc : o' = o ∧ i = j
    · obtain ⟨rfl, rfl⟩ := hc
      rw [m3 i hi.lt, if_pos rfl]
      exact hv
    · rw [hwd o' ho' i hi.lt hc]; exact h.wd o' ho' i hi
  · rcases h.edge o1 ho1 hR i hi o2 ho2 e with h3 | ⟨h3, h4⟩
    · exact .inl h3
    · by_cases hc : o1 = o ∧ i = j
      · obtain ⟨rfl, rfl⟩ := hc
        exact .inl (hm o2 ho2 (e.trans h3.symm))
      · exact .inr ⟨by rw [hwd o1 ho1 i hi.lt hc]; exact h3, h4⟩
theorem MH.alloc {s s' : HS} {A A' : Rg} {z z' : Int → Int} {obs : List Ob} (h : MH s A z obs) {q : Option Nat} {p k a : Int} {n : Nat} (hd : Hd k n a s.parity) (hA : Alc s s' A A' z z' q p (packed k n a s.parity) n) (m0 : Int) :
    MH s' A' z' (obs ++ [⟨q, p, k, n, a, m0⟩]) ∧ (∀ o ∈ obs, o.p ≠ p) ∧ (∀ o ∈ obs, ∀ j, j < o.n → s'.wd o j = s.wd o j) ∧ (∀ j, j < n → s'.wd ⟨q, p, k, n, a, m0⟩ j = 0) ∧ (∀ o ∈ obs, Mkd A' o ↔ Mkd A o) ∧ (∀ o ∈ obs, o.p ∈ (A' o.q).B ↔ o.p ∈ (A o.q).B) ∧ p ∈ (A' q).B ∧ 1 ≤ p := by
  obtain ⟨W', hA', hrow⟩ := hA.row
  have hW : ∀ o ∈ obs, o.p ∉ (A o.q).W := by
    intro o ho hc
    have hn := rows_nodup h.hi o.q
    unfold Rows.all at hn
    rw [List.nodup_append] at hn
    refine hn.2.2 o.p hc o.p ?_ rfl
    rcases h.inn o ho with ⟨h1, _⟩ | ⟨h1 | h1, _⟩ <;> simp [h1]
  have hold : ∀ o ∈ obs, ∀ m, (o.wm m).In s A z → (o.wm m).In s' A' z' ∧ ∀ j, j < o.n → s'.wd o j = s.wd o j := fun o ho m hm => Ob.In.alloc hA hm (hW o ho)
  obtain ⟨n1, n2⟩ := Ob.In.new hA hd
  have hmem : p ∈ (A' q).all := hA.mem
  have hne : ∀ o ∈ obs, o.p ≠ p := by
    intro o ho
    obtain ⟨m, hm⟩ := h.any ho
    by_cases eq : o.q = q
    · have := alc_ne hA hm.mem (hW o ho)
      rcases this with h1 | h1
      · exact absurd eq h1
      · exact h1
    · exact apart_p hA.hi (hold o ho m hm).1.mem hmem eq
  have hF : ∀ o : Ob, (A' o.q).F = (A o.q).F ∧ (A' o.q).G = (A o.q).G := by
    intro o
    rw [hA']
    by_cases eq : o.q = q
    · rw [eq, Rg.up_same]; exact ⟨rfl, rfl⟩
    · rw [Rg.up_ne A eq]; exact ⟨rfl, rfl⟩
  have hB : ∀ o ∈ obs, o.p ∈ (A' o.q).B ↔ o.p ∈ (A o.q).B := by
    intro o ho
    rw [hA']
    by_cases eq : o.q = q
    · rw [eq, Rg.up_same]
      simp only [List.mem_append, List.mem_singleton]
      exact ⟨fun h1 => h1.elim id (fun e => absurd e (hne o ho)), .inl⟩
    · rw [Rg.up_ne A eq]
  have hmk : ∀ o ∈ obs, Mkd A' o ↔ Mkd A o := by
    intro o ho
    unfold Mkd
    rw [(hF o).2, hB o ho]
  have hpB : p ∈ (A' q).B := by rw [hA', Rg.up_same]; simp
  refine ⟨{ hi := hA.hi, par := by rw [hA.parity]; exact h.par, inn := fun o ho => ?_, rows := fun q' c hc => ?_, nd := ?_ }, hne, fun o ho j hj => ?_, n2, hmk, hB, hpB, (hA.hi.bound hmem).1⟩
  · rw [hA.parity]
    rcases List.mem_append.1 ho with h1 | h1
    · rcases h.inn o h1 with ⟨h2, h3⟩ | ⟨h2, h3⟩
      · exact .inl ⟨by rw [(hF o).1]; exact h2, (hold o h1 _ h3).1⟩
      · exact .inr ⟨(hmk o h1).2 h2, (hold o h1 _ h3).1⟩
    · obtain rfl := List.mem_singleton.1 h1
      exact .inr ⟨.inr hpB, n1⟩
  · rw [hA'] at hc
    by_cases eq : q' = q
    · subst eq
      rw [Rg.up_same] at hc
      simp only [List.mem_append, List.mem_singleton] at hc
      rcases hc with h1 | h1 | h1 | h1
      · obtain ⟨o, ho, e1, e2⟩ := h.rows _ c (.inl h1); exact ⟨o, List.mem_append.2 (.inl ho), e1, e2⟩
      · obtain ⟨o, ho, e1, e2⟩ := h.rows _ c (.inr (.inl h1)); exact ⟨o, List.mem_append.2 (.inl ho), e1, e2⟩
      · obtain ⟨o, ho, e1, e2⟩ := h.rows _ c (.inr (.inr h1)); exact ⟨o, List.mem_append.2 (.inl ho), e1, e2⟩
      · exact ⟨_, List.mem_append.2 (.inr (List.mem_singleton.2 rfl)), rfl, h1.symm⟩
    · rw [Rg.up_ne A eq] at hc
      obtain ⟨o, ho, e1, e2⟩ := h.rows _ c hc
      exact ⟨o, List.mem_append.2 (.inl ho), e1, e2⟩
  · rw [List.map_append, List.nodup_append]
    refine ⟨h.nd, by simp, fun x hx y hy => ?_⟩
    obtain ⟨o, ho, rfl⟩ := List.mem_map.1 hx
    simp at hy
    subst hy
    exact hne o ho
  · obtain ⟨m, hm⟩ := h.any ho
    exact (hold o ho m hm).2 j hj
theorem MI.alloc {s s' : HS} {A A' : Rg} {z z' : Int → Int} {obs : List Ob} {g : MG} {a : Int} {nx U : Nat} (h : MI s A z obs g a nx U) {q : Option Nat} {p k a0 : Int} {n : Nat} (hd : Hd k n a0 s.parity) (hA : Alc s s' A A' z z' q p (packed k n a0 s.parity) n) (m0 : Int)
    (hS : ∀ x, g.S x) (hR : ∀ x, g.R x → ∃ o ∈ obs, o.p = x) (hW0 : ∀ o ∈ obs, g.R o.p → ∀ i, Lk o i → g.W0 o.p i = 0 ∨ ∃ o' ∈ obs, o'.p = g.W0 o.p i) :
    MI s' A' z' (obs ++ [⟨q, p, k, n, a0, m0⟩]) g a nx U ∧ Mkd A' ⟨q, p, k, n, a0, m0⟩ ∧ (∀ o ∈ obs, Mkd A o → Mkd A' o) ∧ (∀ o ∈ obs, ∀ j, j < o.n → s'.wd o j = s.wd o j) := by
  obtain ⟨m1, hne, hw, hw0, hmk, hB, hpB, hp1⟩ := h.mh.alloc hd hA m0
  refine ⟨⟨m1, fun o ho j hj => ?_, fun _ _ _ => hS _, fun _ _ _ _ _ _ _ _ => hS _, fun o ho hR1 j hj o2 ho2 e => ?_, ?_⟩, .inr hpB, fun o ho hm => (hmk o ho).2 hm, hw⟩
  · rcases List.mem_append.1 ho with h1 | h1
    · rw [hw o h1 j hj.lt]
      rcases h.wd o h1 j hj with h2 | ⟨o', h2, h3⟩
      · exact .inl h2
      · exact .inr ⟨o', List.mem_append.2 (.inl h2), h3⟩
    · obtain rfl := List.mem_singleton.1 h1
      exact .inl (hw0 j hj.lt)
  · rcases List.mem_append.1 ho with h1 | h1
    · rcases List.mem_append.1 ho2 with h2 | h2
      · rw [hw o h1 j hj.lt, hB o h1, hmk o2 h2]
        exact h.edge o h1 hR1 j hj o2 h2 e
      · obtain rfl := List.mem_singleton.1 h2
        exfalso
        simp only at e
        rcases hW0 o h1 hR1 j hj with h3 | ⟨o', h3, h4⟩
        · omega
        · exact hne o' h3 (h4.trans e.symm)
    · obtain rfl := List.mem_singleton.1 h1
      obtain ⟨o', h3, h4⟩ := hR _ hR1
      exact absurd h4 (hne o' h3)
  · obtain ⟨r, h1, h2⟩ := h.u
    refine ⟨r, ?_, ?_⟩
    · rcases h1 with h1 | ⟨o, ho, e1, e2, e3⟩
      · exact .inl h1
      · exact .inr ⟨o, List.mem_append.2 (.inl ho), e1, (hB o ho).2 e2, e3⟩
    · rw [h2]
      congr 1
      unfold pot
      rw [List.map_append, List.sum_append]
      have e1 : (List.map (fun o : Ob => open Classical in if g.S o.p ∧ o.p ∉ (A' o.q).B then 1 + nl o else 0) [⟨q, p, k, n, a0, m0⟩]).sum = 0 := by
        simp only [List.map_cons, List.map_nil, List.sum_cons, List.sum_nil, Nat.add_zero]
        rw [if_neg (fun hc => hc.2 hpB)]
      rw [e1, Nat.add_zero]
      congr 1
      exact List.map_congr_left (fun o ho => ite_iff (and_congr Iff.rfl (not_congr (hB o ho).symm)) _ _)
theorem MW.tick {wr w' : World} {L : HL} {mb : Nat} {s : HS} {A : Rg} {z : Int → Int} {obs : List Ob} {g : MG} {a : Int} {nx U : Nat} (hm : MW wr L mb s A z obs g a nx U) (hF : Fr [] wr w') : MW w' L mb s A z obs g a nx U :=
  ⟨hm.hr.fr hF (by simp), hm.m.fr hF (by simp), hm.i, hm.z0⟩
def pk (n : Int) (of : Nat) : Int := if n.tmod of < 0 then - n.tmod of else n.tmod of
theorem pk_in (n : Int) {of : Nat} (h : 0 < of) : ∃ k : Nat, pk n of = k ∧ k < of := by
  have h1 := Int.tmod_lt_of_pos n (show (0 : Int) < of by omega)
  have h2 : -(of : Int) < n.tmod of := by
    have h3 := Int.tmod_lt_of_pos (-n) (show (0 : Int) < of by omega)
    rw [Int.neg_tmod] at h3
    omega
  unfold pk
  split
  · exact ⟨(- n.tmod of).toNat, by omega, by omega⟩
  · exact ⟨(n.tmod of).toNat, by omega, by omega⟩
theorem fieldW (k n a mk : Int) (g m : Nat) (w : World) : (Instr.field 75 (.agg #[.int .i64 k, .int .i64 n, .int .i64 a, .int .i64 mk, .slice (some ⟨g, 0, none⟩) m m]) 1).run Tryz.prog w = .ok (.slice (some ⟨g, 0, none⟩) m m) w := by kernel_rfl
theorem fieldC (k n a mk : Int) (g m : Nat) (w : World) : (Instr.field 75 (.agg #[.int .i64 k, .int .i64 n, .int .i64 a, .int .i64 mk, .slice (some ⟨g, 0, none⟩) m m]) 0).run Tryz.prog w = .ok (.agg #[.int .i64 k, .int .i64 n, .int .i64 a, .int .i64 mk]) w := by kernel_rfl
end Go.Proofs.YtklnpooninbogaaGreat
