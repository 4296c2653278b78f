
import Derived.Test.YtklnpooninbogaaGreatHNext
import Derived.RangeFuncWrites
namespace Go.Proofs.YtklnpooninbogaaGreat
open Go Go.Proofs Go.RowKit Go.Shelf
attribute [local go_sem] Oper.semAt_some
theorem fr_putObj (W : World) (D : Nat) (o : Obj) : Fr [D] W (W.putObj D o) := Fr.of_grownBy (S := [D]) (grownBy_putObj' W D o) (fun k e => .inl (by cases e; simp))
theorem Fr.putD {S : List Nat} {w W : World} (h : Fr S w W) {D : Nat} (hD : w.heap.size ≤ D) (o : Obj) : Fr S w (W.putObj D o) := h.step (fr_putObj W D o) (fun x hx => .inr (by simp at hx; omega))
theorem HRep.putD {W : World} {L : HL} {s : HS} (h : HRep W L s) {D : Nat} (hD : ∀ b ∈ L.all, b < D) (o : Obj) : HRep (W.putObj D o) L s := h.fr (fr_putObj W D o) (fun x hx hc => by simp at hx; subst hx; exact Nat.lt_irrefl _ (hD _ hc))
theorem cell_putD {W : World} {D b i : Nat} (h : b ≠ D) (o : Obj) : (W.putObj D o).cell? ⟨b, i, none⟩ = W.cell? ⟨b, i, none⟩ := World.cell?_of_block (w := W) (World.putObj_heap_other h)
theorem cell_set_ne (W : World) {b b' i i' : Nat} (h : b ≠ b') (v : Value) : (W.setCell ⟨b', i', none⟩ v).cell? ⟨b, i, none⟩ = W.cell? ⟨b, i, none⟩ := World.cell?_of_block (w := W) (Below.heap_setCell _ _ _ _ h)
def NextPost (L : HL) (s : HS) (w : World) (e : Ending) (w' : World) : Prop :=
  Fr [L.ab] w w' ∧ ((e = .returned (.tuple #[.int .i64 0, .bool false]) ∧ HRep w' L s ∧ ∀ x ∈ att L, ∀ r, RingAt L s x.1 r → r.g = 0) ∨
    ∃ pre x r, pre ++ [x] <+: att L ∧ (∀ y ∈ pre, ∀ r, RingAt L s y.1 r → r.g = 0) ∧ RingAt L s x.1 r ∧ 1 ≤ r.g ∧ e = .returned (.tuple #[.int .i64 (gw s.ws (r.black + 2)), .bool true]) ∧ HRep w' L (s.tick 1))
set_option maxRecDepth 100000 in
set_option maxHeartbeats 4000000 in
theorem hNext (L : HL) (s : HS) (w : World) (hH : HRep w L s) (hok : ∀ x r, RingAt L s x r → 1 ≤ r.g → Okc s.ws r.black) (huniq : ∀ x r r', RingAt L s x r → RingAt L s x r' → r = r') :
    Calls Tryz.prog 166 #[.pointer (some ⟨L.hb, 0, none⟩)] w (NextPost L s w) := by
  refine (callsIn_wide (n := 3)).1 ?_
  have hall : ∀ b ∈ L.all, b < w.heap.size := fun b hb => all_lt hH hb
  have hab : L.ab ∈ L.all := by simp [HL.all, HL.fp]
  have hhb : L.hb ∈ L.all := by simp [HL.all, HL.fp]
  have hrsb : L.rsb ∈ L.all := by simp [HL.all]
  have hab1 := hall _ hab
  have hhb1 := hall _ hhb
  have hrsb1 := hall _ hrsb
  refine callsIn_of_wp_marks Tryz.func166 rfl trivial ?_ rfl
  simp only [Tryz.ntmps166, List.size_toArray, List.length_cons, List.length_nil, Nat.reduceAdd, Nat.reduceSub, Array.replicate_succ, Array.replicate_zero, List.push_toArray, List.append_toArray, List.nil_append, List.cons_append]
  gi_wp2_with (refine ⟨trivial, ?_⟩; gi_at_call 124; refine (all_in Fence.wide 2 trivial rfl L _).mono ?_; rintro e w' ⟨rfl, rfl⟩)
  have bN := Boxed.new w 3 (.int .i64 0)
  have bO := Boxed.new (w.alloc (.cells #[.int .i64 0] 3)) 4 (.bool false)
  rw [World.size_alloc] at bO
  obtain ⟨W0, hW0⟩ : ∃ W0, W0 = ((w.alloc (.cells #[.int .i64 0] 3)).alloc (.cells #[.bool false] 4)).alloc (.cells #[.pointer (some ⟨L.hb, 0, none⟩)] 30) := ⟨_, rfl⟩
  have hF0 : Fr [L.ab] w W0 := by rw [hW0]; exact (((Fr.refl _ w).alloc _).alloc _).alloc _
  have hH0 : HRep W0 L s := by rw [hW0]; exact ((hH.alloc _).alloc _).alloc _
  have hsz : W0.heap.size = w.heap.size + 3 := by rw [hW0]; simp
  have hpb : W0.cell? ⟨w.heap.size + 2, 0, none⟩ = some (.pointer (some ⟨L.hb, 0, none⟩)) := by
    have := (Blk.new ((w.alloc (.cells #[.int .i64 0] 3)).alloc (.cells #[.bool false] 4)) [.pointer (some ⟨L.hb, 0, none⟩)] 30).cell (i := 0) rfl
    rw [hW0]
    simpa using this
  have hn0 : W0.cell? ⟨w.heap.size, 0, none⟩ = some (.int .i64 0) ∧ W0.frozen? ⟨w.heap.size, 0, none⟩ = false := by
    rw [hW0]; exact ⟨((bN.alloc _).alloc _).cell, ((bN.alloc _).alloc _).frozen⟩
  have ho0 : W0.cell? ⟨w.heap.size + 1, 0, none⟩ = some (.bool false) ∧ W0.frozen? ⟨w.heap.size + 1, 0, none⟩ = false := by
    rw [hW0]; exact ⟨(bO.alloc _).cell, (bO.alloc _).frozen⟩
  rw [← hW0]
  have hRO : RO L L.rbs.length (w.heap.size + 2) W0 := ⟨hpb, by rw [hH0.n1]; exact hH0.reads.2.2.1, hH0.reads.2.2.2.1, fun k rb hk => hH0.r.2 k _ (by simp [hk])⟩
  have hn3 := hH.n3
  have hn1 := hH.n1
  have hpbne : ∀ b ∈ [w.heap.size + 2, L.hb, L.rsb], b < W0.heap.size := by
    intro b hb
    simp at hb
    rcases hb with rfl | rfl | rfl <;> omega
  have hallW : ∀ b ∈ L.all, b < W0.heap.size := fun b hb => by have := hall b hb; omega
  refine wpIn_rangeFunc_ownF rfl (by omega) (gf := 156) (lb := #[.pointer (some ⟨w.heap.size + 2, 0, none⟩)]) rfl trivial (enters_of Tryz.func156 (by kernel_rfl) rfl)
    (all_stops Fence.wide 2 trivial rfl (by omega) (w.heap.size + 2) L.rbs.length L rfl (by omega) W0 hpbne hRO) (fun h k => KpA.trans h k) (fun W l o o' hl _ _ _ b hb => World.putObj_heap_other (by have := hpbne b hb; omega)) (Below.refl _ _) (fun _ => rfl)
    (fun pre W => ((∀ y ∈ pre, ∀ r, RingAt L s y.1 r → r.g = 0) ∧ W.cell? ⟨w.heap.size, 0, none⟩ = some (.int .i64 0) ∧ W.frozen? ⟨w.heap.size, 0, none⟩ = false ∧ W.cell? ⟨w.heap.size + 1, 0, none⟩ = some (.bool false) ∧ W.frozen? ⟨w.heap.size + 1, 0, none⟩ = false) ∧ HRep W L s ∧ Fr [L.ab] w W)
    (fun c pre W => (c = .ret ∧ ∃ ini x r, pre = ini ++ [x] ∧ (∀ y ∈ ini, ∀ r, RingAt L s y.1 r → r.g = 0) ∧ RingAt L s x.1 r ∧ 1 ≤ r.g ∧ W.cell? ⟨w.heap.size, 0, none⟩ = some (.int .i64 (gw s.ws (r.black + 2))) ∧ W.cell? ⟨w.heap.size + 1, 0, none⟩ = some (.bool true)) ∧ HRep W L (s.tick 1) ∧ Fr [L.ab] w W)
    (OwnFrom.and (Own.from (fun t A B row hs hg hr => ⟨hs.1, cell_kept hs.2.1 hg hr, (frozen_kept hs.2.1 hg hr).trans hs.2.2.1, cell_kept hs.2.2.2.1 hg hr, (frozen_kept hs.2.2.2.1 hg hr).trans hs.2.2.2.2⟩) _) (OwnFrom.and (ownFrom_hrep _ L (fun _ => s) hallW) (ownFrom_fr _ _ w (by omega))))
    (fun c => OwnFrom.and (Own.from (fun t A B row hs hg hr => by obtain ⟨hc, ini, x, r, e1, e2, e3, e4, e5, e6⟩ := hs; exact ⟨hc, ini, x, r, e1, e2, e3, e4, cell_kept e5 hg hr, cell_kept e6 hg hr⟩) _) (OwnFrom.and (ownFrom_hrep _ L (fun _ => s.tick 1) hallW) (ownFrom_fr _ _ w (by omega))))
    ⟨⟨by simp, hn0.1, hn0.2, ho0.1, ho0.2⟩, hH0, hF0⟩
    (fun x => { tmps := #[.pointer (some ⟨L.hb, 0, none⟩), undef, .pointer (some ⟨w.heap.size, 0, none⟩), .pointer (some ⟨w.heap.size + 1, 0, none⟩), .pointer (some ⟨x.1, 0, none⟩), undef, undef, .pointer (some ⟨L.hb, 0, none⟩), .func (.func 156) #[] #[.pointer (some ⟨w.heap.size + 2, 0, none⟩)], .pointer (some ⟨x.1, 0, none⟩), undef, undef, undef, undef, undef, undef, undef], defers := [] }) ?assign ?body ?done ?stop
  case assign =>
    intro l x W K hK
    gi_wp2
    exact hK
  case body =>
    rintro l pre x W ⟨⟨hp, c0, f0, c1, f1⟩, hHW, hFW⟩ _
    obtain ⟨r, hra, hrr⟩ := ringAt_some hHW x
    by_cases hg : r.g = 0
    · gi_wp2_with (refine ⟨trivial, ?_⟩; gi_at_call 171; refine (CallsIn.inRound l (callsIn_wide.2 (rNextNone x.1 L.ab r _ hrr hg))).mono ?_; rintro e w' ⟨rfl, rfl⟩)
      refine ⟨KeepsOthers.refl _, KpA.refl _ _ _, ⟨?_, c0, f0, c1, f1⟩, hHW, hFW⟩
      intro y hy r' hr'
      rcases List.mem_append.1 hy with hy | hy
      · exact hp y hy r' hr'
      · obtain rfl : y = x := by simpa using hy
        rw [huniq _ _ _ hr' hra]; exact hg
    · have hg1 : 1 ≤ r.g := by omega
      have hbk := hok _ _ hra hg1
      have hWs : w.heap.size + 1 < W.heap.size := World.block_lt_of_cell? W _ c1
      have n0 : w.heap.size ∉ [L.ab] := by simp; omega
      have n1 : w.heap.size + 1 ∉ [L.ab] := by simp; omega
      gi_wp2_with (refine ⟨trivial, ?_⟩; gi_at_call 171; refine (CallsIn.inRound l (callsIn_wide.2 (rNextGrey x.1 L.ab L.wb r s.ws s.u _ hrr hHW.a hg1 hbk))).mono ?_; rintro e w1 ⟨rfl, hA1, hF1⟩; have k0 := (cell_fr hF1 n0 (by omega) 0).trans c0; have k1 := (cell_fr hF1 n1 (by omega) 0).trans c1; have m0 := (frozen_fr hF1 n0 (by omega) 0).trans f0; have m1 := (frozen_fr hF1 n1 (by omega) 0).trans f1)
      have hW1s : w.heap.size + 1 < w1.heap.size := Nat.lt_of_lt_of_le hWs hF1.size
      have hH1 := hHW.arena hF1 (by simp) hA1
      have hnw : w.heap.size ∉ L.all := fun h => Nat.lt_irrefl _ (hall _ h)
      have hnw1 : w.heap.size + 1 ∉ L.all := fun h => by have := hall _ h; omega
      refine ⟨?_, ⟨rfl, pre, x, r, rfl, hp, hra, hg1, ?_, ?_⟩, ?_, ?_⟩
      · exact ((hF1.others (fun b hb o ho => by simp at hb; subst hb; exact hHW.a.s.cells o ho)).trans (KeepsOthers.setCell _ _ _)).trans (KeepsOthers.setCell _ _ _)
      · rw [cell_set_ne _ (by omega)]
        exact World.cell?_setCell_same' _ _ _ (by rw [k0]; rfl)
      · exact World.cell?_setCell_same' _ _ _ (by rw [cell_set_ne _ (by omega), k1]; rfl)
      · exact (hH1.other hnw _).other hnw1 _
      · exact ((hFW.trans hF1).set (by simp) _).set (by simp) _
  case done =>
    rintro D ys W hD rfl ⟨⟨hp, c0, f0, c1, f1⟩, hHW, hFW⟩ hK
    gi_wp2
    have hnw : w.heap.size ∉ L.all := fun h => Nat.lt_irrefl _ (hall _ h)
    have hnw1 : w.heap.size + 1 ∉ L.all := fun h => by have := hall _ h; omega
    have hK' := ((KeepsOthers.setCell W ⟨w.heap.size, 0, none⟩ (.int .i64 0)).trans (KeepsOthers.setCell _ ⟨w.heap.size + 1, 0, none⟩ (.bool false))).same D _ hK rfl
    refine ⟨by simp, .inl ⟨_, _, rfl, run_takeDeferred hK', ?_⟩⟩
    have r0 : (((W.setCell ⟨w.heap.size, 0, none⟩ (.int .i64 0)).setCell ⟨w.heap.size + 1, 0, none⟩ (.bool false)).putObj D (.deferred none)).cell? ⟨w.heap.size, 0, none⟩ = some (.int .i64 0) := by
      rw [cell_putD (by omega), cell_set_ne _ (by omega)]
      exact World.cell?_setCell_same' _ _ _ (by rw [c0]; rfl)
    have r1 : (((W.setCell ⟨w.heap.size, 0, none⟩ (.int .i64 0)).setCell ⟨w.heap.size + 1, 0, none⟩ (.bool false)).putObj D (.deferred none)).cell? ⟨w.heap.size + 1, 0, none⟩ = some (.bool false) := by
      rw [cell_putD (by omega)]
      exact World.cell?_setCell_same' _ _ _ (by rw [cell_set_ne _ (by omega), c1]; rfl)
    refine ⟨.tuple #[.int .i64 0, .bool false], by simp [results, Tryz.f166, go_sem, r0, r1], ?_, .inl ⟨rfl, ?_, hp⟩⟩
    · exact ((hFW.set (by simp) _).set (by simp) _).putD (by omega) _
    · exact ((hHW.other hnw _).other hnw1 _).putD (fun b hb => by have := hallW b hb; omega) _
  case stop =>
    rintro D c pre W hD hpre ⟨⟨rfl, ini, x, r, e1, e2, e3, e4, e5, e6⟩, hHW, hFW⟩ hK
    gi_wp2
    refine ⟨by simp, .inl ⟨_, _, rfl, run_takeDeferred hK, ?_⟩⟩
    have r0 : (W.putObj D (.deferred none)).cell? ⟨w.heap.size, 0, none⟩ = some (.int .i64 (gw s.ws (r.black + 2))) := by rw [cell_putD (by omega)]; exact e5
    have r1 : (W.putObj D (.deferred none)).cell? ⟨w.heap.size + 1, 0, none⟩ = some (.bool true) := by rw [cell_putD (by omega)]; exact e6
    refine ⟨.tuple #[.int .i64 (gw s.ws (r.black + 2)), .bool true], by simp [results, Tryz.f166, go_sem, r0, r1], ?_, .inr ⟨ini, x, r, e1 ▸ hpre, e2, e3, e4, rfl, ?_⟩⟩
    · exact hFW.putD (by omega) _
    · exact hHW.putD (fun b hb => by have := hallW b hb; omega) _
end Go.Proofs.YtklnpooninbogaaGreat
namespace Go.Proofs.YtklnpooninbogaaGreat
open Go Go.Proofs Go.RowKit Go.Shelf
attribute [local go_sem] Oper.semAt_some
def RS.cnt (r : RS) : Nat → Nat
  | 0 => r.w
  | 1 => r.f
  | 2 => r.g
  | _ => r.b
def HasCol (L : HL) (s : HS) (cs : List Nat) : Prop := ∃ x r c, RingAt L s x r ∧ c ∈ cs ∧ 1 ≤ r.cnt c
def NoCol (L : HL) (s : HS) (cs : List Nat) (pre : List (RB L)) : Prop := ∀ y ∈ pre, ∀ r, RingAt L s y.1 r → ∀ c ∈ cs, r.cnt c = 0
def HS.turnAt (L : HL) (f : RS → RS) (s : HS) (x : Nat) : HS := if x = L.lb then { s with lg := f s.lg } else { s with rs := s.rs.mapIdx (fun k r => if L.rbs[k]? = some x then f r else r) }
def HS.turned (L : HL) (f : RS → RS) (s : HS) (pre : List (RB L)) : HS := pre.foldl (fun s x => s.turnAt L f x.1) s
theorem turned_snoc (L : HL) (f : RS → RS) (s : HS) (pre : List (RB L)) (x : RB L) : s.turned L f (pre ++ [x]) = (s.turned L f pre).turnAt L f x.1 := by simp [HS.turned]
theorem HRep.turnAt {W W' : World} {L : HL} {s : HS} (h : HRep W L s) (f : RS → RS) {x : Nat} {r : RS} (hr : RingAt L s x r) (hF : Fr [x] W W') (hR : RRep W' x L.ab (f r)) : HRep W' L (s.turnAt L f x) := by
  unfold HS.turnAt
  rcases hr with ⟨k, hk, hs⟩ | ⟨rfl, rfl⟩
  · obtain ⟨a0, a1, a2, a3, a4, a5, a6, a7⟩ := h.rapart (List.mem_of_getElem? hk)
    rw [if_neg a3]
    refine (h.ring hk hF (by simp) (h.a.fr hF (by simp [Ne.symm a1]) (by simp [Ne.symm a2])) hR).cast ?_
    congr 1
    refine List.ext_getElem? (fun j => ?_)
    rw [List.getElem?_set, List.getElem?_mapIdx]
    by_cases e : k = j
    · subst e
      rw [if_pos rfl, if_pos (List.getElem?_eq_some_iff.1 hs).1, hs]
      simp [hk]
    · rw [if_neg e]
      cases hj : s.rs[j]? with
      | none => rfl
      | some r' =>
        simp only [Option.map_some]
        rw [if_neg (fun hc => e (h.rinj hk hc))]
  · obtain ⟨⟨-, -, p3, -, -, -⟩, ⟨-, q2, -, -, -⟩, ⟨r1, -, -, -⟩, -, -, -⟩ := h.apart
    rw [if_pos rfl]
    exact h.large hF (by simp) (h.a.fr hF (by simp [q2]) (by simp [r1])) hR
theorem turned_take {W : World} {L : HL} {s : HS} (h : HRep W L s) (f : RS → RS) : ∀ k, k ≤ L.rbs.length → s.turned L f ((att L).take k) = { s with rs := s.rs.mapIdx (fun j r => if j < k then f r else r) } := by
  intro k
  induction k with
  | zero =>
    intro _
    have : s.rs.mapIdx (fun j r => if j < 0 then f r else r) = s.rs := by
      refine List.ext_getElem? (fun j => ?_)
      rw [List.getElem?_mapIdx]
      cases s.rs[j]? <;> simp
    rw [this]; rfl
  | succ k ih =>
    intro hk
    have hkl : k < (att L).length := by rw [att_len]; omega
    have hsucc : (att L).take (k + 1) = (att L).take k ++ [(att L)[k]] := by rw [List.take_add_one]; simp [hkl]
    have hx : ((att L)[k]).1 = L.rbs[k]'hk := by rw [att_get, List.getElem_append_left hk]
    have hm : L.rbs[k]'hk ∈ L.rbs := List.getElem_mem _
    rw [hsucc, turned_snoc, ih (by omega), hx]
    unfold HS.turnAt
    rw [if_neg (h.rapart hm).2.2.2.1]
    congr 1
    refine List.ext_getElem? (fun j => ?_)
    rw [List.getElem?_mapIdx, List.getElem?_mapIdx, List.getElem?_mapIdx]
    cases hj : s.rs[j]? with
    | none => rfl
    | some r =>
      simp only [Option.map_some]
      by_cases e : j = k
      · subst e
        rw [if_pos (List.getElem?_eq_getElem hk), if_neg (by omega), if_pos (by omega)]
      · rw [if_neg (fun hc => e (h.rinj hc (List.getElem?_eq_getElem hk)))]
        by_cases e2 : j < k
        · rw [if_pos e2, if_pos (by omega)]
        · rw [if_neg e2, if_neg (by omega)]
theorem turned_all {W : World} {L : HL} {s : HS} (h : HRep W L s) (f : RS → RS) : s.turned L f (att L) = { s with rs := s.rs.map f, lg := f s.lg } := by
  have hn : L.rbs.length = s.rs.length := h.n1.trans h.n2.symm
  have e : att L = (att L).take L.rbs.length ++ [(att L)[L.rbs.length]'(by rw [att_len]; omega)] := by
    refine (List.take_append_drop L.rbs.length (att L)).symm.trans ?_
    rw [List.drop_eq_getElem_cons (by rw [att_len]; omega), List.drop_eq_nil_of_le (by rw [att_len]; exact Nat.le_refl _)]
  have hx : ((att L)[L.rbs.length]'(by rw [att_len]; omega)).1 = L.lb := by rw [att_get, List.getElem_append_right (Nat.le_refl _)]; simp
  rw [congrArg (s.turned L f) e, turned_snoc, turned_take h f _ (Nat.le_refl _), hx]
  unfold HS.turnAt
  rw [if_pos rfl]
  have : s.rs.mapIdx (fun j r => if j < L.rbs.length then f r else r) = s.rs.map f := by
    refine List.ext_getElem? (fun j => ?_)
    rw [List.getElem?_mapIdx, List.getElem?_map]
    cases hj : s.rs[j]? with
    | none => rfl
    | some r =>
      have := (List.getElem?_eq_some_iff.1 hj).1
      simp only [Option.map_some]
      rw [if_pos (by omega)]
  rw [this]
def EachPost (L : HL) (s : HS) (f : RS → RS) (cs : List Nat) (w : World) (e : Ending) (w' : World) : Prop :=
  (e = .returned (.int .i64 18) ∧ HRep w' L s ∧ Fr [] w w' ∧ HasCol L s cs) ∨
    (e = .returned (.int .i64 0) ∧ HRep w' L { s with rs := s.rs.map f, lg := f s.lg } ∧ Fr L.fp w w' ∧ ∀ x r, RingAt L s x r → ∀ c ∈ cs, r.cnt c = 0)
set_option maxRecDepth 100000 in
set_option maxHeartbeats 4000000 in
theorem hEach (L : HL) (s : HS) (fdo : Nat) (f : RS → RS) (cs : List Nat) (nb cap : Nat) (w : World) (hH : HRep w L s) (hcs : ∀ c ∈ cs, c < 4) (hcl : cs.length ≤ 4) (hnone : Rd w nb (cs.map fun c => .int .i64 (c : Nat))) (_hnb : nb ∉ L.all) (huniq : ∀ x r r', RingAt L s x r → RingAt L s x r' → r = r')
    (hen : ∀ (args : Array Value) (w : World), (callFunc fdo args).run Tryz.prog w = .ok (.enter fdo args) w)
    (hdo : ∀ rb r w, RRep w rb L.ab r → Calls Tryz.prog fdo #[.pointer (some ⟨rb, 0, none⟩)] w fun e w' => (∃ v, e = .returned v) ∧ RRep w' rb L.ab (f r) ∧ Fr [rb] w w') :
    Calls Tryz.prog 91 #[.pointer (some ⟨L.hb, 0, none⟩), .func (.func fdo) #[] #[], .slice (some ⟨nb, 0, none⟩) cs.length cap] w (EachPost L s f cs w) := by
  refine (callsIn_wide (n := 3)).1 ?_
  have hall : ∀ b ∈ L.all, b < w.heap.size := fun b hb => all_lt hH hb
  have hab : L.ab ∈ L.all := by simp [HL.all, HL.fp]
  have hhb : L.hb ∈ L.all := by simp [HL.all, HL.fp]
  have hrsb : L.rsb ∈ L.all := by simp [HL.all]
  have hab1 := hall _ hab
  have hhb1 := hall _ hhb
  have hrsb1 := hall _ hrsb
  have hnb1 := hnone.1
  refine callsIn_of_wp_marks Tryz.func91 rfl trivial ?_ rfl
  simp only [Tryz.ntmps91, List.size_toArray, List.length_cons, List.length_nil, Nat.reduceAdd, Nat.reduceSub, Array.replicate_succ, Array.replicate_zero, List.push_toArray, List.append_toArray, List.nil_append, List.cons_append]
  gi_wp2_with (refine ⟨trivial, ?_⟩; gi_at_call 124; refine (all_in Fence.wide 2 trivial rfl L _).mono ?_; rintro e w' ⟨rfl, rfl⟩)
  have hbD := Blk.new w [.func (.func fdo) #[] #[]] 149
  have hbN := Blk.new (w.alloc (.cells #[.func (.func fdo) #[] #[]] 149)) [.slice (some ⟨nb, 0, none⟩) cs.length cap] 22
  have hbE := Blk.new ((w.alloc (.cells #[.func (.func fdo) #[] #[]] 149)).alloc (.cells #[.slice (some ⟨nb, 0, none⟩) cs.length cap] 22)) [.int .i64 0] 40
  have hbP := Blk.new (((w.alloc (.cells #[.func (.func fdo) #[] #[]] 149)).alloc (.cells #[.slice (some ⟨nb, 0, none⟩) cs.length cap] 22)).alloc (.cells #[.int .i64 0] 40)) [.pointer (some ⟨L.hb, 0, none⟩)] 30
  obtain ⟨W0, hW0⟩ : ∃ W0, W0 = (((w.alloc (.cells #[.func (.func fdo) #[] #[]] 149)).alloc (.cells #[.slice (some ⟨nb, 0, none⟩) cs.length cap] 22)).alloc (.cells #[.int .i64 0] 40)).alloc (.cells #[.pointer (some ⟨L.hb, 0, none⟩)] 30) := ⟨_, rfl⟩
  replace hbD := ((hbD.alloc (.cells #[.slice (some ⟨nb, 0, none⟩) cs.length cap] 22)).alloc (.cells #[.int .i64 0] 40)).alloc (.cells #[.pointer (some ⟨L.hb, 0, none⟩)] 30)
  replace hbN := (hbN.alloc (.cells #[.int .i64 0] 40)).alloc (.cells #[.pointer (some ⟨L.hb, 0, none⟩)] 30)
  replace hbE := hbE.alloc (.cells #[.pointer (some ⟨L.hb, 0, none⟩)] 30)
  have hF0 : Fr [] w W0 := by rw [hW0]; exact ((((Fr.refl _ w).alloc _).alloc _).alloc _).alloc _
  have hH0 : HRep W0 L s := by rw [hW0]; exact (((hH.alloc _).alloc _).alloc _).alloc _
  have hsz : W0.heap.size = w.heap.size + 4 := by rw [hW0]; simp
  simp only [World.size_alloc] at hbN hbE hbP
  rw [← hW0] at hbD hbN hbE hbP
  rw [← hW0]
  clear hW0
  have hRO : RO L L.rbs.length (w.heap.size + 1 + 1 + 1) W0 := ⟨hbP.cell rfl, by rw [hH0.n1]; exact hH0.reads.2.2.1, hH0.reads.2.2.2.1, fun k rb hk => hH0.r.2 k _ (by simp [hk])⟩
  have hn3 := hH.n3
  have hn1 := hH.n1
  have hpbne : ∀ b ∈ [w.heap.size + 1 + 1 + 1, L.hb, L.rsb], b < W0.heap.size := by
    intro b hb
    simp at hb
    rcases hb with rfl | rfl | rfl <;> omega
  have hallW : ∀ b ∈ L.all, b < W0.heap.size := fun b hb => by have := hall b hb; omega
  refine wpIn_rangeFunc_ownF rfl (by omega) (gf := 156) (lb := #[.pointer (some ⟨w.heap.size + 3, 0, none⟩)]) rfl trivial (enters_of Tryz.func156 (by kernel_rfl) rfl)
    (all_stops Fence.wide 2 trivial rfl (by omega) (w.heap.size + 1 + 1 + 1) L.rbs.length L rfl (by omega) W0 hpbne hRO) (fun h k => KpA.trans h k) (fun W l o o' hl _ _ _ b hb => World.putObj_heap_other (by have := hpbne b hb; omega)) (Below.refl _ _) (fun _ => rfl)
    (fun pre W => NoCol L s cs pre ∧ HRep W L s ∧ Fr [] W0 W)
    (fun c pre W => (c = .ret ∧ HasCol L s cs ∧ W.cell? ⟨w.heap.size + 1 + 1, 0, none⟩ = some (.int .i64 18)) ∧ HRep W L s ∧ Fr [w.heap.size + 1 + 1] W0 W)
    (OwnFrom.and (Own.from (fun t A B row hs hg hr => hs) _) (OwnFrom.and (ownFrom_hrep _ L (fun _ => s) hallW) (ownFrom_fr _ _ W0 (Nat.le_refl _))))
    (fun c => OwnFrom.and (Own.from (fun t A B row hs hg hr => ⟨hs.1, hs.2.1, cell_kept hs.2.2 hg hr⟩) _) (OwnFrom.and (ownFrom_hrep _ L (fun _ => s) hallW) (ownFrom_fr _ _ W0 (Nat.le_refl _))))
    ⟨fun y hy => by simp at hy, hH0, Fr.refl _ _⟩
    (fun x => { tmps := #[.pointer (some ⟨L.hb, 0, none⟩), .func (.func fdo) #[] #[], .slice (some ⟨nb, 0, none⟩) cs.length cap, undef, .pointer (some ⟨w.heap.size, 0, none⟩), .pointer (some ⟨w.heap.size + 1, 0, none⟩), .pointer (some ⟨w.heap.size + 2, 0, none⟩), .pointer (some ⟨x.1, 0, none⟩), undef, undef, undef, undef, .pointer (some ⟨L.hb, 0, none⟩), .func (.func 156) #[] #[.pointer (some ⟨w.heap.size + 3, 0, none⟩)], .pointer (some ⟨x.1, 0, none⟩), undef, undef, undef, undef, undef, undef, undef, undef, undef, undef, undef, undef, undef, undef, undef, undef, undef, undef, undef], defers := [] }) ?assign ?body ?done ?stop
  case assign =>
    intro l x W K hK
    gi_wp2
    exact hK
  case body =>
    rintro l pre x W ⟨hp, hHW, hFW⟩ _
    obtain ⟨r, hra, hrr⟩ := ringAt_some hHW x
    have hnR := (hnone.fr hF0 (by simp)).fr hFW (by simp)
    have B0 := hbN.fr hFW (by simp)
    gi_wp2_with (refine ⟨trivial, ?_⟩; gi_at_call 125; refine (CallsIn.inRound l (callsIn_wide.2 (rCounts x.1 L.ab r _ hrr))).mono ?_; rintro e w1 ⟨rfl, hF1⟩; have B1 := (B0.fr hF1 (by simp)).alloc (.cells #[.int .i64 r.w, .int .i64 r.f, .int .i64 r.g, .int .i64 r.b] 155); have q6 := B1.cell (i := 0) rfl)
    have C1 := Blk.new w1 [.int .i64 r.w, .int .i64 r.f, .int .i64 r.g, .int .i64 r.b] 155
    obtain ⟨W1, hW1⟩ : ∃ W1, W1 = w1.alloc (.cells #[.int .i64 r.w, .int .i64 r.f, .int .i64 r.g, .int .i64 r.b] 155) := ⟨_, rfl⟩
    have hF2 : Fr [] W W1 := by rw [hW1]; exact hF1.alloc _
    have C2 : Blk W1 w1.heap.size [.int .i64 r.w, .int .i64 r.f, .int .i64 r.g, .int .i64 r.b] 155 := by rw [hW1]; exact C1
    rw [← hW1]
    clear hW1 C1 q6 B1 B0
    have hN2 := hnR.fr hF2 (by simp)
    have hR2 := hbE.fr (hFW.trans hF2) (by simp)
    have hH2 := hHW.fr hF2 (by simp)
    gi_loop [19] (fun i => ∃ k : Nat, k ≤ cs.length ∧ i = .int .i64 k ∧ ∀ c ∈ cs.take k, r.cnt c = 0) (fun i => cs.length - (intOf i).toNat)
    case atStart => exact ⟨0, Nat.zero_le _, rfl, by simp⟩
    case round =>
      obtain ⟨k, hk, rfl, hz⟩ := hrel
      by_cases hlt : k < cs.length
      · obtain ⟨c, hc⟩ : ∃ c, cs[k]? = some c := ⟨_, List.getElem?_eq_getElem hlt⟩
        have hcm : c ∈ cs := List.mem_of_getElem? hc
        have hc4 := hcs c hcm
        have d0 : W1.cell? ⟨nb, k, none⟩ = some (.int .i64 c) := hN2.2 k _ (by simp [hc])
        have d1 : W1.cell? ⟨w1.heap.size, c, none⟩ = some (.int .i64 (r.cnt c)) := by
          rcases (by omega : c = 0 ∨ c = 1 ∨ c = 2 ∨ c = 3) with rfl | rfl | rfl | rfl <;> exact C2.cell rfl
        have htk : cs.take (k + 1) = cs.take k ++ [c] := by rw [List.take_add_one, hc]; rfl
        have HT := hid htk
        have HC := hid hc
        clear htk hc
        by_cases hn : r.cnt c = 0
        · rw [hn] at d1
          have HN := hid hn
          clear hn
          gi_wp2
          go_round
          case rel => exact ⟨k + 1, by omega, by go_num, by
            rw [HT.out]
            intro c' hc'
            rcases List.mem_append.1 hc' with h | h
            · exact hz c' h
            · obtain rfl : c' = c := by simpa using h
              exact HN.out⟩
          case measure => simp [intOf]; omega
        · have hn1 : 0 < r.cnt c := by omega
          have q2 := hR2.cell (i := 0) rfl
          have f2 := hR2.frozen 0
          clear hn
          gi_wp2
          refine ⟨?_, ⟨rfl, ⟨x.1, r, c, hra, hcm, hn1⟩, ?_⟩, ?_, ?_⟩
          · exact (hF2.others (by simp)).trans (KeepsOthers.setCell _ _ _)
          · exact World.cell?_setCell_same' _ _ _ (by rw [q2]; rfl)
          · exact hH2.other (fun h => by have := hall _ h; simp at this; omega) _
          · exact ((hFW.trans hF2).here (by simp)).set (by simp) _
      · have e : k = cs.length := by omega
        have hall0 : ∀ c ∈ cs, r.cnt c = 0 := by
          intro c hc
          refine hz c ?_
          rw [e, List.take_length]; exact hc
        have HA := hid hall0
        clear hall0 e hz
        gi_wp2
        refine ⟨hF2.others (by simp), fun b hb => hF2.block b (Nat.lt_of_lt_of_le (hpbne b hb) hFW.size) (by simp), ?_, hH2, hFW.trans hF2⟩
        intro y hy r' hr'
        rcases List.mem_append.1 hy with hy | hy
        · exact hp y hy r' hr'
        · obtain rfl : y = x := List.mem_singleton.1 hy
          rw [huniq _ _ _ hr' hra]; exact HA.out
  case done =>
    rintro D ys W hD rfl ⟨hp, hHW, hFW⟩ hK
    gi_wp2_with (refine ⟨trivial, ?_⟩; gi_at_call 124; refine (all_in Fence.wide 2 trivial rfl L _).mono ?_; rintro e w' ⟨rfl, rfl⟩)
    have hP2 := Blk.new W [.pointer (some ⟨L.hb, 0, none⟩)] 30
    obtain ⟨Wa, hWa⟩ : ∃ Wa, Wa = W.alloc (.cells #[.pointer (some ⟨L.hb, 0, none⟩)] 30) := ⟨_, rfl⟩
    have hHa : HRep Wa L s := by rw [hWa]; exact hHW.alloc _
    have hFa : Fr [] W0 Wa := by rw [hWa]; exact hFW.alloc _
    have hza : Wa.heap.size = W.heap.size + 1 := by rw [hWa]; simp
    have hKa : Wa.heap[D]? = some (.deferred (some [])) := by rw [hWa]; exact (KeepsOthers.alloc W _).same D _ hK rfl
    have hWs := hFW.size
    rw [← hWa] at hP2
    rw [← hWa]
    clear hWa
    have hRO2 : RO L L.rbs.length W.heap.size Wa := ⟨hP2.cell rfl, by rw [hHa.n1]; exact hHa.reads.2.2.1, hHa.reads.2.2.2.1, fun k rb hk => hHa.r.2 k _ (by simp [hk])⟩
    have hpb2 : ∀ b ∈ [W.heap.size, L.hb, L.rsb], b < Wa.heap.size := by
      intro b hb
      simp at hb
      rcases hb with rfl | rfl | rfl <;> omega
    have hallA : ∀ b ∈ L.all, b < Wa.heap.size := fun b hb => by have := hallW b hb; omega
    have hfp : ∀ b ∈ L.fp, b ∈ L.all := fun b hb => by simp only [HL.all, List.mem_cons]; exact .inr (.inr hb)
    have hbD2 := hbD.fr hFa (by simp)
    have hbE2 := hbE.fr hFa (by simp)
    have nfp : ∀ i, w.heap.size ≤ i → i ∉ L.fp := fun i hi hc => by have := hall _ (hfp _ hc); omega
    refine wpIn_rangeFunc_ownF rfl (by omega) (gf := 156) (lb := #[.pointer (some ⟨W.heap.size, 0, none⟩)]) rfl trivial (enters_of Tryz.func156 (by kernel_rfl) rfl)
      (all_stops Fence.wide 2 trivial rfl (by omega) W.heap.size L.rbs.length L rfl (by omega) Wa hpb2 hRO2) (fun h k => KpA.trans h k) (fun W l o o' hl _ _ _ b hb => World.putObj_heap_other (by have := hpb2 b hb; omega)) (Below.refl _ _) (fun _ => rfl)
      (fun pre W => HRep W L (s.turned L f pre) ∧ Fr L.fp Wa W ∧ W.heap[D]? = some (.deferred (some [])))
      (fun _ _ _ => False)
      (OwnFrom.and (ownFrom_hrep _ L (fun pre => s.turned L f pre) hallA) (OwnFrom.and (ownFrom_fr _ _ Wa (Nat.le_refl _)) ?own))
      (fun _ _ _ _ _ hs _ _ => hs)
      ⟨hHa, Fr.refl _ _, hKa⟩
      (fun x => { tmps := #[.pointer (some ⟨L.hb, 0, none⟩), .func (.func fdo) #[] #[], .slice (some ⟨nb, 0, none⟩) cs.length cap, undef, .pointer (some ⟨w.heap.size, 0, none⟩), .pointer (some ⟨w.heap.size + 1, 0, none⟩), .pointer (some ⟨w.heap.size + 2, 0, none⟩), undef, undef, undef, undef, .pointer (some ⟨x.1, 0, none⟩), .pointer (some ⟨L.hb, 0, none⟩), .func (.func 156) #[] #[.pointer (some ⟨w.heap.size + 3, 0, none⟩)], undef, undef, undef, undef, undef, undef, undef, undef, undef, undef, undef, undef, undef, undef, .pointer (some ⟨L.hb, 0, none⟩), .func (.func 156) #[] #[.pointer (some ⟨W.heap.size, 0, none⟩)], .pointer (some ⟨x.1, 0, none⟩), undef, undef, undef], defers := [] }) ?assign2 ?body2 ?done2 ?stop2
    case own =>
      intro pre A B row hs hg hr
      refine ((Fr.of_grownBy (S := row.toList) hg (fun k e => .inl (by simp [e]))).block D (Array.getElem?_eq_some_iff.1 hs).1 ?_).trans hs
      intro hc
      have h1 := (hr D (by simpa using hc)).1
      have h2 := (Array.getElem?_eq_some_iff.1 hKa).1
      omega
    case assign2 =>
      intro l x W K hK
      gi_wp2
      exact hK
    case body2 =>
      rintro l pre x W2 ⟨hHW2, hFW2, hK2⟩ _
      obtain ⟨r, hra, hrr⟩ := ringAt_some hHW2 x
      have q0 := (hbD2.fr hFW2 (nfp _ (Nat.le_refl _))).cell (i := 0) rfl
      have hx1 : x.1 ∈ L.fp := by
        have := x.2
        simp only [List.mem_append, List.mem_singleton] at this
        simp only [HL.fp, List.mem_cons, List.mem_append]
        rcases this with h | h <;> simp [h]
      have hxa := hfp _ hx1
      have hkp : ∀ b ∈ [W.heap.size, L.hb, L.rsb], b ∉ [x.1] := by
        intro b hb hc
        have hc : b = x.1 := by simpa using hc
        have h2 := x.2
        have h3 := hall _ hxa
        simp only [List.mem_append, List.mem_singleton] at h2
        obtain ⟨⟨-, -, p3, -, -, p6⟩, -, -, ⟨-, -, t3⟩, -, -⟩ := hH.apart
        simp only [List.mem_cons, List.not_mem_nil, or_false] at hb
        rcases hb with rfl | rfl | rfl
        · omega
        · rcases h2 with h | h
          · exact (hH.rapart h).1 hc.symm
          · exact p3 (hc.trans h)
        · rcases h2 with h | h
          · exact (hH.rapart h).2.2.2.2.2.2.1 hc.symm
          · exact t3 (h.symm.trans hc.symm)
      gi_wp2_with fail
      refine ⟨trivial, ?_⟩
      refine (CallsIn.inRound l (callsIn_wide.2 (hdo x.1 r _ hrr))).mono ?_
      rintro e w1 ⟨⟨v, rfl⟩, hR1, hF1⟩
      gi_wp2_with fail
      refine ⟨hF1.others (fun b hb o ho => by simp at hb; subst hb; exact hrr.s.cells o ho), fun b hb => hF1.block b (Nat.lt_of_lt_of_le (hpb2 b hb) hFW2.size) (hkp b hb), ?_, ?_, ?_⟩
      · rw [turned_snoc]; exact hHW2.turnAt f hra hF1 hR1
      · exact hFW2.trans (hF1.here (fun b hb => by simp at hb; subst hb; exact hx1))
      · exact (hF1.others (fun b hb o ho => by simp at hb; subst hb; exact hrr.s.cells o ho)).same D _ hK2 rfl
    case done2 =>
      rintro D2 ys W2 hD2 rfl ⟨hHW2, hFW2, hK2⟩ hK3
      have hE3 := (hbE2.fr hFW2 (nfp _ (by omega))).cell (i := 0) rfl
      have hE4 := (hbE2.fr hFW2 (nfp _ (by omega))).frozen 0
      gi_wp2
      have hKe := KeepsOthers.setCell W2 ⟨w.heap.size + 1 + 1, 0, none⟩ (.int .i64 0)
      have hK4 := hKe.same D2 _ hK3 rfl
      have hK5 := hKe.same D _ hK2 rfl
      have hDD : D ≠ D2 := by have := (Array.getElem?_eq_some_iff.1 hKa).1; omega
      have hK6 := (World.putObj_heap_other (w := W2.setCell ⟨w.heap.size + 1 + 1, 0, none⟩ (.int .i64 0)) (o := .deferred none) hDD).trans hK5
      refine ⟨by simp, .inl ⟨_, _, rfl, run_takeDeferred hK4, ⟨by simp, .inl ⟨_, _, rfl, run_takeDeferred hK6, ?_⟩⟩⟩⟩
      have r0 : (((W2.setCell ⟨w.heap.size + 1 + 1, 0, none⟩ (.int .i64 0)).putObj D2 (.deferred none)).putObj D (.deferred none)).cell? ⟨w.heap.size + 1 + 1, 0, none⟩ = some (.int .i64 0) := by
        rw [cell_putD (by omega), cell_putD (by omega)]
        exact World.cell?_setCell_same' _ _ _ (by rw [hE3]; rfl)
      have hne : w.heap.size + 1 + 1 ∉ L.all := fun h => by have := hall _ h; omega
      refine ⟨.int .i64 0, by simp [results, Tryz.f91, go_sem, r0], .inr ⟨rfl, ?_, ?_, ?_⟩⟩
      · rw [← turned_all hH f]
        exact ((hHW2.other hne _).putD (fun b hb => by have := hallA b hb; omega) _).putD (fun b hb => by have := hallW b hb; omega) _
      · have h0 : Fr L.fp w W2 := (hF0.trans hFa |>.here (by simp)).trans hFW2
        exact ((h0.set (.inr (by show w.heap.size ≤ w.heap.size + 1 + 1; omega)) _).putD (by omega) _).putD (by omega) _
      · intro x r hr
        have hx : x ∈ L.rbs ++ [L.lb] := by
          rcases hr with ⟨k, hk, _⟩ | ⟨rfl, _⟩
          · simp [List.mem_of_getElem? hk]
          · simp
        exact hp ⟨x, hx⟩ (List.mem_attach _ _) r hr
    case stop2 =>
      rintro D c pre W _ _ h _
      exact h.elim
  case stop =>
    rintro D c pre W hD hpre ⟨⟨rfl, hex, hc⟩, hHW, hFW⟩ hK
    gi_wp2
    refine ⟨by simp, .inl ⟨_, _, rfl, run_takeDeferred hK, ?_⟩⟩
    have r0 : (W.putObj D (.deferred none)).cell? ⟨w.heap.size + 1 + 1, 0, none⟩ = some (.int .i64 18) := by rw [cell_putD (by omega)]; exact hc
    refine ⟨.int .i64 18, by simp [results, Tryz.f91, go_sem, r0], .inl ⟨rfl, ?_, ?_, hex⟩⟩
    · exact hHW.putD (fun b hb => by have := hallW b hb; omega) _
    · exact (hF0.step hFW (fun b hb => .inr (by simp at hb; omega))).putD (by omega) _
end Go.Proofs.YtklnpooninbogaaGreat
namespace Go.Proofs.YtklnpooninbogaaGreat
open Go Go.Proofs Go.RowKit Go.Shelf
variable {α : Type} {n gf : Nat} {lb : Array Value} {encs : α → Array Value} {K : List Nat} {Ab : World → World → Prop} {S Sp : List α → Prop} {N : Nat}
end Go.Proofs.YtklnpooninbogaaGreat
