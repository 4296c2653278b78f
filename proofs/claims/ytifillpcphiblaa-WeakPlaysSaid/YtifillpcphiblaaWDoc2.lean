import Derived.Test.YtifillpcphiblaaWDoc1
import Derived.Deep.DeepCutAuto
import Derived.Deep.RegionHeld3
namespace Go.Proofs.Ytifillpcphiblaa
open Go Go.Proofs Go.RowKit

/-! The document's table: Step. -/

set_option maxRecDepth 100000 in
set_option maxHeartbeats 4000000 in
theorem mStep0 (mb base : Nat) (R Q : List (Int × Int)) (v1 : Value) (w : World) (h : MR w mb base R Q []) :
    Calls Try.prog 46 #[.pointer (some ⟨mb, 0, none⟩), v1] w fun e w' => e = .returned (.agg #[.int .i64 0, .int .i64 0, .bool false, .bool false]) ∧ MR w' mb base R Q [] ∧ Fr [] w w' := by
  obtain ⟨rv, qv, kv, hB, hR, hQ, hK⟩ := h.ex
  obtain ⟨pq, cq, rfl⟩ := hK.shape
  have hmlt := hB.lt
  have q0 := hB.cell (i := 2) rfl
  have H := hid h
  go_enter Try.func46, Try.ntmps46
  go_wp2_with fail
  have hF : Fr [] w (w.alloc (.cells #[.int .i64 0, .int .i64 0, .bool false, .bool false] 81)) := (Fr.refl _ w).alloc _
  exact bodyPost_ret (v := .agg #[.int .i64 0, .int .i64 0, .bool false, .bool false]) (by simp [results, Try.results46, go_sem]) rfl ⟨rfl, H.out.fr hF (by simp) (by simp), hF⟩

/-- Behind the walk's step. -/
structure MS (w W : World) (mb base : Nat) (R Q K : List (Int × Int)) (p n : Int) : Prop where
  m : MR W mb base R Q K
  fr : Fr [mb] w W
  b4 : Blk W w.heap.size [.int .i64 0, .int .i64 0, .bool false, .bool false] 81
  b5 : Blk W (w.heap.size + 1) [.int .i64 p, .int .i64 n, .bool false] 149
theorem MS.nil {w W W' : World} {mb base : Nat} {R Q K : List (Int × Int)} {p n : Int} (h : MS w W mb base R Q K p n) (hF : Fr [] W W') : MS w W' mb base R Q K p n :=
  ⟨h.m.fr hF (by simp) (by simp), h.fr.trans (hF.here (by simp)), h.b4.fr hF (by simp), h.b5.fr hF (by simp)⟩

theorem MS.done {w W W' : World} {mb base : Nat} {R Q K : List (Int × Int)} {p n : Int} (h : MS w W mb base R Q K p n) (hm : mb < w.heap.size) (hF : Fr [w.heap.size] W W') : MR W' mb base R Q K ∧ Fr [mb] w W' := by
  refine ⟨h.m.fr hF (by simp; omega) (fun b hb => .inr ?_), h.fr.step hF (by simp)⟩
  obtain rfl : b = w.heap.size := by simpa using hb
  exact ⟨_, 81, _, h.b4, by decide⟩

def keepR (p : Int) (l : List (Int × Int)) : List (Int × Int) := l.filter (fun x => x.1 != p)

theorem fr_grown {W0 W w' : World} {v : Value} (h : Fr [] W0 W) (hg : W.grownBy w' v.ownBlock) (hlow : ∀ k, v.ownBlock = some k → W0.heap.size ≤ k) : Fr [] W0 w' :=
  h.step (Fr.of_grownBy hg (S := v.ownBlock.toList) (by intro k' hk'; left; simp [hk'])) (fun b hb => .inr (hlow b (by simpa using hb)))
theorem low_of {w : World} {B : Nat} {T : TypeId} {v : Value} {n z : Nat} {xs : List Value} (h : w.ownsRow B T z v n xs) : ∀ k, v.ownBlock = some k → B ≤ k := fun _ hk => (own_lt h hk).1
theorem low_at (B A n c : Nat) (h : B ≤ A) : ∀ k, (Value.slice (some ⟨A, 0, none⟩) n c).ownBlock = some k → B ≤ k := fun _ hk => by simp [Value.ownBlock] at hk; omega

/-- The one that is appended. -/
theorem one_src {w : World} {X : Nat} {a b : Int} (h : Blk w X [.int .i64 a, .int .i64 b, .bool false] 149) : SrcRow w (.slice (some ⟨X, 0, none⟩) 1 1) 1 [.int .i64 a, .int .i64 b, .bool false] :=
  .inr ⟨X, 0, 1, rfl, fun j u hu => by rw [Nat.zero_add]; exact h.cell hu⟩
theorem blk_grown {W w' : World} {X A n c : Nat} {cs : List Value} {T : TypeId} (h : Blk W X cs T) (hg : W.grownBy w' (Value.slice (some ⟨A, 0, none⟩) n c).ownBlock) (hne : X ≠ A) : Blk w' X cs T :=
  h.fr (Fr.of_grownBy hg (S := [A]) (by intro k' hk'; left; simp [Value.ownBlock] at hk'; simp [hk'])) (by simpa using hne)

def StepPost (w : World) (mb base : Nat) (R Q K : List (Int × Int)) (p n : Int) (M : List Int) (e : Ending) (w' : World) : Prop :=
  (p ∈ M ∧ e = .returned (.agg #[.int .i64 0, .int .i64 n, .bool false, .bool true]) ∧ MR w' mb base R Q K ∧ Fr [mb] w w') ∨
  (p ∉ M ∧ e = .returned (.agg #[.int .i64 0, .int .i64 n, .bool true, .bool true]) ∧ MR w' mb base (keepR p R) (Q ++ [(p, n)]) K ∧ Fr [mb] w w')

theorem keepR_snoc (p : Int) (R : List (Int × Int)) (k : Nat) (x : Int × Int) (hx : R[k]? = some x) : keepR p (R.take (k + 1)) = if x.1 = p then keepR p (R.take k) else keepR p (R.take k) ++ [x] := by
  rw [List.take_add_one, hx]
  by_cases e : x.1 = p <;> simp [keepR, e]
theorem keepR_len (p : Int) (l : List (Int × Int)) : (keepR p l).length ≤ l.length := List.length_filter_le _ _
theorem mwv_app (a b : List (Int × Int)) : mwv (a ++ b) = mwv a ++ mwv b := by simp [mwv]

set_option maxRecDepth 100000 in
set_option maxHeartbeats 8000000 in
theorem mStep (mb base : Nat) (R Q K : List (Int × Int)) (p n : Int) (v1 : Value) (M : List Int) (w : World) (h : MR w mb base R Q ((p, n) :: K)) (hmb : mb < base) (_ : base ≤ w.heap.size) (hM : SlArg w v1 M) (hMn : v1.ownBlock ≠ some mb) (hMl : M.length ≤ 65536) (hRl : R.length ≤ 60000) (hQl : Q.length ≤ 60000) :
    Calls Try.prog 46 #[.pointer (some ⟨mb, 0, none⟩), v1] w (StepPost w mb base R Q K p n M) := by
  obtain ⟨rv, qv, kv, hB, hR, hQ, hK⟩ := h.ex
  obtain ⟨pm, cm, rfl⟩ := hM.shape
  obtain ⟨pq, cq, rfl⟩ := hK.shape
  obtain ⟨b, o, rfl, hb, hbl, hc, hcell, cs, f, e3, e4⟩ := hK.at (by simp)
  obtain ⟨q1, q2, q3⟩ := hcell 0 (p, n) rfl
  simp only [Nat.zero_mul, Nat.add_zero] at q1 q2 q3
  simp only [List.length_cons] at hc
  have hne : mb ≠ b := by omega
  have hmlt := hB.lt
  have q0 := hB.cell (i := 2) rfl
  have y0 := hB.frozen 2
  have ht := SlM.tail hb hc e3 e4
  have HT := hid ht
  have fin : ∀ (v : Value), SlM w base v K → MS w (((w.setCell ⟨mb, 2, none⟩ v).alloc (.cells #[.int .i64 0, .int .i64 0, .bool false, .bool false] 81)).alloc (.cells #[.int .i64 p, .int .i64 n, .bool false] 149)) mb base R Q K p n := by
    intro v hv
    have hF : Fr [mb] w (((w.setCell ⟨mb, 2, none⟩ v).alloc (.cells #[.int .i64 0, .int .i64 0, .bool false, .bool false] 81)).alloc (.cells #[.int .i64 p, .int .i64 n, .bool false] 149)) := (((Fr.refl _ w).set (by simp) _).alloc _).alloc _
    have low : ∀ b ∈ [mb], b < base ∨ ∃ c T f, w.heap[b]? = some (.cells c T f) ∧ T ≠ 149 := fun b hb => by simp at hb; subst hb; exact .inl hmb
    refine ⟨⟨rv, qv, v, ((hB.set 2 _).alloc _).alloc _, hR.fr hF low, hQ.fr hF low, hv.fr hF low⟩, hF, ?_, ?_⟩
    · have := (Blk.new (w.setCell ⟨mb, 2, none⟩ v) [.int .i64 0, .int .i64 0, .bool false, .bool false] 81).alloc (.cells #[.int .i64 p, .int .i64 n, .bool false] 149)
      simpa [World.setCell] using this
    · have := Blk.new ((w.setCell ⟨mb, 2, none⟩ v).alloc (.cells #[.int .i64 0, .int .i64 0, .bool false, .bool false] 81)) [.int .i64 p, .int .i64 n, .bool false] 149
      simpa [World.setCell] using this
  have HF := hid fin
  clear ht hcell e3 e4 hR hQ hK h fin
  go_enter Try.func46, Try.ntmps46
  go_upto_region 4 with fail
  go_cut [] (fun wx => MS w wx mb base R Q K p n)
  case first =>
    by_cases h1 : cq = 1
    · have hK0 : K = [] := List.eq_nil_of_length_eq_zero (by omega)
      subst h1 hK0
      have ht1 := HT.out
      rw [if_pos rfl] at ht1
      have HT1 := hid ht1
      clear ht1 HT
      go_wp2_with fail
      go_meet
      case rel => exact HF.out _ HT1.out
    · have ht1 := HT.out
      rw [if_neg h1] at ht1
      have HT1 := hid ht1
      clear ht1 HT
      go_wp2_with fail
      go_meet
      case rel => exact HF.out _ HT1.out
  case rest =>
    clear q0 q1 q2 q3 y0 HT HF hne
    go_wp2_with fail
    go_loopw [6] (fun i wr => ∃ k : Nat, k ≤ M.length ∧ i = .int .i64 k ∧ (∀ j : Nat, j < k → M[j]? ≠ some p) ∧ MS w wr mb base R Q K p n) (fun i _ => M.length - (intOf i).toNat)
    case atStart => exact ⟨0, Nat.zero_le _, rfl, fun j hj => absurd hj (Nat.not_lt_zero j), hcut⟩
    case round =>
      obtain ⟨k, hk, rfl, hnot, ms⟩ := hrel
      clear hcut
      by_cases hlt : k < M.length
      · obtain ⟨bz, oz, rfl, hrz⟩ := hM.at (by omega)
        obtain ⟨x, hx⟩ : ∃ x, M[k]? = some x := ⟨_, List.getElem?_eq_getElem hlt⟩
        have q0 : wr.cell? ⟨bz, oz + k, none⟩ = some (.int .i64 x) := (hrz.fr (ms.fr) (by simp [Value.ownBlock] at hMn ⊢; exact fun e => hMn e)).2 k _ (by simp [hx])
        have d0 := ms.b5.cell (i := 0) rfl
        have d1 := ms.b5.cell (i := 1) rfl
        have HX := hid hx
        have HN := hid hnot
        clear hx hnot
        by_cases hxp : x = p
        · have c0 := ms.b4.cell (i := 0) rfl
          have c1 := ms.b4.cell (i := 1) rfl
          have c2 := ms.b4.cell (i := 2) rfl
          have c3 := ms.b4.cell (i := 3) rfl
          have y0 := ms.b4.frozen 0
          have y1 := ms.b4.frozen 1
          have y2 := ms.b4.frozen 2
          have y3 := ms.b4.frozen 3
          subst hxp
          go_wp2_with fail
          go_quiet (fail)
          go_wp2_with fail
          have D : Blk (((((wr.drewN nq).setCell ⟨w.heap.size, 0, none⟩ (.int .i64 0)).setCell ⟨w.heap.size, 1, none⟩ (.int .i64 n)).setCell ⟨w.heap.size, 2, none⟩ (.bool false)).setCell ⟨w.heap.size, 3, none⟩ (.bool true)) w.heap.size [.int .i64 0, .int .i64 n, .bool false, .bool true] 81 := by
            simpa using ((((ms.b4.drewN nq).set 0 (.int .i64 0)).set 1 (.int .i64 n)).set 2 (.bool false)).set 3 (.bool true)
          have hF9 : Fr [w.heap.size] wr (((((wr.drewN nq).setCell ⟨w.heap.size, 0, none⟩ (.int .i64 0)).setCell ⟨w.heap.size, 1, none⟩ (.int .i64 n)).setCell ⟨w.heap.size, 2, none⟩ (.bool false)).setCell ⟨w.heap.size, 3, none⟩ (.bool true)) := ((((((Fr.refl _ wr).drewN nq).set (by simp) _).set (by simp) _).set (by simp) _).set (by simp) _)
          refine bodyPost_ret (v := .agg #[.int .i64 0, .int .i64 n, .bool false, .bool true]) (by simp [results, Try.results46, go_sem, D.cell (i := 0) rfl, D.cell (i := 1) rfl, D.cell (i := 2) rfl, D.cell (i := 3) rfl]) rfl (.inl ⟨List.mem_of_getElem? HX.out, rfl, (ms.done hmlt hF9).1, (ms.done hmlt hF9).2⟩)
        · go_wp2_with fail
          go_quiet (fail)
          go_wp2_with fail
          go_roundw
          case rel => exact ⟨k + 1, by omega, by go_num, fun j hj => by
            by_cases e : j = k
            · rw [e, HX.out]; simp [hxp]
            · exact HN.out j (by omega), ms.nil ((Fr.refl [] _).drewN _)⟩
          case measure => simp [intOf]; omega
      · have hno : p ∉ M := fun hc => by
          obtain ⟨j, hj⟩ := List.getElem?_of_mem hc
          have := (List.getElem?_eq_some_iff.1 hj).1
          exact hnot j (by omega) hj
        clear hnot
        obtain ⟨rv, qv, kv, hB, hR, hQ, hK⟩ := ms.m.ex
        obtain ⟨pr, cr, rfl⟩ := hR.shape
        have HMS := hid ms
        have HI := hid (info_parts info_w)
        go_wp2_with fail
        obtain ⟨wo, hwo⟩ : ∃ wo, wo = wr := ⟨_, rfl⟩
        rw [← hwo] at hB hR hQ hK HMS ⊢
        clear hwo ms
        go_loopw [7, 8] (fun out i wr => ∃ k : Nat, k ≤ R.length ∧ i = .int .i64 k ∧ wr.ownsRow wo.heap.size 149 3 out (keepR p (R.take k)).length (mwv (keepR p (R.take k))) ∧ Fr [] wo wr) (fun _ i _ => R.length - (intOf i).toNat)
        case atStart => exact ⟨0, Nat.zero_le _, rfl, ⟨by simp [keepR, mwv], .inl ⟨rfl, by simp [keepR]⟩⟩, Fr.refl _ _⟩
        case round =>
          obtain ⟨j, hj, rfl, hown, hFo⟩ := hrel
          obtain ⟨pp, cc, rfl⟩ := own_len hown
          have ms := HMS.out.nil hFo
          have hB' := hB.fr hFo (by simp)
          have c0 := hB'.cell (i := 0) rfl
          by_cases hjl : j < R.length
          · obtain ⟨b2, o2, rfl, hb2, hbl2, hc2, hcell2, -⟩ := hR.at (by omega)
            obtain ⟨x, hx⟩ : ∃ x, R[j]? = some x := ⟨_, List.getElem?_eq_getElem hjl⟩
            obtain ⟨g0, g1, g2⟩ := hcell2 j x hx
            have q0 := (cell_fr hFo (by simp) hbl2 (o2 + j * 3)).trans g0
            have q1 := (cell_fr hFo (by simp) hbl2 (o2 + j * 3 + 1)).trans g1
            have q2 := (cell_fr hFo (by simp) hbl2 (o2 + j * 3 + 2)).trans g2
            have d0 := ms.b5.cell (i := 0) rfl
            have hsn := keepR_snoc p R j x hx
            have HSN := hid hsn
            have HO := hid hown
            have hkl := keepR_len p (R.take j)
            have hkl2 : (R.take j).length ≤ j := List.length_take_le _ _
            obtain ⟨m, hm⟩ : ∃ m, m = (keepR p (R.take j)).length := ⟨_, rfl⟩
            have HM := hid hm
            have hml : m ≤ 60000 := by omega
            rw [← hm] at HO ⊢
            clear hx hcell2 g0 g1 g2 hsn hown hm hkl hkl2
            by_cases hxp : x.1 = p
            · have hxp' : (x.1 != p) = false := by rw [hxp]; simp
              have HXP := hid hxp
              clear hxp
              go_wp2_with fail
              go_quiet (fail)
              go_wp2_with fail
              go_roundw
              case rel =>
                refine ⟨j + 1, by omega, by go_num, ?_, hFo.drewN nq⟩
                rw [HSN.out, if_pos HXP.out, ← HM.out]
                exact ownsRow_fr HO.out ((Fr.refl [] wr).drewN nq) (by simp)
              case measure => simp [intOf]; omega
            · go_wp2_with fail
              go_quiet (fail)
              go_wp2_with (at_builtin; obtain ⟨i0, hi, hz0, hz1, hz2⟩ := HI.out; refine wpList_append_own _ rfl _ _ _ rfl wo.heap.size 149 i0 (.agg #[.int .i64 0, .int .i64 0, .bool false]) 3 24 Try.underlying142 hi hz0 hz1 hz2 rfl (by decide) (.slice pp m cc) m _ rfl ((ownsRow_fr HO.out ((Fr.refl [] wr).drewN nq) (by simp)).alloc _) ⟨wr.heap.size, 0, none⟩ 1 1 [.int .i64 x.1, .int .i64 x.2, .bool false] rfl rfl ?c0 ?c1 ?c2 ?c3 ?c4 ?c5)
              case c0 => exact World.news_of_block (cs := #[.int .i64 x.1, .int .i64 x.2, .bool false]) (t := 149) (fr := (0, 0)) (heap_alloc_new (wr.drewN nq) _)
              case c1 => simp [Value.oneCell']
              case c2 => simp only [maxLen]; omega
              case c3 => omega
              case c4 => have := hFo.size; simp; omega
              case c5 =>
                intro v' w2 hown' hgrow hniliff
                have hGr : Fr (Value.slice pp m cc).ownBlock.toList ((wr.drewN nq).alloc (.cells #[.int .i64 x.1, .int .i64 x.2, .bool false] 149)) w2 := Fr.of_grownBy hgrow (by intro k' hk'; left; simp [hk'])
                have hlow := own_low HO.out
                have hF2 : Fr [] wo w2 := ((hFo.drewN nq).alloc _).step hGr (fun b hb => .inr (hlow b hb))
                obtain ⟨gg, cc', rfl⟩ := own_slice' hown' (by omega)
                have HO2 := hid hown'
                clear hown' hgrow hniliff q0 q1 q2 c0 d0
                go_wp2_with fail
                go_roundw
                case rel =>
                  refine ⟨j + 1, by omega, by go_num, ?_, hF2⟩
                  rw [HSN.out, if_neg hxp, List.length_append, mwv_app, ← HM.out]
                  exact HO2.out
                case measure => simp [intOf]; omega
          · obtain rfl : j = R.length := by omega
            have hown1 : wr.ownsRow wo.heap.size 149 3 (.slice pp (keepR p R).length cc) (keepR p R).length (mwv (keepR p R)) := by
              have := hown
              rw [List.take_of_length_le (Nat.le_refl _)] at this
              exact this
            have hbo : base ≤ wo.heap.size := by have := HMS.out.fr.size; omega
            have hnew := (own_slm hown1)
            have y0 := hB'.frozen 0
            have hms0 : MS w (wr.setCell ⟨mb, 0, none⟩ (.slice pp (keepR p R).length cc)) mb base (keepR p R) Q K p n := by
              have hF0 : Fr [mb] wr (wr.setCell ⟨mb, 0, none⟩ (.slice pp (keepR p R).length cc)) := (Fr.refl _ wr).set (by simp) _
              have low : ∀ b ∈ [mb], b < base ∨ ∃ c T f, wr.heap[b]? = some (.cells c T f) ∧ T ≠ 149 := fun b hb => by simp at hb; subst hb; exact .inl hmb
              have hnew' : SlM wr base (.slice pp (keepR p R).length cc) (keepR p R) := own_slm (ownsRow_base hown1 hbo)
              exact ⟨⟨_, qv, kv, hB'.set 0 _, hnew'.fr hF0 low, (hQ.fr hFo (by simp)).fr hF0 low, (hK.fr hFo (by simp)).fr hF0 low⟩, ms.fr.trans hF0, ms.b4.fr hF0 (by simp; omega), ms.b5.fr hF0 (by simp; omega)⟩
            have HMS0 := hid hms0
            clear hown hown1 hnew hms0
            go_wp2_with fail
            obtain ⟨W0, hW0⟩ : ∃ W0, W0 = wr.setCell ⟨mb, 0, none⟩ (.slice pp (keepR p R).length cc) := ⟨_, rfl⟩
            rw [← hW0] at HMS0 ⊢
            clear hW0 y0 c0 ms hB' hB hR hQ hK HMS
            obtain ⟨rv2, qv2, kv2, B2, R2, Q2, K2⟩ := HMS0.out.m.ex
            obtain ⟨pq2, cq2, rfl⟩ := Q2.shape
            have a0 := B2.cell (i := 1) rfl
            have b0 := HMS0.out.b5.cell (i := 0) rfl
            have b1 := HMS0.out.b5.cell (i := 1) rfl
            have b2 := HMS0.out.b5.cell (i := 2) rfl
            have hb0 : base ≤ W0.heap.size := by have := HMS0.out.fr.size; omega
            have hm0 : mb < W0.heap.size := by omega
            have hw0 : w.heap.size + 1 < W0.heap.size := HMS0.out.b5.lt
            have e0 : Fr [] W0 (W0.alloc (.cells #[] 149)).drew := ((Fr.refl [] W0).alloc _).drew
            have e1 : Fr [] W0 ((W0.alloc (.cells #[] 149)).alloc (.cells #[.int .i64 p, .int .i64 n, .bool false] 149)).drew := (((Fr.refl [] W0).alloc _).alloc _).drew
            have e2 : Fr [] W0 ((W0.alloc (.cells #[.int .i64 p, .int .i64 n, .bool false] 149)).alloc (.cells #[] 149)).drew := (((Fr.refl [] W0).alloc _).alloc _).drew
            have n0 := Blk.new W0 [] 149
            have n1 := Blk.new (W0.alloc (.cells #[] 149)) [.int .i64 p, .int .i64 n, .bool false] 149
            have n2 := Blk.new W0 [.int .i64 p, .int .i64 n, .bool false] 149
            have n3 := Blk.new (W0.alloc (.cells #[.int .i64 p, .int .i64 n, .bool false] 149)) [] 149
            simp only [World.size_alloc] at n1 n3
            have O0 := hid (own_of_blk (base := W0.heap.size) (n := 0) (size := 3) n0.drew (Nat.le_refl _) (by decide) rfl)
            have O1 := hid (own_of_blk (base := W0.heap.size) (n := 0) (size := 3) (n0.alloc (.cells #[.int .i64 p, .int .i64 n, .bool false] 149)).drew (Nat.le_refl _) (by decide) rfl)
            have O2 := hid (own_of_blk (base := W0.heap.size) (n := 0) (size := 3) n3.drew (Nat.le_succ _) (by decide) rfl)
            have S0 := hid (Q2.fr e0 (by simp)).src
            have S1 := hid (Q2.fr e1 (by simp)).src
            have S2 := hid (Q2.fr e2 (by simp)).src
            have N1 := hid n1.drew
            have N2 := hid (n2.alloc (.cells #[] 149)).drew
            have HL := hid (mwv_len Q)
            have HB2 := hid B2
            have FIN : ∀ (w2 : World) (pp2 : Option Addr) (cc2 : Nat), w2.ownsRow W0.heap.size 149 3 (.slice pp2 (Q.length + 1) cc2) (Q.length + 1) (mwv Q ++ [.int .i64 p, .int .i64 n, .bool false]) → Fr [] W0 w2 → MS w (w2.setCell ⟨mb, 1, none⟩ (.slice pp2 (Q.length + 1) cc2)) mb base (keepR p R) (Q ++ [(p, n)]) K p n := by
              intro w2 pp2 cc2 ho hF
              have ms2 := HMS0.out.nil hF
              have hF1 : Fr [mb] w2 (w2.setCell ⟨mb, 1, none⟩ (.slice pp2 (Q.length + 1) cc2)) := (Fr.refl _ w2).set (by simp) _
              have low : ∀ b ∈ [mb], b < base ∨ ∃ c T f, w2.heap[b]? = some (.cells c T f) ∧ T ≠ 149 := fun b hb => by simp at hb; subst hb; exact .inl hmb
              have hnew : SlM w2 base (.slice pp2 (Q.length + 1) cc2) (Q ++ [(p, n)]) := own_slm (by rw [List.length_append, mwv_app]; exact ownsRow_base ho hb0)
              exact ⟨⟨_, _, _, (HB2.out.fr hF (by simp)).set 1 _, (R2.fr hF (by simp)).fr hF1 low, hnew.fr hF1 low, (K2.fr hF (by simp)).fr hF1 low⟩, ms2.fr.trans hF1, ms2.b4.fr hF1 (by simp; omega), ms2.b5.fr hF1 (by simp; omega)⟩
            have HFIN := hid FIN
            clear n0 n1 n2 n3 B2 R2 Q2 K2 FIN
            go_region_law
              (first
                | (obtain ⟨i0, hi, hz0, hz1, hz2⟩ := HI.out; refine step_append_src (by rfl) _ _ _ (by rfl) W0.heap.size 149 i0 (.agg #[.int .i64 0, .int .i64 0, .bool false]) 3 24 Try.underlying142 hi hz0 hz1 hz2 rfl (by decide) (.slice (some ⟨W0.heap.size, 0, none⟩) 0 0) 0 [] (by rfl) O0.out (.slice pq2 Q.length cq2) Q.length (mwv Q) (by rfl) S0.out HL.out mwv_one (by simp only [maxLen]; omega) (by omega) (by simp) ?_; clear hi hz0 hz1 hz2; intro pp1 cc1 w1 hown1 hgrow1; simp only [Nat.zero_add, List.nil_append] at hown1; have F1 := fr_grown e0 hgrow1 (low_at _ _ _ _ (by omega)); have k0 : w1.cell? ⟨mb, 1, none⟩ = some (.slice pq2 Q.length cq2) := (cell_fr F1 (by simp) hm0 1).trans a0; have k1 : w1.cell? ⟨w.heap.size + 1, 0, none⟩ = some (.int .i64 p) := (cell_fr F1 (by simp) hw0 0).trans b0; have k2 : w1.cell? ⟨w.heap.size + 1, 1, none⟩ = some (.int .i64 n) := (cell_fr F1 (by simp) hw0 1).trans b1; have k3 : w1.cell? ⟨w.heap.size + 1, 2, none⟩ = some (.bool false) := (cell_fr F1 (by simp) hw0 2).trans b2; have B1 := True.intro)
                | (obtain ⟨i0, hi, hz0, hz1, hz2⟩ := HI.out; refine step_append_src (by rfl) _ _ _ (by rfl) W0.heap.size 149 i0 (.agg #[.int .i64 0, .int .i64 0, .bool false]) 3 24 Try.underlying142 hi hz0 hz1 hz2 rfl (by decide) (.slice (some ⟨W0.heap.size, 0, none⟩) 0 0) 0 [] (by rfl) O1.out (.slice pq2 Q.length cq2) Q.length (mwv Q) (by rfl) S1.out HL.out mwv_one (by simp only [maxLen]; omega) (by omega) (by simp; omega) ?_; clear hi hz0 hz1 hz2; intro pp1 cc1 w1 hown1 hgrow1; simp only [Nat.zero_add, List.nil_append] at hown1; have F1 := fr_grown e1 hgrow1 (low_at _ _ _ _ (by omega)); have k0 : w1.cell? ⟨mb, 1, none⟩ = some (.slice pq2 Q.length cq2) := (cell_fr F1 (by simp) hm0 1).trans a0; have k1 : w1.cell? ⟨w.heap.size + 1, 0, none⟩ = some (.int .i64 p) := (cell_fr F1 (by simp) hw0 0).trans b0; have k2 : w1.cell? ⟨w.heap.size + 1, 1, none⟩ = some (.int .i64 n) := (cell_fr F1 (by simp) hw0 1).trans b1; have k3 : w1.cell? ⟨w.heap.size + 1, 2, none⟩ = some (.bool false) := (cell_fr F1 (by simp) hw0 2).trans b2; have B1 := one_src (blk_grown N1.out hgrow1 (by omega)))
                | (obtain ⟨i0, hi, hz0, hz1, hz2⟩ := HI.out; refine step_append_src (by rfl) _ _ _ (by rfl) W0.heap.size 149 i0 (.agg #[.int .i64 0, .int .i64 0, .bool false]) 3 24 Try.underlying142 hi hz0 hz1 hz2 rfl (by decide) (.slice (some ⟨W0.heap.size + 1, 0, none⟩) 0 0) 0 [] (by rfl) O2.out (.slice pq2 Q.length cq2) Q.length (mwv Q) (by rfl) S2.out HL.out mwv_one (by simp only [maxLen]; omega) (by omega) (by simp; omega) ?_; clear hi hz0 hz1 hz2; intro pp1 cc1 w1 hown1 hgrow1; simp only [Nat.zero_add, List.nil_append] at hown1; have F1 := fr_grown e2 hgrow1 (low_at _ _ _ _ (by omega)); have k0 : w1.cell? ⟨mb, 1, none⟩ = some (.slice pq2 Q.length cq2) := (cell_fr F1 (by simp) hm0 1).trans a0; have k1 : w1.cell? ⟨w.heap.size + 1, 0, none⟩ = some (.int .i64 p) := (cell_fr F1 (by simp) hw0 0).trans b0; have k2 : w1.cell? ⟨w.heap.size + 1, 1, none⟩ = some (.int .i64 n) := (cell_fr F1 (by simp) hw0 1).trans b1; have k3 : w1.cell? ⟨w.heap.size + 1, 2, none⟩ = some (.bool false) := (cell_fr F1 (by simp) hw0 2).trans b2; have B1 := one_src (blk_grown N2.out hgrow1 (by omega)))
                | (obtain ⟨i0, hi, hz0, hz1, hz2⟩ := HI.out; refine step_append_src (by rfl) _ _ _ (by rfl) W0.heap.size 149 i0 (.agg #[.int .i64 0, .int .i64 0, .bool false]) 3 24 Try.underlying142 hi hz0 hz1 hz2 rfl (by decide) (.slice pp1 Q.length cc1) Q.length (mwv Q) (by rfl) (hown1.alloc _) (.slice (some ⟨w1.heap.size, 0, none⟩) 1 1) 1 [.int .i64 p, .int .i64 n, .bool false] (by rfl) (one_src (Blk.new w1 [.int .i64 p, .int .i64 n, .bool false] 149)) rfl (by simp [Value.oneCell']) (by simp only [maxLen]; omega) (by omega) (by have := F1.size; simp; omega) ?_; clear hi hz0 hz1 hz2; intro pp2 cc2 w2 hown2 hgrow2; have F2 := fr_grown (F1.alloc _) hgrow2 (low_of hown1); have f0 : w2.cell? ⟨mb, 1, none⟩ = some (.slice pq2 Q.length cq2) := (cell_fr F2 (by simp) hm0 1).trans a0; have f1 : w2.cell? ⟨w.heap.size + 1, 0, none⟩ = some (.int .i64 p) := (cell_fr F2 (by simp) hw0 0).trans b0; have f2 : w2.cell? ⟨w.heap.size + 1, 1, none⟩ = some (.int .i64 n) := (cell_fr F2 (by simp) hw0 1).trans b1; have f3 : w2.cell? ⟨w.heap.size + 1, 2, none⟩ = some (.bool false) := (cell_fr F2 (by simp) hw0 2).trans b2; have f4 := (HB2.out.fr F2 (by simp)).frozen 1)
                | (obtain ⟨i0, hi, hz0, hz1, hz2⟩ := HI.out; refine step_append_src (by rfl) _ _ _ (by rfl) W0.heap.size 149 i0 (.agg #[.int .i64 0, .int .i64 0, .bool false]) 3 24 Try.underlying142 hi hz0 hz1 hz2 rfl (by decide) (.slice pp1 Q.length cc1) Q.length (mwv Q) (by rfl) hown1 (.slice (some ⟨W0.heap.size + 1, 0, none⟩) 1 1) 1 [.int .i64 p, .int .i64 n, .bool false] (by rfl) B1 rfl (by simp [Value.oneCell']) (by simp only [maxLen]; omega) (by omega) (by have := F1.size; omega) ?_; clear hi hz0 hz1 hz2; intro pp2 cc2 w2 hown2 hgrow2; have F2 := fr_grown F1 hgrow2 (low_of hown1); have f0 : w2.cell? ⟨mb, 1, none⟩ = some (.slice pq2 Q.length cq2) := (cell_fr F2 (by simp) hm0 1).trans a0; have f1 : w2.cell? ⟨w.heap.size + 1, 0, none⟩ = some (.int .i64 p) := (cell_fr F2 (by simp) hw0 0).trans b0; have f2 : w2.cell? ⟨w.heap.size + 1, 1, none⟩ = some (.int .i64 n) := (cell_fr F2 (by simp) hw0 1).trans b1; have f3 : w2.cell? ⟨w.heap.size + 1, 2, none⟩ = some (.bool false) := (cell_fr F2 (by simp) hw0 2).trans b2; have f4 := (HB2.out.fr F2 (by simp)).frozen 1)
                | (obtain ⟨i0, hi, hz0, hz1, hz2⟩ := HI.out; refine step_append_src (by rfl) _ _ _ (by rfl) W0.heap.size 149 i0 (.agg #[.int .i64 0, .int .i64 0, .bool false]) 3 24 Try.underlying142 hi hz0 hz1 hz2 rfl (by decide) (.slice pp1 Q.length cc1) Q.length (mwv Q) (by rfl) hown1 (.slice (some ⟨W0.heap.size, 0, none⟩) 1 1) 1 [.int .i64 p, .int .i64 n, .bool false] (by rfl) B1 rfl (by simp [Value.oneCell']) (by simp only [maxLen]; omega) (by omega) (by have := F1.size; omega) ?_; clear hi hz0 hz1 hz2; intro pp2 cc2 w2 hown2 hgrow2; have F2 := fr_grown F1 hgrow2 (low_of hown1); have f0 : w2.cell? ⟨mb, 1, none⟩ = some (.slice pq2 Q.length cq2) := (cell_fr F2 (by simp) hm0 1).trans a0; have f1 : w2.cell? ⟨w.heap.size + 1, 0, none⟩ = some (.int .i64 p) := (cell_fr F2 (by simp) hw0 0).trans b0; have f2 : w2.cell? ⟨w.heap.size + 1, 1, none⟩ = some (.int .i64 n) := (cell_fr F2 (by simp) hw0 1).trans b1; have f3 : w2.cell? ⟨w.heap.size + 1, 2, none⟩ = some (.bool false) := (cell_fr F2 (by simp) hw0 2).trans b2; have f4 := (HB2.out.fr F2 (by simp)).frozen 1))
            all_goals
              have ms9 := HFIN.out w2 pp2 cc2 hown2 F2
              obtain ⟨W9, hW9⟩ : ∃ W9, W9 = w2.setCell ⟨mb, 1, none⟩ (.slice pp2 (Q.length + 1) cc2) := ⟨_, rfl⟩
              rw [← hW9] at ms9 ⊢
              clear hW9 a0 b0 b1 b2 f0 f1 f2 f3 f4
              have c0 := ms9.b4.cell (i := 0) rfl
              have c1 := ms9.b4.cell (i := 1) rfl
              have c2 := ms9.b4.cell (i := 2) rfl
              have c3 := ms9.b4.cell (i := 3) rfl
              have y0 := ms9.b4.frozen 0
              have y1 := ms9.b4.frozen 1
              have y2 := ms9.b4.frozen 2
              have y3 := ms9.b4.frozen 3
              have d1 := ms9.b5.cell (i := 1) rfl
              go_wp2_with fail
              have D : Blk ((((W9.setCell ⟨w.heap.size, 0, none⟩ (.int .i64 0)).setCell ⟨w.heap.size, 1, none⟩ (.int .i64 n)).setCell ⟨w.heap.size, 2, none⟩ (.bool true)).setCell ⟨w.heap.size, 3, none⟩ (.bool true)) w.heap.size [.int .i64 0, .int .i64 n, .bool true, .bool true] 81 := by
                simpa using (((ms9.b4.set 0 (.int .i64 0)).set 1 (.int .i64 n)).set 2 (.bool true)).set 3 (.bool true)
              have hF9 : Fr [w.heap.size] W9 ((((W9.setCell ⟨w.heap.size, 0, none⟩ (.int .i64 0)).setCell ⟨w.heap.size, 1, none⟩ (.int .i64 n)).setCell ⟨w.heap.size, 2, none⟩ (.bool true)).setCell ⟨w.heap.size, 3, none⟩ (.bool true)) := (((((Fr.refl _ W9).set (by simp) _).set (by simp) _).set (by simp) _).set (by simp) _)
              exact bodyPost_ret (v := .agg #[.int .i64 0, .int .i64 n, .bool true, .bool true]) (by simp [results, Try.results46, go_sem, D.cell (i := 0) rfl, D.cell (i := 1) rfl, D.cell (i := 2) rfl, D.cell (i := 3) rfl]) rfl (.inr ⟨hno, rfl, (ms9.done hmlt hF9).1, (ms9.done hmlt hF9).2⟩)
end Go.Proofs.Ytifillpcphiblaa
