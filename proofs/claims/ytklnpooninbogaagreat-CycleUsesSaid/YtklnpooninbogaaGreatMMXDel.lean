
import Derived.Test.YtklnpooninbogaaGreatMMHNew
import Derived.Lib.SliceRun
import Derived.Deep.RegionLaw
namespace Go.Proofs.YtklnpooninbogaaGreat
open Go Go.Proofs Go.RowKit
def setL (cs : List Value) : Nat → List Value → List Value
  | _, [] => cs
  | o, v :: r => setL (cs.set o v) (o + 1) r
theorem Blk.setCells {b : Nat} {T : TypeId} : ∀ (vs : List Value) (o : Nat) (w : World) (cs : List Value), Blk w b cs T → Blk (w.setCells b o vs) b (setL cs o vs) T
  | [], _, _, _, h => h
  | v :: r, o, _, _, h => Blk.setCells r (o + 1) _ _ (h.set o v)
theorem Fr.setCells {S : List Nat} {b : Nat} : ∀ (vs : List Value) (o : Nat) {a w : World}, Fr S a w → (b ∈ S ∨ a.heap.size ≤ b) → Fr S a (w.setCells b o vs)
  | [], _, _, _, h, _ => h
  | _ :: r, o, _, _, h, hb => Fr.setCells r (o + 1) (h.set hb _) hb
theorem setL_mid : ∀ (vs old : List Value) (pre post : List Value), old.length = vs.length → setL (pre ++ old ++ post) pre.length vs = pre ++ vs ++ post
  | [], [], pre, post, _ => rfl
  | v :: vs, o :: old, pre, post, h => by
    have e : (pre ++ (o :: old) ++ post).set pre.length v = (pre ++ [v]) ++ old ++ post := by simp
    show setL ((pre ++ (o :: old) ++ post).set pre.length v) (pre.length + 1) vs = _
    rw [e]
    have := setL_mid vs old (pre ++ [v]) post (by simpa using h)
    rw [show (pre ++ [v]).length = pre.length + 1 by simp] at this
    rw [this]; simp
  | [], _ :: _, _, _, h => by simp at h
  | _ :: _, [], _, _, h => by simp at h
theorem info_run : (Tryz.prog.info? 175).map (fun i => (i.zero, i.size, i.bytes)) = some (some (.agg #[.int .i64 0, .int .i64 0]), 2, 16) := by kernel_rfl
theorem clearRun (w : World) (ty : TypeId) (b o c : Nat) (hc : ∀ j, j < 2 → (w.cell? ⟨b, o + j, none⟩).isSome = true) (hf : ∀ j, j < 2 → w.frozen? ⟨b, o + j, none⟩ = false) :
    (Builtin.clear_ #[172] ty #[.slice (some ⟨b, o, none⟩) 1 c]).run Tryz.prog w = .ok (.tuple #[]) (w.setCells b o [.int .i64 0, .int .i64 0]) := by
  have hv : ∀ w, (zeroValue 175).run Tryz.prog w = .ok (.agg #[.int .i64 0, .int .i64 0]) w := fun _ => by kernel_rfl
  have hzc : (Builtin.zeroCells (Value.agg #[.int .i64 0, .int .i64 0]).cells 1).toList = [.int .i64 0, .int .i64 0] := by kernel_rfl
  have hst := run_storeCells_cells (P := Tryz.prog) b o [.int .i64 0, .int .i64 0] 0 w (by simpa using hc) (by simpa using hf) (by simp [Value.oneCell'])
  simp only [Nat.add_zero] at hst
  simp [Builtin.clear_, run_underlying Tryz.underlying172, hv, hzc, hst]
set_option maxHeartbeats 1600000 in
set_option maxRecDepth 100000 in
theorem delRun (b : Nat) (l1 l2 : List (Int × Int)) (x : Int × Int) (rest : List Value) (cap N : Nat) (k1 : Int) (w : World) (hN : N = l1.length + l2.length + 1) (hk1 : k1 = l1.length + 1) (hb : Blk w b (flat l1 ++ (flat (x :: l2) ++ rest)) 175) (hl : (flat (l1 ++ x :: l2) ++ rest).length = 2 * cap) :
    Calls Tryz.prog 131 #[.slice (some ⟨b, 0, none⟩) N cap, .int .i64 (l1.length : Nat), .int .i64 k1] w fun e w' => e = .returned (.slice (some ⟨b, 0, none⟩) (l1.length + l2.length : Nat) cap) ∧ Blk w' b (flat (l1 ++ l2) ++ (.int .i64 0 :: .int .i64 0 :: rest)) 175 ∧ Fr [b] w w' := by
  obtain ⟨i0, hi0, hz0, hz1, hz2⟩ := info_parts info_run
  have hk1' : k1 = ((l1.length + 1 : Nat) : Int) := by omega
  subst hN hk1'
  clear hk1
  have hcl : l1.length + l2.length + 1 ≤ cap := by
    simp [flat_append, flat_cons, flat_len] at hl
    omega
  obtain ⟨k, hk⟩ : ∃ k, k = l1.length := ⟨_, rfl⟩
  obtain ⟨m, hm2⟩ : ∃ m, m = l2.length := ⟨_, rfl⟩
  obtain ⟨news, hnews⟩ : ∃ news, news = flat l2 := ⟨_, rfl⟩
  have hnl : news.length = m * 2 := by rw [hnews, flat_len, hm2]; omega
  have hcell : ∀ j v, (flat l2)[j]? = some v → w.cell? ⟨b, (k + 1) * 2 + j, none⟩ = some v := by
    intro j v hv
    refine hb.cell ?_
    rw [List.getElem?_append_right (by rw [flat_len]; omega), flat_len, flat_cons]
    rw [show (k + 1) * 2 + j - 2 * l1.length = j + 1 + 1 by omega]
    simp only [List.cons_append, List.getElem?_cons_succ]
    rw [List.getElem?_append_left (List.getElem?_eq_some_iff.1 hv).1]; exact hv
  obtain ⟨A, hA, hsrc⟩ : ∃ A : Addr, (if cap = k + 1 then some (⟨b, 0, none⟩ : Addr) else some ⟨b, (k + 1) * 2, none⟩) = some A ∧ Hid (∀ t u, news[t]? = some u → w.drew.cell? (A.add t) = some u) := by
    by_cases h : cap = k + 1
    · refine ⟨⟨b, 0, none⟩, by simp [h], fun t u hu => ?_⟩
      have h0 : news.length = 0 := by rw [hnl]; omega
      rw [List.length_eq_zero_iff.1 h0] at hu
      simp at hu
    · refine ⟨⟨b, (k + 1) * 2, none⟩, by simp [h], fun t u hu => ?_⟩
      rw [hnews] at hu
      rw [Addr.add_lit]
      exact hcell t u hu
  have s1 : Hid (news.length = m * 2) := hnl
  have s2 : Hid (∀ u ∈ news, u.oneCell' = true) := by
    intro u hu
    rw [hnews] at hu
    simp only [flat, List.mem_flatMap, List.mem_cons, List.mem_nil_iff, or_false] at hu
    obtain ⟨y, _, rfl | rfl⟩ := hu <;> rfl
  have htot : ∀ j, j < (flat l1 ++ (flat (x :: l2) ++ rest)).length → (w.cell? ⟨b, j, none⟩).isSome = true := by
    intro j hj
    obtain ⟨v, hv⟩ : ∃ v, (flat l1 ++ (flat (x :: l2) ++ rest))[j]? = some v := ⟨_, List.getElem?_eq_getElem hj⟩
    rw [hb.cell hv]; rfl
  have s3 : Hid (∀ t, t < news.length → (w.drew.cell? ⟨b, 0 + k * 2 + t, none⟩).isSome = true ∧ w.drew.frozen? ⟨b, 0 + k * 2 + t, none⟩ = false) := by
    intro t ht
    refine ⟨htot _ ?_, hb.frozen _⟩
    simp [flat_len]
    omega
  -- the world behind the append
  obtain ⟨W1, hW1⟩ : ∃ W1, W1 = w.drew.setCells b (0 + k * 2) news := ⟨_, rfl⟩
  obtain ⟨y1, y2, hy⟩ : ∃ y1 y2, .int .i64 x.1 :: .int .i64 x.2 :: flat l2 = ((.int .i64 x.1 :: .int .i64 x.2 :: flat l2).take news.length) ++ [y1, y2] := by
    have h2 : ((Value.int .i64 x.1 :: .int .i64 x.2 :: flat l2).drop news.length).length = 2 := by simp [hnews]; omega
    match hd : (Value.int .i64 x.1 :: .int .i64 x.2 :: flat l2).drop news.length, h2 with
    | [y1, y2], _ => exact ⟨y1, y2, by rw [← hd, List.take_append_drop]⟩
  have hB1 : Blk W1 b (flat l1 ++ flat l2 ++ ([y1, y2] ++ rest)) 175 := by
    rw [hW1]
    have := Blk.setCells news (0 + k * 2) _ _ hb.drew
    rw [flat_cons, hy] at this
    have e : flat l1 ++ ((((Value.int .i64 x.1 :: .int .i64 x.2 :: flat l2).take news.length) ++ [y1, y2]) ++ rest) = flat l1 ++ ((Value.int .i64 x.1 :: .int .i64 x.2 :: flat l2).take news.length) ++ ([y1, y2] ++ rest) := by simp
    rw [e, show 0 + k * 2 = (flat l1).length by rw [flat_len]; omega, setL_mid _ _ _ _ (by simp [hnews]; omega)] at this
    rw [hnews] at this ⊢
    rw [show 0 + k * 2 = (flat l1).length by rw [flat_len]; omega]
    exact this
  have hF1 : Fr [b] w W1 := by rw [hW1]; exact Fr.setCells _ _ ((Fr.refl _ w).drew) (by simp)
  have hclr : ∀ ty c, (Builtin.clear_ #[172] ty #[.slice (some ⟨b, (k + m) * 2, none⟩) 1 c]).run Tryz.prog W1 = .ok (.tuple #[]) (W1.setCells b ((k + m) * 2) [.int .i64 0, .int .i64 0]) := by
    intro ty c
    refine clearRun W1 ty b _ c (fun j hj => ?_) (fun j _ => hB1.frozen _)
    obtain ⟨v, hv⟩ : ∃ v, (flat l1 ++ flat l2 ++ ([y1, y2] ++ rest))[(k + m) * 2 + j]? = some v := by
      refine ⟨_, List.getElem?_eq_getElem ?_⟩
      simp [flat_len]; omega
    rw [hB1.cell hv]; rfl
  have hB2 : Blk (W1.setCells b ((k + m) * 2) [.int .i64 0, .int .i64 0]) b (flat (l1 ++ l2) ++ (.int .i64 0 :: .int .i64 0 :: rest)) 175 := by
    have := Blk.setCells [.int .i64 0, .int .i64 0] ((k + m) * 2) _ _ hB1
    have e : flat l1 ++ flat l2 ++ ([y1, y2] ++ rest) = (flat l1 ++ flat l2) ++ [y1, y2] ++ rest := by simp
    rw [e, show (k + m) * 2 = (flat l1 ++ flat l2).length by simp [flat_len]; omega, setL_mid [.int .i64 0, .int .i64 0] [y1, y2] (flat l1 ++ flat l2) rest rfl] at this
    rw [flat_append, show (k + m) * 2 = (flat l1 ++ flat l2).length by simp [flat_len]; omega]
    simpa using this
  have hF2 : Fr [b] w (W1.setCells b ((k + m) * 2) [.int .i64 0, .int .i64 0]) := Fr.setCells _ _ hF1 (by simp)
  have X1 := hid hB2
  have X2 := hid hF2
  have hW := hid hW1
  rw [← hk, ← hm2] at hcl ⊢
  clear hB2 hF2 hB1 hF1 hW1 hy htot hcell hnl hk hm2 hb hl
  have hic : k ≤ cap := by omega
  have hjc : k + 1 ≤ cap := by omega
  have hp0 : (0 : Int) ≤ (k : Int) + 1 := by omega
  have hp1 : (k : Int) + 1 ≤ (k : Int) + m + 1 := by omega
  have hp2 : ((k : Int) + 1).toNat = k + 1 := by omega
  have hp3 : ((k : Int) + m + 1).toNat = k + m + 1 := by omega
  have hp4 : ((k : Int) + m).toNat = k + m := by omega
  have hp5 : k + m + 1 - (k + 1) = m := by omega
  have hp6 : k + m + 1 - (k + m) = 1 := by omega
  go_enter Tryz.func131, Tryz.ntmps131
  go_wp2_with fail
  go_region_law (refine step_append_room rfl (.tmp 22) (.tmp 25) 172 rfl 175 i0 2 Tryz.underlying172 hi0 hz1 b 0 k cap (by simp [Act.eval, Act.put]) A m (cap - (k + 1)) news (by simp [Act.eval, Act.put]) s1.out hsrc.out s2.out (by omega) s3.out ?_; rw [← hW.out])
  go_wp2_with fail
  go_ret
  exact ⟨rfl, X1.out, X2.out⟩
structure XAt (w : World) (xb : Nat) (b : Nat) (first places : Int) (l : List (Int × Int)) (rest : List Value) (cap : Nat) : Prop where
  s : Blk w xb [.int .i64 first, .int .i64 places, .slice (some ⟨b, 0, none⟩) l.length cap] 174
  c : Blk w b (flat l ++ rest) 175
  len : (flat l ++ rest).length = 2 * cap
  cb : cap ≤ maxLen
theorem XAt.rd {w : World} {xb b : Nat} {f p : Int} {l : List (Int × Int)} {rest : List Value} {cap : Nat} (h : XAt w xb b f p l rest cap) : Rd w b (flat l) :=
  ⟨h.c.lt, fun i v hv => h.c.cell (by rw [List.getElem?_append_left (List.getElem?_eq_some_iff.1 hv).1]; exact hv)⟩
set_option maxHeartbeats 1600000 in
theorem xTakeNil (xb : Nat) (f p n : Int) (w : World) (hs : Blk w xb [.int .i64 f, .int .i64 p, .slice none 0 0] 174) (hn : 1 ≤ n) :
    Calls Tryz.prog 98 #[.pointer (some ⟨xb, 0, none⟩), .int .i64 n] w fun e w' => e = .returned (.tuple #[.int .i64 0, .int .i64 2]) ∧ Fr [] w w' := by
  have hmf : ∀ (fn : Fn) (first cap : Array Value) (w : World), (Instr.makeFunc fn first cap).run Tryz.prog w = .ok (.func fn first cap) w := fun _ _ _ _ => rfl
  have B0 := Blk.new w [.int .i64 n] 3
  have q0 := B0.cell (i := 0) rfl
  have s0 := hs.alloc (.cells #[.int .i64 n] 3)
  have s2 := s0.cell (i := 2) rfl
  have hnt : ¬ n < 1 := by omega
  have hF : Fr [] w (w.alloc (.cells #[.int .i64 n] 3)) := (Fr.refl _ w).alloc _
  have HF := hid hF
  clear hF
  go_enter Tryz.func98, Tryz.ntmps98
  go_wp2_with fail
  refine Calls.mono (R := fun e w' => e = .returned (.int .i64 (-1)) ∧ Fr [] (w.alloc (.cells #[.int .i64 n] 3)) w') ?_ ?_
  · clear hmf
    go_enter Tryz.func129, Tryz.ntmps129
    go_wp2_with fail
    go_loop [8] (fun i => i = .int .i64 0) (fun i => 0)
    case atStart => rfl
    case round =>
      subst hrel
      go_wp2_with fail
      go_ret
      exact ⟨rfl, Fr.refl _ _⟩
  · rintro e w1 ⟨rfl, hF1⟩
    go_wp2_with fail
    go_ret2
    exact ⟨rfl, HF.out.trans hF1⟩
set_option maxHeartbeats 1600000 in
theorem xTakeFull (xb b : Nat) (f p n : Int) (l : List (Int × Int)) (rest : List Value) (cap : Nat) (w : World) (h : XAt w xb b f p l rest cap) (hl : l.length ≤ 65536) (hn : 1 ≤ n) (hi : ixRun l n = -1) :
    Calls Tryz.prog 98 #[.pointer (some ⟨xb, 0, none⟩), .int .i64 n] w fun e w' => e = .returned (.tuple #[.int .i64 0, .int .i64 2]) ∧ Fr [] w w' := by
  have hmf : ∀ (fn : Fn) (first cap : Array Value) (w : World), (Instr.makeFunc fn first cap).run Tryz.prog w = .ok (.func fn first cap) w := fun _ _ _ _ => rfl
  have B0 := Blk.new w [.int .i64 n] 3
  have q0 := B0.cell (i := 0) rfl
  have s0 := h.s.alloc (.cells #[.int .i64 n] 3)
  have s2 := s0.cell (i := 2) rfl
  have hr := h.rd.alloc (.cells #[.int .i64 n] 3)
  have hnt : ¬ n < 1 := by omega
  have hF : Fr [] w (w.alloc (.cells #[.int .i64 n] 3)) := (Fr.refl _ w).alloc _
  have HF := hid hF
  have HI := hid hi
  clear hF hi
  go_enter Tryz.func98, Tryz.ntmps98
  go_wp2_with fail
  refine (ixTake b l cap n w.heap.size _ hl hr q0 (by simp)).mono ?_
  rintro e w1 ⟨rfl, hF1⟩
  rw [HI.out]
  go_wp2_with fail
  go_ret2
  exact ⟨rfl, HF.out.trans hF1⟩
theorem cs_mid (l1 l2 : List (Int × Int)) (a m : Int) (rest : List Value) : flat (l1 ++ (a, m) :: l2) ++ rest = flat l1 ++ (.int .i64 a :: .int .i64 m :: (flat l2 ++ rest)) := by
  simp [flat_append, flat_cons]
theorem cs_set (l1 l2 : List (Int × Int)) (a m a' m' : Int) (rest : List Value) : ((flat (l1 ++ (a, m) :: l2) ++ rest).set (l1.length * 2) (.int .i64 a')).set (l1.length * 2 + 1) (.int .i64 m') = flat (l1 ++ (a', m') :: l2) ++ rest := by
  rw [cs_mid, cs_mid]
  have e : l1.length * 2 = (flat l1).length := by rw [flat_len]; omega
  rw [e]
  simp
theorem delRun' (b : Nat) (l1 l2 : List (Int × Int)) (x : Int × Int) (rest : List Value) (cap N k : Nat) (k1 : Int) (w : World) (hk : k = l1.length) (hN : N = l1.length + l2.length + 1) (hk1 : k1 = l1.length + 1) (hb : Blk w b (flat l1 ++ (flat (x :: l2) ++ rest)) 175) (hl : (flat (l1 ++ x :: l2) ++ rest).length = 2 * cap) :
    Calls Tryz.prog 131 #[.slice (some ⟨b, 0, none⟩) N cap, .int .i64 k, .int .i64 k1] w fun e w' => e = .returned (.slice (some ⟨b, 0, none⟩) (l1.length + l2.length : Nat) cap) ∧ Blk w' b (flat (l1 ++ l2) ++ (.int .i64 0 :: .int .i64 0 :: rest)) 175 ∧ Fr [b] w w' := by
  subst hk
  exact delRun b l1 l2 x rest cap N k1 w hN hk1 hb hl
set_option maxRecDepth 100000 in
set_option maxHeartbeats 3200000 in
theorem xTakePart (xb b : Nat) (f p n a m : Int) (l1 l2 : List (Int × Int)) (rest : List Value) (cap : Nat) (w : World) (h : XAt w xb b f p (l1 ++ (a, m) :: l2) rest cap) (hl : (l1 ++ (a, m) :: l2).length ≤ 65536) (hn : 1 ≤ n) (hi : ixRun (l1 ++ (a, m) :: l2) n = (l1.length : Nat)) (hm : n < m) (ha : 0 ≤ a) (ha2 : a + m ≤ 65536) :
    Calls Tryz.prog 98 #[.pointer (some ⟨xb, 0, none⟩), .int .i64 n] w fun e w' => e = .returned (.tuple #[.int .i64 a, .int .i64 0]) ∧ XAt w' xb b f p (l1 ++ (a + n, m - n) :: l2) rest cap ∧ Fr [b] w w' := by
  have hmf : ∀ (fn : Fn) (first cap : Array Value) (w : World), (Instr.makeFunc fn first cap).run Tryz.prog w = .ok (.func fn first cap) w := fun _ _ _ _ => rfl
  have B0 := Blk.new w [.int .i64 n] 3
  have q0 := B0.cell (i := 0) rfl
  have s0 := h.s.alloc (.cells #[.int .i64 n] 3)
  have s2 := s0.cell (i := 2) rfl
  have hr := h.rd.alloc (.cells #[.int .i64 n] 3)
  have hc := h.c.alloc (.cells #[.int .i64 n] 3)
  have hlt1 := h.s.lt
  have hlt2 := h.c.lt
  have hne : xb ≠ b := by
    rintro rfl
    have h1 := h.s
    have h2 := h.c
    unfold Blk at h1 h2
    rw [h1] at h2
    simp only [Option.some.injEq, Obj.cells.injEq] at h2
    exact absurd h2.2.1 (by decide)
  have hnt : ¬ n < 1 := by omega
  have hF : Fr [] w (w.alloc (.cells #[.int .i64 n] 3)) := (Fr.refl _ w).alloc _
  have HF := hid hF
  have HI := hid hi
  have HL := hid h.len
  have HCB := hid h.cb
  obtain ⟨l, hll⟩ : ∃ l, l = l1 ++ (a, m) :: l2 := ⟨_, rfl⟩
  have hklt : l1.length < l.length := by rw [hll]; simp
  rw [← hll] at hr s0 s2 hc hl HI
  have HLL := hid hll
  clear hF hi hll h
  go_enter Tryz.func98, Tryz.ntmps98
  go_wp2_with fail
  refine (ixTake b l cap n w.heap.size _ hl hr q0 (by simp)).mono ?_
  rintro e w1 ⟨rfl, hF1⟩
  rw [HI.out]
  have s3 := (s0.fr hF1 (by simp))
  have c3 := (hc.fr hF1 (by simp))
  have q3 := (B0.fr hF1 (by simp)).cell (i := 0) rfl
  have s32 := s3.cell (i := 2) rfl
  have e1 : (flat l ++ rest)[l1.length * 2]? = some (.int .i64 a) := by
    rw [HLL.out, cs_mid, List.getElem?_append_right (by rw [flat_len]; omega), flat_len]
    rw [show l1.length * 2 - 2 * l1.length = 0 by omega]; rfl
  have e2 : (flat l ++ rest)[l1.length * 2 + 1]? = some (.int .i64 m) := by
    rw [HLL.out, cs_mid, List.getElem?_append_right (by rw [flat_len]; omega), flat_len]
    rw [show l1.length * 2 + 1 - 2 * l1.length = 1 by omega]; rfl
  have k1 := c3.cell e1
  have k2 := c3.cell e2
  have y1 := c3.frozen (l1.length * 2)
  have y2 := c3.frozen (l1.length * 2 + 1)
  have hw1 : IntKind.i64.wrap (a + n) = a + n := by rw [IntKind.wrap_i64]; omega
  have hw2 : IntKind.i64.wrap (m - n) = m - n := by rw [IntKind.wrap_i64]; omega
  have hmn : ¬ (m - n = 0) := by omega
  clear e1 e2
  obtain ⟨k, hk⟩ : ∃ k, k = l1.length := ⟨_, rfl⟩
  rw [← hk] at k1 k2 y1 y2 hklt ⊢
  have HK := hid hk
  clear hk
  go_wp2_with fail
  go_region
  go_wp2_with fail
  go_ret2
  have hk := HK.out
  refine ⟨rfl, ⟨?_, ?_, ?_, HCB.out⟩, ?_⟩
  · have := (((s3.other hne (a := ⟨b, k * 2, none⟩) (.int .i64 (a + n))).other hne (a := ⟨b, k * 2 + 1, none⟩) (.int .i64 (m - n)))).drew
    rw [HLL.out] at this
    simpa using this
  · have := ((c3.set (k * 2) (.int .i64 (a + n))).set (k * 2 + 1) (.int .i64 (m - n))).drew
    rw [HLL.out, hk, cs_set] at this
    rw [hk]
    exact this
  · have := HL.out
    simp [flat_append, flat_cons, flat_len] at this ⊢
    exact this
  · exact ((((HF.out.trans hF1).here (T := [b]) (by simp)).set (by simp) _).set (by simp) _).drew
set_option maxRecDepth 100000 in
set_option maxHeartbeats 3200000 in
theorem xTakeAll (xb b : Nat) (f p n a m : Int) (l1 l2 : List (Int × Int)) (rest : List Value) (cap : Nat) (w : World) (h : XAt w xb b f p (l1 ++ (a, m) :: l2) rest cap) (hl : (l1 ++ (a, m) :: l2).length ≤ 65536) (hn : 1 ≤ n) (hi : ixRun (l1 ++ (a, m) :: l2) n = (l1.length : Nat)) (hm : m = n) (ha : 0 ≤ a) (ha2 : a + m ≤ 65536) :
    Calls Tryz.prog 98 #[.pointer (some ⟨xb, 0, none⟩), .int .i64 n] w fun e w' => e = .returned (.tuple #[.int .i64 a, .int .i64 0]) ∧ XAt w' xb b f p (l1 ++ l2) (.int .i64 0 :: .int .i64 0 :: rest) cap ∧ Fr [xb, b] w w' := by
  have hmf : ∀ (fn : Fn) (first cap : Array Value) (w : World), (Instr.makeFunc fn first cap).run Tryz.prog w = .ok (.func fn first cap) w := fun _ _ _ _ => rfl
  have B0 := Blk.new w [.int .i64 n] 3
  have q0 := B0.cell (i := 0) rfl
  have s0 := h.s.alloc (.cells #[.int .i64 n] 3)
  have s2 := s0.cell (i := 2) rfl
  have hr := h.rd.alloc (.cells #[.int .i64 n] 3)
  have hc := h.c.alloc (.cells #[.int .i64 n] 3)
  have hlt1 := h.s.lt
  have hlt2 := h.c.lt
  have hne : xb ≠ b := by
    rintro rfl
    have h1 := h.s
    have h2 := h.c
    unfold Blk at h1 h2
    rw [h1] at h2
    simp only [Option.some.injEq, Obj.cells.injEq] at h2
    exact absurd h2.2.1 (by decide)
  have hnt : ¬ n < 1 := by omega
  have hF : Fr [] w (w.alloc (.cells #[.int .i64 n] 3)) := (Fr.refl _ w).alloc _
  have HF := hid hF
  have HI := hid hi
  have HL := hid h.len
  have HCB := hid h.cb
  obtain ⟨l, hll⟩ : ∃ l, l = l1 ++ (a, m) :: l2 := ⟨_, rfl⟩
  have hklt : l1.length < l.length := by rw [hll]; simp
  rw [← hll] at hr s0 s2 hc hl HI
  have HLL := hid hll
  clear hF hi hll h
  go_enter Tryz.func98, Tryz.ntmps98
  go_wp2_with fail
  refine (ixTake b l cap n w.heap.size _ hl hr q0 (by simp)).mono ?_
  rintro e w1 ⟨rfl, hF1⟩
  rw [HI.out]
  have s3 := (s0.fr hF1 (by simp))
  have c3 := (hc.fr hF1 (by simp))
  have q3 := (B0.fr hF1 (by simp)).cell (i := 0) rfl
  have s32 := s3.cell (i := 2) rfl
  have e1 : (flat l ++ rest)[l1.length * 2]? = some (.int .i64 a) := by
    rw [HLL.out, cs_mid, List.getElem?_append_right (by rw [flat_len]; omega), flat_len]
    rw [show l1.length * 2 - 2 * l1.length = 0 by omega]; rfl
  have e2 : (flat l ++ rest)[l1.length * 2 + 1]? = some (.int .i64 m) := by
    rw [HLL.out, cs_mid, List.getElem?_append_right (by rw [flat_len]; omega), flat_len]
    rw [show l1.length * 2 + 1 - 2 * l1.length = 1 by omega]; rfl
  have k1 := c3.cell e1
  have k2 := c3.cell e2
  have y1 := c3.frozen (l1.length * 2)
  have y2 := c3.frozen (l1.length * 2 + 1)
  have hw1 : IntKind.i64.wrap (a + n) = a + n := by rw [IntKind.wrap_i64]; omega
  have hw2 : IntKind.i64.wrap (m - n) = 0 := by rw [IntKind.wrap_i64]; omega
  have hmn : m - n = 0 := by omega
  have hw3 : IntKind.i64.wrap 0 = 0 := by decide
  clear hm
  clear e1 e2
  obtain ⟨k, hk⟩ : ∃ k, k = l1.length := ⟨_, rfl⟩
  rw [← hk] at k1 k2 y1 y2 hklt ⊢
  have HK := hid hk
  clear hk
  go_wp2_with fail
  have HB : Hid (Blk (((w1.setCell ⟨b, k * 2, none⟩ (.int .i64 (a + n))).setCell ⟨b, k * 2 + 1, none⟩ (.int .i64 0)).drew) b (flat l1 ++ (flat ((a + n, 0) :: l2) ++ rest)) 175) := by
    have hk := HK.out
    have := ((c3.set (k * 2) (.int .i64 (a + n))).set (k * 2 + 1) (.int .i64 0)).drew
    rw [HLL.out, hk, cs_set] at this
    rw [hk]
    have e : flat (l1 ++ (a + n, 0) :: l2) ++ rest = flat l1 ++ (flat ((a + n, 0) :: l2) ++ rest) := by simp [flat_append]
    rw [e] at this
    exact this
  have HC : Hid ((flat (l1 ++ (a + n, 0) :: l2) ++ rest).length = 2 * cap) := by
    have := HL.out
    simp [flat_append, flat_cons, flat_len] at this
    show _ = _
    simp [flat_append, flat_cons, flat_len]
    exact this
  have HN : Hid (l.length = l1.length + l2.length + 1) := by
    show _ = _
    rw [HLL.out]; simp; omega
  have HS := hid (((s3.other hne (a := ⟨b, k * 2, none⟩) (.int .i64 (a + n))).other hne (a := ⟨b, k * 2 + 1, none⟩) (.int .i64 0))).drew
  go_region
  go_wp2_with fail
  refine (delRun' b l1 l2 (a + n, 0) rest cap l.length k (k + 1) _ HK.out HN.out (by rw [HK.out]) HB.out HC.out).mono ?_
  rintro e w2 ⟨rfl, hB2, hF2⟩
  have s4 := HS.out.fr hF2 (by simpa using hne)
  have s42 := s4.frozen 2
  have s43 := s4.cell (i := 2) rfl
  go_wp2_with fail
  go_ret2
  refine ⟨rfl, ⟨?_, ?_, ?_, HCB.out⟩, ?_⟩
  · have := s4.set 2 (.slice (some ⟨b, 0, none⟩) (l1.length + l2.length : Nat) cap)
    simpa using this
  · exact hB2.other (Ne.symm hne) _
  · have := HL.out
    simp [flat_append, flat_cons, flat_len] at this ⊢
    omega
  · exact (((((HF.out.trans hF1).here (T := [xb, b]) (by simp)).set (by simp) _).set (by simp) _).drew.trans (hF2.here (by simp))).set (by simp) _
theorem ixRun_no {l : List (Int × Int)} {n : Int} (h : ∀ y ∈ l, y.2 < n) : ixRun l n = -1 := by
  refine ixGe_none (fun j y _ hy => ?_)
  obtain ⟨i, hi, rfl⟩ := List.mem_map.1 (List.mem_of_getElem? hy)
  exact h i hi
theorem ixRun_yes {l1 l2 : List (Int × Int)} {a m n : Int} (h : ∀ y ∈ l1, y.2 < n) (hm : n ≤ m) : ixRun (l1 ++ (a, m) :: l2) n = (l1.length : Nat) := by
  refine ixGe_some (x := m) (fun j y hj hy => ?_) (by simp) hm
  rw [List.map_append, List.getElem?_append_left (by simpa using hj)] at hy
  obtain ⟨i, hi, rfl⟩ := List.mem_map.1 (List.mem_of_getElem? hy)
  exact h i hi
theorem run_cases (l : List (Int × Int)) (n : Int) : (∀ y ∈ l, y.2 < n) ∨ ∃ l1 a m l2, l = l1 ++ (a, m) :: l2 ∧ (∀ y ∈ l1, y.2 < n) ∧ n ≤ m := by
  induction l with
  | nil => exact .inl (by simp)
  | cons x l ih =>
    by_cases h : n ≤ x.2
    · exact .inr ⟨[], x.1, x.2, l, rfl, by simp, h⟩
    · rcases ih with ih | ⟨l1, a, m, l2, rfl, h1, h2⟩
      · refine .inl ?_
        intro y hy
        rcases List.mem_cons.1 hy with rfl | hy
        · omega
        · exact ih y hy
      · refine .inr ⟨x :: l1, a, m, l2, rfl, ?_, h2⟩
        intro y hy
        rcases List.mem_cons.1 hy with rfl | hy
        · omega
        · exact h1 y hy
theorem xTakeNo (xb : Nat) (xlbs : List Nat) (x : XS) (n : Int) (w : World) (hX : XRep w xb xlbs x) (hl : x.l.length ≤ 65536) (hn : 1 ≤ n) (hno : ∀ y ∈ x.l, y.2 < n) :
    Calls Tryz.prog 98 #[.pointer (some ⟨xb, 0, none⟩), .int .i64 n] w fun e w' => e = .returned (.tuple #[.int .i64 0, .int .i64 2]) ∧ Fr [] w w' := by
  obtain ⟨sv, hb, ⟨rfl, rfl, h3⟩ | ⟨b, cap, rest, e1, rfl, e3, e4⟩⟩ := hX.s
  · exact xTakeNil xb _ _ n w hb hn
  · exact xTakeFull xb b _ _ n x.l rest cap w ⟨hb, e3, e4.1, e4.2⟩ hl hn (ixRun_no hno)
theorem xTakeYes (xb : Nat) (xlbs : List Nat) (x : XS) (n a m : Int) (l1 l2 : List (Int × Int)) (w : World) (hX : XRep w xb xlbs x) (hl : x.l.length ≤ 65536) (hn : 1 ≤ n) (hx : x.l = l1 ++ (a, m) :: l2) (hno : ∀ y ∈ l1, y.2 < n) (hm : n ≤ m) (ha : 0 ≤ a) (ha2 : a + m ≤ 65536) :
    Calls Tryz.prog 98 #[.pointer (some ⟨xb, 0, none⟩), .int .i64 n] w fun e w' => e = .returned (.tuple #[.int .i64 a, .int .i64 0]) ∧ XRep w' xb xlbs { x with l := cutRun l1 a m n l2 } ∧ Fr (xb :: xlbs) w w' := by
  obtain ⟨sv, hb, ⟨rfl, rfl, h3⟩ | ⟨b, cap, rest, e1, rfl, e3, e4⟩⟩ := hX.s
  · rw [hx] at h3; simp at h3
  · have hi := ixRun_yes (l1 := l1) (l2 := l2) (a := a) hno hm
    subst e1
    rw [hx] at hb e3 e4 hl
    by_cases e : m = n
    · refine (xTakeAll xb b _ _ n a m l1 l2 rest cap w ⟨hb, e3, e4.1, e4.2⟩ hl hn hi e ha ha2).mono ?_
      rintro e' w' ⟨rfl, hA, hF⟩
      have el : cutRun l1 a m n l2 = l1 ++ l2 := by simp only [cutRun, if_pos e]
      rw [el]
      exact ⟨rfl, ⟨_, hA.s, .inr ⟨b, cap, _, rfl, rfl, hA.c, hA.len, hA.cb⟩⟩, hF⟩
    · refine (xTakePart xb b _ _ n a m l1 l2 rest cap w ⟨hb, e3, e4.1, e4.2⟩ hl hn hi (by omega) ha ha2).mono ?_
      rintro e' w' ⟨rfl, hA, hF⟩
      have el : cutRun l1 a m n l2 = l1 ++ (a + n, m - n) :: l2 := by simp only [cutRun, if_neg e]
      rw [el]
      exact ⟨rfl, ⟨_, hA.s, .inr ⟨b, cap, _, rfl, rfl, hA.c, hA.len, hA.cb⟩⟩, hF.here (by simp)⟩
theorem HRep.room {w w' : World} {L : HL} {s : HS} (h : HRep w L s) (hf : Fr (L.xb :: L.xlbs) w w') {x' : XS} (hx : XRep w' L.xb L.xlbs x') : HRep w' L { s with x := x' } := by
  obtain ⟨⟨p1, p2, p3, p4, p5, p6⟩, ⟨q1, q2, q3, q4, q5⟩, ⟨r1, r2, r3, r4⟩, ⟨t1, t2, t3⟩, ⟨y1, y2⟩, _⟩ := h.apart
  have g : ∀ x, x ≠ L.xb → x ∉ L.xlbs → x ∉ L.xb :: L.xlbs := fun x h1 h2 hc => by rcases List.mem_cons.1 hc with e | e <;> contradiction
  have nx : ∀ x, (∀ b ∈ L.xlbs, b ≠ x) → x ∉ L.xlbs := fun x h1 hc => h1 x hc rfl
  exact { h := h.h.fr hf (g _ p4 (nx _ fun b hb => (h.xapart hb).1)), a := h.a.fr hf (g _ q3 (nx _ fun b hb => (h.xapart hb).2.1)) (g _ r2 (nx _ fun b hb => (h.xapart hb).2.2.1)),
          c := h.c.fr hf (g _ (Ne.symm y1) (nx _ fun b hb => (h.xapart hb).2.2.2.2.2.1)), r := h.r.fr hf (g _ (Ne.symm y2) (nx _ fun b hb => (h.xapart hb).2.2.2.2.2.2.1)),
          rr := fun j rb r' hj hr' => (h.rr j rb r' hj hr').fr hf (g _ (h.rapart (List.mem_of_getElem? hj)).2.2.2.2.1 (h.rapart (List.mem_of_getElem? hj)).2.2.2.2.2.2.2),
          lr := h.lr.fr hf (g _ t1 (nx _ fun b hb => (h.xapart hb).2.2.2.1)), x := hx, nd := h.nd, n1 := h.n1, n2 := h.n2, n3 := h.n3, t := h.t, e := h.e }
theorem fpx (L : HL) : ∀ x ∈ L.xb :: L.xlbs, x ∈ L.fp := by
  intro x hx
  simp only [HL.fp, List.mem_cons, List.mem_append] at hx ⊢
  rcases hx with h | h <;> simp [h]
set_option maxHeartbeats 1600000 in
theorem hCellNoRoom (L : HL) (s : HS) (z : Int) (w : World) (hH : HRep w L s) (hk : ixGe s.cls z = -1) (z0 : 0 ≤ z) (z1 : z ≤ 65536) (hl : s.x.l.length ≤ 65536) (hno : ∀ y ∈ s.x.l, y.2 < z + 3) :
    Calls Tryz.prog 50 #[.pointer (some ⟨L.hb, 0, none⟩), .int .i64 z] w fun e w' => e = .returned (.tuple #[.int .i64 0, .int .i64 2]) ∧ HRep w' L s ∧ Fr L.fp w w' := by
  have Hk := hid hk
  have hwr : IntKind.i64.wrap (z + 3) = z + 3 := by rw [IntKind.wrap_i64]; omega
  clear hk
  go_enter Tryz.func50, Tryz.ntmps50
  go_wp2_with fail
  refine (hClass L s z _ hH).mono ?_
  rintro e w1 ⟨rfl, hH1, hF1⟩
  obtain ⟨-, -, -, -, c4, -, -, -⟩ := hH1.reads
  rw [Hk.out]
  go_wp2_with fail
  refine (xTakeNo L.xb L.xlbs s.x (z + 3) _ hH1.x hl (by omega) hno).mono ?_
  rintro e w2 ⟨rfl, hF2⟩
  go_wp2_with fail
  go_ret2
  exact ⟨rfl, hH1.fr hF2 (by simp), (hF1.here (by simp)).trans (hF2.here (by simp))⟩
set_option maxHeartbeats 1600000 in
theorem hCellLarge (L : HL) (s : HS) (z a m : Int) (l1 l2 : List (Int × Int)) (w : World) (hH : HRep w L s) (hk : ixGe s.cls z = -1) (z0 : 0 ≤ z) (z1 : z ≤ 65536) (hl : s.x.l.length ≤ 65536) (hx : s.x.l = l1 ++ (a, m) :: l2) (hno : ∀ y ∈ l1, y.2 < z + 3) (hm : z + 3 ≤ m)
    (ha : 1 ≤ a) (ham : a + m ≤ s.ws.length) (hf : s.lg.tot ≠ 0 → Okc s.ws s.lg.first ∧ Okc s.ws (gw s.ws (s.lg.first + 2))) (htot : s.lg.tot + 1 ≤ 65536) :
    Calls Tryz.prog 50 #[.pointer (some ⟨L.hb, 0, none⟩), .int .i64 z] w fun e w' => e = .returned (.tuple #[.int .i64 a, .int .i64 0]) ∧ (∃ u' : Int, HRep w' L { (s.largeGrown a (cutRun l1 a m (z + 3) l2) u') with u := u' + 1, lg := (s.lg.grown a).allocd (growW s.ws s.lg a) }) ∧ Fr L.fp w w' := by
  have Hk := hid hk
  have hwr : IntKind.i64.wrap (z + 3) = z + 3 := by rw [IntKind.wrap_i64]; omega
  have hle := hH.a.le
  have Hx := hid hx
  clear hk hx
  obtain ⟨⟨-, -, -, -, -, -⟩, ⟨-, q2, -, -, -⟩, ⟨r1, -, -, -⟩, -, -, -⟩ := hH.apart
  go_enter Tryz.func50, Tryz.ntmps50
  go_wp2_with fail
  refine (hClass L s z _ hH).mono ?_
  rintro e w1 ⟨rfl, hH1, hF1⟩
  obtain ⟨-, -, -, -, c4, -, -, -⟩ := hH1.reads
  rw [Hk.out]
  go_wp2_with fail
  refine (xTakeYes L.xb L.xlbs s.x (z + 3) a m l1 l2 _ hH1.x hl (by omega) Hx.out hno hm (by omega) (by omega)).mono ?_
  rintro e w2 ⟨rfl, hX2, hF2⟩
  have hH2 := hH1.room hF2 hX2
  obtain ⟨-, -, -, c3, -, -, -, -⟩ := hH2.reads
  clear c4
  go_wp2_with fail
  refine (rGrow L.lb L.ab L.wb s.lg s.ws s.u a _ hH2.lr hH2.a ha (by omega) hf htot (Ne.symm q2) (Ne.symm r1)).mono ?_
  rintro e w3 ⟨rfl, ⟨du, hdu, hA3⟩, hR3, hF3⟩
  have hH3 := hH2.large hF3 (by simp) hA3 hR3
  obtain ⟨-, -, -, c3', -, -, -, -⟩ := hH3.reads
  clear c3
  go_wp2_with fail
  refine (rAlloc L.lb L.ab L.wb (s.lg.grown a) _ _ _ hR3 hA3 (by simp [RS.grown]) ⟨by show 0 ≤ a; omega, by rw [growW_len]; show a + 2 < _; omega⟩ (Ne.symm q2) (Ne.symm r1)).mono ?_
  rintro e w4 ⟨rfl, hA4, hR4, hF4⟩
  clear c3'
  have hH4 := hH3.large hF4 (by simp) hA4 hR4
  go_wp2_with fail
  go_ret2
  have e3 : ∀ x ∈ [L.ab, L.wb, L.lb], x ∈ L.fp := by simp [HL.fp]
  exact ⟨rfl, ⟨s.u + du, hH4⟩, (((hF1.here (by simp)).trans (hF2.here (fpx L))).trans (hF3.here e3)).trans (hF4.here (by simp [HL.fp]))⟩
theorem ints_len {n : Nat} {l : List Int} (hd : l.Nodup) (h : ∀ c ∈ l, 0 ≤ c ∧ c < n) : l.length ≤ n := by
  have : l.length ≤ ((List.range n).map (fun (i : Nat) => (i : Int))).length := by
    refine List.Nodup.length_le_of_subset hd ?_
    intro c hc
    have := h c hc
    exact List.mem_map.2 ⟨c.toNat, List.mem_range.2 (by omega), by omega⟩
  simpa using this
theorem Cells.len {n : Nat} {l : List Int} (h : Cells n l) : l ≠ [] → l.length + 2 ≤ n := by
  intro hl
  have h0 : ∃ c, c ∈ l := by
    cases l with
    | nil => exact absurd rfl hl
    | cons a l => exact ⟨a, by simp⟩
  obtain ⟨c, hc⟩ := h0
  have h1 := h.ok c hc
  have := ints_len (n := n - 2) h.nodup (fun c hc => by have := h.ok c hc; omega)
  omega
theorem HI.runs_len {s : HS} {A : Rg} {z : Int → Int} (h : HI s A z) : s.x.l.length ≤ 65536 := by
  have h1 : (s.x.l.map (·.1)).Nodup := by
    rw [List.Nodup, List.pairwise_map]
    refine List.Pairwise.imp_of_mem ?_ h.rap
    intro a b ha _ hab e
    have := (h.runs a ha).1
    omega
  have := ints_len (n := s.ws.length) h1 (fun c hc => by
    obtain ⟨x, hx, rfl⟩ := List.mem_map.1 hc
    have := h.runs x hx
    have := h.top1
    have := h.top2
    omega)
  have := h.len
  simp at *
  omega
theorem HI.tot {s : HS} {A : Rg} {z : Int → Int} (h : HI s A z) {r : RS} {q : Option Nat} (hr : RI s.ws r (A q)) : r.tot + 1 ≤ 65536 := by
  have h1 := hr.tot
  have h2 := h.len
  by_cases e : (A q).all = []
  · rw [h1, e]; decide
  · have := hr.cells.len e; omega
structure Alc (s s' : HS) (A A' : Rg) (z z' : Int → Int) (q : Option Nat) (p word : Int) (n : Nat) : Prop where
  hi : HI s' A' z'
  row : ∃ W, A' = A.up q ⟨W, (A q).F, (A q).G, (A q).B ++ [p]⟩ ∧ ((A q).W = p :: W ∨ ((A q).W = W ∧ p ∉ (A q).all ∧ (q ≠ none → W = [])))
  room : n + 3 ≤ ln s.cls z' q p
  lns : ∀ q' c, c ∈ (A q').all → ln s.cls z' q' c = ln s.cls z q' c
  head : gw s'.ws p = word
  body : ∀ j : Int, 0 ≤ j → j < n → gw s'.ws (p + 3 + j) = 0
  holds : ∀ q' c, c ∈ (A q').all → (q' ≠ q ∨ c ≠ p) → Holds s s' z q' c
  cls : s'.cls = s.cls
  parity : s'.parity = s.parity
  edge : s'.edge = s.edge
  len : s'.ws.length = s.ws.length
  ring : q = if ixGe s.cls n = -1 then none else some (ixGe s.cls n).toNat
theorem Alc.mem {s s' : HS} {A A' : Rg} {z z' : Int → Int} {q : Option Nat} {p word : Int} {n : Nat} (h : Alc s s' A A' z z' q p word n) : p ∈ (A' q).all := by
  obtain ⟨W, rfl, _⟩ := h.row
  rw [Rg.up_same]
  simp [Rows.all]
theorem Alc.old {s s' : HS} {A A' : Rg} {z z' : Int → Int} {q : Option Nat} {p word : Int} {n : Nat} (h : Alc s s' A A' z z' q p word n) {q' : Option Nat} {c : Int} (hc : c ∈ (A q').all) : c ∈ (A' q').all := by
  obtain ⟨W, rfl, hW⟩ := h.row
  by_cases e : q' = q
  · subst e
    rw [Rg.up_same]
    rcases hW with hW | ⟨hW, _, _⟩ <;> simp [Rows.all, hW] at hc ⊢
    · rcases hc with hc | hc | hc | hc | hc <;> simp [hc]
    · rcases hc with hc | hc | hc | hc <;> simp [hc]
  · rw [Rg.up_ne A e]; exact hc
theorem up_up (A : Rg) (q : Option Nat) (R R' : Rows) : (A.up q R).up q R' = A.up q R' := by
  funext q'; unfold Rg.up; split <;> rfl
theorem Alc.fin {s s1 : HS} {A A1 : Rg} {z z1 : Int → Int} {q : Option Nat} {p : Int} {n : Nat} (word : Int) (h1 : HI s1 A1 z1)
    (row : ∃ W, A1 = A.up q ⟨W, (A q).F, (A q).G, (A q).B ++ [p]⟩ ∧ ((A q).W = p :: W ∨ ((A q).W = W ∧ p ∉ (A q).all ∧ (q ≠ none → W = []))))
    (room : n + 3 ≤ ln s.cls z1 q p) (lns : ∀ q' c, c ∈ (A q').all → ln s.cls z1 q' c = ln s.cls z q' c)
    (hold : ∀ q' c, c ∈ (A q').all → (q' ≠ q ∨ c ≠ p) → Holds s s1 z q' c) (cls : s1.cls = s.cls) (parity : s1.parity = s.parity) (edge : s1.edge = s.edge) (len : s1.ws.length = s.ws.length)
    (ring : q = if ixGe s.cls n = -1 then none else some (ixGe s.cls n).toNat) : Alc s (s1.laid p word n) A A1 z z1 q p word n := by
  have hp : p ∈ (A1 q).all := by
    obtain ⟨W, rfl, _⟩ := row
    rw [Rg.up_same]; simp [Rows.all]
  have sub : ∀ q' c, c ∈ (A q').all → c ∈ (A1 q').all := by
    intro q' c hc
    obtain ⟨W, rfl, hW⟩ := row
    by_cases e : q' = q
    · subst e
      rw [Rg.up_same]
      rcases hW with hW | ⟨hW, _, _⟩ <;> simp [Rows.all, hW] at hc ⊢
      · rcases hc with hc | hc | hc | hc | hc <;> simp [hc]
      · rcases hc with hc | hc | hc | hc <;> simp [hc]
    · rw [Rg.up_ne A e]; exact hc
  obtain ⟨g1, g2, g3, g4⟩ := h1.laid hp (n := n) (by rw [cls]; exact room) word
  refine { hi := g1, row := row, room := room, lns := lns, head := g2, body := g3, holds := fun q' c hc hne => ?_, cls := cls, parity := parity, edge := edge, len := ?_, ring := ring }
  · refine (hold q' c hc hne).trans (g4 q' c (sub q' c hc) ?_) (by rw [cls]; exact lns q' c hc)
    rcases hne with h | h
    · exact .inl (Ne.symm h)
    · exact .inr (Ne.symm h)
  · show (zr _ _ _).length = _
    rw [zr_len, sw_len, len]
theorem put_at (s : HS) (i v n : Int) (h0 : 0 ≤ i) (h1 : i < s.ws.length) : gw (s.put i v n).ws i = v := by
  show gw (sw s.ws i v) i = v
  rw [gw_sw _ _ _ _ h0 h1 h0, if_pos rfl]
theorem put_ne (s : HS) (i v n j : Int) (h0 : 0 ≤ i) (h1 : i < s.ws.length) (hj : 0 ≤ j) (hne : j ≠ i) : gw (s.put i v n).ws j = gw s.ws j := by
  show gw (sw s.ws i v) j = _
  rw [gw_sw _ _ _ _ h0 h1 hj, if_neg hne]
def How (s s' : HS) (A : Rg) (z z' : Int → Int) (q : Option Nat) (p : Int) (n : Nat) : Prop :=
  (∃ j W, q = some j ∧ (A (some j)).W = p :: W ∧ s'.top = s.top ∧ s'.x = s.x ∧ z' = z) ∨
  (∃ j c, q = some j ∧ (A (some j)).W = [] ∧ s.cls[j]? = some c ∧ p = s.top ∧ c + 3 ≤ s.edge - s.top ∧ s'.top = s.top + (c + 3) ∧ s'.x = s.x ∧ z' = z) ∨
  (q = none ∧ ∃ l1 m l2, s.x.l = l1 ++ (p, m) :: l2 ∧ (∀ y ∈ l1, y.2 < (n : Int) + 3) ∧ (n : Int) + 3 ≤ m ∧ s'.x = { s.x with l := cutRun l1 p m (n + 3) l2 } ∧ s'.top = s.top ∧ z' = upz z p (n + 3))
def NoCell (s : HS) (A : Rg) (n : Nat) : Prop :=
  (ixGe s.cls n = -1 ∧ ∀ y ∈ s.x.l, y.2 < (n : Int) + 3) ∨ ∃ (j : Nat) (c : Int), ixGe s.cls n = j ∧ (A (some j)).W = [] ∧ s.cls[j]? = some c ∧ s.edge - s.top < c + 3
def AllocPostX (L : HL) (s : HS) (A : Rg) (z : Int → Int) (word : Int) (n : Nat) (w : World) (e : Ending) (w' : World) : Prop :=
  Fr L.fp w w' ∧ ((e = .returned (.tuple #[.int .i64 0, .int .i64 2]) ∧ HRep w' L s ∧ NoCell s A n) ∨
    ∃ q p s' A' z', e = .returned (.tuple #[.int .i64 p, .int .i64 0]) ∧ HRep w' L s' ∧ Alc s s' A A' z z' q p word n ∧ How s s' A z z' q p n)
theorem hAllocLargeX (L : HL) (s : HS) (A : Rg) (z : Int → Int) (k a : Int) (n : Nat) (w : World) (hH : HRep w L s) (hI : HI s A z) (hd : Hd k n a s.parity) (hk : ixGe s.cls n = -1) :
    Calls Tryz.prog 16 #[.pointer (some ⟨L.hb, 0, none⟩), .int .i64 k, .int .i64 a, .int .i64 n] w (AllocPostX L s A z (packed k n a s.parity) n w) := by
  have hn := hd.s1
  have hrl := hI.runs_len
  rcases run_cases s.x.l (n + 3) with hno | ⟨l1, p, m, l2, hx, hno, hm⟩
  · refine (hAllocFull L s k a n w hH hd (fun w hH => hCellNoRoom L s n w hH hk (by omega) (by omega) hrl hno)).mono ?_
    rintro e w' ⟨rfl, hH', hF⟩
    exact ⟨hF, .inl ⟨rfl, hH', .inl ⟨hk, hno⟩⟩⟩
  · obtain ⟨r1, r2, r3⟩ := hI.runs (p, m) (by rw [hx]; simp)
    simp only at r1 r2 r3
    have ht1 := hI.top1
    have ht2 := hI.top2
    obtain ⟨g1, g2, g3⟩ : (∀ u', HI (s.largeGrown p (cutRun l1 p m (n + 3) l2) u') (A.up none ((A none).addW p)) (upz z p (n + 3))) ∧ _ ∧ _ := ⟨fun u' => (hI.largeGrown hx (n := n + 3) (by omega) hm u').1, fun u' => (hI.largeGrown hx (n := n + 3) (by omega) hm u').2.1, (hI.largeGrown hx (n := n + 3) (by omega) hm 0).2.2⟩
    have hlen : (growW s.ws s.lg p).length = s.ws.length := growW_len _ _ _
    refine (hAlloc L s k a n p (fun s' => ∃ u' : Int, s' = { (s.largeGrown p (cutRun l1 p m (n + 3) l2) u') with u := u' + 1, lg := (s.lg.grown p).allocd (growW s.ws s.lg p) }) w hH hd ?_ ?_ (by omega) (by omega)).mono ?_
    · intro w hH
      refine (hCellLarge L s n p m l1 l2 w hH hk (by omega) (by omega) hrl hx hno hm (by omega) (by omega) (fun h => hI.lring.okFirst h) (hI.tot hI.lring)).mono ?_
      rintro e w' ⟨rfl, ⟨u', hH'⟩, hF⟩
      exact ⟨rfl, ⟨_, ⟨u', rfl⟩, hH'⟩, hF⟩
    · rintro s' ⟨u', rfl⟩
      exact hlen
    · rintro e w' ⟨rfl, ⟨s1, ⟨u', rfl⟩, hH'⟩, hF⟩
      have hW : ((A.up none ((A none).addW p)) none).W = p :: (A none).W := by rw [Rg.up_same]; rfl
      obtain ⟨-, h2⟩ := (g1 u').lTook hW
      rw [up_up, Rg.up_same] at h2
      refine ⟨hF, .inr ⟨none, p, _, _, _, rfl, hH', Alc.fin _ h2 ⟨(A none).W, rfl, .inr ⟨rfl, ?_, by simp⟩⟩ ?_ (fun q' c hc => ((g2 u') q' c hc).2) ?_ rfl rfl rfl hlen (by simp [hk]), .inr (.inr ⟨rfl, l1, m, l2, hx, hno, hm, rfl, rfl, rfl⟩)⟩⟩
      · intro hc
        rcases g3 none p hc with h | h <;> exact absurd rfl h
      · simp [ln, upz]
      · intro q' c hc _
        exact ⟨((g2 u') q' c hc).1.head, ((g2 u') q' c hc).1.body⟩
theorem hAllocClassX (L : HL) (s : HS) (A : Rg) (z : Int → Int) (k a : Int) (n j : Nat) (w : World) (hH : HRep w L s) (hI : HI s A z) (hd : Hd k n a s.parity) (hj : ixGe s.cls n = j) :
    Calls Tryz.prog 16 #[.pointer (some ⟨L.hb, 0, none⟩), .int .i64 k, .int .i64 a, .int .i64 n] w (AllocPostX L s A z (packed k n a s.parity) n w) := by
  have hn := hd.s1
  have ht1 := hI.top1
  have ht2 := hI.top2
  have he := hI.edge
  have hq : (some j : Option Nat) = if ixGe s.cls n = -1 then none else some (ixGe s.cls n).toNat := by rw [hj, if_neg (by omega)]; simp
  obtain ⟨c, hc, hnc⟩ : ∃ c, s.cls[j]? = some c ∧ (n : Int) ≤ c := by
    rcases ixGe_cases s.cls n with h | ⟨j', hlt, h, c, hc, hs⟩
    · omega
    · have : j = j' := by omega
      subst this
      exact ⟨c, hc, hs⟩
  have hjl : j < s.cls.length := (List.getElem?_eq_some_iff.1 hc).1
  obtain ⟨r, hr⟩ : ∃ r, s.rs[j]? = some r := ⟨_, List.getElem?_eq_getElem (by rw [hI.nrs]; exact hjl)⟩
  have hcb := hI.cls c (List.mem_of_getElem? hc)
  have hR := hI.ring j r hr
  have hln : ∀ z' x, ln s.cls z' (some j) x = c + 3 := fun z' x => by simp [ln, hc]
  have hlnz : ∀ q' x, ln s.cls z q' x = ln s.cls z q' x := fun _ _ => rfl
  by_cases hw : 1 ≤ r.w
  · obtain ⟨p, W, hW⟩ : ∃ p W, (A (some j)).W = p :: W := by
      have := hR.nw
      cases e : (A (some j)).W with
      | nil => rw [e] at this; simp at this; omega
      | cons p W => exact ⟨p, W, rfl⟩
    obtain ⟨h1, h2⟩ := hI.took hr hW
    have hp : p ∈ (A (some j)).all := by simp [Rows.all, hW]
    have hb := hI.bound hp
    rw [hln] at hb
    have htot : r.tot ≠ 0 := by unfold RS.tot; omega
    refine (hAlloc L s k a n p (fun s' => s' = s.took j r) w hH hd ?_ ?_ (by omega) (by omega)).mono ?_
    · intro w hH
      refine (hCellWhite L s n j r w hH hj hr hw (hR.okFirst htot).1).mono ?_
      rintro e w' ⟨rfl, hH', hF⟩
      rw [h1]
      exact ⟨rfl, ⟨_, rfl, hH'⟩, hF⟩
    · rintro s' rfl; rfl
    · rintro e w' ⟨rfl, ⟨s1, rfl, hH'⟩, hF⟩
      exact ⟨hF, .inr ⟨some j, p, _, _, _, rfl, hH', Alc.fin _ h2 ⟨W, rfl, .inl hW⟩ (by rw [hln]; omega) (fun q' c _ => rfl) (fun q' c _ _ => ⟨rfl, fun _ _ _ => rfl⟩) rfl rfl rfl rfl hq, .inl ⟨j, W, rfl, hW, rfl, rfl, rfl⟩⟩⟩
  · have hw0 : r.w = 0 := by omega
    have hWn : (A (some j)).W = [] := by
      have := hR.nw
      rw [hw0] at this
      exact List.length_eq_zero_iff.1 this.symm
    by_cases hfit : c + 3 ≤ s.edge - s.top
    · have hlen : (growW s.ws r s.top).length = s.ws.length := growW_len _ _ _
      have hrl : j < s.rs.length := (List.getElem?_eq_some_iff.1 hr).1
      refine (hAlloc L s k a n s.top (fun s' => ∃ du : Nat, s' = (s.grown j c r du).took j (r.grown s.top)) w hH hd ?_ ?_ (by omega) (by omega)).mono ?_
      · intro w hH
        refine (hCellGrow L s n j r c w hH hj hr hc hw0 hcb.1 hcb.2 hfit ht1 he (fun h => hR.okFirst h) (hI.tot hR)).mono ?_
        rintro e w' ⟨rfl, ⟨du, _, hH'⟩, hF⟩
        exact ⟨rfl, ⟨_, ⟨du, rfl⟩, hH'⟩, hF⟩
      · rintro s' ⟨du, rfl⟩; exact hlen
      · rintro e w' ⟨rfl, ⟨s1, ⟨du, rfl⟩, hH'⟩, hF⟩
        obtain ⟨g1, g2, g3⟩ := hI.grown hr hc hfit du
        have hr1 : (s.grown j c r du).rs[j]? = some (r.grown s.top) := by simp [HS.grown, hrl]
        have hW : ((A.up (some j) ((A (some j)).addW s.top)) (some j)).W = s.top :: [] := by rw [Rg.up_same]; simp [Rows.addW, hWn]
        obtain ⟨-, h2⟩ := g1.took hr1 hW
        rw [up_up, Rg.up_same] at h2
        refine ⟨hF, .inr ⟨some j, s.top, _, _, _, rfl, hH', Alc.fin _ h2 ⟨[], rfl, .inr ⟨hWn, ?_, fun _ => rfl⟩⟩ (by rw [hln]; omega) (fun q' c _ => rfl) ?_ rfl rfl rfl hlen hq, .inr (.inl ⟨j, c, rfl, hWn, hc, rfl, hfit, rfl, rfl, rfl⟩)⟩⟩
        · intro hm
          rcases g3 _ _ hm with h | h <;> exact absurd rfl h
        · intro q' x hx _
          exact ⟨(g2 q' x hx).head, (g2 q' x hx).body⟩
    · refine (hAllocFull L s k a n w hH hd (fun w hH => hCellFull L s n j r c w hH hj hr hc hw0 hcb.1 hcb.2 (by omega))).mono ?_
      rintro e w' ⟨rfl, hH', hF⟩
      exact ⟨hF, .inl ⟨rfl, hH', .inr ⟨j, c, hj, hWn, hc, by omega⟩⟩⟩
theorem hAllocX (L : HL) (s : HS) (A : Rg) (z : Int → Int) (k a : Int) (n : Nat) (w : World) (hH : HRep w L s) (hI : HI s A z) (hd : Hd k n a s.parity) :
    Calls Tryz.prog 16 #[.pointer (some ⟨L.hb, 0, none⟩), .int .i64 k, .int .i64 a, .int .i64 n] w (AllocPostX L s A z (packed k n a s.parity) n w) := by
  rcases ixGe_cases s.cls n with h | ⟨j, _, h, _⟩
  · exact hAllocLargeX L s A z k a n w hH hI hd h
  · exact hAllocClassX L s A z k a n j w hH hI hd h
end Go.Proofs.YtklnpooninbogaaGreat
