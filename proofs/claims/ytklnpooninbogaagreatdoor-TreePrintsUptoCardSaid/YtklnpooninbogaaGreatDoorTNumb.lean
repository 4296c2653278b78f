import Derived.Test.YtklnpooninbogaaGreatDoorTLaid
import Derived.Test.YtklnpooninbogaaGreatDoorTDig
import Derived.Test.YtklnpooninbogaaGreatDoorWRoom
import Derived.Deep.RegionHeld3
namespace Go.Proofs.YtklnpooninbogaaGreatDoor
open Go Go.Proofs Go.RowKit

/-! law20.TreeNumbers. -/

/-- A number's object, and i objects of kind Ind, each leading to the one before. -/
structure NInd (s : HS) (A : Rg) (z : Int → Int) (kd wv : Int) (i : Nat) (obs : Nat → Ob) : Prop where
  hi : HI s A z
  par : s.parity = 0
  cls : s.cls = [1]
  edge : s.edge = 900
  top : s.top = 1 + 4 * ((i : Int) + 1)
  nW : ∀ q, (A q).W = []
  inn : ∀ j, j ≤ i → (obs j).In s A z
  o0 : (obs 0).k = kd ∧ (obs 0).n = 1 ∧ (obs 0).a = 0
  ok : ∀ j, j < i → (obs (j + 1)).k = 5 ∧ (obs (j + 1)).n = 1 ∧ (obs (j + 1)).a = 0
  w0 : s.wd (obs 0) 0 = wv
  wk : ∀ j, j < i → s.wd (obs (j + 1)) 0 = (obs j).p
theorem NInd.objW {s : HS} {A : Rg} {z : Int → Int} {kd wv : Int} {i : Nat} {obs : Nat → Ob} (h : NInd s A z kd wv i obs) {j : Nat} (hj : j ≤ i) : ObjW s.ws (obs j).p (obs j).k (obs j).n (obs j).a (obs j).m := by
  have ho := h.inn j hj
  have hb := ho.bound h.hi
  exact ⟨by omega, by omega, ho.head, ho.hd⟩
theorem NInd.chain {s : HS} {A : Rg} {z : Int → Int} {kd wv : Int} {i : Nat} {obs : Nat → Ob} (h : NInd s A z kd wv i obs) : ∀ j, j ≤ i → Chain s.ws j (obs j).p (obs 0).p
  | 0, _ => rfl
  | j + 1, hj => by
    obtain ⟨k1, k2, k3⟩ := h.ok j (by omega)
    have ho := h.objW (j := j + 1) hj
    rw [k1, k2] at ho
    refine ⟨((1 : Nat) : Int), _, _, ho, by omega, ?_⟩
    have hw := h.wk j (by omega)
    unfold HS.wd at hw
    rw [show (((0 : Nat) : Int)) = 0 from rfl] at hw
    rw [hw]
    exact h.chain j (by omega)
theorem NInd.len {s : HS} {A : Rg} {z : Int → Int} {kd wv : Int} {i : Nat} {obs : Nat → Ob} (h : NInd s A z kd wv i obs) : ∀ j, j ≤ i → (obs j).n = 1 := by
  intro j hj
  cases j with
  | zero => exact h.o0.2.1
  | succ j => exact (h.ok j (by omega)).2.1

def obsUp (obs : Nat → Ob) (i : Nat) (o : Ob) (j : Nat) : Ob := if j = i then o else obs j
theorem obsUp_eq (obs : Nat → Ob) (i : Nat) (o : Ob) : obsUp obs i o i = o := by simp [obsUp]
theorem obsUp_ne (obs : Nat → Ob) {i j : Nat} (o : Ob) (h : j ≠ i) : obsUp obs i o j = obs j := by simp [obsUp, h]

theorem alc_W {s s' : HS} {A A' : Rg} {z z' : Int → Int} {q : Option Nat} {p word : Int} {n : Nat} (h : Alc s s' A A' z z' q p word n) (hW : ∀ q, (A q).W = []) : ∀ q, (A' q).W = [] := by
  obtain ⟨W, rfl, hr⟩ := h.row
  intro q'
  by_cases e : q' = q
  · subst e
    rw [Rg.up_same]
    rcases hr with hr | hr
    · rw [hW] at hr; cases hr
    · rw [← hr.1]; exact hW _
  · rw [Rg.up_ne A e]; exact hW _

theorem NInd.step {s s' : HS} {A A' : Rg} {z z' : Int → Int} {kd wv p : Int} {i : Nat} {obs : Nat → Ob} (h : NInd s A z kd wv i obs) (ha : Alc s s' A A' z z' (some 0) p (packed 5 ((1 : Nat) : Int) 0 0) 1) (ht : s'.top = s.top + (1 + 3)) :
    (⟨some 0, p, 5, 1, 0, 0⟩ : Ob).In s' A' z' ∧ HI s' A' z' ∧ NInd (s'.put (p + 3 + ((0 : Nat) : Int)) (obs i).p 2) A' z' kd wv (i + 1) (obsUp obs (i + 1) ⟨some 0, p, 5, 1, 0, 0⟩) := by
  obtain ⟨n1, n2⟩ := Ob.In.new (k := 5) (a := 0) (m := 0) ha ⟨by decide, by decide, by decide, by decide, by decide, by decide, by decide, by decide⟩
  have hold : ∀ j, j ≤ i → (obs j).In s' A' z' ∧ ∀ k, k < (obs j).n → s'.wd (obs j) k = s.wd (obs j) k := fun j hj => Ob.In.alloc ha (h.inn j hj) (by rw [h.nW]; simp)
  have hne : ∀ j, j ≤ i → (⟨some 0, p, 5, 1, 0, 0⟩ : Ob).ne (obs j) := fun j hj => by
    have := alc_ne ha (h.inn j hj).mem (by rw [h.nW]; simp)
    rcases this with h1 | h1
    · exact .inl (fun e => h1 e.symm)
    · exact .inr (fun e => h1 e.symm)
  have hput : ∀ j, j ≤ i → (obs j).In (s'.put (p + 3 + ((0 : Nat) : Int)) (obs i).p 2) A' z' ∧ ∀ k, k < (obs j).n → (s'.put (p + 3 + ((0 : Nat) : Int)) (obs i).p 2).wd (obs j) k = s.wd (obs j) k := fun j hj => by
    obtain ⟨q1, q2, q3⟩ := Ob.In.put (j := 0) ha.hi n1 (hold j hj).1 Nat.zero_lt_one (obs i).p 2
    exact ⟨q1, fun k hk => (q2 (hne j hj) k hk).trans ((hold j hj).2 k hk)⟩
  obtain ⟨m1, m2, m3⟩ := Ob.In.put (j := 0) ha.hi n1 n1 Nat.zero_lt_one (obs i).p 2
  refine ⟨n1, ha.hi, ?_⟩
  have hs0 : ∀ j, j ≤ i → obsUp obs (i + 1) ⟨some 0, p, 5, 1, 0, 0⟩ j = obs j := fun j hj => obsUp_ne _ _ (by omega)
  refine ⟨ha.hi.putOb n1 Nat.zero_lt_one _ _, ha.parity.trans h.par, ha.cls.trans h.cls, ha.edge.trans h.edge, ?_, alc_W ha h.nW, ?_, ?_, ?_, ?_, ?_⟩
  · show s'.top = _
    rw [ht, h.top]; omega
  · intro j hj
    by_cases e : j = i + 1
    · subst e; rw [obsUp_eq]; exact m1
    · rw [hs0 j (by omega)]; exact (hput j (by omega)).1
  · rw [hs0 0 (by omega)]; exact h.o0
  · intro j hj
    by_cases e : j = i
    · subst e; rw [obsUp_eq]; exact ⟨rfl, rfl, rfl⟩
    · rw [hs0 (j + 1) (by omega)]; exact h.ok j (by omega)
  · rw [hs0 0 (by omega), (hput 0 (by omega)).2 0 (by rw [h.o0.2.1]; decide)]; exact h.w0
  · intro j hj
    by_cases e : j = i
    · subst e
      rw [obsUp_eq, hs0 j (by omega), m3 0 Nat.zero_lt_one, if_pos rfl]
    · rw [hs0 (j + 1) (by omega), hs0 j (by omega), (hput (j + 1) (by omega)).2 0 (by rw [(h.ok j (by omega)).2.1]; decide)]
      exact h.wk j (by omega)

theorem NInd.first {s' : HS} {A' : Rg} {z' : Int → Int} {kd p : Int} (hk : kd = 7 ∨ kd = 8) (wv : Int) (ha : Alc (HS.new 900 0 [1]) s' (fun _ => ⟨[], [], [], []⟩) A' (fun _ => 0) z' (some 0) p (packed kd ((1 : Nat) : Int) 0 0) 1) (ht : s'.top = (HS.new 900 0 [1]).top + (1 + 3)) :
    (⟨some 0, p, kd, 1, 0, 0⟩ : Ob).In s' A' z' ∧ HI s' A' z' ∧ NInd (s'.put (p + 3 + ((0 : Nat) : Int)) wv 2) A' z' kd wv 0 (fun _ => ⟨some 0, p, kd, 1, 0, 0⟩) := by
  obtain ⟨n1, n2⟩ := Ob.In.new (k := kd) (a := 0) (m := 0) ha ⟨by omega, by omega, by decide, by decide, by decide, by decide, by decide, by decide⟩
  obtain ⟨m1, m2, m3⟩ := Ob.In.put (j := 0) ha.hi n1 n1 Nat.zero_lt_one wv 2
  refine ⟨n1, ha.hi, ha.hi.putOb n1 Nat.zero_lt_one _ _, ha.parity, ha.cls, ha.edge, ?_, alc_W ha (fun _ => rfl), fun j _ => m1, ⟨rfl, rfl, rfl⟩, fun j hj => absurd hj (Nat.not_lt_zero _), ?_, fun j hj => absurd hj (Nat.not_lt_zero _)⟩
  · show s'.top = _
    rw [ht]; rfl
  · rw [m3 0 Nat.zero_lt_one, if_pos rfl]
theorem srcT_len (f : Bool) (b : Nat) (hb : Lt64 b) : (srcT f (b : Int)).length ≤ 4611686018427387904 := by
  cases f with
  | true =>
    have := hexL_len hb
    have e : srcT true (b : Int) = fltT b := by simp [srcT]
    have h2 : (fltT b).length ≤ 18 := by
      unfold fltT
      simp only [List.length_append, List.length_replicate, List.length_cons, List.length_nil]
      omega
    rw [e]; omega
  | false =>
    have := itoaLen b
    have h2 : (srcI (wrap64 (b : Int))).length ≤ 22 := by
      unfold srcI
      split
      · rw [List.length_cons]; omega
      · omega
    rw [srcF]; omega
theorem u64_back (b : Nat) (hb : Lt64 b) : IntKind.u64.wrap (wrap64 (b : Int)) = (b : Int) := by
  unfold Lt64 at hb
  rw [IntKind.wrap_u64]
  unfold wrap64
  omega

set_option maxRecDepth 200000 in
set_option maxHeartbeats 6400000 in
theorem lawTN (f : Bool) (kd : Int) (hfk : (f = false ∧ kd = 7) ∨ (f = true ∧ kd = 8)) (b : Nat) (hb : Lt64 b) (hops : Int) (w : World) (hk : 0 ≤ hops ∧ hops ≤ 255) (hnm : NamesAt w) (hnw : NumW w) :
    Calls Tryz.prog 4 #[.agg #[.bool f, .int .u64 b], .int .u8 hops] w fun e w' => e = .returned (.bool true) ∧ Fr [] w w' := by
  have hkd : kd = 7 ∨ kd = 8 := by rcases hfk with h | h <;> omega
  have HKD := hid hkd
  clear hkd
  have B0 := Blk.new w [.bool f, .int .u64 b] 35
  have hF0 : Fr [] w (w.alloc (.cells #[.bool f, .int .u64 b] 35)) := (Fr.refl _ w).alloc _
  have hnm0 := hnm.fr hF0
  have HB0 := hid B0
  have HF0 := hid hF0
  have HNM := hid hnm
  have HNW := hid hnw
  clear hF0 hnm hnw B0
  rcases hfk with ⟨rfl, rfl⟩ | ⟨rfl, rfl⟩
  · go_enter Tryz.func4, Tryz.ntmps4
    go_wp2_with fail
    refine (awake20 _ hnm0).mono ?_
    rintro e w1 ⟨rfl, hF1⟩
    have hR : RightC ((900 : Nat) : Int) ((0 : Nat) : Int) [1] := ⟨by decide, by decide, by decide, by decide, by decide, by decide, by simp [Inc]⟩
    have hB := Blk.new w1 [.int .i64 1] 3
    have hr : RdAt (w1.alloc (.cells #[.int .i64 1] 3)) w1.heap.size 0 ([1].map (.int .i64)) := ⟨hB.lt, fun i v h => by rw [Nat.zero_add]; exact hB.cell h⟩
    have Hc := hid (hNew 900 0 0 0 0 0 [1] w1.heap.size 0 1 (w1.alloc (.cells #[.int .i64 1] 3)) hR hr)
    have HB1 := hid (HB0.out.fr hF1 (by simp))
    have HF1 := hid (HF0.out.trans hF1)
    have hI0 := hid (HI.new hR)
    clear hB hr hF1 hnm0 hR
    go_wp2_with fail
    refine Hc.out.mono ?_
    rintro e w2 ⟨L, rfl, hH2, hF2, hLb⟩
    clear Hc
    have hp : ∀ w, (binOp .eql 23 (.pointer (some ⟨L.hb, 0, none⟩)) (.pointer none)).run Tryz.prog w = .ok (.bool false) w := fun _ => by kernel_rfl
    have hB2 := (HB1.out.alloc (.cells #[.int .i64 1] 3)).fr hF2 (by simp)
    have n0 := hB2.cell (i := 0) rfl
    have HB2 := hid hB2
    have hsz1 : w.heap.size < w1.heap.size := HB1.out.lt
    have hlow : ∀ x ∈ L.all, w.heap.size < x := fun x hx => by
      have := hLb x hx
      simp at this; omega
    have HLO := hid hlow
    have HF2 := hid ((HF1.out.alloc _).trans hF2)
    have HH2 := hid hH2
    clear hB2 hsz1 hlow hF2 hLb hH2
    obtain ⟨K, hK, hK2⟩ : ∃ K : Nat, hops % 200 = K ∧ K < 200 := ⟨(hops % 200).toNat, by omega, by omega⟩
    have HK := hid hK
    clear hK
    obtain ⟨wv, hwv⟩ : ∃ wv, wv = wrap64 (b : Int) := ⟨_, rfl⟩
    have HWV := hid hwv
    clear hwv
    go_wp2_with fail
    refine (hAllocRoom L (HS.new 900 0 [1]) _ _ 7 0 1 1 0 _ HH2.out hI0.out ⟨by decide, by decide, by decide, by decide, by decide, by decide, by decide, by decide⟩ (by decide) rfl (by decide) rfl (by decide)).mono ?_
    rintro e w3 ⟨p, s', A', z', rfl, hH3, hA3, ht3, hF3⟩
    obtain ⟨n1, n2, n3⟩ := NInd.first (kd := 7) (.inl rfl) wv hA3 ht3
    have hb3 := n1.bound n2
    have n0 := (HB2.out.fr hF3 (fun hc => by have := HLO.out _ (List.mem_cons_of_mem _ (List.mem_cons_of_mem _ hc)); omega)).cell (i := 1) rfl
    have HB3 := hid (HB2.out.fr hF3 (fun hc => by have := HLO.out _ (List.mem_cons_of_mem _ (List.mem_cons_of_mem _ hc)); omega))
    have HF3 := hid (HF2.out.step hF3 (fun x hx => .inr (by have := HLO.out x (List.mem_cons_of_mem _ (List.mem_cons_of_mem _ hx)); omega)))
    have HN1 := hid n1
    have HN3 := hid n3
    have HH3 := hid hH3
    have HB := hid hb3
    clear n1 n2 n3 hA3 ht3 hF3 hH3 hb3 HH2
    go_wp2_with fail
    rw [← HWV.out]
    refine (hSet L s' p 7 1 0 0 0 wv _ HH3.out (by have : (1 : Int) ≤ p := HB.out.1; omega) (by have := HB.out.2; simp at this; omega) HN1.out.head HN1.out.hd (by decide) (by decide)).mono ?_
    rintro e w4 ⟨rfl, hH4, hF4⟩
    have hlo2 : ∀ x ∈ [L.ab, L.wb], w.heap.size < x := fun x hx => HLO.out x (by simp only [HL.all, HL.fp]; simp at hx; rcases hx with h | h <;> simp [h])
    have HL2 := hid hlo2
    have HB4 := hid (HB3.out.fr hF4 (fun hc => by have := hlo2 _ hc; omega))
    have HF4 := hid (HF3.out.step hF4 (fun x hx => .inr (by have := hlo2 x hx; omega)))
    have HH4 : Hid (HRep w4 L (s'.put (p + 3 + ((0 : Nat) : Int)) wv 2)) := hid hH4
    clear hH4 hF4 hlo2 HH3 n0
    go_wp2_with fail
    go_loopw [8, 10] (fun av iv wr => ∃ (i : Nat) (s : HS) (A : Rg) (z : Int → Int) (obs : Nat → Ob), i ≤ K ∧ iv = .int .i64 i ∧ av = .int .i64 (obs i).p ∧ HRep wr L s ∧ NInd s A z 7 wv i obs ∧ Blk wr w.heap.size [.bool false, .int .u64 b] 35 ∧ Fr [] w wr) (fun _ iv _ => K - (intOf iv).toNat)
    case atStart => exact ⟨0, _, A', z', _, Nat.zero_le _, rfl, rfl, HH4.out, HN3.out, HB4.out, HF4.out⟩
    case round =>
      obtain ⟨i, s, A, z, obs, hi, rfl, rfl, hH, hN, hB, hF⟩ := hrel
      obtain ⟨a, ha⟩ : ∃ a, a = (obs i).p := ⟨_, rfl⟩
      rw [← ha]
      have HA := hid ha
      have HH := hid hH
      have HN := hid hN
      have HBx := hid hB
      have HF := hid hF
      have hkk : hops % 200 = K := HK.out
      clear ha hH hN hB hF HH4 HN3 HB4 HF4
      by_cases hlt : (i : Int) < (K : Int)
      · have hi0 : ixGe s.cls (((1 : Nat) : Int)) = ((0 : Nat) : Int) := by rw [HN.out.cls]; decide
        have hc0 : s.cls[0]? = some 1 := by rw [HN.out.cls]; rfl
        have hd0 : Hd 5 ((1 : Nat) : Int) 0 s.parity := by rw [HN.out.par]; exact ⟨by decide, by decide, by decide, by decide, by decide, by decide, by decide, by decide⟩
        have hft : (1 : Int) + 3 ≤ s.edge - s.top := by rw [HN.out.edge, HN.out.top]; omega
        have HQ := hid (And.intro hi0 (And.intro hc0 (And.intro hd0 hft)))
        clear hi0 hc0 hd0 hft
        go_wp2_with fail
        refine (hAllocRoom L s A z 5 0 1 1 0 wr HH.out HN.out.hi HQ.out.2.2.1 HQ.out.1 HQ.out.2.1 (by decide) (HN.out.nW _) HQ.out.2.2.2).mono ?_
        rintro e w5 ⟨p', s5, A5, z5, rfl, hH5, hA5, ht5, hF5⟩
        rw [HN.out.par] at hA5
        obtain ⟨n1, n2, n3⟩ := HN.out.step hA5 ht5
        have hb5 := n1.bound n2
        have HB5 := hid (HBx.out.fr hF5 (fun hc => by have := HLO.out _ (List.mem_cons_of_mem _ (List.mem_cons_of_mem _ hc)); omega))
        have HF5 := hid (HF.out.step hF5 (fun x hx => .inr (by have := HLO.out x (List.mem_cons_of_mem _ (List.mem_cons_of_mem _ hx)); omega)))
        have HN1' := hid n1
        have HN5 := hid n3
        have HH5 := hid hH5
        have HBB := hid hb5
        clear n1 n2 n3 hA5 ht5 hF5 hH5 hb5
        go_wp2_with fail
        refine (hSet L s5 p' 5 1 0 0 0 a _ HH5.out (by have : (1 : Int) ≤ p' := HBB.out.1; omega) (by have := HBB.out.2; simp at this; omega) HN1'.out.head HN1'.out.hd (by decide) (by decide)).mono ?_
        rintro e w6 ⟨rfl, hH6, hF6⟩
        have HB6 := hid (HB5.out.fr hF6 (fun hc => by have := HL2.out _ hc; omega))
        have HF6 := hid (HF5.out.step hF6 (fun x hx => .inr (by have := HL2.out x hx; omega)))
        have HH6 : Hid (HRep w6 L (s5.put (p' + 3 + ((0 : Nat) : Int)) (obs i).p 2)) := hid (by rw [← HA.out]; exact hH6)
        clear hH6 hF6
        go_wp2_with fail
        go_roundw
        case rel => exact ⟨i + 1, _, A5, z5, _, by omega, by go_num, by rw [obsUp_eq], HH6.out, HN5.out, HB6.out, HF6.out⟩
        case measure => simp [intOf]; omega
      · obtain ⟨o1, o2, o3⟩ := HN.out.o0
        have hO0 := HN.out.objW (j := 0) (Nat.zero_le _)
        have hwv := HN.out.w0
        have hrd : RdT s.ws 1 a 4096 (.mk 7 0 false (IntKind.u64.wrap wv) []) 4095 := by
          have hb := (HN.out.inn i (Nat.le_refl _)).bound HN.out.hi
          refine .inr ⟨by rw [HA.out]; omega, by decide, i, (obs 0).p, _, _, _, _, by rw [HA.out]; exact HN.out.chain i (Nat.le_refl _), hO0, by rw [o1]; decide, .inl ⟨o1, by rw [o2]; decide, ?_, rfl⟩⟩
          rw [show gw s.ws ((obs 0).p + 3 + 0) = wv from hwv]
        rw [HWV.out, u64_back b hb] at hrd
        have HRD := hid hrd
        clear hrd o1 o2 o3 hO0 hwv
        go_wp2_with fail
        refine (tRead L s a 1 _ _ _ HH.out (by decide) HRD.out).mono ?_
        rintro e w5 ⟨v, rfl, ⟨sv, rfl, hkk⟩, -, hF5⟩
        obtain ⟨A0, c0, rfl⟩ := hkk.form
        rw [show trAgg (Tr.mk 7 0 false (b : Int) []).k (Tr.mk 7 0 false (b : Int) []).t (Tr.mk 7 0 false (b : Int) []).f (Tr.mk 7 0 false (b : Int) []).b (.slice A0 (Tr.mk 7 0 false (b : Int) []).ks.length c0) = .agg #[.int .i64 7, .int .i64 0, .bool false, .int .u64 b, .slice A0 0 c0] from rfl]
        have HB5 := hid (HBx.out.fr hF5 (fun hc => by have := HL2.out L.ab (by simp); have := List.mem_singleton.1 hc; omega))
        have HF5 := hid (HF.out.step hF5 (fun x hx => .inr (by have := HL2.out x (by simp at hx; simp [hx]); omega)))
        have HKK := hid hkk
        clear hkk hF5
        go_wp2_with fail
        obtain ⟨w6, hw6⟩ : ∃ w6, w6 = w5.alloc (.cells #[.int .i64 7, .int .i64 0, .bool false, .int .u64 b, .slice A0 0 c0] 38) := ⟨_, rfl⟩
        have hF6 : Fr [] w5 w6 := by rw [hw6]; exact (Fr.refl [] w5).alloc _
        have hT6 : Blk w6 w5.heap.size (trCells 7 0 false b (.slice A0 0 c0)) 38 := by rw [hw6]; exact Blk.new w5 _ _
        have hN6 := HB5.out.fr hF6 (by simp)
        have hprt : prT [] srcT 1 (.mk 7 0 false (b : Int) []) = srcT false b := prT_num rfl
        have hpr : ∀ wx, Fr [] w6 wx → Calls Tryz.prog 13 #[.agg #[.int .i64 7, .int .i64 0, .bool false, .int .u64 b, .slice A0 0 c0], .slice none 0 0] wx (NumPost (srcT false b) wx) := fun wx hFx => by
          rw [← hprt]
          have hFw := (HF5.out.trans hF6).trans hFx
          exact tPrint srcT (fun _ c => 0 ≤ c ∧ c < 18446744073709551616) 1 (.mk 7 0 false (b : Int) []) (trAgg 7 0 false b (.slice A0 0 c0)) (.slice none 0 0) [] (fun g => wr.heap.size ≤ g) wx (fun w' hw' g c hq w'' hw'' => shNum g c hq.1 hq.2 w'' (HNW.out.fr ((hFw.trans hw').trans hw''))) (HNM.out.fr hFw) ⟨none, 0, rfl, Nat.zero_le _, fun i s hs => by simp at hs⟩ ⟨_, rfl, HKK.out.fr (hF6.trans hFx) (by simp)⟩ ⟨fun _ => ⟨by show (0 : Int) ≤ (b : Int); omega, by show (b : Int) < _; unfold Lt64 at hb; omega⟩, fun x hx => by cases hx⟩ (by rw [hprt]; exact srcT_len false b hb)
        have hnb : ∀ wx, Calls Tryz.prog 14 #[.agg #[.bool false, .int .u64 b]] wx (NumPost (srcT false b) wx) := fun wx => rNumber false b hb wx
        have hneq : ∀ wx, (binOp .eql 35 (.agg #[.bool false, .int .u64 b]) (.agg #[.bool false, .int .u64 b])).run Tryz.prog wx = .ok (.bool true) wx := fun wx => by rw [num_eq]; simp
        have hsz : w5.heap.size < w6.heap.size := hT6.lt
        have hsz2 : w.heap.size < w6.heap.size := hN6.lt
        have hS : ∀ wx, Fr [] w6 wx → wx.cell? ⟨w5.heap.size, 0, none⟩ = some (.int .i64 7) ∧ wx.cell? ⟨w5.heap.size, 1, none⟩ = some (.int .i64 0) ∧ wx.cell? ⟨w5.heap.size, 2, none⟩ = some (.bool false) ∧ wx.cell? ⟨w5.heap.size, 3, none⟩ = some (.int .u64 b) ∧ wx.cell? ⟨w5.heap.size, 4, none⟩ = some (.slice A0 0 c0) ∧ wx.cell? ⟨w.heap.size, 0, none⟩ = some (.bool false) ∧ wx.cell? ⟨w.heap.size, 1, none⟩ = some (.int .u64 b) := fun wx hx =>
          ⟨(hT6.fr hx (by simp)).cell (i := 0) rfl, (hT6.fr hx (by simp)).cell (i := 1) rfl, (hT6.fr hx (by simp)).cell (i := 2) rfl, (hT6.fr hx (by simp)).cell (i := 3) rfl, (hT6.fr hx (by simp)).cell (i := 4) rfl, (hN6.fr hx (by simp)).cell (i := 0) rfl, (hN6.fr hx (by simp)).cell (i := 1) rfl⟩
        rw [← hw6]
        have hs0 := hS w6.drew ((Fr.refl [] w6).drew)
        have HPR := hid hpr
        have HNB := hid hnb
        have HS := hid hS
        have HF6 := hid (HF5.out.trans hF6)
        obtain ⟨T, hT⟩ : ∃ T, T = srcT false (b : Int) := ⟨_, rfl⟩
        rw [← hT] at HPR HNB
        clear hpr hnb hS hF6 hT6 hN6 hprt hw6 hT
        go_region_held3 (fun w' => w'.cell? ⟨w5.heap.size, 0, none⟩ = some (.int .i64 7) ∧ w'.cell? ⟨w5.heap.size, 1, none⟩ = some (.int .i64 0) ∧ w'.cell? ⟨w5.heap.size, 2, none⟩ = some (.bool false) ∧ w'.cell? ⟨w5.heap.size, 3, none⟩ = some (.int .u64 b) ∧ w'.cell? ⟨w5.heap.size, 4, none⟩ = some (.slice A0 0 c0) ∧ w'.cell? ⟨w.heap.size, 0, none⟩ = some (.bool false) ∧ w'.cell? ⟨w.heap.size, 1, none⟩ = some (.int .u64 b))
          (first
            | (with_reducible exact hs0)
            | (with_reducible exact hs7)
            | (with_reducible exact hs8)
            | go_keep)
          (first
            | (go_at_call 13; refine (HPR.out _ ?_).mono ?_; (first | exact (Fr.refl [] w6).drew | exact HF8.out); rintro e w7 ⟨rfl, hF7⟩; unfold str; have HF7 : Hid (Fr [] w6 w7) := (by first | exact ((Fr.refl [] w6).drew).trans hF7 | exact HF8.out.trans hF7); have hs7 := HS.out w7 HF7.out; clear hF7)
            | (go_at_call 14; refine (HNB.out _).mono ?_; rintro e w8 ⟨rfl, hF8⟩; unfold str; have HF8 : Hid (Fr [] w6 w8) := (by first | exact ((Fr.refl [] w6).drew).trans hF8 | exact HF7.out.trans hF8); have hs8 := HS.out w8 HF8.out; clear hF8))
        all_goals
          go_wp2_with fail
          go_ret
          exact ⟨rfl, HF6.out.trans HF8.out⟩
  · go_enter Tryz.func4, Tryz.ntmps4
    go_wp2_with fail
    refine (awake20 _ hnm0).mono ?_
    rintro e w1 ⟨rfl, hF1⟩
    have hR : RightC ((900 : Nat) : Int) ((0 : Nat) : Int) [1] := ⟨by decide, by decide, by decide, by decide, by decide, by decide, by simp [Inc]⟩
    have hB := Blk.new w1 [.int .i64 1] 3
    have hr : RdAt (w1.alloc (.cells #[.int .i64 1] 3)) w1.heap.size 0 ([1].map (.int .i64)) := ⟨hB.lt, fun i v h => by rw [Nat.zero_add]; exact hB.cell h⟩
    have Hc := hid (hNew 900 0 0 0 0 0 [1] w1.heap.size 0 1 (w1.alloc (.cells #[.int .i64 1] 3)) hR hr)
    have HB1 := hid (HB0.out.fr hF1 (by simp))
    have HF1 := hid (HF0.out.trans hF1)
    have hI0 := hid (HI.new hR)
    clear hB hr hF1 hnm0 hR
    go_wp2_with fail
    refine Hc.out.mono ?_
    rintro e w2 ⟨L, rfl, hH2, hF2, hLb⟩
    clear Hc
    have hp : ∀ w, (binOp .eql 23 (.pointer (some ⟨L.hb, 0, none⟩)) (.pointer none)).run Tryz.prog w = .ok (.bool false) w := fun _ => by kernel_rfl
    have hB2 := (HB1.out.alloc (.cells #[.int .i64 1] 3)).fr hF2 (by simp)
    have n0 := hB2.cell (i := 0) rfl
    have HB2 := hid hB2
    have hsz1 : w.heap.size < w1.heap.size := HB1.out.lt
    have hlow : ∀ x ∈ L.all, w.heap.size < x := fun x hx => by
      have := hLb x hx
      simp at this; omega
    have HLO := hid hlow
    have HF2 := hid ((HF1.out.alloc _).trans hF2)
    have HH2 := hid hH2
    clear hB2 hsz1 hlow hF2 hLb hH2
    obtain ⟨K, hK, hK2⟩ : ∃ K : Nat, hops % 200 = K ∧ K < 200 := ⟨(hops % 200).toNat, by omega, by omega⟩
    have HK := hid hK
    clear hK
    obtain ⟨wv, hwv⟩ : ∃ wv, wv = wrap64 (b : Int) := ⟨_, rfl⟩
    have HWV := hid hwv
    clear hwv
    go_wp2_with fail
    refine (hAllocRoom L (HS.new 900 0 [1]) _ _ 8 0 1 1 0 _ HH2.out hI0.out ⟨by decide, by decide, by decide, by decide, by decide, by decide, by decide, by decide⟩ (by decide) rfl (by decide) rfl (by decide)).mono ?_
    rintro e w3 ⟨p, s', A', z', rfl, hH3, hA3, ht3, hF3⟩
    obtain ⟨n1, n2, n3⟩ := NInd.first (kd := 8) (.inr rfl) wv hA3 ht3
    have hb3 := n1.bound n2
    have n0 := (HB2.out.fr hF3 (fun hc => by have := HLO.out _ (List.mem_cons_of_mem _ (List.mem_cons_of_mem _ hc)); omega)).cell (i := 1) rfl
    have HB3 := hid (HB2.out.fr hF3 (fun hc => by have := HLO.out _ (List.mem_cons_of_mem _ (List.mem_cons_of_mem _ hc)); omega))
    have HF3 := hid (HF2.out.step hF3 (fun x hx => .inr (by have := HLO.out x (List.mem_cons_of_mem _ (List.mem_cons_of_mem _ hx)); omega)))
    have HN1 := hid n1
    have HN3 := hid n3
    have HH3 := hid hH3
    have HB := hid hb3
    clear n1 n2 n3 hA3 ht3 hF3 hH3 hb3 HH2
    go_wp2_with fail
    rw [← HWV.out]
    refine (hSet L s' p 8 1 0 0 0 wv _ HH3.out (by have : (1 : Int) ≤ p := HB.out.1; omega) (by have := HB.out.2; simp at this; omega) HN1.out.head HN1.out.hd (by decide) (by decide)).mono ?_
    rintro e w4 ⟨rfl, hH4, hF4⟩
    have hlo2 : ∀ x ∈ [L.ab, L.wb], w.heap.size < x := fun x hx => HLO.out x (by simp only [HL.all, HL.fp]; simp at hx; rcases hx with h | h <;> simp [h])
    have HL2 := hid hlo2
    have HB4 := hid (HB3.out.fr hF4 (fun hc => by have := hlo2 _ hc; omega))
    have HF4 := hid (HF3.out.step hF4 (fun x hx => .inr (by have := hlo2 x hx; omega)))
    have HH4 : Hid (HRep w4 L (s'.put (p + 3 + ((0 : Nat) : Int)) wv 2)) := hid hH4
    clear hH4 hF4 hlo2 HH3 n0
    go_wp2_with fail
    go_loopw [8, 10] (fun av iv wr => ∃ (i : Nat) (s : HS) (A : Rg) (z : Int → Int) (obs : Nat → Ob), i ≤ K ∧ iv = .int .i64 i ∧ av = .int .i64 (obs i).p ∧ HRep wr L s ∧ NInd s A z 8 wv i obs ∧ Blk wr w.heap.size [.bool true, .int .u64 b] 35 ∧ Fr [] w wr) (fun _ iv _ => K - (intOf iv).toNat)
    case atStart => exact ⟨0, _, A', z', _, Nat.zero_le _, rfl, rfl, HH4.out, HN3.out, HB4.out, HF4.out⟩
    case round =>
      obtain ⟨i, s, A, z, obs, hi, rfl, rfl, hH, hN, hB, hF⟩ := hrel
      obtain ⟨a, ha⟩ : ∃ a, a = (obs i).p := ⟨_, rfl⟩
      rw [← ha]
      have HA := hid ha
      have HH := hid hH
      have HN := hid hN
      have HBx := hid hB
      have HF := hid hF
      have hkk : hops % 200 = K := HK.out
      clear ha hH hN hB hF HH4 HN3 HB4 HF4
      by_cases hlt : (i : Int) < (K : Int)
      · have hi0 : ixGe s.cls (((1 : Nat) : Int)) = ((0 : Nat) : Int) := by rw [HN.out.cls]; decide
        have hc0 : s.cls[0]? = some 1 := by rw [HN.out.cls]; rfl
        have hd0 : Hd 5 ((1 : Nat) : Int) 0 s.parity := by rw [HN.out.par]; exact ⟨by decide, by decide, by decide, by decide, by decide, by decide, by decide, by decide⟩
        have hft : (1 : Int) + 3 ≤ s.edge - s.top := by rw [HN.out.edge, HN.out.top]; omega
        have HQ := hid (And.intro hi0 (And.intro hc0 (And.intro hd0 hft)))
        clear hi0 hc0 hd0 hft
        go_wp2_with fail
        refine (hAllocRoom L s A z 5 0 1 1 0 wr HH.out HN.out.hi HQ.out.2.2.1 HQ.out.1 HQ.out.2.1 (by decide) (HN.out.nW _) HQ.out.2.2.2).mono ?_
        rintro e w5 ⟨p', s5, A5, z5, rfl, hH5, hA5, ht5, hF5⟩
        rw [HN.out.par] at hA5
        obtain ⟨n1, n2, n3⟩ := HN.out.step hA5 ht5
        have hb5 := n1.bound n2
        have HB5 := hid (HBx.out.fr hF5 (fun hc => by have := HLO.out _ (List.mem_cons_of_mem _ (List.mem_cons_of_mem _ hc)); omega))
        have HF5 := hid (HF.out.step hF5 (fun x hx => .inr (by have := HLO.out x (List.mem_cons_of_mem _ (List.mem_cons_of_mem _ hx)); omega)))
        have HN1' := hid n1
        have HN5 := hid n3
        have HH5 := hid hH5
        have HBB := hid hb5
        clear n1 n2 n3 hA5 ht5 hF5 hH5 hb5
        go_wp2_with fail
        refine (hSet L s5 p' 5 1 0 0 0 a _ HH5.out (by have : (1 : Int) ≤ p' := HBB.out.1; omega) (by have := HBB.out.2; simp at this; omega) HN1'.out.head HN1'.out.hd (by decide) (by decide)).mono ?_
        rintro e w6 ⟨rfl, hH6, hF6⟩
        have HB6 := hid (HB5.out.fr hF6 (fun hc => by have := HL2.out _ hc; omega))
        have HF6 := hid (HF5.out.step hF6 (fun x hx => .inr (by have := HL2.out x hx; omega)))
        have HH6 : Hid (HRep w6 L (s5.put (p' + 3 + ((0 : Nat) : Int)) (obs i).p 2)) := hid (by rw [← HA.out]; exact hH6)
        clear hH6 hF6
        go_wp2_with fail
        go_roundw
        case rel => exact ⟨i + 1, _, A5, z5, _, by omega, by go_num, by rw [obsUp_eq], HH6.out, HN5.out, HB6.out, HF6.out⟩
        case measure => simp [intOf]; omega
      · obtain ⟨o1, o2, o3⟩ := HN.out.o0
        have hO0 := HN.out.objW (j := 0) (Nat.zero_le _)
        have hwv := HN.out.w0
        have hrd : RdT s.ws 1 a 4096 (.mk 8 0 true (IntKind.u64.wrap wv) []) 4095 := by
          have hb := (HN.out.inn i (Nat.le_refl _)).bound HN.out.hi
          refine .inr ⟨by rw [HA.out]; omega, by decide, i, (obs 0).p, _, _, _, _, by rw [HA.out]; exact HN.out.chain i (Nat.le_refl _), hO0, by rw [o1]; decide, .inr <| .inl ⟨o1, by rw [o2]; decide, ?_, rfl⟩⟩
          rw [show gw s.ws ((obs 0).p + 3 + 0) = wv from hwv]
        rw [HWV.out, u64_back b hb] at hrd
        have HRD := hid hrd
        clear hrd o1 o2 o3 hO0 hwv
        go_wp2_with fail
        refine (tRead L s a 1 _ _ _ HH.out (by decide) HRD.out).mono ?_
        rintro e w5 ⟨v, rfl, ⟨sv, rfl, hkk⟩, -, hF5⟩
        obtain ⟨A0, c0, rfl⟩ := hkk.form
        rw [show trAgg (Tr.mk 8 0 true (b : Int) []).k (Tr.mk 8 0 true (b : Int) []).t (Tr.mk 8 0 true (b : Int) []).f (Tr.mk 8 0 true (b : Int) []).b (.slice A0 (Tr.mk 8 0 true (b : Int) []).ks.length c0) = .agg #[.int .i64 8, .int .i64 0, .bool true, .int .u64 b, .slice A0 0 c0] from rfl]
        have HB5 := hid (HBx.out.fr hF5 (fun hc => by have := HL2.out L.ab (by simp); have := List.mem_singleton.1 hc; omega))
        have HF5 := hid (HF.out.step hF5 (fun x hx => .inr (by have := HL2.out x (by simp at hx; simp [hx]); omega)))
        have HKK := hid hkk
        clear hkk hF5
        go_wp2_with fail
        obtain ⟨w6, hw6⟩ : ∃ w6, w6 = w5.alloc (.cells #[.int .i64 8, .int .i64 0, .bool true, .int .u64 b, .slice A0 0 c0] 38) := ⟨_, rfl⟩
        have hF6 : Fr [] w5 w6 := by rw [hw6]; exact (Fr.refl [] w5).alloc _
        have hT6 : Blk w6 w5.heap.size (trCells 8 0 true b (.slice A0 0 c0)) 38 := by rw [hw6]; exact Blk.new w5 _ _
        have hN6 := HB5.out.fr hF6 (by simp)
        have hprt : prT [] srcT 1 (.mk 8 0 true (b : Int) []) = srcT true b := prT_num rfl
        have hpr : ∀ wx, Fr [] w6 wx → Calls Tryz.prog 13 #[.agg #[.int .i64 8, .int .i64 0, .bool true, .int .u64 b, .slice A0 0 c0], .slice none 0 0] wx (NumPost (srcT true b) wx) := fun wx hFx => by
          rw [← hprt]
          have hFw := (HF5.out.trans hF6).trans hFx
          exact tPrint srcT (fun _ c => 0 ≤ c ∧ c < 18446744073709551616) 1 (.mk 8 0 true (b : Int) []) (trAgg 8 0 true b (.slice A0 0 c0)) (.slice none 0 0) [] (fun g => wr.heap.size ≤ g) wx (fun w' hw' g c hq w'' hw'' => shNum g c hq.1 hq.2 w'' (HNW.out.fr ((hFw.trans hw').trans hw''))) (HNM.out.fr hFw) ⟨none, 0, rfl, Nat.zero_le _, fun i s hs => by simp at hs⟩ ⟨_, rfl, HKK.out.fr (hF6.trans hFx) (by simp)⟩ ⟨fun _ => ⟨by show (0 : Int) ≤ (b : Int); omega, by show (b : Int) < _; unfold Lt64 at hb; omega⟩, fun x hx => by cases hx⟩ (by rw [hprt]; exact srcT_len true b hb)
        have hnb : ∀ wx, Calls Tryz.prog 14 #[.agg #[.bool true, .int .u64 b]] wx (NumPost (srcT true b) wx) := fun wx => rNumber true b hb wx
        have hneq : ∀ wx, (binOp .eql 35 (.agg #[.bool true, .int .u64 b]) (.agg #[.bool true, .int .u64 b])).run Tryz.prog wx = .ok (.bool true) wx := fun wx => by rw [num_eq]; simp
        have hsz : w5.heap.size < w6.heap.size := hT6.lt
        have hsz2 : w.heap.size < w6.heap.size := hN6.lt
        have hS : ∀ wx, Fr [] w6 wx → wx.cell? ⟨w5.heap.size, 0, none⟩ = some (.int .i64 8) ∧ wx.cell? ⟨w5.heap.size, 1, none⟩ = some (.int .i64 0) ∧ wx.cell? ⟨w5.heap.size, 2, none⟩ = some (.bool true) ∧ wx.cell? ⟨w5.heap.size, 3, none⟩ = some (.int .u64 b) ∧ wx.cell? ⟨w5.heap.size, 4, none⟩ = some (.slice A0 0 c0) ∧ wx.cell? ⟨w.heap.size, 0, none⟩ = some (.bool true) ∧ wx.cell? ⟨w.heap.size, 1, none⟩ = some (.int .u64 b) := fun wx hx =>
          ⟨(hT6.fr hx (by simp)).cell (i := 0) rfl, (hT6.fr hx (by simp)).cell (i := 1) rfl, (hT6.fr hx (by simp)).cell (i := 2) rfl, (hT6.fr hx (by simp)).cell (i := 3) rfl, (hT6.fr hx (by simp)).cell (i := 4) rfl, (hN6.fr hx (by simp)).cell (i := 0) rfl, (hN6.fr hx (by simp)).cell (i := 1) rfl⟩
        rw [← hw6]
        have hs0 := hS w6.drew ((Fr.refl [] w6).drew)
        have HPR := hid hpr
        have HNB := hid hnb
        have HS := hid hS
        have HF6 := hid (HF5.out.trans hF6)
        obtain ⟨T, hT⟩ : ∃ T, T = srcT true (b : Int) := ⟨_, rfl⟩
        rw [← hT] at HPR HNB
        clear hpr hnb hS hF6 hT6 hN6 hprt hw6 hT
        go_region_held3 (fun w' => w'.cell? ⟨w5.heap.size, 0, none⟩ = some (.int .i64 8) ∧ w'.cell? ⟨w5.heap.size, 1, none⟩ = some (.int .i64 0) ∧ w'.cell? ⟨w5.heap.size, 2, none⟩ = some (.bool true) ∧ w'.cell? ⟨w5.heap.size, 3, none⟩ = some (.int .u64 b) ∧ w'.cell? ⟨w5.heap.size, 4, none⟩ = some (.slice A0 0 c0) ∧ w'.cell? ⟨w.heap.size, 0, none⟩ = some (.bool true) ∧ w'.cell? ⟨w.heap.size, 1, none⟩ = some (.int .u64 b))
          (first
            | (with_reducible exact hs0)
            | (with_reducible exact hs7)
            | (with_reducible exact hs8)
            | go_keep)
          (first
            | (go_at_call 13; refine (HPR.out _ ?_).mono ?_; (first | exact (Fr.refl [] w6).drew | exact HF8.out); rintro e w7 ⟨rfl, hF7⟩; unfold str; have HF7 : Hid (Fr [] w6 w7) := (by first | exact ((Fr.refl [] w6).drew).trans hF7 | exact HF8.out.trans hF7); have hs7 := HS.out w7 HF7.out; clear hF7)
            | (go_at_call 14; refine (HNB.out _).mono ?_; rintro e w8 ⟨rfl, hF8⟩; unfold str; have HF8 : Hid (Fr [] w6 w8) := (by first | exact ((Fr.refl [] w6).drew).trans hF8 | exact HF7.out.trans hF8); have hs8 := HS.out w8 HF8.out; clear hF8))
        all_goals
          go_wp2_with fail
          go_ret
          exact ⟨rfl, HF6.out.trans HF8.out⟩
end Go.Proofs.YtklnpooninbogaaGreatDoor
