
import Derived.Test.YtklnpooninbogaaGreatMYCol
import Derived.Test.YtklnpooninbogaaGreatMDJoin
namespace Go.Proofs.YtklnpooninbogaaGreat
open Go Go.Proofs Go.RowKit
def nz (l : List Int) : List Int := l.filter (fun x => decide (x ≠ 0))
theorem nz_take {l : List Int} {i : Nat} {x : Int} (h : l[i]? = some x) : nz (l.take (i + 1)) = nz (l.take i) ++ (if x = 0 then [] else [x]) := by
  unfold nz
  rw [List.take_add_one, h, List.filter_append]
  by_cases e : x = 0 <;> simp [e]
def AddPost (B : Nat) (ov : Value) (out l : List Int) (w : World) (e : Ending) (w' : World) : Prop :=
  ∃ v', e = .returned v' ∧ Rowi w' B v' (out ++ nz l) ∧ Fr ov.ownBlock.toList w w' ∧ (v'.ownBlock = ov.ownBlock ∨ ∃ g, v'.ownBlock = some g ∧ w.heap.size ≤ g)
set_option maxRecDepth 100000 in
set_option maxHeartbeats 1600000 in
theorem dAdd (B : Nat) (P : Nat → Prop) (ov lv : Value) (out l : List Int) (w : World) (hB : B ≤ w.heap.size) (hR : Rowi w B ov out) (hl : RdS w P lv l) (hP : ∀ b, P b → ov.ownBlock ≠ some b) (hlen : out.length + l.length ≤ 100000) :
    Calls Tryz.prog 108 #[ov, lv] w (AddPost B ov out l w) := by
  obtain ⟨Al, cl, rfl, hll, hx⟩ := hl
  obtain ⟨N, hN⟩ : ∃ N, N = l.length := ⟨_, rfl⟩
  have hN1 : N ≤ 100000 := by omega
  have HX := hid hx
  have HN := hid hN
  have HP := hid hP
  have HR := hid hR
  have HB := hid hB
  have HLEN := hid hlen
  rw [← hN]
  clear hx hN hP hR hB hlen hll
  go_enter Tryz.func108, Tryz.ntmps108
  go_wp2_with fail
  go_loopw [0, 5] (fun vv iv wr => ∃ (i : Nat), i ≤ N ∧ iv = .int .i64 i ∧ Rowi wr B vv (out ++ nz (l.take i)) ∧ Fr ov.ownBlock.toList w wr ∧ (vv.ownBlock = ov.ownBlock ∨ ∃ g, vv.ownBlock = some g ∧ w.heap.size ≤ g)) (fun _ iv _ => N - (intOf iv).toNat)
  case atStart => exact ⟨0, Nat.zero_le _, rfl, by simpa [nz] using HR.out, Fr.refl _ _, .inl rfl⟩
  case round =>
    obtain ⟨i, hi, rfl, hRi, hF, how⟩ := hrel
    obtain ⟨Ai, ci, e⟩ := hRi.form
    obtain ⟨Kn, hKn⟩ : ∃ Kn, Kn = (out ++ nz (l.take i)).length := ⟨_, rfl⟩
    rw [← hKn] at e
    subst e
    have HKN := hid hKn
    clear hKn
    have HRi := hid hRi
    have HF := hid hF
    have HO := hid how
    clear hRi hF how
    by_cases hlt : i < N
    · have hli : l[i]? = some l[i] := List.getElem?_eq_getElem (by have := HN.out; omega)
      obtain ⟨gb, o, rfl, hpg, hgl, hcell⟩ := HX.out i _ hli
      have hgn : gb ∉ ov.ownBlock.toList := fun hc => HP.out gb hpg (by simpa using hc)
      have hc := (cell_fr HF.out hgn hgl (o + i)).trans hcell
      obtain ⟨y, hy⟩ : ∃ y, y = l[i] := ⟨_, rfl⟩
      rw [← hy] at hc hli
      have HNZ := hid (nz_take hli)
      have hlenb : (out ++ nz (l.take i)).length + 1 ≤ 1000000 := by
        have h1 : (nz (l.take i)).length ≤ l.length := Nat.le_trans (List.length_filter_le _ _) (by simp; omega)
        have := HLEN.out
        rw [List.length_append]; omega
      have HLB := hid hlenb
      clear hli hy hcell hpg hgl hgn hlenb
      by_cases h0 : y = 0
      · subst h0
        go_wp2_with fail
        go_roundw
        case rel => exact ⟨i + 1, hlt, by go_num, by rw [HNZ.out]; simpa using HRi.out, HF.out, HO.out⟩
        case measure => simp [intOf]; omega
      · have HY := hid h0
        go_wp2_with (at_builtin; refine wpList_appi rfl _ _ rfl B _ _ rfl (HRi.out.alloc _) (some ⟨wr.heap.size, 0, none⟩) 1 1 [y] rfl ?c1 (by simp) ?c3 ?c4 ?c2)
        case c1 => exact (Rowi.one wr y (Nat.le_refl _)).src
        case c3 => exact HLB.out
        case c4 => rw [World.size_alloc]; have := HF.out.size; have := HB.out; omega
        case c2 =>
          intro v' w2 hR2 hF2 hown
          have hF2' : Fr ov.ownBlock.toList w w2 := (HF.out.trans ((Fr.refl _ wr).alloc _)).step hF2 (fun x hx => by
            rcases HO.out with h | ⟨g, h, hg⟩
            · rw [h] at hx; exact .inl hx
            · rw [h] at hx; simp at hx; subst hx; exact .inr hg)
          have how' : v'.ownBlock = ov.ownBlock ∨ ∃ g, v'.ownBlock = some g ∧ w.heap.size ≤ g := by
            rcases hown with h | h
            · rw [h]; exact HO.out
            · exact .inr ⟨_, h, by have := HF.out.size; first | omega | (rw [World.size_alloc]; omega)⟩
          have HR2 : Hid (Rowi w2 B v' (out ++ nz (l.take (i + 1)))) := hid (by rw [HNZ.out, if_neg HY.out]; simpa using hR2)
          have HF2 := hid hF2'
          have HO2 := hid how'
          clear hR2 hF2 hown hF2' how'
          go_wp2_with fail
          go_roundw
          case rel => exact ⟨i + 1, hlt, by go_num, HR2.out, HF2.out, HO2.out⟩
          case measure => simp [intOf]; omega
    · have hiN : i = N := by omega
      subst hiN
      go_wp2_with fail
      go_ret
      refine ⟨_, rfl, ?_, HF.out, HO.out⟩
      have e : l.take i = l := by rw [HN.out]; exact List.take_length
      have := HRi.out
      rw [e] at this
      exact this
def RdSS (w : World) (P : Nat → Prop) (v : Value) (ls : List (List Int)) : Prop := ∃ A c, v = .slice A ls.length c ∧ (ls.length ≤ c ∧ ls.length ≤ 100000) ∧ ∀ i l, ls[i]? = some l → ∃ g o sv, A = some ⟨g, o, none⟩ ∧ P g ∧ g < w.heap.size ∧ w.cell? ⟨g, o + i, none⟩ = some sv ∧ RdS w P sv l
theorem RdSS.fr {S : List Nat} {w w' : World} {P : Nat → Prop} {v : Value} {ls : List (List Int)} (h : RdSS w P v ls) (hf : Fr S w w') (hP : ∀ g, P g → g < w.heap.size → g ∉ S) : RdSS w' P v ls := by
  obtain ⟨A, c, e, hl, h⟩ := h
  exact ⟨A, c, e, hl, fun i x hx => by obtain ⟨g, o, sv, e, p, h1, h2, h3⟩ := h i x hx; exact ⟨g, o, sv, e, p, Nat.lt_of_lt_of_le h1 hf.size, (cell_fr hf (hP g p h1) h1 _).trans h2, h3.fr hf hP⟩⟩
structure WS where
  mp : Nat
  gv : Value
  rv : Value
  fv : Value
  row : Value
  qv : Value
theorem nz_flat (fl : List (List Int)) : ((fl.map nz).flatten).length ≤ (fl.map List.length).sum := by
  induction fl with
  | nil => simp
  | cons a r ih =>
    have : (nz a).length ≤ a.length := List.length_filter_le _ _
    simp only [List.map_cons, List.sum_cons, List.flatten_cons, List.length_append]
    omega
def WBlk (w : World) (wb : Nat) (c : WS) : Prop := Blk w wb [.map (some c.mp), c.gv, c.rv, c.fv, c.row, c.qv] 70
def rootsL (gl rl : List Int) (fl : List (List Int)) (row q : List Int) : List Int := nz gl ++ nz rl ++ (fl.map nz).flatten ++ row ++ q
theorem frows_take {fl : List (List Int)} {i : Nat} {l : List Int} (h : fl[i]? = some l) : ((fl.take (i + 1)).map nz).flatten = ((fl.take i).map nz).flatten ++ nz l := by
  rw [List.take_add_one, h]; simp
theorem rowi_nil {w : World} {B n c : Nat} {A : Option Addr} {l : List Int} (h : Rowi w B (.slice A n c) l) (hn : n = l.length) : A = none → n = 0 := by
  intro hA
  rcases Nat.eq_zero_or_pos l.length with h0 | h0
  · omega
  · obtain ⟨g, e, -⟩ := h.at h0
    rw [hA] at e; cases e
set_option maxRecDepth 100000 in
set_option maxHeartbeats 1600000 in
theorem dRoots (wb : Nat) (c : WS) (P : Nat → Prop) (B0 : Nat) (gl rl : List Int) (fl : List (List Int)) (row q : List Int) (w : World) (hW : WBlk w wb c) (hg : RdS w P c.gv gl) (hr : RdS w P c.rv rl) (hf : RdSS w P c.fv fl) (hrow : Rowi w B0 c.row row) (hq : Rowi w B0 c.qv q)
    (hP : ∀ b, P b → b < w.heap.size) (hlen : ∀ i, gl.length + rl.length + ((fl.take i).map List.length).sum + row.length + q.length ≤ 10000) (hfb : ∀ l ∈ fl, l.length ≤ 1000) (hff : fl.length ≤ 1000) :
    Calls Tryz.prog 56 #[.pointer (some ⟨wb, 0, none⟩)] w fun e w' => ∃ v', e = .returned v' ∧ Rowi w' w.heap.size v' (rootsL gl rl fl row q) ∧ Fr [] w w' := by
  have c1 := Blk.cell hW (i := 1) rfl
  have HW := hid hW
  have HG := hid hg
  have HR := hid hr
  have HFV := hid hf
  have HROW := hid hrow
  have HQ := hid hq
  have HP := hid hP
  have HLEN := hid hlen
  have HFB := hid hfb
  have hl0 := hlen 0
  clear hW hg hr hf hrow hq hP hlen hfb
  go_enter Tryz.func56, Tryz.ntmps56
  go_wp2_with fail
  refine (dAdd w.heap.size P (.slice none 0 0) c.gv [] gl w (Nat.le_refl _) (Rowi.nil w _) HG.out (fun b _ h => by cases h) (by simp at hl0 ⊢; omega)).mono ?_
  rintro e w1 ⟨v1, rfl, hR1, hF1, ho1⟩
  have own1 : ∀ (w' : World) (v : Value) (l : List Int), Rowi w' w.heap.size v l → ∀ x ∈ v.ownBlock.toList, w.heap.size ≤ x := fun _ _ _ h x hx => (h.lt x (by simpa using hx)).1
  have OWN := hid own1
  have hW1 := HW.out.fr hF1 (by simp [Value.ownBlock])
  have d2 := Blk.cell hW1 (i := 2) rfl
  have HF1 : Hid (Fr [] w w1) := hid hF1
  have HR1 := hid hR1
  clear hF1 hR1 ho1 hW1 c1 own1
  go_wp2_with fail
  refine (dAdd w.heap.size P v1 c.rv _ rl w1 HF1.out.size HR1.out (HR.out.fr HF1.out (by simp)) (fun b hb h => by have := OWN.out _ _ _ HR1.out b (by simpa using h); have := HP.out b hb; omega) (by
    have h1 : (nz gl).length ≤ gl.length := List.length_filter_le _ _
    simp at hl0 ⊢; omega)).mono ?_
  rintro e w2 ⟨v2, rfl, hR2, hF2, ho2⟩
  have HF2 : Hid (Fr [] w w2) := hid (HF1.out.step hF2 (fun x hx => .inr (OWN.out _ _ _ HR1.out x hx)))
  have HR2 := hid hR2
  clear hF2 hR2 ho2 d2
  obtain ⟨Af, cf, ef, hfl, hfx⟩ := id HFV.out
  obtain ⟨N, hN⟩ : ∃ N, N = fl.length := ⟨_, rfl⟩
  rw [← hN] at ef hfl hff
  have HEF := hid ef
  have HFX := hid hfx
  have HN := hid hN
  clear ef hfx hN
  go_wp2_with fail
  go_loopw [3, 4] (fun vv iv wr => ∃ (i : Nat), i ≤ N ∧ iv = .int .i64 i ∧ Rowi wr w.heap.size vv (nz gl ++ nz rl ++ ((fl.take i).map nz).flatten) ∧ Fr [] w wr) (fun _ iv _ => N - (intOf iv).toNat)
  case atStart => exact ⟨0, Nat.zero_le _, rfl, by simpa using HR2.out, HF2.out⟩
  case round =>
    obtain ⟨i, hi, rfl, hRi, hF⟩ := hrel
    have hWi := HW.out.fr hF (by simp)
    have d3 := Blk.cell hWi (i := 3) rfl
    have d4 := Blk.cell hWi (i := 4) rfl
    rw [HEF.out] at d3
    have HRi := hid hRi
    have HF := hid hF
    have HWi := hid hWi
    clear hRi hF hWi
    by_cases hlt : i < N
    · have hli : fl[i]? = some fl[i] := List.getElem?_eq_getElem (by have := HN.out; omega)
      obtain ⟨gb, o, sv, rfl, hpg, hgl, hcell, hsv⟩ := HFX.out i _ hli
      have hc := (cell_fr HF.out (by simp) hgl (o + i)).trans hcell
      obtain ⟨y, hy⟩ : ∃ y, y = fl[i] := ⟨_, rfl⟩
      rw [← hy] at hsv hli
      have HFT := hid (frows_take hli)
      have hsv' := hsv
      obtain ⟨As, cs, es, _, _⟩ := hsv'
      have HSV := hid (hsv.fr HF.out (by simp))
      have hyl := HFB.out y (List.mem_of_getElem? hli)
      have hbig : (nz gl ++ nz rl ++ ((fl.take i).map nz).flatten).length + y.length ≤ 100000 := by
        have h1 : (nz gl).length ≤ gl.length := List.length_filter_le _ _
        have h2 : (nz rl).length ≤ rl.length := List.length_filter_le _ _
        have h3 := nz_flat (fl.take i)
        have := HLEN.out i
        simp only [List.length_append]
        omega
      have HBIG := hid hbig
      subst es
      clear hli hy hcell hpg hgl hsv hyl hbig
      go_wp2_with fail
      refine (dAdd w.heap.size P _ _ _ y _ HF.out.size HRi.out HSV.out (fun b hb h => by have := OWN.out _ _ _ HRi.out b (by simpa using h); have := HP.out b hb; omega) HBIG.out).mono ?_
      rintro e w3 ⟨v3, rfl, hR3, hF3, ho3⟩
      have HF3 : Hid (Fr [] w w3) := hid (HF.out.step hF3 (fun x hx => .inr (OWN.out _ _ _ HRi.out x hx)))
      have HR3 : Hid (Rowi w3 w.heap.size v3 (nz gl ++ nz rl ++ ((fl.take (i + 1)).map nz).flatten)) := hid (by rw [HFT.out, ← List.append_assoc]; exact hR3)
      clear hF3 hR3 ho3 d3 hc d4
      go_wp2_with fail
      go_roundw
      case rel => exact ⟨i + 1, hlt, by go_num, HR3.out, HF3.out⟩
      case measure => simp [intOf]; omega
    · have hiN : i = N := by omega
      subst hiN
      have e9 : fl.take i = fl := by rw [HN.out]; exact List.take_length
      rw [e9] at HRi
      obtain ⟨Ar, cr, er⟩ := HROW.out.form
      obtain ⟨Aq, cq, eq'⟩ := HQ.out.form
      have d5 := Blk.cell HWi.out (i := 5) rfl
      obtain ⟨nr, hnr⟩ : ∃ nr, nr = row.length := ⟨_, rfl⟩
      obtain ⟨nq, hnq⟩ : ∃ nq, nq = q.length := ⟨_, rfl⟩
      have HEQ : Hid (c.qv = .slice Aq nq cq) := hid (by rw [hnq]; exact eq')
      have hrow0 := HROW.out
      have hq0 := HQ.out
      rw [er] at hrow0 d4
      rw [eq'] at hq0 d5
      rw [← hnr] at hrow0 d4
      rw [← hnq] at hq0 d5
      have hs1 : Srci wr Ar nr row := hnr ▸ (Rowi.src (hrow0.fr HF.out (by simp)))
      have HNA : Hid (Ar = none → nr = 0) := hid (rowi_nil hrow0 hnr)
      have HNQ : Hid (Aq = none → nq = 0) := hid (rowi_nil hq0 hnq)
      have HNR := hid hnr
      have HNQL := hid hnq
      have HQ0 := hid hq0
      have HS1 := hid hs1
      have hb := HLEN.out fl.length
      rw [List.take_length] at hb
      have hL : (nz gl ++ nz rl ++ (fl.map nz).flatten).length + row.length + q.length ≤ 100000 := by
        have h1 : (nz gl).length ≤ gl.length := List.length_filter_le _ _
        have h2 : (nz rl).length ≤ rl.length := List.length_filter_le _ _
        have h3 := nz_flat fl
        simp only [List.length_append]
        omega
      have HL := hid hL
      have HRI := hid HRi.out
      clear hb hL hl0 e9 hrow0 hq0 hs1 er eq' hnr hnq
      go_wp2_with (at_builtin; refine wpList_appi rfl _ _ rfl w.heap.size _ _ rfl HRI.out Ar nr cr row rfl HS1.out ?n1 ?n2 HF.out.size ?n3)
      case n1 => exact HNA.out
      case n2 => have := HL.out; have := HNR.out; omega
      case n3 =>
        intro v4 w4 hR4 hF4 hown4
        have HF4 : Hid (Fr [] w w4) := hid (HF.out.step hF4 (fun x hx => .inr (OWN.out _ _ _ HRI.out x hx)))
        have hW4 := HW.out.fr HF4.out (by simp)
        have d5' := Blk.cell hW4 (i := 5) rfl
        rw [HEQ.out] at d5'
        have HR4 := hid hR4
        have HS4 : Hid (Srci w4 Aq nq q) := hid (HNQL.out ▸ (Rowi.src (HQ0.out.fr HF4.out (by simp))))
        obtain ⟨A4, c4, n4, e4⟩ : ∃ A4 c4 n4, v4 = .slice A4 n4 c4 := by
          obtain ⟨A4, c4, e4⟩ := hR4.form
          exact ⟨A4, c4, _, e4⟩
        subst e4
        clear hR4 hF4 hown4 hW4 d3 d4 d5
        go_wp2_with (at_builtin; refine wpList_appi rfl _ _ rfl w.heap.size _ _ rfl HR4.out Aq nq cq q rfl HS4.out ?m1 ?m2 HF4.out.size ?m3)
        case m1 => exact HNQ.out
        case m2 => have := HL.out; have := HNQL.out; simp only [List.length_append] at this ⊢; simp only [List.length_append] at *; omega
        case m3 =>
          intro v5 w5 hR5 hF5 hown5
          have HF5 : Hid (Fr [] w w5) := hid (HF4.out.step hF5 (fun x hx => .inr (OWN.out _ _ _ HR4.out x hx)))
          have HR5 := hid hR5
          clear hR5 hF5 hown5 d5'
          go_wp2_with fail
          go_ret
          exact ⟨_, rfl, by simpa [rootsL] using HR5.out, HF5.out⟩
def Reach18 (obs : List Ob) (W0 : Int → Nat → Int) (fr : List Int) (w : World) (e : Ending) (w' : World) : Prop :=
  ∃ (om lk : Nat) (Lv : List Ob), e = .returned (.tuple #[.map (some om), .int .i64 lk]) ∧ w.heap.size ≤ om ∧ IM w' om ((Lv.map Ob.p).map fun x => (x, .bool true)) ∧ Lv.Nodup ∧ (∀ o ∈ Lv, o ∈ obs) ∧ (∀ o ∈ obs, o ∈ Lv ↔ Rch obs W0 fr o.p) ∧ lk = (Lv.map nl).sum ∧ Fr [] w w'
set_option maxRecDepth 100000 in
set_option maxHeartbeats 1600000 in
theorem dReach18 (wb : Nat) (c : WS) (obs : List Ob) (W0 : Int → Nat → Int) (fr : List Int) (w : World) (hW : WBlk w wb c)
    (hroots : ∀ wx, Fr [] w wx → Calls Tryz.prog 56 #[.pointer (some ⟨wb, 0, none⟩)] wx fun e w' => ∃ v', e = .returned v' ∧ Rowi w' wx.heap.size v' fr ∧ Fr [] wx w')
    (hreach : ∀ wx v, Fr [] w wx → Rowi wx w.heap.size v fr → Calls Tryz.prog 55 #[.map (some c.mp), v] wx (ReachPost obs W0 fr wx)) :
    Calls Tryz.prog 21 #[.pointer (some ⟨wb, 0, none⟩)] w (Reach18 obs W0 fr w) := by
  have HW := hid hW
  have HS : Hid (∀ wx, Fr [] w wx → wx.cell? ⟨wb, 0, none⟩ = some (.map (some c.mp))) := hid (fun wx h => Blk.cell (HW.out.fr h (by simp)) (i := 0) rfl)
  have HRO := hid hroots
  have HRE := hid hreach
  clear hW hroots hreach
  go_enter Tryz.func21, Tryz.ntmps21
  go_wp2_with fail
  have c0 := HS.out w (Fr.refl [] w)
  go_region_with (first
    | (go_at_call 56; refine (HRO.out _ (Fr.refl [] w).drew).mono ?_; rintro e w1 ⟨v, rfl, hv, hF⟩; have HF1 : Hid (Fr [] w w1) := hid (((Fr.refl [] w).drew).trans hF); have HV : Hid (Rowi w1 w.heap.size v fr) := hid hv; have c1 := HS.out w1 HF1.out; clear hF hv)
    | (go_at_call 55; refine (HRE.out _ _ HF1.out HV.out).mono ?_; rintro e w2 ⟨om, lk, Lv, rfl, h1, h2, h3, h4, h5, h6, h7⟩; have HX : Hid (Reach18 obs W0 fr w (.returned (.tuple #[.map (some om), .int .i64 lk])) w2) := hid ⟨om, lk, Lv, rfl, Nat.le_trans HF1.out.size h1, h2, h3, h4, h5, h6, HF1.out.trans h7⟩; clear h1 h2 h3 h4 h5 h6 h7))
  all_goals
    go_wp2_with fail
    go_ret2
    exact HX.out
end Go.Proofs.YtklnpooninbogaaGreat
