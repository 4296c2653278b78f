import Derived.Test.YtifillpcphiblaaPFills
import Derived.Test.YtifillpcphiblaaMHNew
import Derived.Deep.DeepCutAuto
namespace Go.Proofs.Ytifillpcphiblaa
open Go Go.Proofs Go.RowKit

theorem SlArg.form {w : World} {sv : Value} {l : List Int} (h : SlArg w sv l) : ∃ p cap, sv = .slice p l.length cap := by
  rcases h with ⟨e1, e2⟩ | ⟨p, cap, e1, e2⟩ | ⟨b, o, cap, e, _⟩
  · exact ⟨none, 0, by rw [e1, e2]; rfl⟩
  · exact ⟨some p, cap, by rw [e1, e2]; rfl⟩
  · exact ⟨_, cap, e⟩
theorem SlArg.reads {w : World} {p : Option Addr} {cap : Nat} {l : List Int} (h : SlArg w (.slice p l.length cap) l) (hl : 0 < l.length) : ∃ b o, p = some ⟨b, o, none⟩ ∧ RdAt w b o (l.map (.int .i64)) := by
  rcases h with ⟨_, e2⟩ | ⟨_, _, _, e2⟩ | ⟨b, o, cap', e, hr, _⟩
  · rw [e2] at hl; simp at hl
  · rw [e2] at hl; simp at hl
  · cases e; exact ⟨b, o, rfl, hr⟩

/-- Of a class, or large; and the room. -/
def MdPre (W Lg : Nat) (cls : List Int) (size : Nat) (last : Int) : Md → Nat → Prop
  | some (j, c), room => (size : Int) ≤ last ∧ ixGe cls size = (j : Nat) ∧ cls[j]? = some c ∧ (size : Int) ≤ c ∧ 1 ≤ c ∧ c ≤ 24 ∧ (room : Int) = (W : Int) - Lg - 1
  | none, room => last < size ∧ ixGe cls size = -1 ∧ room = Lg
theorem mdPre_small {W Lg size : Nat} {cls : List Int} {last : Int} {N : Nat} (hl : cls[N]? = some last) (hb : ∀ x ∈ cls, 1 ≤ x ∧ x ≤ 24) (h : (size : Int) ≤ last) (hw : Lg < W) : ∃ m, MdPre W Lg cls size last m (W - Lg - 1) := by
  rcases ixGe_cases cls size with e | ⟨j, h1, h2, c, h3, h4⟩
  · exfalso
    have := ixGe_eq cls size
    rw [e] at this
    split at this
    · omega
    · rename_i hn
      have e2 : cls.findIdx (fun n => decide ((size : Int) ≤ n)) = cls.length := Nat.le_antisymm List.findIdx_le_length (by omega)
      rw [List.findIdx_eq_length] at e2
      have := e2 last (List.mem_of_getElem? hl)
      simp at this
      omega
  · exact ⟨some (j, c), h, h2, h3, h4, (hb c (List.mem_of_getElem? h3)).1, (hb c (List.mem_of_getElem? h3)).2, by omega⟩
theorem mdPre_large {W Lg size : Nat} {cls : List Int} {last : Int} (hle : ∀ x ∈ cls, x ≤ last) (h : last < size) : MdPre W Lg cls size last none Lg := by
  refine ⟨h, ?_, rfl⟩
  rcases ixGe_cases cls size with e | ⟨j, h1, h2, c, h3, h4⟩
  · exact e
  · have := hle c (List.mem_of_getElem? h3)
    omega
def rdOf (size : Nat) : Md → Nat
  | some (_, c) => c.toNat + 3
  | none => size + 3
theorem mdPre_round {W Lg size room : Nat} {cls : List Int} {last : Int} {m : Md} (h : MdPre W Lg cls size last m room) : roundV cls size = (rdOf size m : Nat) := by
  cases m with
  | none => rw [roundV_large h.2.1]; simp [rdOf]
  | some jc =>
    obtain ⟨j, c⟩ := jc
    obtain ⟨_, h2, h3, _, h5, _⟩ := h
    rw [roundV_small h2 h3]
    simp [rdOf]; omega
theorem mdPre_ok {W Lg size room : Nat} {cls : List Int} {last : Int} {m : Md} (h : MdPre W Lg cls size last m room) : MdOk W Lg cls size (room / rdOf size m) m := by
  have h1 := Nat.div_mul_le_self room (rdOf size m)
  have h2 : room < (room / rdOf size m) * rdOf size m + rdOf size m := by
    have h0 : 0 < rdOf size m := by cases m <;> simp [rdOf]
    have := Nat.lt_div_mul_add h0 (a := room)
    exact this
  generalize hq : room / rdOf size m = q at h1 h2 ⊢
  clear hq
  cases m with
  | none =>
    obtain ⟨_, h4, rfl⟩ := h
    simp only [rdOf] at h1 h2
    refine ⟨h4, ?_, ?_⟩
    · have : ((q * (size + 3) : Nat) : Int) ≤ (room : Nat) := by exact_mod_cast h1
      simpa using this
    · have : ((room : Nat) : Int) < ((q * (size + 3) + (size + 3) : Nat) : Int) := by exact_mod_cast h2
      simpa using this
  | some jc =>
    obtain ⟨j, c⟩ := jc
    obtain ⟨_, h4, h5, h6, h7, h8, h9⟩ := h
    simp only [rdOf] at h1 h2
    obtain ⟨c, rfl⟩ := Int.eq_ofNat_of_zero_le (show 0 ≤ c by omega)
    simp only [Int.toNat_natCast] at h1 h2
    refine ⟨h4, h5, h6, h7, ?_, ?_⟩
    · rw [← h9]
      have : ((q * (c + 3) : Nat) : Int) ≤ (room : Nat) := by exact_mod_cast h1
      simpa using this
    · rw [← h9]
      have : ((room : Nat) : Int) < ((q * (c + 3) + (c + 3) : Nat) : Int) := by exact_mod_cast h2
      simpa using this

theorem inc_last {a last : Int} {l : List Int} {N : Nat} (h : Inc a l) (hl : l[N]? = some last) (hN : l.length = N + 1) : ∀ x ∈ l, x ≤ last := by
  induction l generalizing a N with
  | nil => simp at hN
  | cons y l ih =>
    obtain ⟨h1, h2, h3⟩ := h
    cases N with
    | zero =>
      have : l = [] := List.length_eq_zero_iff.1 (by simpa using hN)
      subst this
      simp at hl
      simp [hl]
    | succ N =>
      have hN' : l.length = N + 1 := by simpa using hN
      have hl' : l[N]? = some last := by simpa using hl
      intro x hx
      rcases List.mem_cons.1 hx with rfl | hx
      · cases l with
        | nil => simp at hN'
        | cons z l =>
          have h4 := ih h3 hl' hN' z (by simp)
          have := h3.1
          omega
      · exact ih h3 hl' hN' x hx

/-- What stays all through the law. -/
structure FE (w wr : World) (X : List Nat) (hb W Lg : Nat) (cls : List Int) (cfg : List Value) (P : HS → Rg → (Int → Int) → Prop) : Prop where
  st : FW w wr X hb W Lg cls P
  cf : Blk wr w.heap.size cfg 24
  fr : Fr [] w wr
  inX : w.heap.size ∈ X
  lt : ∀ b ∈ X, b < wr.heap.size

theorem FE.step {w wr w' : World} {X : List Nat} {hb W Lg : Nat} {cls : List Int} {cfg : List Value} {P Q : HS → Rg → (Int → Int) → Prop} (h : FE w wr X hb W Lg cls cfg P) (hS : FW w w' X hb W Lg cls Q) (hF : FrX w X wr w') : FE w w' X hb W Lg cls cfg Q :=
  ⟨hS, hF.blk h.inX h.cf, hF.old h.fr, h.inX, fun b hb => Nat.lt_of_lt_of_le (h.lt b hb) hF.size⟩

def cntM (m : Md) (i want : Nat) : Nat := if m.isNone then min i want else 0
theorem cntM_succ (m : Md) (i want : Nat) : cntM m (i + 1) want = cntM m i want + (if found m i want then 1 else 0) := by
  unfold cntM found
  cases m <;> simp
  by_cases h : i < want
  · simp [h]; omega
  · simp [h]; omega
theorem min_succ (i want : Nat) (h : i ≤ want) : (if i < want then i + 1 else i) = min (i + 1) want := by split <;> omega

theorem mget_map (B : List Int) (p : Int) (h : p ∉ B) : mget (B.map fun x => (x, Value.bool true)) p = none := by
  induction B with
  | nil => rfl
  | cons b B ih =>
    rw [List.map_cons, mget, if_neg (fun e => h (by simp [e]))]
    exact ih (fun hc => h (by simp [hc]))
theorem mput_map (B : List Int) (p : Int) (h : p ∉ B) : mput (B.map fun x => (x, Value.bool true)) p (.bool true) = (B ++ [p]).map fun x => (x, Value.bool true) := by
  induction B with
  | nil => rfl
  | cons b B ih =>
    rw [List.map_cons, mput, if_neg (fun e => h (by simp [e])), ih (fun hc => h (by simp [hc]))]
    rfl

set_option maxRecDepth 200000 in
set_option maxHeartbeats 12800000 in
theorem lawHeapFills (W Lg a b c d size : Int) (sv : Value) (cls : List Int) (w : World) (hs : SlArg w sv cls) :
    Calls Try.prog 11 #[.agg #[.int .i64 W, .int .i64 Lg, .int .i64 a, .int .i64 b, .int .i64 c, .int .i64 d, sv], .int .i64 size] w fun e w' => e = .returned (.bool true) ∧ Fr [] w w' := by
  have hmm := @run_makeMap Try.prog
  obtain ⟨p, cap, rfl⟩ := hs.form
  have B0 := Blk.new w [.int .i64 W, .int .i64 Lg, .int .i64 a, .int .i64 b, .int .i64 c, .int .i64 d, .slice p cls.length cap] 24
  have hs0 := hs.fr ((Fr.refl [] w).alloc (.cells #[.int .i64 W, .int .i64 Lg, .int .i64 a, .int .i64 b, .int .i64 c, .int .i64 d, .slice p cls.length cap] 24)) (by simp)
  go_enter Try.func11, Try.ntmps11
  go_wp2_with fail
  refine (awake6 _).mono ?_
  rintro e w1 ⟨rfl, hF1⟩
  have B1 := B0.fr hF1 (by simp)
  have hs1 := hs0.fr hF1 (by simp)
  have hF1' : Fr [] w w1 := ((Fr.refl _ w).alloc _).trans hF1
  clear B0 hs0 hF1
  have c0 := B1.cell (i := 0) rfl
  have c1 := B1.cell (i := 1) rfl
  have c2 := B1.cell (i := 2) rfl
  have c3 := B1.cell (i := 3) rfl
  have c4 := B1.cell (i := 4) rfl
  have c5 := B1.cell (i := 5) rfl
  have c6 := B1.cell (i := 6) rfl
  go_wp2_with fail
  refine (refRight W Lg a b c d _ cls _ hs1).mono ?_
  rintro e w2 ⟨rfl, hF2⟩
  have B2 := B1.fr hF2 (by simp)
  have hs2 := hs1.fr hF2 (by simp)
  have hF2' := hF1'.trans hF2
  clear B1 hs1 hF2 c0 c1 c2 c3 c4 c5 c6 hF1'
  have c0 := B2.cell (i := 0) rfl
  have c1 := B2.cell (i := 1) rfl
  have c2 := B2.cell (i := 2) rfl
  have c3 := B2.cell (i := 3) rfl
  have c4 := B2.cell (i := 4) rfl
  have c5 := B2.cell (i := 5) rfl
  have c6 := B2.cell (i := 6) rfl
  by_cases hB' : rightB W Lg cls = false
  · rw [hB']
    clear hB'
    go_wp2_with fail
    go_ret
    exact ⟨rfl, hF2'⟩
  have hB : rightB W Lg cls = true := by simpa using hB'
  clear hB'
  have hR := (rightB_iff _ _ _).1 hB
  rw [hB]
  clear hB
  by_cases g0 : 600 < W
  · go_wp2_with fail
    go_ret
    exact ⟨rfl, hF2'⟩
  by_cases g1 : size < 0
  · go_wp2_with fail
    go_ret
    exact ⟨rfl, hF2'⟩
  by_cases g2 : 31 < size
  · go_wp2_with fail
    go_ret
    exact ⟨rfl, hF2'⟩
  have k1 := hR.w1
  have k2 := hR.l1
  have k4 := hR.l2
  have k3 := hR.n1
  obtain ⟨W, rfl⟩ := Int.eq_ofNat_of_zero_le (show 0 ≤ W by omega)
  obtain ⟨Lg, rfl⟩ := Int.eq_ofNat_of_zero_le k2
  obtain ⟨size, rfl⟩ := Int.eq_ofNat_of_zero_le (show 0 ≤ size by omega)
  obtain ⟨bb, o, rfl, hr⟩ := hs2.reads (by omega)
  go_wp2_with fail
  refine (hNew W Lg a b c d cls bb o cap _ hR hr).mono ?_
  rintro e w3 ⟨L, rfl, hH3, hF3, hLb⟩
  have hF3' := hF2'.trans hF3
  have B3 := B2.fr hF3 (by simp)
  have hr3 := hr.fr hF3 (by simp)
  have hlb2 := B2.lt
  have hsz2 := hF2'.size
  clear B2 hs2 hF3 c0 c1 c2 c3 c4 c5 c6 hF2' hr
  have hp : ∀ w, (binOp .eql 27 (.pointer (some ⟨L.hb, 0, none⟩)) (.pointer none)).run Try.prog w = .ok (.bool false) w := fun _ => by kernel_rfl
  have hI3 := HI.new hR
  have hFC : FC w w3 [w.heap.size] L.hb W Lg cls L (HS.new W Lg cls) (fun _ => ⟨[], [], [], []⟩) (fun _ => 0) := by
    refine ⟨rfl, hH3, hI3, fun x hx => ?_, rfl, rfl, by simp [HS.new], .inl rfl, ⟨rfl, by simp [HS.new]⟩, fun hl => ?_⟩
    · have := hLb x hx
      refine ⟨by omega, fun hc => ?_⟩
      obtain rfl := List.mem_singleton.1 hc
      omega
    · obtain ⟨sv, _, h | ⟨b0, cap', rest, e, _⟩⟩ := hH3.x
      · have := h.2.2
        simp [HS.new, hl] at this
      · exact ⟨b0, e⟩
  obtain ⟨N, hN⟩ : ∃ N, cls.length = N + 1 := ⟨cls.length - 1, by omega⟩
  obtain ⟨last, hla⟩ : ∃ last, cls[N]? = some last := ⟨_, List.getElem?_eq_getElem (by omega)⟩
  have hle := inc_last hR.inc hla hN
  have q0 : w3.cell? ⟨bb, o + N, none⟩ = some (.int .i64 last) := hr3.2 N _ (by simp [hla])
  have HLA := hid hla
  have HN := hid hN
  have hbd := Inc_pos hR.inc (by decide)
  have hN5 := hR.n2
  have HR := hid hR
  have HB3 := hid B3
  have HF3 := hid hF3'
  have HR3 := hid hr3
  have HFC := hid hFC
  have HLE := hid hle
  rw [hN] at B3
  have c0 := B3.cell (i := 0) rfl
  have c1 := B3.cell (i := 1) rfl
  have c6 := B3.cell (i := 6) rfl
  have hN6 : N < 6 := by omega
  clear hla hR hle B3 hF3' hr3 hFC hI3 hH3 hLb
  rw [hN]
  clear hN hN5 k3
  go_upto_if 62 with (fail)
  go_cut [7] (fun r wx => ∃ (m : Md) (room : Nat), r = .int .i64 room ∧ w3 = wx ∧ Hid (MdPre W Lg cls size last m room) ∧ room ≤ 600)
  case first =>
    by_cases hbig : last < (size : Int)
    · go_wp2_with fail
      go_meet
      exact ⟨none, Lg, rfl, rfl, mdPre_large HLE.out hbig, by omega⟩
    · have hsm : (size : Int) ≤ last := by omega
      obtain ⟨m, hm⟩ := mdPre_small (W := W) (Lg := Lg) HLA.out hbd hsm (by omega)
      have HM := hid hm
      clear hm
      go_wp2_with fail
      go_meet
      exact ⟨m, W - Lg - 1, by rw [show ((W - Lg - 1 : Nat) : Int) = (W : Int) - Lg - 1 by omega], rfl, HM.out, by omega⟩
  case rest =>
    obtain ⟨m, room, rfl, rfl, HM, hroom⟩ := hcut
    clear c0 c1 c6 q0
    have hrd := mdPre_round HM.out
    have HRD := hid hrd
    have hrd0 : 3 ≤ rdOf size m := by cases m <;> simp [rdOf]
    have hrd1 : rdOf size m ≤ 100 := by
      have := HM.out
      cases m with
      | none => simp only [rdOf]; omega
      | some jc => obtain ⟨j, c⟩ := jc; have := this.2.2.2.2.2.1; simp only [rdOf]; omega
    obtain ⟨rd, hrde⟩ : ∃ rd, rd = rdOf size m := ⟨_, rfl⟩
    rw [← hrde] at hrd0 hrd1
    have HRDE := hid hrde
    have hrep := HFC.out.rep
    have hdv : (room : Int) / (rd : Int) = ((room / rd : Nat) : Int) := by simp
    have HDV := hid hdv
    clear hrd hrde hdv
    go_wp2_with fail
    refine (hRound L (HS.new W Lg cls) size _ hrep (by omega) (by omega) (fun c hc => ⟨by have := hbd c hc; omega, (hbd c hc).2⟩)).mono ?_
    rintro e w4 ⟨rfl, hH4, hF4⟩
    rw [show (HS.new W Lg cls).cls = cls from rfl, HRD.out, ← HRDE.out]
    have hE4 : FE w w4 [w.heap.size] L.hb W Lg cls [.int .i64 W, .int .i64 Lg, .int .i64 a, .int .i64 b, .int .i64 c, .int .i64 d, .slice (some ⟨bb, o, none⟩) cls.length cap] (PAl W Lg size (room / rd) [] m) := by
      have h0 := HFC.out
      refine ⟨⟨L, _, _, _, { h0 with rep := hH4 }, ?_⟩, HB3.out.fr hF4 (by simp), HF3.out.trans hF4, by simp, fun x hx => ?_⟩
      · have := HM.out
        cases m with
        | none => exact ⟨fun _ _ => rfl, rfl, by unfold tailOf; simp [HS.new], rfl, fun p hp => by cases hp⟩
        | some jc => obtain ⟨j, c⟩ := jc; exact ⟨fun _ _ => rfl, [], rfl, by simp [HS.new], by simp, fun h => absurd rfl h⟩
      · obtain rfl := List.mem_singleton.1 hx
        exact (HB3.out.fr hF4 (by simp)).lt
    have hR4 := HR3.out.fr hF4 (by simp)
    have hMO := mdPre_ok HM.out
    rw [← HRDE.out] at hMO
    have hwl : room / rd ≤ 600 := Nat.le_trans (Nat.div_le_self _ _) hroom
    obtain ⟨want, hwant⟩ : ∃ want, want = room / rd := ⟨_, rfl⟩
    have HE4 := hid hE4
    have HR4 := hid hR4
    have HMO := hid hMO
    rw [← hwant] at HE4 HMO hwl HDV
    have HDV' : Hid ((room : Int) / (rd : Int) = (want : Int)) := HDV.out
    clear hE4 hR4 hMO hwant hrep hH4 hF4 HDV HRD HRDE
    go_wp2_with fail
    rw [HDV'.out]
    rw [show wrap64 (want : Int) = (want : Int) by unfold wrap64; omega]
    obtain ⟨CFG, hCFG⟩ : ∃ CFG : List Value, CFG = [.int .i64 W, .int .i64 Lg, .int .i64 a, .int .i64 b, .int .i64 c, .int .i64 d, .slice (some ⟨bb, o, none⟩) cls.length cap] := ⟨_, rfl⟩
    rw [← hCFG] at HE4
    have HCFG := hid hCFG
    clear hCFG
    have hsz32 : size < 32 := by omega
    go_loopw [9] (fun t wr => ∃ j : Nat, j ≤ 2 ∧ t = .int .i64 j ∧ FE w wr [w.heap.size] L.hb W Lg cls CFG (PAl W Lg size want [] m)) (fun t _ => 2 - (intOf t).toNat)
    case atStart => exact ⟨0, by omega, rfl, HE4.out⟩
    case round =>
      obtain ⟨j, hj, rfl, hE⟩ := hrel
      obtain ⟨wt, rfl⟩ : ∃ wt, wt = wr := ⟨_, rfl⟩
      clear HE4
      by_cases hj2 : j < 2
      · have hE1 : FE w (wt.alloc (.map #[] 0)) [wt.heap.size, w.heap.size] L.hb W Lg cls CFG (PAl W Lg size want [] m) :=
          ⟨hE.st.more _, hE.cf.alloc _, hE.fr.alloc _, by simp, fun b hb => by
            rw [World.size_alloc]
            rcases List.mem_cons.1 hb with rfl | hb
            · omega
            · have := hE.lt b hb; omega⟩
        have hM1 := IM.new wt
        have hwlt : w.heap.size < wt.heap.size := hE.lt _ (by simp)
        have hj2d : decide ((j : Int) < 2) = true := by simp; omega
        have hHE := hid hE
        clear hE
        go_wp2_with fail
        go_loopw [11] (fun k wr' => ∃ (i : Nat) (B : List Int), i ≤ want ∧ k = .int .i64 i ∧ B.length = i ∧ FE w wr' [wt.heap.size, w.heap.size] L.hb W Lg cls CFG (PAl W Lg size want B m) ∧ IM wr' wt.heap.size (B.map fun x => (x, .bool true)) ∧ FrX w [w.heap.size] wt wr') (fun k _ => want - (intOf k).toNat)
        case atStart => exact ⟨0, [], Nat.zero_le _, rfl, rfl, hE1, hM1, FrX.of ((Fr.refl [] wt).alloc _) (by simp)⟩
        case round =>
          obtain ⟨i, B, hi, rfl, hB, hEr, hMr, hFX⟩ := hrel
          clear hE1 hM1
          by_cases hlt : i < want
          · have hBl : B.length < want := by omega
            go_wp2_with fail
            refine (fAlloc HMO.out hsz32 hBl hEr.st).mono ?_
            rintro e w5 ⟨pp, rfl, hpB, hS5, hF5⟩
            have hE5 := hEr.step hS5 hF5
            have hM5 := hF5.im (b := wt.heap.size) (by simp) hMr
            have hlook : (Instr.lookup 92 (.map (some wt.heap.size)) (.int .i64 pp) false).run Try.prog w5 = .ok (.bool false) w5 := by
              have := run_lookup_im (P := Try.prog) hM5 Try.underlying92 Try.underlying3 (z := .bool false) (by kernel_rfl) pp false
              simpa [mget_map B pp hpB] using this
            have HE5 := hid hE5
            have HM5 := hid hM5
            have HF5 := hid hF5
            have HFX := hid hFX
            have HPB := hid hpB
            have HB := hid hB
            clear hE5 hM5 hF5 hFX hMr hEr hpB hS5 hB
            go_wp2_with (at_mapUpdate; refine wpList_mapUpdate_im _ rfl _ _ _ 92 rfl _ _ Try.underlying92 Try.underlying3 wt.heap.size _ rfl HM5.out pp rfl (.bool true) rfl ?_)
            intro w6 hM6 hF6
            have hF6X : FrX w [w.heap.size] w5 w6 := FrX.of hF6 (fun b hb => by obtain rfl := List.mem_singleton.1 hb; exact ⟨by omega, by simp; omega⟩)
            go_wp2_with fail
            go_roundw
            case rel =>
              refine ⟨i + 1, B ++ [pp], by omega, by go_num, by rw [List.length_append, HB.out]; rfl, ?_, ?_, ?_⟩
              · have h5 := HE5.out
                exact ⟨h5.st.fr hF6 (by simp), h5.cf.fr hF6 (by simp; omega), h5.fr.step hF6 (fun x hx => .inr (by obtain rfl := List.mem_singleton.1 hx; omega)), h5.inX, fun b hb => Nat.lt_of_lt_of_le (h5.lt b hb) hF6.size⟩
              · rw [← mput_map B pp HPB.out]; exact hM6
              · exact (HFX.out.trans (HF5.out.less (by simp))).trans hF6X
            case measure => simp [intOf]; omega
          · have hBl : B.length = want := by omega
            have hid1 : decide (i < want) = false := by simpa using hlt
            have hFX' := hid hFX
            clear hMr hFX hB
            go_wp2_with fail
            refine (fFull HMO.out hsz32 hBl hEr.st).mono ?_
            rintro e w5 ⟨rfl, hS5, hF5⟩
            have hE5 := hEr.step hS5 hF5
            have hFX5 := hid (hFX'.out.trans (hF5.less (by simp)))
            clear hEr hS5 hF5 hFX'
            go_wp2_with fail
            refine (fBegin hBl hE5.st).mono ?_
            rintro e w6 ⟨rfl, hS6, hF6⟩
            have hE6 := hE5.step hS6 hF6
            have hFX6 := hid (hFX5.out.trans (hF6.less (by simp)))
            clear hE5 hS6 hF6 hFX5
            go_wp2_with fail
            refine (fEnd hE6.st).mono ?_
            rintro e w7 ⟨rfl, hS7, hF7⟩
            have hE7 := hE6.step hS7 hF7
            have hFX7 := hid (hFX6.out.trans (hF7.less (by simp)))
            clear hE6 hS7 hF7 hFX6 hBl
            go_wp2_with fail
            go_loopw [16, 17] (fun n k ws => ∃ i : Nat, i ≤ want + 1 ∧ k = .int .i64 i ∧ n = .int .i64 (cntM m i want : Nat) ∧ FE w ws [wt.heap.size, w.heap.size] L.hb W Lg cls CFG (PSw W Lg size want (min i want) m) ∧ FrX w [w.heap.size] wt ws) (fun _ k _ => want + 1 - (intOf k).toNat)
            case atStart => exact ⟨0, by omega, rfl, by simp [cntM], by simpa using hE7, hFX7.out⟩
            case round =>
              obtain ⟨i2, hi2, rfl, rfl, hEs, hFXs⟩ := hrel
              clear hE7 hFX7
              by_cases hlt2 : i2 ≤ want
              · have hf := cntM_succ m i2 want
                have hmin : min i2 want = i2 := by omega
                have hst := hEs.st
                rw [hmin] at hst
                have hlt0 := hEs.lt
                have hf0 := hEs.fr.size
                have HES := hid hEs
                have HF := hid hf
                have HFXs := hid hFXs
                have hnx := min_succ i2 want hlt2
                have HNX := hid hnx
                clear hEs hf hFXs hmin hnx
                go_wp2_with fail
                refine (fSweep HMO.out hsz32 hlt0 hlt2 hst hf0).mono ?_
                rintro e w8 ⟨rfl, hS8, hF8⟩
                rw [HNX.out] at hS8
                have hE8 := HES.out.step hS8 hF8
                have hFX8 := hid (HFXs.out.trans (hF8.less (by simp)))
                have HE8 := hid hE8
                clear hS8 hF8 hE8 hst hlt0 hf0
                obtain ⟨fd, hfd⟩ : ∃ fd, fd = found m i2 want := ⟨_, rfl⟩
                rw [← hfd] at HF ⊢
                have hcl : cntM m i2 want ≤ 601 := by unfold cntM; split <;> omega
                obtain ⟨ct, hct⟩ : ∃ ct, ct = cntM m i2 want := ⟨_, rfl⟩
                rw [← hct] at HF hcl ⊢
                clear hfd hct
                cases fd with
                | true =>
                  go_wp2_with fail
                  go_roundw
                  case rel => exact ⟨i2 + 1, by omega, by go_num, by have := HF.out; rw [this]; go_num, HE8.out, hFX8.out⟩
                  case measure => simp [intOf]; omega
                | false =>
                  go_wp2_with fail
                  go_roundw
                  case rel => exact ⟨i2 + 1, by omega, by go_num, by have := HF.out; rw [this]; rfl, HE8.out, hFX8.out⟩
                  case measure => simp [intOf]; omega
              · have hcn : m.isNone = true → cntM m i2 want = want := fun hn => by unfold cntM; rw [if_pos hn]; omega
                have hmin : min i2 want = want := by omega
                rw [hmin] at hEs
                have hE9 : FE w wr [w.heap.size] L.hb W Lg cls CFG (PAl W Lg size want [] m) :=
                  ⟨(hEs.st.mono fun s A z _ _ h => PSw.next HMO.out h).less (by simp), hEs.cf, hEs.fr, by simp, fun b hb => hEs.lt b (by simp at hb; simp [hb])⟩
                have hc9 := hEs.cf
                rw [HCFG.out, HN.out] at hc9
                have c6 := hc9.cell (i := 6) rfl
                obtain ⟨b9, o9, e9, hr9⟩ := hs.reads (by have := HN.out; omega)
                cases e9
                have q9 : wr.cell? ⟨bb, o + N, none⟩ = some (.int .i64 last) := (hr9.fr hEs.fr (by simp)).2 N _ (by simp [HLA.out])
                have HE9 := hid hE9
                have HM9 := HM.out
                have hi2d : decide (i2 ≤ want) = false := by simpa using hlt2
                clear hE9 hc9 hEs hFXs hr9
                cases m with
                | none =>
                  have hcw := hcn rfl
                  have hbig : last < (size : Int) := HM9.1
                  rw [hcw]
                  clear hcw hcn hmin HM9
                  go_wp2_with fail
                  go_roundw
                  case rel => exact ⟨j + 1, by omega, by go_num, HE9.out⟩
                  case measure => simp [intOf]; omega
                | some jc =>
                  have hsm : ¬ last < (size : Int) := by have := HM9.1; omega
                  clear hcn hmin HM9
                  go_wp2_with fail
                  go_roundw
                  case rel => exact ⟨j + 1, by omega, by go_num, HE9.out⟩
                  case measure => simp [intOf]; omega
      · go_wp2_with fail
        go_ret
        exact ⟨rfl, hE.fr⟩
end Go.Proofs.Ytifillpcphiblaa
