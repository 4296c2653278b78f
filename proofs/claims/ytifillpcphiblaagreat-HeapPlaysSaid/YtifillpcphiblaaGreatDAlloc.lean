import Derived.Test.YtifillpcphiblaaGreatMDHeap
import Derived.Test.YtifillpcphiblaaGreatMHRows
import Derived.Laws.MakeOwn
import Derived.Deep.QuietTactic
import Derived.BigQuiet
namespace Go.Proofs.YtifillpcphiblaaGreat
open Go Go.Proofs Go.RowKit

/-! The document's heap: Alloc. -/

theorem infoI64 : (Tryz.prog.info? 2).map (fun i => (i.zero, i.size, i.bytes)) = some (some (.int .i64 0), 1, 8) := by kernel_rfl
theorem run_mk64 (n : Nat) (hn : n ≤ 100000) (w : World) : (Instr.makeSlice 93 (.int .i64 n) (.int .i64 n)).run Tryz.prog w = .ok (.slice (some ⟨w.heap.size, 0, none⟩) n n) (w.alloc (.cells (List.replicate n (.int .i64 0)).toArray 2)) := by
  obtain ⟨i, hi, hz0, hz1, hz2⟩ := info_parts infoI64
  have := run_make (P := Tryz.prog) w 93 2 i (.int .i64 0) Tryz.underlying93 hi hz0 .i64 .i64 n n (by omega) (Int.le_refl _) (by rw [hz2]; omega) (by omega)
  rw [hz1] at this
  simp only [Int.toNat_natCast, Nat.mul_one] at this
  have e : madeCells (Value.int IntKind.i64 0).cells n = (List.replicate n (Value.int IntKind.i64 0)).toArray := by
    apply Array.ext
    · simp [madeCells]
    · intro j h1 h2
      simp [madeCells, Value.cells]
      have : j % 1 = 0 := by omega
      simp [this]
  rw [e] at this
  exact this

def obV (k n a m : Int) (g : Nat) (l : Nat) : Value := .agg #[.int .i64 k, .int .i64 n, .int .i64 a, .int .i64 m, .slice (some ⟨g, 0, none⟩) l l]

theorem nomap {w : World} {mp b : Nat} {m : List (Int × Value)} {cs : List Value} {T : TypeId} (h : IM w mp m) (hb : Blk w b cs T) : b ≠ mp := by
  rintro rfl
  obtain ⟨es, ck, h3, _⟩ := h
  unfold Blk at hb
  rw [hb] at h3
  cases h3
theorem FrD.map {B mp rsb : Nat} {w w' : World} (hB : B ≤ mp) (hne : rsb ≠ mp) (h : Fr [mp] w w') : FrD B mp rsb w w' := ⟨⟨_, h, fun b hb => by obtain rfl := List.mem_singleton.1 hb; exact ⟨hB, fun _ => .inl rfl⟩⟩, ROff.fr h (by simpa using hne)⟩

/-- Something in the map has changed. -/
theorem DH.map {w w' : World} {D : DL} {W Lg : Int} {cls : List Int} {Rs : List Rows} {bits : List Bool} {top par : Int} {m m' : List (Int × Value)} (h : DH w D W Lg cls Rs bits top par m) (hf : Fr [D.mp] w w') (hb : ∀ b o c n, D.sv = .slice (some ⟨b, o, none⟩) n c → b < D.B) (hm : IM w' D.mp m') : DH w' D W Lg cls Rs bits top par m' := by
  obtain ⟨a1, a2, a3, a4, a5, a6⟩ := h.apart
  have hmp : ∀ {b : Nat} {cs : List Value} {T : TypeId}, Blk w b cs T → b ∉ [D.mp] := fun hb hc => nomap h.im hb (List.mem_singleton.1 hc)
  obtain ⟨es, ck, h3, _⟩ := h.im
  refine { s := h.s.fr hf (hmp h.s), cl := sl_frd h.cl (FrD.map h.lo.2.2 a3 hf) hb, rs := ?_, len := h.len, rm := ?_, im := hm, lo := h.lo }
  · obtain ⟨vs, rest, g1, g2, g3⟩ := h.rs.ex
    refine ⟨⟨vs, rest, g1.fr hf (hmp g1), g2, fun i v R hv hR => ?_⟩, Nat.le_trans h.rs.le hf.size⟩
    have hd := g3 i v R hv hR
    have key : ∀ {v : Value} {l : List Int}, Rowi w D.B v l → Rowi w' D.B v l := fun {v l} hr => hr.fr hf (fun g hg hc => by
      rcases hr.2 with h0 | ⟨g', cap, cur, e1, e2, e3, e4⟩
      · rw [h0.1] at hg; simp [Value.ownBlock] at hg
      · rw [e1] at hg
        simp [Value.ownBlock] at hg
        subst hg
        rw [List.mem_singleton.1 hc, h3] at e3
        cases e3)
    exact ⟨key hd.wh, key hd.fr0, key hd.gr, key hd.bl⟩
  · obtain ⟨fv, h1, h2⟩ := h.rm.s
    refine ⟨⟨fv, h1.fr hf (hmp h1), ownsRow_fr h2 hf (fun g hg hc => ?_)⟩, h.rm.b⟩
    obtain ⟨_, h4 | ⟨g', cap, cur, e1, e2, e3, _⟩⟩ := h2
    · rw [h4.1] at hg; simp [Value.ownBlock] at hg
    · rw [e1] at hg
      simp [Value.ownBlock] at hg
      subst hg
      rw [List.mem_singleton.1 hc, h3] at e3
      cases e3

/-- It fails. -/
def AlNo (w : World) (D : DL) (W Lg : Int) (cls : List Int) (Rs : List Rows) (bits : List Bool) (top par : Int) (m : List (Int × Value)) (er : Int) (e : Ending) (w' : World) : Prop :=
  e = .returned (.tuple #[.int .i64 0, .int .i64 er]) ∧ DH w' D W Lg cls Rs bits top par m ∧ FrD D.B D.mp D.rsb w w'

set_option maxRecDepth 100000 in
set_option maxHeartbeats 3200000 in
theorem dAllocBad (D : DL) (W Lg : Int) (cls : List Int) (Rs : List Rows) (bits : List Bool) (top par : Int) (m : List (Int × Value)) (k a n : Int) (w : World) (h : DH w D W Lg cls Rs bits top par m) (hpar : par = 0 ∨ par = 1) (a0 : 0 ≤ a) (a1 : a < 16777216) (her : dPackErr k n ≠ 0) :
    Calls Tryz.prog 30 #[.pointer (some ⟨D.mb, 0, none⟩), .int .i64 k, .int .i64 a, .int .i64 n] w (AlNo w D W Lg cls Rs bits top par m (dPackErr k n)) := by
  obtain ⟨q0, q1, q6, q7, q8, q9, q10, q11⟩ := h.reads
  have B0 := Blk.new w [.int .i64 k, .int .i64 n, .int .i64 a, .int .i64 par] 92
  have b0 := B0.cell (i := 0) rfl
  have b1 := B0.cell (i := 1) rfl
  have b2 := B0.cell (i := 2) rfl
  have b3 := B0.cell (i := 3) rfl
  have hF0 : Fr [] w (w.alloc (.cells #[.int .i64 k, .int .i64 n, .int .i64 a, .int .i64 par] 92)) := (Fr.refl _ w).alloc _
  obtain ⟨er, he⟩ : ∃ er, er = dPackErr k n := ⟨_, rfl⟩
  rw [← he] at her ⊢
  have HE := hid he
  have HH := hid h
  have HF0 := hid hF0
  clear h B0 hF0 q0 q1 q6 q7 q8 q9 q10 he
  go_enter Tryz.func30, Tryz.ntmps30
  go_wp2_with fail
  refine (dPack k n a par hpar a0 a1 _).mono ?_
  rintro e w1 ⟨⟨v, rfl⟩, hF1⟩
  rw [← HE.out]
  have HF1 := hid hF1
  clear hF1
  go_wp2_with fail
  refine bodyPost_ret (v := .tuple #[.int .i64 0, .int .i64 er]) (by simp [results, Tryz.results30, go_sem]) rfl ⟨rfl, HH.out.step (HF0.out.trans HF1.out), FrD.of (HF0.out.trans HF1.out)⟩

set_option maxRecDepth 100000 in
set_option maxHeartbeats 3200000 in
theorem dAllocFull (D : DL) (W Lg : Int) (cls : List Int) (Rs Rs' : List Rows) (bits bits' : List Bool) (top top' par : Int) (m : List (Int × Value)) (k a n er : Int) (w : World) (h : DH w D W Lg cls Rs bits top par m) (hpar : par = 0 ∨ par = 1) (a0 : 0 ≤ a) (a1 : a < 16777216) (her : dPackErr k n = 0) (he0 : er ≠ 0)
    (hpl : ∀ w1, DH w1 D W Lg cls Rs bits top par m → Calls Tryz.prog 66 #[.pointer (some ⟨D.mb, 0, none⟩), .int .i64 n] w1 fun e w2 => e = .returned (.tuple #[.int .i64 0, .int .i64 er]) ∧ DH w2 D W Lg cls Rs' bits' top' par m ∧ FrD D.B D.mp D.rsb w1 w2) :
    Calls Tryz.prog 30 #[.pointer (some ⟨D.mb, 0, none⟩), .int .i64 k, .int .i64 a, .int .i64 n] w (AlNo w D W Lg cls Rs' bits' top' par m er) := by
  obtain ⟨q0, q1, q6, q7, q8, q9, q10, q11⟩ := h.reads
  have B0 := Blk.new w [.int .i64 k, .int .i64 n, .int .i64 a, .int .i64 par] 92
  have b0 := B0.cell (i := 0) rfl
  have b1 := B0.cell (i := 1) rfl
  have b2 := B0.cell (i := 2) rfl
  have b3 := B0.cell (i := 3) rfl
  have hF0 : Fr [] w (w.alloc (.cells #[.int .i64 k, .int .i64 n, .int .i64 a, .int .i64 par] 92)) := (Fr.refl _ w).alloc _
  have HE := hid her
  have HH := hid h
  have HF0 := hid hF0
  have HP := hid hpl
  clear h B0 hF0 q0 q1 q6 q7 q8 q9 q10 her hpl
  go_enter Tryz.func30, Tryz.ntmps30
  go_wp2_with fail
  refine (dPack k n a par hpar a0 a1 _).mono ?_
  rintro e w1 ⟨⟨v, rfl⟩, hF1⟩
  rw [HE.out]
  have HF1 := hid (HF0.out.trans hF1)
  clear hF1
  go_wp2_with fail
  refine (HP.out w1 (HH.out.step HF1.out)).mono ?_
  rintro e w2 ⟨rfl, h2, hF2⟩
  have H2 := hid h2
  have HF2 := hid hF2
  clear h2 hF2
  go_wp2_with fail
  refine bodyPost_ret (v := .tuple #[.int .i64 0, .int .i64 er]) (by simp [results, Tryz.results30, go_sem]) rfl ⟨rfl, H2.out, (FrD.of HF1.out).trans HF2.out⟩

def AlYes (w : World) (D : DL) (W Lg : Int) (cls : List Int) (Rs : List Rows) (bits : List Bool) (top par : Int) (m : List (Int × Value)) (k a : Int) (n : Nat) (p : Int) (e : Ending) (w' : World) : Prop :=
  e = .returned (.tuple #[.int .i64 p, .int .i64 0]) ∧ FrD D.B D.mp D.rsb w w' ∧ ∃ g, w.heap.size ≤ g ∧ DH w' D W Lg cls Rs bits top par (mput m p (obV k n a par g n)) ∧ Blk w' g (List.replicate n (.int .i64 0)) 2

set_option maxRecDepth 100000 in
set_option maxHeartbeats 6400000 in
theorem dAllocYes (D : DL) (W Lg : Int) (cls : List Int) (Rs Rs' : List Rows) (bits bits' : List Bool) (top top' par : Int) (m : List (Int × Value)) (k a : Int) (n : Nat) (p : Int) (w : World) (h : DH w D W Lg cls Rs bits top par m) (hb : ∀ b o c n, D.sv = .slice (some ⟨b, o, none⟩) n c → b < D.B) (hpar : par = 0 ∨ par = 1) (a0 : 0 ≤ a) (a1 : a < 16777216) (her : dPackErr k n = 0)
    (hpl : ∀ w1, DH w1 D W Lg cls Rs bits top par m → Calls Tryz.prog 66 #[.pointer (some ⟨D.mb, 0, none⟩), .int .i64 n] w1 fun e w2 => e = .returned (.tuple #[.int .i64 p, .int .i64 0]) ∧ DH w2 D W Lg cls Rs' bits' top' par m ∧ FrD D.B D.mp D.rsb w1 w2) :
    Calls Tryz.prog 30 #[.pointer (some ⟨D.mb, 0, none⟩), .int .i64 k, .int .i64 a, .int .i64 n] w (AlYes w D W Lg cls Rs' bits' top' par m k a n p) := by
  obtain ⟨q0, q1, q6, q7, q8, q9, q10, q11⟩ := h.reads
  have hn : n ≤ 100000 := by unfold dPackErr at her; split at her <;> (try split at her) <;> omega
  have B0 := Blk.new w [.int .i64 k, .int .i64 n, .int .i64 a, .int .i64 par] 92
  have b0 := B0.cell (i := 0) rfl
  have b1 := B0.cell (i := 1) rfl
  have b2 := B0.cell (i := 2) rfl
  have b3 := B0.cell (i := 3) rfl
  have hF0 : Fr [] w (w.alloc (.cells #[.int .i64 k, .int .i64 n, .int .i64 a, .int .i64 par] 92)) := (Fr.refl _ w).alloc _
  have hnm : w.heap.size ≠ D.mp := by have := h.im.lt; omega
  have hmk := run_mk64 n hn
  have HE := hid her
  have HH := hid h
  have HF0 := hid hF0
  have HP := hid hpl
  have HB := hid hb
  have HB0 := hid B0
  clear h B0 hF0 q0 q1 q6 q7 q8 q9 q10 her hpl hb
  go_enter Tryz.func30, Tryz.ntmps30
  go_wp2_with fail
  refine (dPack k n a par hpar a0 a1 _).mono ?_
  rintro e w1 ⟨⟨v, rfl⟩, hF1⟩
  rw [HE.out]
  have HF1 := hid (HF0.out.trans hF1)
  have HB1 := hid (HB0.out.fr hF1 (by simp))
  clear hF1
  go_wp2_with fail
  refine (HP.out w1 (HH.out.step HF1.out)).mono ?_
  rintro e w2 ⟨rfl, h2, hF2⟩
  have hB2 := hF2.blk HB1.out ⟨by decide, by decide, by decide⟩ hnm
  have c0 := hB2.cell (i := 0) rfl
  have c1 := hB2.cell (i := 1) rfl
  have c2 := hB2.cell (i := 2) rfl
  have c3 := hB2.cell (i := 3) rfl
  obtain ⟨q0, q1, q6, q7, q8, q9, q10, q11⟩ := h2.reads
  have H2 := hid h2
  have HF2 := hid hF2
  have HB2 := hid hB2
  have hsz : w.heap.size ≤ w2.heap.size := Nat.le_trans HF1.out.size hF2.size
  clear h2 hF2 hB2 q0 q1 q6 q8 q9 q10 q11 b0 b1 b2 b3
  go_wp2_with fail
  have e0 : (List.replicate n (Value.int .i64 0)).toArray = Array.replicate n (Value.int .i64 0) := by simp
  have hF3 : Fr [] w2 (w2.alloc (.cells (Array.replicate n (.int .i64 0)) 2)).drew := ((Fr.refl _ w2).alloc _).drew
  have hg3 : Blk (w2.alloc (.cells (Array.replicate n (.int .i64 0)) 2)).drew w2.heap.size (List.replicate n (.int .i64 0)) 2 := by
    have := Blk.new w2 (List.replicate n (.int .i64 0)) 2
    rw [e0] at this
    exact this.fr ((Fr.refl [] _).drew) (by simp)
  have hI3 : IM (w2.alloc (.cells (Array.replicate n (.int .i64 0)) 2)).drew D.mp m := (H2.out.im.alloc _).drew
  obtain ⟨w4, hrun, hI4, hF4⟩ := run_mapUpdate_im (P := Tryz.prog) hI3 Tryz.underlying58 Tryz.underlying3 p (obV k n a par w2.heap.size n)
  unfold obV at hrun
  have hB3 := HB2.out.fr hF3 (by simp)
  have d0 := hB3.cell (i := 0) rfl
  have d1 := hB3.cell (i := 1) rfl
  have d2 := hB3.cell (i := 2) rfl
  have d3 := hB3.cell (i := 3) rfl
  have d7 := (H2.out.step hF3).reads.2.2.2.1
  have h3 := H2.out.step hF3
  have HI4 := hid hI4
  have HF4 := hid hF4
  have HF3 := hid hF3
  have HG3 := hid hg3
  have H3 := hid h3
  clear hI4 hF4 hI3 hB3 h3 hg3 hF3 e0
  go_region
  all_goals
    go_wp2_with fail
    refine bodyPost_ret (v := .tuple #[.int .i64 p, .int .i64 0]) (by simp [results, Tryz.results30, go_sem]) rfl ⟨rfl, ((FrD.of HF1.out).trans HF2.out).trans ((FrD.of HF3.out).trans (FrD.map H2.out.lo.2.2 H2.out.apart.2.2.1 HF4.out)), w2.heap.size, hsz, H3.out.map HF4.out HB.out HI4.out, HG3.out.fr HF4.out (fun hc => nomap H3.out.im HG3.out (List.mem_singleton.1 hc))⟩
end Go.Proofs.YtifillpcphiblaaGreat
