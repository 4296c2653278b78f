
import Derived.Test.YtklnpooninbogaaGreatYStk
import Derived.Deep.RegionHeld3
namespace Go.Proofs.YtklnpooninbogaaGreat
open Go Go.Proofs Go.RowKit
theorem topF_lt {fs : List Fm} {n : Nat} {f : Fm} (h : topF fs n = some f) : 1 ≤ n ∧ fs[n - 1]? = some f := by
  unfold topF at h
  split at h
  · cases h
  · exact ⟨by omega, h⟩
set_option maxRecDepth 100000 in
set_option maxHeartbeats 1600000 in
theorem sScan (sb : Nat) (s : Sk) (P : Nat → Prop) (w : World) (h : SkRep w P sb s) (hP : ¬ P sb) (hn : s.todo ≤ s.fs.length) :
    Calls Tryz.prog 111 #[.pointer (some ⟨sb, 0, none⟩)] w fun e w' => Fr [sb] w w' ∧ match topF s.fs s.todo with
      | none => e = .returned (.tuple #[.agg #[.int .i64 0, .int .i64 0, .slice none 0 0], .bool false]) ∧ SkRep w' P sb s
      | some f => ∃ g, e = .returned (.tuple #[.agg #[.int .i64 f.k, .int .i64 f.n, .slice (some ⟨g, 0, none⟩) f.l.length f.l.length], .bool true]) ∧ w.heap.size ≤ g ∧ Blk w' g (f.l.map (.int .i64)) 2 ∧ SkRep w' P sb { s with todo := s.todo - 1 } := by
  obtain ⟨lv, hB, hx⟩ := id h
  have hl : s.todo ≤ 100000 := by
    obtain ⟨A, c, rfl, hc, hl, hxx⟩ := hx
    omega
  have c3 := (hB.alloc (.cells #[.int .i64 0, .int .i64 0, .slice none 0 0] 95)).cell (i := 3) rfl
  have hF0 : Fr [] w (w.alloc (.cells #[.int .i64 0, .int .i64 0, .slice none 0 0] 95)) := (Fr.refl _ w).alloc _
  have hS0 : SkRep (w.alloc (.cells #[.int .i64 0, .int .i64 0, .slice none 0 0] 95)) P sb s := h.fr hF0 (by simp) (by simp)
  have hC0 := Blk.new w [.int .i64 0, .int .i64 0, .slice none 0 0] 95
  have hsb : sb < w.heap.size := hB.lt
  have HH := hid h
  have HB := hid hB
  have HX := hid hx
  have Hc := hid (sAtN sb s P s.todo _ hS0 hn)
  have HC0 := hid hC0
  have HF0 := hid hF0
  have HS0 := hid hS0
  have HN := hid hn
  have HP := hid hP
  have HSB := hid hsb
  obtain ⟨ro, hro⟩ : ∃ ro, ro = topF s.fs s.todo := ⟨_, rfl⟩
  rw [← hro] at Hc ⊢
  have HRO := hid hro
  have e1 : 1 ≤ s.todo → wrap64 ((s.todo : Int) - 1) = ((s.todo - 1 : Nat) : Int) := by intro h; unfold wrap64; omega
  have HE := hid e1
  have hne : sb ≠ w.heap.size := by omega
  have HNE := hid hne
  clear hB hx h hF0 hS0 hC0 hsb hP hn hro e1 hne
  cases ro with
  | none =>
    go_enter Tryz.func111, Tryz.ntmps111
    go_wp2_with fail
    refine Hc.out.mono ?_
    rintro e w1 ⟨hF1, rfl⟩
    have hC1 := (HC0.out.fr hF1 (by simp)).alloc (.cells #[.int .i64 0, .int .i64 0, .slice none 0 0] 95)
    have z0 := hC1.frozen 0
    have z1 := hC1.frozen 1
    have z2 := hC1.frozen 2
    have e0 := hC1.cell (i := 0) rfl
    have e1 := hC1.cell (i := 1) rfl
    have e2 := hC1.cell (i := 2) rfl
    have hC2 := ((hC1.set 0 (.int .i64 0)).set 1 (.int .i64 0)).set 2 (.slice none 0 0)
    have HC2 := hid hC2
    have HF1 : Hid (Fr [] (w.alloc (.cells #[.int .i64 0, .int .i64 0, .slice none 0 0] 95)) (w1.alloc (.cells #[.int .i64 0, .int .i64 0, .slice none 0 0] 95))) := hid ((hF1.alloc (.cells #[.int .i64 0, .int .i64 0, .slice none 0 0] 95)))
    have HLT : Hid (w.heap.size < w1.heap.size) := hid (HC0.out.fr hF1 (by simp)).lt
    clear hC1 hC2 c3 hF1
    go_wp2_with fail
    have hC2 := HC2.out
    have q0 := hC2.cell (i := 0) rfl
    have q1 := hC2.cell (i := 1) rfl
    have q2 := hC2.cell (i := 2) rfl
    refine bodyPost_ret (v := .tuple #[.agg #[.int .i64 0, .int .i64 0, .slice none 0 0], .bool false]) (by simp [results, Tryz.results111, go_sem, q0, q1, q2]) rfl ?_
    have hF : Fr [w.heap.size] (w1.alloc (.cells #[.int .i64 0, .int .i64 0, .slice none 0 0] 95)) ((((w1.alloc (.cells #[.int .i64 0, .int .i64 0, .slice none 0 0] 95)).setCell ⟨w.heap.size, 0, none⟩ (.int .i64 0)).setCell ⟨w.heap.size, 1, none⟩ (.int .i64 0)).setCell ⟨w.heap.size, 2, none⟩ (.slice none 0 0)) := (((Fr.refl _ _).set (by simp) _).set (by simp) _).set (by simp) _
    have hT : Fr [] w _ := (HF0.out.trans HF1.out).step hF (by simp)
    exact ⟨hT.here (by simp), rfl, HH.out.fr hT (by simp) (by simp)⟩
  | some f =>
    obtain ⟨t1, t2⟩ := topF_lt HRO.out.symm
    have e1 := HE.out t1
    go_enter Tryz.func111, Tryz.ntmps111
    go_wp2_with fail
    refine Hc.out.mono ?_
    rintro e w1 ⟨hF1, g, rfl, hg, hGB⟩
    have hB1 := (HB.out.fr HF0.out (by simp)).fr hF1 (by simp)
    have hC0' := HC0.out.fr hF1 (by simp)
    have HLT : Hid (w.heap.size < w1.heap.size) := hid hC0'.lt
    have hB1' := hB1.alloc (.cells #[.int .i64 f.k, .int .i64 f.n, .slice (some ⟨g, 0, none⟩) f.l.length f.l.length] 95)
    have c3 := hB1'.cell (i := 3) rfl
    have y3 := hB1'.frozen 3
    have hC1 := (hC0'.alloc (.cells #[.int .i64 f.k, .int .i64 f.n, .slice (some ⟨g, 0, none⟩) f.l.length f.l.length] 95))
    have z0 := hC1.frozen 0
    have z1 := hC1.frozen 1
    have z2 := hC1.frozen 2
    have e0 := hC1.cell (i := 0) rfl
    have e3 := hC1.cell (i := 1) rfl
    have e2 := hC1.cell (i := 2) rfl
    have hC2 := (((hC1.fr (show Fr [sb] _ ((w1.alloc (.cells #[.int .i64 f.k, .int .i64 f.n, .slice (some ⟨g, 0, none⟩) f.l.length f.l.length] 95)).setCell ⟨sb, 3, none⟩ (.int .i64 ((s.todo : Int) - 1))) from (Fr.refl [sb] _).set (by simp) _) (by simpa using fun h => HNE.out h.symm)).set 0 (.int .i64 f.k)).set 1 (.int .i64 f.n)).set 2 (.slice (some ⟨g, 0, none⟩) f.l.length f.l.length)
    have HC2 := hid hC2
    have HB2 := hid (hB1'.set 3 (.int .i64 ((s.todo : Int) - 1)))
    have HG := hid hg
    have HF1 : Hid (Fr [] (w.alloc (.cells #[.int .i64 0, .int .i64 0, .slice none 0 0] 95)) (w1.alloc (.cells #[.int .i64 f.k, .int .i64 f.n, .slice (some ⟨g, 0, none⟩) f.l.length f.l.length] 95))) := hid (hF1.alloc _)
    have HGB := hid (hGB.alloc (.cells #[.int .i64 f.k, .int .i64 f.n, .slice (some ⟨g, 0, none⟩) f.l.length f.l.length] 95))
    clear hB1 hB1' hC0' hC1 hF1 hg hGB hC2 HC0
    go_wp2_with fail
    have hC2 := HC2.out
    have q0 := hC2.cell (i := 0) rfl
    have q1 := hC2.cell (i := 1) rfl
    have q2 := hC2.cell (i := 2) rfl
    refine bodyPost_ret (v := .tuple #[.agg #[.int .i64 f.k, .int .i64 f.n, .slice (some ⟨g, 0, none⟩) f.l.length f.l.length], .bool true]) (by simp [results, Tryz.results111, go_sem, q0, q1, q2]) rfl ?_
    obtain ⟨W1, hW1⟩ : ∃ W1, W1 = w1.alloc (.cells #[.int .i64 f.k, .int .i64 f.n, .slice (some ⟨g, 0, none⟩) f.l.length f.l.length] 95) := ⟨_, rfl⟩
    have hg0 := HG.out
    rw [World.size_alloc] at hg0
    rw [← hW1] at HF1 HGB HB2 ⊢
    have hF : Fr [sb, w.heap.size] W1 ((((W1.setCell ⟨sb, 3, none⟩ (.int .i64 ((s.todo : Int) - 1))).setCell ⟨w.heap.size, 0, none⟩ (.int .i64 f.k)).setCell ⟨w.heap.size, 1, none⟩ (.int .i64 f.n)).setCell ⟨w.heap.size, 2, none⟩ (.slice (some ⟨g, 0, none⟩) f.l.length f.l.length)) := ((((Fr.refl _ W1).set (by simp) _).set (by simp) _).set (by simp) _).set (by simp) _
    have hF3 : Fr [w.heap.size] (W1.setCell ⟨sb, 3, none⟩ (.int .i64 ((s.todo : Int) - 1))) ((((W1.setCell ⟨sb, 3, none⟩ (.int .i64 ((s.todo : Int) - 1))).setCell ⟨w.heap.size, 0, none⟩ (.int .i64 f.k)).setCell ⟨w.heap.size, 1, none⟩ (.int .i64 f.n)).setCell ⟨w.heap.size, 2, none⟩ (.slice (some ⟨g, 0, none⟩) f.l.length f.l.length)) := (((Fr.refl _ _).set (by simp) _).set (by simp) _).set (by simp) _
    have hT : Fr [sb] w _ := ((HF0.out.trans HF1.out).here (by simp)).step hF (by simp)
    refine ⟨hT, g, rfl, by omega, HGB.out.fr hF (by simp; have := HSB.out; omega), ?_⟩
    refine ⟨lv, ?_, HX.out.fr hT (fun g' hg' _ hc => HP.out (by rw [← List.mem_singleton.1 hc]; exact hg'))⟩
    have := HB2.out.fr hF3 (by simpa using HNE.out)
    have e9 : ((s.todo - 1 : Nat) : Int) = (s.todo : Int) - 1 := by omega
    show Blk _ sb [lv, .int .i64 s.room, .int .i64 s.used, .int .i64 ((s.todo - 1 : Nat) : Int)] _
    rw [e9]
    exact this
set_option maxRecDepth 100000 in
theorem sTop (sb : Nat) (s : Sk) (P : Nat → Prop) (w : World) (h : SkRep w P sb s) :
    Calls Tryz.prog 119 #[.pointer (some ⟨sb, 0, none⟩)] w (AtPost w (topF s.fs s.fs.length)) := by
  obtain ⟨lv, hB, hx⟩ := id h
  obtain ⟨A, c, rfl, hc, hl, hxx⟩ := id hx
  have c0 := (hB.alloc (.cells #[.int .i64 0, .int .i64 0, .slice none 0 0] 95)).cell (i := 0) rfl
  have hF0 : Fr [] w (w.alloc (.cells #[.int .i64 0, .int .i64 0, .slice none 0 0] 95)) := (Fr.refl _ w).alloc _
  have hS0 : SkRep (w.alloc (.cells #[.int .i64 0, .int .i64 0, .slice none 0 0] 95)) P sb s := h.fr hF0 (by simp) (by simp)
  have hC0 := Blk.new w [.int .i64 0, .int .i64 0, .slice none 0 0] 95
  have Hc := hid (sAtN sb s P s.fs.length _ hS0 (Nat.le_refl _))
  have HC0 := hid hC0
  have HF0 := hid hF0
  obtain ⟨N, hN⟩ : ∃ N, N = s.fs.length := ⟨_, rfl⟩
  rw [← hN] at Hc c0 ⊢
  obtain ⟨ro, hro⟩ : ∃ ro, ro = topF s.fs N := ⟨_, rfl⟩
  rw [← hro] at Hc ⊢
  clear hB hx hxx h hF0 hS0 hC0 hc hl hN hro
  go_enter Tryz.func119, Tryz.ntmps119
  go_wp2_with fail
  refine Hc.out.mono ?_
  rintro e w1 ⟨hF1, hres⟩
  have hC1 := HC0.out.fr hF1 (by simp)
  have z0 := hC1.frozen 0
  have z1 := hC1.frozen 1
  have z2 := hC1.frozen 2
  have e0 := hC1.cell (i := 0) rfl
  have e3 := hC1.cell (i := 1) rfl
  have e2 := hC1.cell (i := 2) rfl
  have HF1 := hid (HF0.out.trans hF1)
  cases ro with
  | none =>
    subst hres
    have HC2 := hid (((hC1.set 0 (.int .i64 0)).set 1 (.int .i64 0)).set 2 (.slice none 0 0))
    clear hC1 hF1 c0
    go_wp2_with fail
    have hC2 := HC2.out
    have q0 := hC2.cell (i := 0) rfl
    have q1 := hC2.cell (i := 1) rfl
    have q2 := hC2.cell (i := 2) rfl
    refine bodyPost_ret (v := .tuple #[.agg #[.int .i64 0, .int .i64 0, .slice none 0 0], .bool false]) (by simp [results, Tryz.results119, go_sem, q0, q1, q2]) rfl ⟨?_, rfl⟩
    exact HF1.out.step (S' := [w.heap.size]) ((((Fr.refl _ w1).set (by simp) _).set (by simp) _).set (by simp) _) (by simp)
  | some f =>
    obtain ⟨g, rfl, hg, hGB⟩ := hres
    have HC2 := hid (((hC1.set 0 (.int .i64 f.k)).set 1 (.int .i64 f.n)).set 2 (.slice (some ⟨g, 0, none⟩) f.l.length f.l.length))
    have HG := hid hg
    have HGB := hid hGB
    clear hC1 hF1 hg hGB c0
    go_wp2_with fail
    have hC2 := HC2.out
    have q0 := hC2.cell (i := 0) rfl
    have q1 := hC2.cell (i := 1) rfl
    have q2 := hC2.cell (i := 2) rfl
    refine bodyPost_ret (v := .tuple #[.agg #[.int .i64 f.k, .int .i64 f.n, .slice (some ⟨g, 0, none⟩) f.l.length f.l.length], .bool true]) (by simp [results, Tryz.results119, go_sem, q0, q1, q2]) rfl ?_
    have hF3 : Fr [w.heap.size] w1 (((w1.setCell ⟨w.heap.size, 0, none⟩ (.int .i64 f.k)).setCell ⟨w.heap.size, 1, none⟩ (.int .i64 f.n)).setCell ⟨w.heap.size, 2, none⟩ (.slice (some ⟨g, 0, none⟩) f.l.length f.l.length)) := ((((Fr.refl _ w1).set (by simp) _).set (by simp) _).set (by simp) _)
    have hg0 := HG.out
    rw [World.size_alloc] at hg0
    exact ⟨HF1.out.step hF3 (by simp), g, rfl, by omega, HGB.out.fr hF3 (by simp; omega)⟩
def Sk.pop (s : Sk) (f : Fm) : Sk := { fs := s.fs.dropLast, room := s.room, used := s.used - (f.l.length + 2), todo := min s.todo (s.fs.length - 1) }
set_option maxRecDepth 100000 in
set_option maxHeartbeats 1600000 in
theorem sPop (sb : Nat) (s : Sk) (P : Nat → Prop) (w : World) (h : SkRep w P sb s) (hP : ¬ P sb) (hu : 0 ≤ s.used ∧ s.used ≤ 100000) (ht : s.todo ≤ s.fs.length) (hfl : ∀ f ∈ s.fs, f.l.length ≤ 1000) :
    Calls Tryz.prog 83 #[.pointer (some ⟨sb, 0, none⟩)] w fun e w' => Fr [sb] w w' ∧ match topF s.fs s.fs.length with
      | none => e = .returned (.tuple #[.agg #[.int .i64 0, .int .i64 0, .slice none 0 0], .bool false, .bool false]) ∧ SkRep w' P sb s
      | some f => ∃ g, e = .returned (.tuple #[.agg #[.int .i64 f.k, .int .i64 f.n, .slice (some ⟨g, 0, none⟩) f.l.length f.l.length], .bool (decide (s.fs.length - 1 < s.todo)), .bool true]) ∧ w.heap.size ≤ g ∧ Blk w' g (f.l.map (.int .i64)) 2 ∧ SkRep w' P sb (s.pop f) := by
  obtain ⟨lv, hB, hx⟩ := id h
  have hC0 := Blk.new w [.int .i64 0, .int .i64 0, .slice none 0 0] 95
  have hF0 : Fr [] w (w.alloc (.cells #[.int .i64 0, .int .i64 0, .slice none 0 0] 95)) := (Fr.refl _ w).alloc _
  have hS0 : SkRep (w.alloc (.cells #[.int .i64 0, .int .i64 0, .slice none 0 0] 95)) P sb s := h.fr hF0 (by simp) (by simp)
  have hsb : sb < w.heap.size := hB.lt
  have Hc := hid (sTop sb s P _ hS0)
  have HH := hid h
  have HB := hid hB
  have HX := hid hx
  have HC0 := hid hC0
  have HF0 := hid hF0
  have HP := hid hP
  have HSB := hid hsb
  have HU := hid hu
  have HT := hid ht
  have HFL := hid hfl
  obtain ⟨ro, hro⟩ : ∃ ro, ro = topF s.fs s.fs.length := ⟨_, rfl⟩
  rw [← hro] at Hc ⊢
  have HRO := hid hro
  have HNE : Hid (sb ≠ w.heap.size) := hid (by omega)
  clear hB hx h hF0 hS0 hC0 hsb hP hro hu ht hfl
  cases ro with
  | none =>
    go_enter Tryz.func83, Tryz.ntmps83
    go_wp2_with fail
    refine Hc.out.mono ?_
    rintro e w1 ⟨hF1, hres⟩
    simp only at hres
    subst hres
    have hC1 := (HC0.out.fr hF1 (by simp)).alloc (.cells #[.int .i64 0, .int .i64 0, .slice none 0 0] 95)
    have z0 := hC1.frozen 0
    have z1 := hC1.frozen 1
    have z2 := hC1.frozen 2
    have e0 := hC1.cell (i := 0) rfl
    have e1 := hC1.cell (i := 1) rfl
    have e2 := hC1.cell (i := 2) rfl
    have HC2 := hid (((hC1.set 0 (.int .i64 0)).set 1 (.int .i64 0)).set 2 (.slice none 0 0))
    have HF1 : Hid (Fr [] (w.alloc (.cells #[.int .i64 0, .int .i64 0, .slice none 0 0] 95)) (w1.alloc (.cells #[.int .i64 0, .int .i64 0, .slice none 0 0] 95))) := hid ((hF1.alloc (.cells #[.int .i64 0, .int .i64 0, .slice none 0 0] 95)))
    clear hC1 hF1
    go_wp2_with fail
    have hC2 := HC2.out
    have q0 := hC2.cell (i := 0) rfl
    have q1 := hC2.cell (i := 1) rfl
    have q2 := hC2.cell (i := 2) rfl
    refine bodyPost_ret (v := .tuple #[.agg #[.int .i64 0, .int .i64 0, .slice none 0 0], .bool false, .bool false]) (by simp [results, Tryz.results83, go_sem, q0, q1, q2]) rfl ?_
    have hF : Fr [w.heap.size] (w1.alloc (.cells #[.int .i64 0, .int .i64 0, .slice none 0 0] 95)) ((((w1.alloc (.cells #[.int .i64 0, .int .i64 0, .slice none 0 0] 95)).setCell ⟨w.heap.size, 0, none⟩ (.int .i64 0)).setCell ⟨w.heap.size, 1, none⟩ (.int .i64 0)).setCell ⟨w.heap.size, 2, none⟩ (.slice none 0 0)) := (((Fr.refl _ _).set (by simp) _).set (by simp) _).set (by simp) _
    have hT : Fr [] w _ := (HF0.out.trans HF1.out).step hF (by simp)
    exact ⟨hT.here (by simp), rfl, HH.out.fr hT (by simp) (by simp)⟩
  | some f =>
    obtain ⟨t1, t2⟩ := topF_lt HRO.out.symm
    obtain ⟨A, c, hlv, hc, hl, hxx⟩ := id HX.out
    obtain ⟨N, hN⟩ : ∃ N, N = s.fs.length := ⟨_, rfl⟩
    rw [← hN] at hlv hc hl t1 t2 ⊢
    have hfl : f.l.length ≤ 1000 := HFL.out f (List.mem_of_getElem? t2)
    have hT' : s.todo ≤ N := by have := HT.out; omega
    have HN := hid hN
    have HT2 := hid t2
    have HXX := hid hxx
    clear hxx hN t2
    subst hlv
    go_enter Tryz.func83, Tryz.ntmps83
    go_wp2_with fail
    refine Hc.out.mono ?_
    rintro e w1 ⟨hF1, g, rfl, hg, hGB⟩
    have hB1 := (HB.out.fr HF0.out (by simp)).fr hF1 (by simp)
    have hC0' := HC0.out.fr hF1 (by simp)
    have hB1' := hB1.alloc (.cells #[.int .i64 f.k, .int .i64 f.n, .slice (some ⟨g, 0, none⟩) f.l.length f.l.length] 95)
    have hC1 := (hC0'.alloc (.cells #[.int .i64 f.k, .int .i64 f.n, .slice (some ⟨g, 0, none⟩) f.l.length f.l.length] 95))
    have hD1 := Blk.new w1 [.int .i64 f.k, .int .i64 f.n, .slice (some ⟨g, 0, none⟩) f.l.length f.l.length] 95
    have HLT : Hid (w.heap.size < w1.heap.size) := hid hC0'.lt
    have HG := hid hg
    have HF1 : Hid (Fr [] (w.alloc (.cells #[.int .i64 0, .int .i64 0, .slice none 0 0] 95)) (w1.alloc (.cells #[.int .i64 f.k, .int .i64 f.n, .slice (some ⟨g, 0, none⟩) f.l.length f.l.length] 95))) := hid (hF1.alloc _)
    have HGB := hid (hGB.alloc (.cells #[.int .i64 f.k, .int .i64 f.n, .slice (some ⟨g, 0, none⟩) f.l.length f.l.length] 95))
    clear hB1 hC0' hF1 hg hGB
    go_wp2_with fail
    obtain ⟨W1, hW1⟩ : ∃ W1, W1 = w1.alloc (.cells #[.int .i64 f.k, .int .i64 f.n, .slice (some ⟨g, 0, none⟩) f.l.length f.l.length] 95) := ⟨_, rfl⟩
    rw [← hW1] at HF1 HGB hB1' hC1 hD1 ⊢
    clear hW1
    have c0 := hB1'.cell (i := 0) rfl
    have c2 := hB1'.cell (i := 2) rfl
    have c3 := hB1'.cell (i := 3) rfl
    have y0 := hB1'.frozen 0
    have y2 := hB1'.frozen 2
    have y3 := hB1'.frozen 3
    have z0 := hC1.frozen 0
    have z1 := hC1.frozen 1
    have z2 := hC1.frozen 2
    have e0 := hC1.cell (i := 0) rfl
    have e3 := hC1.cell (i := 1) rfl
    have e2 := hC1.cell (i := 2) rfl
    have d0 := hD1.cell (i := 0) rfl
    have d1 := hD1.cell (i := 1) rfl
    have d2 := hD1.cell (i := 2) rfl
    have HB1 := hid hB1'
    have HC1 := hid hC1
    have HD1 := hid hD1
    clear hB1' hC1 hD1
    go_region
    obtain ⟨W2, hW2⟩ : ∃ W2, W2 = (W1.setCell ⟨sb, 0, none⟩ (.slice A (N - 1) c)).drew := ⟨_, rfl⟩
    rw [← hW2]
    have hF2 : Fr [sb] W1 W2 := by rw [hW2]; exact ((Fr.refl _ W1).set (by simp) _).drew
    have hB2 : Blk W2 sb [.slice A (N - 1) c, .int .i64 s.room, .int .i64 s.used, .int .i64 s.todo] 128 := by rw [hW2]; exact (HB1.out.set 0 (.slice A (N - 1) c)).drew
    have hC2 := HC1.out.fr hF2 (by simpa using fun h => HNE.out h.symm)
    have hD2 := HD1.out.fr hF2 (by have := HSB.out; have := HLT.out; simp; omega)
    clear hW2 c0 c2 c3 y0 y2 y3 z0 z1 z2 e0 e3 e2 d0 d1 d2
    have hS : ∀ wx, Fr [] W2 wx → wx.cell? ⟨sb, 2, none⟩ = some (.int .i64 s.used) ∧ wx.cell? ⟨w1.heap.size, 0, none⟩ = some (.int .i64 f.k) ∧ wx.cell? ⟨w1.heap.size, 1, none⟩ = some (.int .i64 f.n) ∧ wx.cell? ⟨w1.heap.size, 2, none⟩ = some (.slice (some ⟨g, 0, none⟩) f.l.length f.l.length) := fun wx h =>
      ⟨(hB2.fr h (by simp)).cell (i := 2) rfl, (hD2.fr h (by simp)).cell (i := 0) rfl, (hD2.fr h (by simp)).cell (i := 1) rfl, (hD2.fr h (by simp)).cell (i := 2) rfl⟩
    have HS := hid hS
    have HB2 := hid hB2
    have HC2 := hid hC2
    have HD2 := hid hD2
    have HF2 := hid hF2
    have HZ : ∀ wx, Fr [] W2 wx → wx.frozen? ⟨sb, 2, none⟩ = false := fun wx h => (hB2.fr h (by simp)).frozen 2
    have HZ := hid HZ
    clear hS hB2 hC2 hD2 hF2
    go_wp2_with fail
    obtain ⟨x0, x1, x2, x3⟩ := HS.out W2 (Fr.refl [] W2)
    go_region_with (go_at_call 81; refine (sSize f.k f.n _ f.l.length _ (by omega) _).mono ?_; rintro e wA ⟨rfl, hF⟩; have HFA : Hid (Fr [] W2 wA) := hid (((Fr.refl [] W2).drew).trans hF); obtain ⟨x0', x1', x2', x3'⟩ := HS.out wA HFA.out; have hzA := HZ.out wA HFA.out; clear hF)
    all_goals
      have eU : IntKind.i64.wrap (s.used - ((f.l.length : Int) + 2)) = s.used - (f.l.length + 2) := by
        have := HU.out
        rw [IntKind.wrap_i64]; omega
      rw [eU]
      have hFW : Fr [sb] wA (wA.setCell ⟨sb, 2, none⟩ (.int .i64 (s.used - (f.l.length + 2)))) := (Fr.refl _ wA).set (by simp) _
      have hB3 := (HB2.out.fr HFA.out (by simp)).set 2 (.int .i64 (s.used - (f.l.length + 2)))
      have hC3 := (HC2.out.fr HFA.out (by simp)).fr hFW (by simpa using fun h => HNE.out h.symm)
      have hD3 := (HD2.out.fr HFA.out (by simp)).fr hFW (by have := HSB.out; have := HLT.out; simp; omega)
      have HFW : Hid (Fr [sb] W2 (wA.setCell ⟨sb, 2, none⟩ (.int .i64 (s.used - (f.l.length + 2))))) := hid ((HFA.out.here (by simp)).trans hFW)
      obtain ⟨W3, hW3⟩ : ∃ W3, W3 = wA.setCell ⟨sb, 2, none⟩ (.int .i64 (s.used - (f.l.length + 2))) := ⟨_, rfl⟩
      rw [← hW3] at hB3 hC3 hD3 HFW ⊢
      clear hW3 hFW eU x0 x1 x2 x3 x0' x1' x2' x3' hzA HFA HB2 HC2 HD2 HS HZ
      have c0 := hB3.cell (i := 0) rfl
      have c3 := hB3.cell (i := 3) rfl
      have y3 := hB3.frozen 3
      have d0 := hD3.cell (i := 0) rfl
      have d1 := hD3.cell (i := 1) rfl
      have d2 := hD3.cell (i := 2) rfl
      have z0 := hC3.frozen 0
      have z1 := hC3.frozen 1
      have z2 := hC3.frozen 2
      have e0 := hC3.cell (i := 0) rfl
      have e3 := hC3.cell (i := 1) rfl
      have e2 := hC3.cell (i := 2) rfl
      have HB3 := hid hB3
      have HC3 := hid hC3
      clear hB3 hC3 hD3
      go_wp2_with fail
      go_region
      go_wp2_with fail
      go_region
      go_wp2_with fail
    all_goals
      have key : ∀ (T : Nat) (b : Bool), T = min s.todo (N - 1) → b = decide (N - 1 < s.todo) → ∀ W4, W4 = ((((W3.setCell ⟨sb, 3, none⟩ (.int .i64 T)).setCell ⟨w.heap.size, 0, none⟩ (.int .i64 f.k)).setCell ⟨w.heap.size, 1, none⟩ (.int .i64 f.n)).setCell ⟨w.heap.size, 2, none⟩ (.slice (some ⟨g, 0, none⟩) f.l.length f.l.length)).drew.drew →
          (W4.cell? ⟨w.heap.size, 0, none⟩ = some (.int .i64 f.k) ∧ W4.cell? ⟨w.heap.size, 1, none⟩ = some (.int .i64 f.n) ∧ W4.cell? ⟨w.heap.size, 2, none⟩ = some (.slice (some ⟨g, 0, none⟩) f.l.length f.l.length)) ∧
          Fr [sb] w W4 ∧ ∃ g', (Ending.returned (.tuple #[.agg #[.int .i64 f.k, .int .i64 f.n, .slice (some ⟨g, 0, none⟩) f.l.length f.l.length], .bool b, .bool true])) = (Ending.returned (.tuple #[.agg #[.int .i64 f.k, .int .i64 f.n, .slice (some ⟨g', 0, none⟩) f.l.length f.l.length], .bool (decide (N - 1 < s.todo)), .bool true])) ∧ w.heap.size ≤ g' ∧ Blk W4 g' (f.l.map (.int .i64)) 2 ∧ SkRep W4 P sb (s.pop f) := by
        intro T b hT hb W4 hW4
        have hC4 := ((((HC3.out.fr (show Fr [sb] W3 (W3.setCell ⟨sb, 3, none⟩ (.int .i64 T)) from (Fr.refl _ W3).set (by simp) _) (by simpa using fun h => HNE.out h.symm)).set 0 (.int .i64 f.k)).set 1 (.int .i64 f.n)).set 2 (.slice (some ⟨g, 0, none⟩) f.l.length f.l.length)).drew.drew
        have hF4 : Fr [w.heap.size] (W3.setCell ⟨sb, 3, none⟩ (.int .i64 T)) ((((W3.setCell ⟨sb, 3, none⟩ (.int .i64 T)).setCell ⟨w.heap.size, 0, none⟩ (.int .i64 f.k)).setCell ⟨w.heap.size, 1, none⟩ (.int .i64 f.n)).setCell ⟨w.heap.size, 2, none⟩ (.slice (some ⟨g, 0, none⟩) f.l.length f.l.length)).drew.drew := ((((Fr.refl _ _).set (by simp) _).set (by simp) _).set (by simp) _).drew.drew
        have hB4 := (HB3.out.set 3 (.int .i64 T)).fr hF4 (by simpa using HNE.out)
        rw [← hW4] at hC4 hF4 hB4
        have hF5 : Fr [sb, w.heap.size] W3 W4 := ((Fr.refl [sb, w.heap.size] W3).set (by simp) _).trans (hF4.here (by simp))
        have hF6 : Fr [sb, w.heap.size] W1 W4 := ((HF2.out.trans HFW.out).here (by simp)).trans hF5
        have hT6 : Fr [sb] w W4 := ((HF0.out.trans HF1.out).here (by simp)).step hF6 (by simp)
        have hg0 := HG.out
        rw [World.size_alloc] at hg0
        refine ⟨⟨hC4.cell (i := 0) rfl, hC4.cell (i := 1) rfl, hC4.cell (i := 2) rfl⟩, hT6, g, by rw [hb], by omega, HGB.out.fr hF6 (by have := HSB.out; simp; omega), .slice A (N - 1) c, ?_, ?_⟩
        · have e1 : (s.pop f).todo = T := by unfold Sk.pop; rw [hT, HN.out]
          have e2 : (s.pop f).used = s.used - (f.l.length + 2) := rfl
          rw [e1, e2]
          exact hB4
        · refine ⟨A, c, by unfold Sk.pop; simp [HN.out], by unfold Sk.pop; have := HN.out; simp; omega, by unfold Sk.pop; have := HN.out; simp; omega, fun i x hx => ?_⟩
          have hx' : s.fs[i]? = some x := by
            unfold Sk.pop at hx
            rw [List.getElem?_dropLast] at hx
            split at hx
            · exact hx
            · cases hx
          obtain ⟨g1, o1, h1, h2, h3, h4, h5, sv, h6, h7⟩ := HXX.out i x hx'
          have hg1 : g1 ∉ [sb] := fun hc => HP.out (by rw [← List.mem_singleton.1 hc]; exact h2)
          exact ⟨g1, o1, h1, h2, Nat.lt_of_lt_of_le h3 hT6.size, (cell_fr hT6 hg1 h3 _).trans h4, (cell_fr hT6 hg1 h3 _).trans h5, sv, (cell_fr hT6 hg1 h3 _).trans h6, h7.fr hT6 (fun g' hg' _ hc => HP.out (by rw [← List.mem_singleton.1 hc]; exact hg'))⟩
      by_cases hbr : N - 1 < s.todo
      · obtain ⟨W4, hW4⟩ : ∃ W4, W4 = ((((W3.setCell ⟨sb, 3, none⟩ (.int .i64 ((N - 1 : Nat) : Int))).setCell ⟨w.heap.size, 0, none⟩ (.int .i64 f.k)).setCell ⟨w.heap.size, 1, none⟩ (.int .i64 f.n)).setCell ⟨w.heap.size, 2, none⟩ (.slice (some ⟨g, 0, none⟩) f.l.length f.l.length)).drew.drew := ⟨_, rfl⟩
        first
          | (exfalso; omega)
          | (rw [← hW4]
             obtain ⟨⟨q0, q1, q2⟩, hfin⟩ := key (N - 1) true (by omega) (by simp; omega) W4 hW4
             clear key
             refine bodyPost_ret (v := .tuple #[.agg #[.int .i64 f.k, .int .i64 f.n, .slice (some ⟨g, 0, none⟩) f.l.length f.l.length], .bool true, .bool true]) (by simp [results, Tryz.results83, go_sem, q0, q1, q2]) rfl ?_
             simpa [hbr] using hfin)
      · obtain ⟨W4, hW4⟩ : ∃ W4, W4 = ((((W3.setCell ⟨sb, 3, none⟩ (.int .i64 ((s.todo : Nat) : Int))).setCell ⟨w.heap.size, 0, none⟩ (.int .i64 f.k)).setCell ⟨w.heap.size, 1, none⟩ (.int .i64 f.n)).setCell ⟨w.heap.size, 2, none⟩ (.slice (some ⟨g, 0, none⟩) f.l.length f.l.length)).drew.drew := ⟨_, rfl⟩
        first
          | (exfalso; omega)
          | (rw [← hW4]
             obtain ⟨⟨q0, q1, q2⟩, hfin⟩ := key s.todo false (by omega) (by simp; omega) W4 hW4
             clear key
             refine bodyPost_ret (v := .tuple #[.agg #[.int .i64 f.k, .int .i64 f.n, .slice (some ⟨g, 0, none⟩) f.l.length f.l.length], .bool false, .bool true]) (by simp [results, Tryz.results83, go_sem, q0, q1, q2]) rfl ?_
             simpa [hbr] using hfin)
end Go.Proofs.YtklnpooninbogaaGreat
