
import Derived.Test.YtklnpooninbogaaGreatMXIns2
import Derived.Deep.RegionWith
import Derived.Deep.DeepCutAuto
namespace Go.Proofs.YtklnpooninbogaaGreat
open Go Go.Proofs Go.RowKit
def GivePost (xb b : Nat) (f p a n : Int) (l : List (Int × Int)) (w : World) (e : Ending) (w' : World) : Prop :=
  ∃ b' rest' cap', e = .returned (.int .i64 0) ∧ XAt w' xb b' f p (giveAt l (spotOf l a) a n) rest' cap' ∧ (b' = b ∨ w.heap.size ≤ b') ∧ Fr [xb, b] w w'
def GiveMid (xb b : Nat) (f p a n : Int) (l : List (Int × Int)) (sp : Nat) (w wx : World) : Prop :=
  ∃ b6 cap6 rest6, XAt wx xb b6 f p (putAt l sp a n) rest6 cap6 ∧ (b6 = b ∨ w.heap.size ≤ b6) ∧ Fr [xb, b] w wx
theorem GiveMid.mk {xb b : Nat} {f p a n : Int} {l : List (Int × Int)} {sp : Nat} {w w3 w6 : World} {b6 cap6 : Nat} {rest6 : List Value} (hne : xb ≠ b) (lx : xb < w.heap.size) (hw3 : Fr [] w w3)
    (hS : Blk (w3.alloc (.cells #[.int .i64 a, .int .i64 n] 175)).drew xb [.int .i64 f, .int .i64 p, .slice (some ⟨b, 0, none⟩) l.length 0] 174 ∨ ∃ cap, Blk (w3.alloc (.cells #[.int .i64 a, .int .i64 n] 175)).drew xb [.int .i64 f, .int .i64 p, .slice (some ⟨b, 0, none⟩) l.length cap] 174)
    (hB : Blk w6 b6 (flat (putAt l sp a n) ++ rest6) 175) (hL : (flat (putAt l sp a n) ++ rest6).length = 2 * cap6) (hC : cap6 ≤ maxLen) (hb : b6 = b ∨ (w3.alloc (.cells #[.int .i64 a, .int .i64 n] 175)).drew.heap.size ≤ b6) (hF : Fr [b] (w3.alloc (.cells #[.int .i64 a, .int .i64 n] 175)).drew w6) :
    GiveMid xb b f p a n l sp w (w6.setCell ⟨xb, 2, none⟩ (.slice (some ⟨b6, 0, none⟩) (l.length + 1) cap6)) := by
  have hs3 := hw3.size
  have hb' : b6 = b ∨ w.heap.size ≤ b6 := by
    rcases hb with h | h
    · exact .inl h
    · refine .inr ?_
      have : (w3.alloc (.cells #[.int .i64 a, .int .i64 n] 175)).drew.heap.size = w3.heap.size + 1 := by simp
      omega
  obtain ⟨cap, hS⟩ : ∃ cap, Blk (w3.alloc (.cells #[.int .i64 a, .int .i64 n] 175)).drew xb [.int .i64 f, .int .i64 p, .slice (some ⟨b, 0, none⟩) l.length cap] 174 := by
    rcases hS with h | h
    · exact ⟨0, h⟩
    · exact h
  have hs6 := (hS.fr hF (by simpa using hne)).set 2 (.slice (some ⟨b6, 0, none⟩) (l.length + 1) cap6)
  have hne6 : b6 ≠ xb := by
    rcases hb' with h | h <;> omega
  refine ⟨b6, cap6, rest6, ⟨by rw [putAt_len]; exact hs6, hB.other hne6 _, hL, hC⟩, hb', ?_⟩
  exact (((hw3.here (by simp)).alloc _).drew.trans (hF.here (by simp))).set (by simp) _
set_option maxRecDepth 100000 in
set_option maxHeartbeats 6400000 in
theorem xGive (xb b : Nat) (f p a n : Int) (l : List (Int × Int)) (rest : List Value) (cap : Nat) (w : World) (h : XAt w xb b f p l rest cap) (hl : l.length ≤ 65536)
    (hR : Runs (f + p) f l) (ho : Off a n l) (hn : 1 ≤ n) (hf : f ≤ a) (hap : a + n ≤ f + p) (h0 : 0 ≤ f) (h1 : f + p ≤ 65536) :
    Calls Tryz.prog 115 #[.pointer (some ⟨xb, 0, none⟩), .int .i64 a, .int .i64 n] w (GivePost xb b f p a n l w) := by
  have hmf : ∀ (fn : Fn) (first cap : Array Value) (w : World), (Instr.makeFunc fn first cap).run Tryz.prog w = .ok (.func fn first cap) w := fun _ _ _ _ => rfl
  have A0 := (Blk.new w [.int .i64 a] 3).alloc (.cells #[.int .i64 n] 3)
  have N0 := Blk.new (w.alloc (.cells #[.int .i64 a] 3)) [.int .i64 n] 3
  have s0 := (h.s.alloc (.cells #[.int .i64 a] 3)).alloc (.cells #[.int .i64 n] 3)
  have c0 := (h.c.alloc (.cells #[.int .i64 a] 3)).alloc (.cells #[.int .i64 n] 3)
  have hF0 : Fr [] w ((w.alloc (.cells #[.int .i64 a] 3)).alloc (.cells #[.int .i64 n] 3)) := ((Fr.refl _ w).alloc _).alloc _
  have hne : xb ≠ b := blk_ne h.s h.c (by decide)
  have lx := h.s.lt
  have lb := h.c.lt
  have HL := hid h.len
  have HCB := hid h.cb
  have HR := hid hR
  have HO := hid ho
  have hba : ∀ x ∈ l, 0 ≤ x.1 ∧ x.1 ≤ 65536 ∧ 0 ≤ x.2 ∧ x.2 ≤ 65536 := fun x hx => by have := hR.mem x hx; omega
  have HBA := hid hba
  have hspl := spotOf_le l a
  have HSP := hid (spotOf_spot hn hR ho)
  have HIX := hid (spot_ix l a)
  obtain ⟨sp, hsp⟩ : ∃ sp, sp = spotOf l a := ⟨_, rfl⟩
  have HSP2 := hid hsp
  rw [← hsp] at hspl HSP HIX
  clear hba hR ho h hsp
  rw [World.size_alloc] at N0
  have z0 := A0.cell (i := 0) rfl
  have z1 := N0.cell (i := 0) rfl
  go_enter Tryz.func115, Tryz.ntmps115
  go_wp2_with fail
  refine (xWithin xb f p _ a n _ s0 hn (by omega) hf (by omega) h0 (by omega) (by omega)).mono ?_
  rintro e w1 ⟨rfl, k1, rfl⟩
  have hF1 : Fr [] _ _ := hF0.drewN k1
  have A1 := A0.drewN k1
  have N1 := N0.drewN k1
  have s1 := s0.drewN k1
  have c1 := c0.drewN k1
  clear A0 N0 s0 c0 hF0
  obtain ⟨w1, hw1⟩ : ∃ w1, w1 = ((w.alloc (.cells #[.int .i64 a] 3)).alloc (.cells #[.int .i64 n] 3)).drewN k1 := ⟨_, rfl⟩
  rw [← hw1] at hF1 A1 N1 s1 c1 ⊢
  have hsz : w.heap.size + 2 ≤ w1.heap.size := by have := N1.lt; omega
  clear hw1
  have z0 := A1.cell (i := 0) rfl
  have z1 := N1.cell (i := 0) rfl
  have s12 := s1.cell (i := 2) rfl
  have rd1 : Rd w1 b (flat l) := ⟨c1.lt, fun i v hv => c1.cell (by rw [List.getElem?_append_left (List.getElem?_eq_some_iff.1 hv).1]; exact hv)⟩
  go_wp2_with fail
  refine (contGive b l cap a n w.heap.size (w.heap.size + 1) w1 hl rd1 z0 z1 (by omega) (by omega) ⟨by omega, by omega, by omega, by omega⟩ HBA.out HO.out).mono ?_
  rintro e w2 ⟨rfl, hF2⟩
  have A2 := A1.fr hF2 (by simp)
  have N2 := N1.fr hF2 (by simp)
  have s2 := s1.fr hF2 (by simp)
  have c2 := c1.fr hF2 (by simp)
  have rd2 := rd1.fr hF2 (by simp)
  have hF2' := hF1.trans hF2
  have hsz2 := Nat.le_trans hsz hF2.size
  clear A1 N1 s1 c1 rd1 hF1 hF2 z0 z1 s12 hsz
  have z0 := A2.cell (i := 0) rfl
  have z1 := N2.cell (i := 0) rfl
  have s22 := s2.cell (i := 2) rfl
  go_wp2_with fail
  refine (ixGive2 b l cap a w.heap.size w2 hl rd2 z0 (by omega)).mono ?_
  rintro e w3 ⟨rfl, hF3⟩
  rw [HIX.out]
  have A3 := A2.fr hF3 (by simp)
  have N3 := N2.fr hF3 (by simp)
  have s3 := s2.fr hF3 (by simp)
  have c3 := c2.fr hF3 (by simp)
  have hF3' := hF2'.trans hF3
  have hsz3 := Nat.le_trans hsz2 hF3.size
  clear A2 N2 s2 c2 rd2 hF2' hF3 z0 z1 s22 hsz2
  have z0 := A3.cell (i := 0) rfl
  have z1 := N3.cell (i := 0) rfl
  have s32 := s3.cell (i := 2) rfl
  have y32 := s3.frozen 2
  have HF3 := hid hF3'
  have HA3 := hid A3
  have HN3 := hid N3
  have HS3 := hid s3
  have HC3 := hid c3
  clear A3 N3 s3 c3 hF3'
  obtain ⟨w5, hw5⟩ : ∃ w5, w5 = (w3.alloc (.cells #[.int .i64 a, .int .i64 n] 175)).drew := ⟨_, rfl⟩
  have HW1 : Hid (Blk (w3.alloc (.cells #[.int .i64 a, .int .i64 n] 175)).drew b (flat l ++ rest) 175) := (HC3.out.alloc _).drew
  have HW2 : Hid (Blk (w3.alloc (.cells #[.int .i64 a, .int .i64 n] 175)).drew w3.heap.size [.int .i64 a, .int .i64 n] 175) := (Blk.new w3 _ _).drew
  have HW3 : Hid (Blk (w3.alloc (.cells #[.int .i64 a, .int .i64 n] 175)).drew xb [.int .i64 f, .int .i64 p, .slice (some ⟨b, 0, none⟩) l.length cap] 174) := (HS3.out.alloc _).drew
  have HW4 : Hid (Blk (w3.alloc (.cells #[.int .i64 a, .int .i64 n] 175)).drew w.heap.size [.int .i64 a] 3) := (HA3.out.alloc _).drew
  have HW5 : Hid (Blk (w3.alloc (.cells #[.int .i64 a, .int .i64 n] 175)).drew (w.heap.size + 1) [.int .i64 n] 3) := (HN3.out.alloc _).drew
  have y0 := HW4.out.cell (i := 0) rfl
  have y1 := HW5.out.cell (i := 0) rfl
  have hneb : w3.heap.size ≠ b := by omega
  have hnb0 : w.heap.size ≠ b := by omega
  have hnb1 : w.heap.size + 1 ≠ b := by omega
  have hx3 : xb < w3.heap.size := by omega
  clear hw5
  have HMK := hid (fun (w6 : World) (b6 cap6 : Nat) (rest6 : List Value) => GiveMid.mk (sp := sp) (w6 := w6) (b6 := b6) (cap6 := cap6) (rest6 := rest6) hne lx HF3.out (.inr ⟨_, HW3.out⟩))
  go_upto_if 27 with (fail)
  go_cut [7] (fun k wx => k = .int .i64 sp ∧ w3 = wx)
  case first =>
    by_cases hlt : sp < l.length
    · rw [if_pos hlt]
      go_wp2_with fail
      go_meet
      exact ⟨rfl, rfl⟩
    · rw [if_neg hlt]
      have hspe : l.length = sp := by omega
      go_wp2_with fail
      go_meet
      exact ⟨rfl, rfl⟩
  case rest =>
    obtain ⟨rfl, rfl⟩ := hcut
    go_upto_region 8 with (fail)
    go_cut [7] (fun k wx => k = .int .i64 sp ∧ GiveMid xb b f p a n l sp w wx)
    case first =>
      go_region_with ((go_at_call 152; refine (insRun b w3.heap.size l a n rest cap sp _ hspl HW1.out HL.out HCB.out HW2.out hneb hl).mono ?_; rintro e w6 ⟨b6, cap6, rest6, rfl, hB6, hL6, hC6, hb6, hF6⟩; have u2 := (HW3.out.fr hF6 (by simpa using hne)).cell (i := 2) rfl; have u2f := (HW3.out.fr hF6 (by simpa using hne)).frozen 2; have HX := hid (HMK.out _ _ _ _ hB6 hL6 hC6 hb6 hF6)))
      all_goals
        go_wp2_with fail
        go_meet
        exact ⟨rfl, HX.out⟩
    case rest =>
      obtain ⟨rfl, b6, cap6, rest6, hX6, hb6, hF6⟩ := hcut
      clear y0 y1 z0 z1 s32 y32
      have HP := hid (putAt_runs hn hap hf HR.out HSP.out)
      have hpl := putAt_len l sp a n
      have hba6 : ∀ x ∈ putAt l sp a n, 0 ≤ x.1 ∧ x.1 ≤ 65536 ∧ 0 ≤ x.2 ∧ x.2 ≤ 65536 := fun x hx => by have := HP.out.mem x hx; omega
      have HBA6 := hid hba6
      obtain ⟨m6, hm6⟩ : ∃ m6, m6 = putAt l sp a n := ⟨_, rfl⟩
      rw [← hm6] at hpl hX6 HP HBA6
      have hml : m6.length ≤ 65537 := by omega
      have HM6 := hid hm6
      clear hba6 hm6 hpl
      go_wp2_with fail
      refine (xJoin xb b6 f p m6 rest6 cap6 sp _ hX6 hml (by omega) HBA6.out).mono ?_
      rintro e w7 ⟨rfl, ⟨rest7, hX7⟩, hF7⟩
      have hwr : IntKind.i64.wrap ((sp : Int) - 1) = (sp : Int) - 1 := by rw [IntKind.wrap_i64]; omega
      cases sp with
      | zero =>
        go_wp2_with fail
        refine (xJoinOut xb b6 f p (joinAt m6 0) rest7 cap6 _ _ hX7 (.inl (by omega)) (by omega) (by omega)).mono ?_
        rintro e w8 ⟨rfl, n8, rfl⟩
        go_wp2_with fail
        go_ret
        refine ⟨b6, rest7, cap6, rfl, ?_, hb6, ?_⟩
        · rw [← HSP2.out]
          unfold giveAt
          simp only
          rw [← HM6.out]
          exact ⟨hX7.s.drewN _, hX7.c.drewN _, hX7.len, hX7.cb⟩
        · exact (hF6.step hF7 (by intro x hx; simp at hx; rcases hx with rfl | rfl; (· simp); (· rcases hb6 with h | h; (· simp [h]); (· exact .inr h)))).drewN _
      | succ j =>
        have hj1 : ((j + 1 : Nat) : Int) - 1 = (j : Int) := by omega
        rw [hj1] at hwr
        have HP7 := hid (joinAt_runs (k := j + 1) HP.out)
        have hba7 : ∀ x ∈ joinAt m6 (j + 1), 0 ≤ x.1 ∧ x.1 ≤ 65536 ∧ 0 ≤ x.2 ∧ x.2 ≤ 65536 := fun x hx => by have := HP7.out.mem x hx; omega
        have HBA7 := hid hba7
        clear hba7
        go_wp2_with fail
        refine (xJoin xb b6 f p (joinAt m6 (j + 1)) rest7 cap6 j _ hX7 ?_ (by omega) HBA7.out).mono ?_
        · have := joinAt_len m6 (j + 1); omega
        rintro e w8 ⟨rfl, ⟨rest8, hX8⟩, hF8⟩
        go_wp2_with fail
        go_ret
        refine ⟨b6, rest8, cap6, rfl, ?_, hb6, ?_⟩
        · rw [← HSP2.out]
          unfold giveAt
          simp only
          rw [← HM6.out]
          exact hX8
        · exact (hF6.step (hF7.trans hF8) (by intro x hx; simp at hx; rcases hx with rfl | rfl; (· simp); (· rcases hb6 with h | h; (· simp [h]); (· exact .inr h))))
end Go.Proofs.YtklnpooninbogaaGreat
