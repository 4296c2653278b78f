import Derived.Test.YtifillpcphiblaaMBuilt
import Derived.Test.YtifillpcphiblaaPMark2
import Derived.Deep.QuietTactic
import Derived.Deep.DeepCutAuto
import Derived.BigQuiet
namespace Go.Proofs.Ytifillpcphiblaa
open Go Go.Proofs Go.RowKit

/-! law16: few, the beginning of a run, awake. -/

def fewB (W Lg : Int) (cls : List Int) (n : Nat) : Bool := rightB W Lg cls && decide (W ≤ 600) && decide ((n : Int) ≤ 30)
set_option maxRecDepth 100000 in
set_option maxHeartbeats 3200000 in
theorem lFew (W Lg a b c d : Int) (sv v : Value) (cls : List Int) (ms : List Mk) (w : World) (hs : SlArg w sv cls) (hms : MkArg w v ms) :
    Calls Try.prog 53 #[.agg #[.int .i64 W, .int .i64 Lg, .int .i64 a, .int .i64 b, .int .i64 c, .int .i64 d, sv], v] w fun e w' => e = .returned (.bool (fewB W Lg cls ms.length)) ∧ Fr [] w w' := by
  obtain ⟨vp, vcap, rfl⟩ := hms.shape
  obtain ⟨sp, scap, rfl⟩ := slForm hs
  obtain ⟨N, hN⟩ : ∃ N, N = ms.length := ⟨_, rfl⟩
  have B0 := Blk.new w [.int .i64 W, .int .i64 Lg, .int .i64 a, .int .i64 b, .int .i64 c, .int .i64 d, .slice sp cls.length scap] 24
  have HB0 := hid B0
  have hF0 : Fr [] w (w.alloc (.cells #[.int .i64 W, .int .i64 Lg, .int .i64 a, .int .i64 b, .int .i64 c, .int .i64 d, .slice sp cls.length scap] 24)) := (Fr.refl _ w).alloc _
  have HF0 := hid hF0
  have hs1 := hs.fr hF0 (by simp)
  have HS1 := hid hs1
  rw [← hN]
  clear B0 hF0 hs hs1 hms hN
  obtain ⟨rb, hrb⟩ : ∃ rb, rb = rightB W Lg cls := ⟨_, rfl⟩
  have hE : fewB W Lg cls N = (rb && decide (W ≤ 600) && decide ((N : Int) ≤ 30)) := by unfold fewB; rw [hrb]
  rw [hE]
  have HRB := hid hrb
  clear hE hrb
  go_enter Try.func53, Try.ntmps53
  go_wp2_with fail
  refine (refRight W Lg a b c d _ cls _ HS1.out).mono ?_
  rintro e w1 ⟨rfl, hF1⟩
  rw [← HRB.out]
  have c0 := (HB0.out.fr hF1 (by simp)).cell (i := 0) rfl
  have HF1 := hid (HF0.out.trans hF1)
  clear hF1
  cases rb with
  | false =>
    go_wp2_with fail
    go_ret
    exact ⟨rfl, HF1.out⟩
  | true =>
    by_cases hw : W ≤ 600
    · have g1 : decide (W ≤ 600) = true := by simpa using hw
      go_wp2_with fail
      go_ret
      exact ⟨by simp [g1], HF1.out⟩
    · have g1 : decide (W ≤ 600) = false := by simpa using hw
      go_wp2_with fail
      go_ret
      exact ⟨by simp [g1], HF1.out⟩

theorem wd0 {obs : List Ob} {ms : List Mk} {s : HS} (h : ∀ o ∈ obs, ∀ j, j < o.n → s.wd o j = want obs ms o j) : ∀ o ∈ obs, ∀ j, j < o.n → s.wd o j = 0 ∨ ∃ o' ∈ obs, o'.p = s.wd o j := by
  intro o ho j hj
  rw [h o ho j hj]
  unfold want
  split
  · exact .inl rfl
  · rename_i t _
    split
    · rename_i hc
      cases e : obs[(t - 1).toNat]? with
      | none => exact .inl (by simp)
      | some o' => exact .inr ⟨o', List.mem_of_getElem? e, by simp⟩
    · exact .inl rfl

/-- Begin, behind Built and New. -/
theorem lBegin {w wr : World} {L : HL} {D : DL} {W Lg : Int} {cls : List Int} {s : HS} {A : Rg} {z : Int → Int} {bits : List Bool} {m : List (Int × Value)} {obs : List Ob} {G : Int → Nat} {ms : List Mk} {atv : Value} {mb : Nat} (hJ : JB wr L D W Lg cls s A z bits m obs G)
    (hrow : Rowi wr D.B atv (obs.map Ob.p)) (hF : Fr [] w wr) (q : QS w L D mb) (hM : MBlk wr mb L 0 0) (hpar : s.parity = 0) (hwd : ∀ o ∈ obs, ∀ j, j < o.n → s.wd o j = want obs ms o j) (fr : List Int) :
    Calls Try.prog 27 #[.pointer (some ⟨L.hb, 0, none⟩)] wr fun e w' => e = .returned (.int .i64 0) ∧ Fr L.fp wr w' ∧ ∃ s', LS w w' L D atv mb s' A.begun z obs (MGof obs s fr) 0 0 (pot A.begun (MGof obs s fr) obs) := by
  refine (hBeginRows L s A z wr hJ.hr hJ.jh.hi (by omega) (by omega)).mono ?_
  rintro e w' ⟨hF1, ⟨hno, _⟩ | ⟨_, rfl, s', hH, hI, e1, e2, e3, e4, e5, e6, e7⟩⟩
  · exact absurd hJ.nofg hno
  · have hmi := hJ.mi (wd0 hwd) fr hI e1 e2 e7
    have h0 : LS w wr L D atv mb s A z obs (MGof obs s fr) 0 0 0 → True := fun _ => trivial
    refine ⟨rfl, hF1, s', ⟨⟨hH, hM.fr hF1 (fun hc => q.mbL (fp_all hc)), hmi, fun _ => rfl⟩, hrow.fr hF1 (fun b hb hc => ?_), hF.step hF1 (fun y hy => .inr (q.lo y (fp_all hy)))⟩⟩
    have := (hrow.lt b hb).1
    have := q.lw b (fp_all hc)
    omega
end Go.Proofs.Ytifillpcphiblaa
