
import Derived.Test.YtklnpooninbogaaGreatMBase
import Derived.Deep.QuietTactic
import Derived.BigQuiet
namespace Go.Proofs.YtklnpooninbogaaGreat
open Go Go.Proofs Go.RowKit
structure RS where
  first : Int
  black : Int
  w : Nat
  f : Nat
  g : Nat
  b : Nat
  deriving DecidableEq
def RS.cells (r : RS) (ab : Nat) : List Value := [.pointer (some ⟨ab, 0, none⟩), .int .i64 r.first, .int .i64 r.black, .int .i64 r.w, .int .i64 r.f, .int .i64 r.g, .int .i64 r.b]
def RS.tot (r : RS) : Nat := r.w + (r.f + r.g + r.b)
structure RRep (w : World) (rb ab : Nat) (r : RS) : Prop where
  s : Blk w rb (r.cells ab) 163
  le : r.tot ≤ 65536
theorem RRep.alloc {w : World} {rb ab : Nat} {r : RS} (h : RRep w rb ab r) (o : Obj) : RRep (w.alloc o) rb ab r := ⟨h.s.alloc _, h.le⟩
theorem RRep.drew {w : World} {rb ab : Nat} {r : RS} (h : RRep w rb ab r) : RRep w.drew rb ab r := ⟨h.s.drew, h.le⟩
theorem RRep.drewN {w : World} {rb ab : Nat} {r : RS} (h : RRep w rb ab r) (n : Nat) : RRep (w.drewN n) rb ab r := ⟨h.s.drewN _, h.le⟩
theorem RRep.other {w : World} {rb ab : Nat} {r : RS} (h : RRep w rb ab r) {a : Addr} (h1 : rb ≠ a.block) (v : Value) : RRep (w.setCell a v) rb ab r := ⟨h.s.other h1 _, h.le⟩
theorem RRep.fr {S : List Nat} {w w' : World} {rb ab : Nat} {r : RS} (h : RRep w rb ab r) (hf : Fr S w w') (h1 : rb ∉ S) : RRep w' rb ab r := ⟨h.s.fr hf h1, h.le⟩
theorem RRep.reads {w : World} {rb ab : Nat} {r : RS} (h : RRep w rb ab r) :
    w.cell? ⟨rb, 0, none⟩ = some (.pointer (some ⟨ab, 0, none⟩)) ∧ w.cell? ⟨rb, 1, none⟩ = some (.int .i64 r.first) ∧ w.cell? ⟨rb, 2, none⟩ = some (.int .i64 r.black) ∧
    w.cell? ⟨rb, 3, none⟩ = some (.int .i64 r.w) ∧ w.cell? ⟨rb, 4, none⟩ = some (.int .i64 r.f) ∧ w.cell? ⟨rb, 5, none⟩ = some (.int .i64 r.g) ∧ w.cell? ⟨rb, 6, none⟩ = some (.int .i64 r.b) :=
  ⟨h.s.cell rfl, h.s.cell rfl, h.s.cell rfl, h.s.cell rfl, h.s.cell rfl, h.s.cell rfl, h.s.cell rfl⟩
theorem RRep.free {w : World} {rb ab : Nat} {r : RS} (h : RRep w rb ab r) :
    w.frozen? ⟨rb, 1, none⟩ = false ∧ w.frozen? ⟨rb, 2, none⟩ = false ∧ w.frozen? ⟨rb, 3, none⟩ = false ∧ w.frozen? ⟨rb, 4, none⟩ = false ∧ w.frozen? ⟨rb, 5, none⟩ = false ∧ w.frozen? ⟨rb, 6, none⟩ = false :=
  ⟨h.s.frozen _, h.s.frozen _, h.s.frozen _, h.s.frozen _, h.s.frozen _, h.s.frozen _⟩
def lk (ws : List Int) (c d : Int) : List Int := sw (sw ws (c + 1) d) (d + 2) c
def pt (ws : List Int) (c a : Int) : List Int := lk (lk ws (gw ws (a + 2)) c) c a
def ct (ws : List Int) (c : Int) : List Int := lk ws (gw ws (c + 2)) (gw ws (c + 1))
def Okc (ws : List Int) (c : Int) : Prop := 0 ≤ c ∧ c + 2 < ws.length
theorem lk_len (ws : List Int) (c d : Int) : (lk ws c d).length = ws.length := by simp [lk, sw]
theorem rWord (rb ab wb : Nat) (r : RS) (ws : List Int) (u : Int) (c : Int) (w : World) (hR : RRep w rb ab r) (hA : ARep w ab wb ws u) (h0 : 0 ≤ c) (h1 : c < ws.length) :
    Calls Tryz.prog 162 #[.pointer (some ⟨rb, 0, none⟩), .int .i64 c] w fun e w' => e = .returned (.int .i64 (gw ws c)) ∧ ARep w' ab wb ws (u + 1) ∧ Fr [ab] w w' := by
  have c0 := hR.reads.1
  go_enter Tryz.func162, Tryz.ntmps162
  go_wp2_with fail
  refine (aLoad ab wb ws u c _ h0 h1 hA).mono ?_
  rintro e w1 ⟨rfl, hA1, hF1⟩
  go_wp2_with fail
  go_ret
  exact ⟨rfl, hA1, hF1⟩
theorem rNext (rb ab wb : Nat) (r : RS) (ws : List Int) (u : Int) (c : Int) (w : World) (hR : RRep w rb ab r) (hA : ARep w ab wb ws u) (h : Okc ws c) :
    Calls Tryz.prog 136 #[.pointer (some ⟨rb, 0, none⟩), .int .i64 c] w fun e w' => e = .returned (.int .i64 (gw ws (c + 1))) ∧ ARep w' ab wb ws (u + 1) ∧ Fr [ab] w w' := by
  obtain ⟨h0, h1⟩ := h
  have hle := hA.le
  go_enter Tryz.func136, Tryz.ntmps136
  go_wp2_with fail
  refine (rWord rb ab wb r ws u (c + 1) _ hR hA (by omega) (by omega)).mono ?_
  rintro e w1 ⟨rfl, hA1, hF1⟩
  go_wp2_with fail
  go_ret
  exact ⟨rfl, hA1, hF1⟩
theorem rPrev (rb ab wb : Nat) (r : RS) (ws : List Int) (u : Int) (c : Int) (w : World) (hR : RRep w rb ab r) (hA : ARep w ab wb ws u) (h : Okc ws c) :
    Calls Tryz.prog 161 #[.pointer (some ⟨rb, 0, none⟩), .int .i64 c] w fun e w' => e = .returned (.int .i64 (gw ws (c + 2))) ∧ ARep w' ab wb ws (u + 1) ∧ Fr [ab] w w' := by
  obtain ⟨h0, h1⟩ := h
  have hle := hA.le
  go_enter Tryz.func161, Tryz.ntmps161
  go_wp2_with fail
  refine (rWord rb ab wb r ws u (c + 2) _ hR hA (by omega) (by omega)).mono ?_
  rintro e w1 ⟨rfl, hA1, hF1⟩
  go_wp2_with fail
  go_ret
  exact ⟨rfl, hA1, hF1⟩
theorem rLink (rb ab wb : Nat) (r : RS) (ws : List Int) (u : Int) (c d : Int) (w : World) (hR : RRep w rb ab r) (hA : ARep w ab wb ws u) (h : Okc ws c) (h' : Okc ws d) (n1 : rb ≠ ab) (n2 : rb ≠ wb) :
    Calls Tryz.prog 134 #[.pointer (some ⟨rb, 0, none⟩), .int .i64 c, .int .i64 d] w fun e w' => e = .returned (.tuple #[]) ∧ ARep w' ab wb (lk ws c d) (u + 2) ∧ Fr [ab, wb] w w' := by
  obtain ⟨h0, h1⟩ := h
  obtain ⟨h2, h3⟩ := h'
  have hle := hA.le
  have c0 := hR.reads.1
  go_enter Tryz.func134, Tryz.ntmps134
  go_wp2_with fail
  refine (aStore ab wb ws u (c + 1) d _ (by omega) (by omega) hA).mono ?_
  rintro e w1 ⟨rfl, hA1, hF1⟩
  have hR1 := hR.fr hF1 (by simp [n1, n2])
  have c1 := hR1.reads.1
  go_wp2_with fail
  refine (aStore ab wb _ _ (d + 2) c _ (by omega) (by rw [sw_len]; omega) hA1).mono ?_
  rintro e w2 ⟨rfl, hA2, hF2⟩
  go_wp2_with fail
  go_end0
  exact ⟨rfl, hA2.u (by omega), hF1.trans hF2⟩
theorem rCut (rb ab wb : Nat) (r : RS) (ws : List Int) (u : Int) (c : Int) (w : World) (hR : RRep w rb ab r) (hA : ARep w ab wb ws u) (h : Okc ws c) (hp : Okc ws (gw ws (c + 2))) (hq : Okc ws (gw ws (c + 1))) (n1 : rb ≠ ab) (n2 : rb ≠ wb) :
    Calls Tryz.prog 147 #[.pointer (some ⟨rb, 0, none⟩), .int .i64 c] w fun e w' => e = .returned (.int .i64 (gw ws (c + 1))) ∧ ARep w' ab wb (ct ws c) (u + 4) ∧ Fr [ab, wb] w w' := by
  go_enter Tryz.func147, Tryz.ntmps147
  go_wp2_with fail
  refine (rPrev rb ab wb r ws u c _ hR hA h).mono ?_
  rintro e w1 ⟨rfl, hA1, hF1⟩
  have hR1 := hR.fr hF1 (by simp [n1])
  go_wp2_with fail
  refine (rNext rb ab wb r ws _ c _ hR1 hA1 h).mono ?_
  rintro e w2 ⟨rfl, hA2, hF2⟩
  have hR2 := hR1.fr hF2 (by simp [n1])
  go_wp2_with fail
  refine (rLink rb ab wb r ws _ _ _ _ hR2 hA2 hp hq n1 n2).mono ?_
  rintro e w3 ⟨rfl, hA3, hF3⟩
  go_wp2_with fail
  go_ret
  exact ⟨rfl, hA3.u (by omega), ((hF1.trans hF2).here (by simp)).trans hF3⟩
theorem rPut (rb ab wb : Nat) (r : RS) (ws : List Int) (u : Int) (c a : Int) (w : World) (hR : RRep w rb ab r) (hA : ARep w ab wb ws u) (h : Okc ws c) (h' : Okc ws a) (hp : Okc ws (gw ws (a + 2))) (n1 : rb ≠ ab) (n2 : rb ≠ wb) :
    Calls Tryz.prog 135 #[.pointer (some ⟨rb, 0, none⟩), .int .i64 c, .int .i64 a] w fun e w' => e = .returned (.tuple #[]) ∧ ARep w' ab wb (pt ws c a) (u + 5) ∧ Fr [ab, wb] w w' := by
  go_enter Tryz.func135, Tryz.ntmps135
  go_wp2_with fail
  refine (rPrev rb ab wb r ws u a _ hR hA h').mono ?_
  rintro e w1 ⟨rfl, hA1, hF1⟩
  have hR1 := hR.fr hF1 (by simp [n1])
  go_wp2_with fail
  refine (rLink rb ab wb r ws _ _ _ _ hR1 hA1 hp h n1 n2).mono ?_
  rintro e w2 ⟨rfl, hA2, hF2⟩
  have hR2 := hR1.fr hF2 (by simp [n1, n2])
  go_wp2_with fail
  refine (rLink rb ab wb r _ _ _ _ _ hR2 hA2 (by unfold Okc at *; rw [lk_len]; exact h) (by unfold Okc at *; rw [lk_len]; exact h') n1 n2).mono ?_
  rintro e w3 ⟨rfl, hA3, hF3⟩
  go_wp2_with fail
  go_end0
  exact ⟨rfl, hA3.u (by omega), ((hF1.here (by simp)).trans hF2).trans hF3⟩
theorem rRest (rb ab : Nat) (r : RS) (w : World) (hR : RRep w rb ab r) :
    Calls Tryz.prog 160 #[.pointer (some ⟨rb, 0, none⟩)] w fun e w' => e = .returned (.int .i64 (r.f + r.g + r.b : Nat)) ∧ ∃ n, w' = w.drewN n := by
  obtain ⟨c0, c1, c2, c3, c4, c5, c6⟩ := hR.reads
  have hle := hR.le
  unfold RS.tot at hle
  go_enter Tryz.func160, Tryz.ntmps160
  go_wp2_with fail
  go_quiet (fail)
  go_wp2_with fail
  go_ret
  exact ⟨by simp, _, rfl⟩
theorem rAll (rb ab : Nat) (r : RS) (w : World) (hR : RRep w rb ab r) :
    Calls Tryz.prog 133 #[.pointer (some ⟨rb, 0, none⟩)] w fun e w' => e = .returned (.int .i64 (r.tot : Nat)) ∧ ∃ n, w' = w.drewN n := by
  obtain ⟨c0, c1, c2, c3, c4, c5, c6⟩ := hR.reads
  have hle := hR.le
  unfold RS.tot at hle
  go_enter Tryz.func133, Tryz.ntmps133
  go_wp2_with fail
  go_quiet ((go_at_call 160; refine Calls.quiet_of (rRest rb ab r _ (hR.drewN _))))
  go_wp2_with fail
  go_ret
  exact ⟨rfl, _, rfl⟩
theorem rAll' (rb ab : Nat) (r : RS) (t : Nat) (e : r.tot = t) (w : World) (hR : RRep w rb ab r) :
    Calls Tryz.prog 133 #[.pointer (some ⟨rb, 0, none⟩)] w fun e w' => e = .returned (.int .i64 (t : Nat)) ∧ ∃ n, w' = w.drewN n := by
  subst e; exact rAll rb ab r w hR
def Runs (hi : Int) : Int → List (Int × Int) → Prop
  | _, [] => True
  | lo, x :: r => lo ≤ x.1 ∧ 1 ≤ x.2 ∧ x.1 + x.2 ≤ hi ∧ Runs hi (x.1 + x.2) r
theorem Runs.mono {hi lo lo' : Int} (h : lo' ≤ lo) {l : List (Int × Int)} (r : Runs hi lo l) : Runs hi lo' l := by
  cases l with
  | nil => trivial
  | cons x l => exact ⟨by have := r.1; omega, r.2⟩
theorem Runs.mem {hi lo : Int} {l : List (Int × Int)} (h : Runs hi lo l) : ∀ x ∈ l, lo ≤ x.1 ∧ 1 ≤ x.2 ∧ x.1 + x.2 ≤ hi := by
  induction l generalizing lo with
  | nil => simp
  | cons y l ih =>
    obtain ⟨h1, h2, h3, h4⟩ := h
    intro x hx
    rcases List.mem_cons.1 hx with rfl | hx
    · exact ⟨h1, h2, h3⟩
    · have := ih h4 x hx
      exact ⟨by omega, this.2⟩
theorem runs_iff {hi lo : Int} {l : List (Int × Int)} : Runs hi lo l ↔ (∀ x ∈ l, 1 ≤ x.2 ∧ lo ≤ x.1 ∧ x.1 + x.2 ≤ hi) ∧ l.Pairwise (fun a b => a.1 + a.2 ≤ b.1) := by
  constructor
  · intro h
    refine ⟨fun x hx => ?_, ?_⟩
    · have := h.mem x hx
      exact ⟨this.2.1, this.1, this.2.2⟩
    · induction l generalizing lo with
      | nil => exact List.Pairwise.nil
      | cons y l ih =>
        refine List.Pairwise.cons (fun x hx => (h.2.2.2.mem x hx).1) (ih h.2.2.2)
  · intro ⟨h1, h2⟩
    induction l generalizing lo with
    | nil => trivial
    | cons y l ih =>
      obtain ⟨a, b, c⟩ := h1 y (by simp)
      have h2' := List.pairwise_cons.1 h2
      exact ⟨b, a, c, ih (fun x hx => ⟨(h1 x (by simp [hx])).1, h2'.1 x hx, (h1 x (by simp [hx])).2.2⟩) h2'.2⟩
def Off (c m : Int) (l : List (Int × Int)) : Prop := ∀ x ∈ l, c + m ≤ x.1 ∨ x.1 + x.2 ≤ c
def joinR : List (Int × Int) → List (Int × Int)
  | x :: y :: r => if x.1 + x.2 = y.1 then (x.1, x.2 + y.2) :: r else x :: y :: r
  | l => l
theorem joinR_yes {x y : Int × Int} {r : List (Int × Int)} (h : x.1 + x.2 = y.1) : joinR (x :: y :: r) = (x.1, x.2 + y.2) :: r := if_pos h
theorem joinR_no {x y : Int × Int} {r : List (Int × Int)} (h : ¬ x.1 + x.2 = y.1) : joinR (x :: y :: r) = x :: y :: r := if_neg h
def joinAt : List (Int × Int) → Nat → List (Int × Int)
  | l, 0 => joinR l
  | [], _ + 1 => []
  | x :: r, k + 1 => x :: joinAt r k
theorem joinAt_append (l1 l2 : List (Int × Int)) : joinAt (l1 ++ l2) l1.length = l1 ++ joinR l2 := by
  induction l1 with
  | nil => cases l2 <;> rfl
  | cons x l1 ih => show x :: joinAt (l1 ++ l2) l1.length = _; rw [ih]; rfl
theorem joinAt_len : ∀ (l : List (Int × Int)) (k : Nat), (joinAt l k).length ≤ l.length
  | [], 0 => Nat.le_refl _
  | [], _ + 1 => Nat.le_refl _
  | [_], 0 => Nat.le_refl _
  | x :: y :: r, 0 => by
    show (joinR (x :: y :: r)).length ≤ _
    by_cases h : x.1 + x.2 = y.1
    · rw [joinR_yes h]; simp
    · rw [joinR_no h]; exact Nat.le_refl _
  | x :: r, k + 1 => by
    show (x :: joinAt r k).length ≤ (x :: r).length
    have := joinAt_len r k
    simp; exact this
theorem joinR_runs {hi lo : Int} {l : List (Int × Int)} (h : Runs hi lo l) : Runs hi lo (joinR l) := by
  match l, h with
  | [], h => exact h
  | [_], h => exact h
  | x :: y :: r, ⟨h1, h2, h3, h4, h5, h6, h7⟩ =>
    by_cases e : x.1 + x.2 = y.1
    · rw [joinR_yes e]
      refine ⟨h1, by show 1 ≤ x.2 + y.2; omega, by show x.1 + (x.2 + y.2) ≤ hi; omega, ?_⟩
      show Runs hi (x.1 + (x.2 + y.2)) r
      rw [show x.1 + (x.2 + y.2) = y.1 + y.2 by omega]; exact h7
    · rw [joinR_no e]; exact ⟨h1, h2, h3, h4, h5, h6, h7⟩
theorem joinR_off {c m hi lo : Int} {l : List (Int × Int)} (hm : 1 ≤ m) (hr : Runs hi lo l) (h : Off c m l) : Off c m (joinR l) := by
  match l, h with
  | [], h => exact h
  | [_], h => exact h
  | x :: y :: r, h =>
    by_cases e : x.1 + x.2 = y.1
    · rw [joinR_yes e]
      intro q hq
      rcases List.mem_cons.1 hq with rfl | hq
      · have h1 := h x (by simp)
        have h2 := h y (by simp)
        have h3 := hr.2.1
        have h4 := hr.2.2.2.2.1
        show c + m ≤ x.1 ∨ x.1 + (x.2 + y.2) ≤ c
        omega
      · exact h q (by simp [hq])
    · rw [joinR_no e]; exact h
theorem joinAt_runs {hi : Int} : ∀ {lo : Int} {l : List (Int × Int)} {k : Nat}, Runs hi lo l → Runs hi lo (joinAt l k)
  | _, [], 0, h => h
  | _, [], _ + 1, h => h
  | _, _ :: _, 0, h => joinR_runs h
  | _, _ :: _, _ + 1, ⟨h1, h2, h3, h4⟩ => ⟨h1, h2, h3, joinAt_runs h4⟩
theorem joinAt_off {c m hi : Int} (hm : 1 ≤ m) : ∀ {lo : Int} {l : List (Int × Int)} {k : Nat}, Runs hi lo l → Off c m l → Off c m (joinAt l k)
  | _, [], 0, _, h => h
  | _, [], _ + 1, _, h => h
  | _, _ :: _, 0, r, h => joinR_off hm r h
  | _, x :: l, k + 1, ⟨_, _, _, h4⟩, h => by
    intro q hq
    rcases List.mem_cons.1 hq with rfl | hq
    · exact h q (by simp)
    · exact joinAt_off hm h4 (fun y hy => h y (by simp [hy])) q hq
def putAt (l : List (Int × Int)) (k : Nat) (a n : Int) : List (Int × Int) := l.take k ++ (a, n) :: l.drop k
def giveAt (l : List (Int × Int)) (k : Nat) (a n : Int) : List (Int × Int) :=
  match k with
  | 0 => joinAt (putAt l 0 a n) 0
  | j + 1 => joinAt (joinAt (putAt l (j + 1) a n) (j + 1)) j
theorem runs_insert {hi a n : Int} (hn : 1 ≤ n) (hh : a + n ≤ hi) : ∀ {l1 : List (Int × Int)} {lo : Int} {l2 : List (Int × Int)}, Runs hi lo (l1 ++ l2) → lo ≤ a → (∀ x ∈ l1, x.1 + x.2 ≤ a) → (∀ x ∈ l2, a + n ≤ x.1) → Runs hi lo (l1 ++ (a, n) :: l2)
  | [], lo, l2, h, h1, _, h3 => by
    refine ⟨h1, hn, hh, ?_⟩
    show Runs hi (a + n) l2
    cases l2 with
    | nil => trivial
    | cons y r => exact ⟨h3 y (by simp), h.2⟩
  | y :: l1, lo, l2, ⟨a1, a2, a3, a4⟩, h1, h2, h3 => ⟨a1, a2, a3, runs_insert hn hh a4 (h2 y (by simp)) (fun x hx => h2 x (by simp [hx])) h3⟩
structure Spot (l : List (Int × Int)) (k : Nat) (a n : Int) : Prop where
  le : k ≤ l.length
  lo : ∀ x ∈ l.take k, x.1 + x.2 ≤ a
  hi : ∀ x ∈ l.drop k, a + n ≤ x.1
theorem putAt_runs {hi lo a n : Int} {l : List (Int × Int)} {k : Nat} (hn : 1 ≤ n) (hh : a + n ≤ hi) (hl : lo ≤ a) (h : Runs hi lo l) (hs : Spot l k a n) : Runs hi lo (putAt l k a n) :=
  runs_insert hn hh (by rw [List.take_append_drop]; exact h) hl hs.lo hs.hi
theorem putAt_off {c m a n : Int} {l : List (Int × Int)} {k : Nat} (h : Off c m l) (h2 : c + m ≤ a ∨ a + n ≤ c) : Off c m (putAt l k a n) := by
  intro x hx
  rcases List.mem_append.1 hx with hx | hx
  · exact h x (List.mem_of_mem_take hx)
  · rcases List.mem_cons.1 hx with rfl | hx
    · exact h2
    · exact h x (List.mem_of_mem_drop hx)
theorem giveAt_runs {hi lo a n : Int} {l : List (Int × Int)} {k : Nat} (hn : 1 ≤ n) (hh : a + n ≤ hi) (hl : lo ≤ a) (h : Runs hi lo l) (hs : Spot l k a n) : Runs hi lo (giveAt l k a n) := by
  unfold giveAt
  cases k with
  | zero => exact joinAt_runs (putAt_runs hn hh hl h hs)
  | succ j => exact joinAt_runs (joinAt_runs (putAt_runs hn hh hl h hs))
theorem giveAt_off {c m hi lo a n : Int} {l : List (Int × Int)} {k : Nat} (hm : 1 ≤ m) (hn : 1 ≤ n) (hh : a + n ≤ hi) (hl : lo ≤ a) (h : Runs hi lo l) (hs : Spot l k a n) (ho : Off c m l) (h2 : c + m ≤ a ∨ a + n ≤ c) : Off c m (giveAt l k a n) := by
  unfold giveAt
  have h0 := putAt_runs hn hh hl h hs
  have h1 : Off c m (putAt l k a n) := putAt_off ho h2
  cases k with
  | zero => exact joinAt_off hm h0 h1
  | succ j => exact joinAt_off hm (joinAt_runs h0) (joinAt_off hm h0 h1)
def spotOf (l : List (Int × Int)) (a : Int) : Nat := l.findIdx (fun x => decide (a < x.1))
theorem spotOf_spot {hi lo a n : Int} (hn : 1 ≤ n) {l : List (Int × Int)} (h : Runs hi lo l) (ho : Off a n l) : Spot l (spotOf l a) a n := by
  induction l generalizing lo with
  | nil => exact ⟨Nat.le_refl _, by simp, by simp⟩
  | cons y r ih =>
    by_cases hy : a < y.1
    · have e : spotOf (y :: r) a = 0 := by simp [spotOf, List.findIdx_cons, hy]
      rw [e]
      refine ⟨Nat.zero_le _, by simp, fun x hx => ?_⟩
      have h0 := ho y (by simp)
      have h1 := h.2.1
      rw [List.drop_zero] at hx
      rcases List.mem_cons.1 hx with rfl | hx
      · omega
      · have := (h.2.2.2.mem x hx).1
        omega
    · have e : spotOf (y :: r) a = spotOf r a + 1 := by simp [spotOf, List.findIdx_cons, hy]
      rw [e]
      have s := ih h.2.2.2 (fun x hx => ho x (by simp [hx]))
      refine ⟨by simpa using s.le, fun x hx => ?_, fun x hx => s.hi x (by simpa using hx)⟩
      rw [List.take_succ_cons] at hx
      rcases List.mem_cons.1 hx with rfl | hx
      · have := ho x (by simp); omega
      · exact s.lo x hx
end Go.Proofs.YtklnpooninbogaaGreat
