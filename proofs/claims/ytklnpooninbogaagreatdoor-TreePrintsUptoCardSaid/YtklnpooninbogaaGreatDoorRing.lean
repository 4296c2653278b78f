import Derived.Test.YtklnpooninbogaaGreatDoorMBase
import Derived.Deep.QuietTactic
import Derived.BigQuiet
namespace Go.Proofs.YtklnpooninbogaaGreatDoor
open Go Go.Proofs Go.RowKit

/-- A ring: its row's first, where the black ones begin, how many there are of each colour. -/
structure RS where
  first : Int
  black : Int
  w : Nat
  f : Nat
  g : Nat
  b : Nat
  deriving DecidableEq

def RS.cells (r : RS) (ab : Nat) : List Value := [.pointer (some ⟨ab, 0, none⟩), .int .i64 r.first, .int .i64 r.black, .int .i64 r.w, .int .i64 r.f, .int .i64 r.g, .int .i64 r.b]
def RS.tot (r : RS) : Nat := r.w + (r.f + r.g + r.b)

structure RRep (w : World) (rb ab : Nat) (r : RS) : Prop where
  s : Blk w rb (r.cells ab) 97
  le : r.tot ≤ 65536

theorem RRep.alloc {w : World} {rb ab : Nat} {r : RS} (h : RRep w rb ab r) (o : Obj) : RRep (w.alloc o) rb ab r := ⟨h.s.alloc _, h.le⟩
theorem RRep.drew {w : World} {rb ab : Nat} {r : RS} (h : RRep w rb ab r) : RRep w.drew rb ab r := ⟨h.s.drew, h.le⟩
theorem RRep.drewN {w : World} {rb ab : Nat} {r : RS} (h : RRep w rb ab r) (n : Nat) : RRep (w.drewN n) rb ab r := ⟨h.s.drewN _, h.le⟩
theorem RRep.other {w : World} {rb ab : Nat} {r : RS} (h : RRep w rb ab r) {a : Addr} (h1 : rb ≠ a.block) (v : Value) : RRep (w.setCell a v) rb ab r := ⟨h.s.other h1 _, h.le⟩
theorem RRep.fr {S : List Nat} {w w' : World} {rb ab : Nat} {r : RS} (h : RRep w rb ab r) (hf : Fr S w w') (h1 : rb ∉ S) : RRep w' rb ab r := ⟨h.s.fr hf h1, h.le⟩

/-- The cells that a walk reads. -/
theorem RRep.reads {w : World} {rb ab : Nat} {r : RS} (h : RRep w rb ab r) :
    w.cell? ⟨rb, 0, none⟩ = some (.pointer (some ⟨ab, 0, none⟩)) ∧ w.cell? ⟨rb, 1, none⟩ = some (.int .i64 r.first) ∧ w.cell? ⟨rb, 2, none⟩ = some (.int .i64 r.black) ∧
    w.cell? ⟨rb, 3, none⟩ = some (.int .i64 r.w) ∧ w.cell? ⟨rb, 4, none⟩ = some (.int .i64 r.f) ∧ w.cell? ⟨rb, 5, none⟩ = some (.int .i64 r.g) ∧ w.cell? ⟨rb, 6, none⟩ = some (.int .i64 r.b) :=
  ⟨h.s.cell rfl, h.s.cell rfl, h.s.cell rfl, h.s.cell rfl, h.s.cell rfl, h.s.cell rfl, h.s.cell rfl⟩
theorem RRep.free {w : World} {rb ab : Nat} {r : RS} (h : RRep w rb ab r) :
    w.frozen? ⟨rb, 1, none⟩ = false ∧ w.frozen? ⟨rb, 2, none⟩ = false ∧ w.frozen? ⟨rb, 3, none⟩ = false ∧ w.frozen? ⟨rb, 4, none⟩ = false ∧ w.frozen? ⟨rb, 5, none⟩ = false ∧ w.frozen? ⟨rb, 6, none⟩ = false :=
  ⟨h.s.frozen _, h.s.frozen _, h.s.frozen _, h.s.frozen _, h.s.frozen _, h.s.frozen _⟩

def lk (ws : List Int) (c d : Int) : List Int := sw (sw ws (c + 1) d) (d + 2) c
def pt (ws : List Int) (c a : Int) : List Int := lk (lk ws (gw ws (a + 2)) c) c a
def ct (ws : List Int) (c : Int) : List Int := lk ws (gw ws (c + 2)) (gw ws (c + 1))
def Okc (ws : List Int) (c : Int) : Prop := 0 ≤ c ∧ c + 2 < ws.length
theorem lk_len (ws : List Int) (c d : Int) : (lk ws c d).length = ws.length := by simp [lk, sw]

theorem rWord (rb ab wb : Nat) (r : RS) (ws : List Int) (u : Int) (c : Int) (w : World) (hR : RRep w rb ab r) (hA : ARep w ab wb ws u) (h0 : 0 ≤ c) (h1 : c < ws.length) :
    Calls Tryz.prog 80 #[.pointer (some ⟨rb, 0, none⟩), .int .i64 c] w fun e w' => e = .returned (.int .i64 (gw ws c)) ∧ ARep w' ab wb ws (u + 1) ∧ Fr [ab] w w' := by
  have c0 := hR.reads.1
  go_enter Tryz.func80, Tryz.ntmps80
  go_wp2_with fail
  refine (aLoad ab wb ws u c _ h0 h1 hA).mono ?_
  rintro e w1 ⟨rfl, hA1, hF1⟩
  go_wp2_with fail
  go_ret
  exact ⟨rfl, hA1, hF1⟩

theorem rNext (rb ab wb : Nat) (r : RS) (ws : List Int) (u : Int) (c : Int) (w : World) (hR : RRep w rb ab r) (hA : ARep w ab wb ws u) (h : Okc ws c) :
    Calls Tryz.prog 65 #[.pointer (some ⟨rb, 0, none⟩), .int .i64 c] w fun e w' => e = .returned (.int .i64 (gw ws (c + 1))) ∧ ARep w' ab wb ws (u + 1) ∧ Fr [ab] w w' := by
  obtain ⟨h0, h1⟩ := h
  have hle := hA.le
  go_enter Tryz.func65, Tryz.ntmps65
  go_wp2_with fail
  refine (rWord rb ab wb r ws u (c + 1) _ hR hA (by omega) (by omega)).mono ?_
  rintro e w1 ⟨rfl, hA1, hF1⟩
  go_wp2_with fail
  go_ret
  exact ⟨rfl, hA1, hF1⟩

theorem rPrev (rb ab wb : Nat) (r : RS) (ws : List Int) (u : Int) (c : Int) (w : World) (hR : RRep w rb ab r) (hA : ARep w ab wb ws u) (h : Okc ws c) :
    Calls Tryz.prog 79 #[.pointer (some ⟨rb, 0, none⟩), .int .i64 c] w fun e w' => e = .returned (.int .i64 (gw ws (c + 2))) ∧ ARep w' ab wb ws (u + 1) ∧ Fr [ab] w w' := by
  obtain ⟨h0, h1⟩ := h
  have hle := hA.le
  go_enter Tryz.func79, Tryz.ntmps79
  go_wp2_with fail
  refine (rWord rb ab wb r ws u (c + 2) _ hR hA (by omega) (by omega)).mono ?_
  rintro e w1 ⟨rfl, hA1, hF1⟩
  go_wp2_with fail
  go_ret
  exact ⟨rfl, hA1, hF1⟩

theorem rLink (rb ab wb : Nat) (r : RS) (ws : List Int) (u : Int) (c d : Int) (w : World) (hR : RRep w rb ab r) (hA : ARep w ab wb ws u) (h : Okc ws c) (h' : Okc ws d) (n1 : rb ≠ ab) (n2 : rb ≠ wb) :
    Calls Tryz.prog 63 #[.pointer (some ⟨rb, 0, none⟩), .int .i64 c, .int .i64 d] w fun e w' => e = .returned (.tuple #[]) ∧ ARep w' ab wb (lk ws c d) (u + 2) ∧ Fr [ab, wb] w w' := by
  obtain ⟨h0, h1⟩ := h
  obtain ⟨h2, h3⟩ := h'
  have hle := hA.le
  have c0 := hR.reads.1
  go_enter Tryz.func63, Tryz.ntmps63
  go_wp2_with fail
  refine (aStore ab wb ws u (c + 1) d _ (by omega) (by omega) hA).mono ?_
  rintro e w1 ⟨rfl, hA1, hF1⟩
  have hR1 := hR.fr hF1 (by simp [n1, n2])
  have c1 := hR1.reads.1
  go_wp2_with fail
  refine (aStore ab wb _ _ (d + 2) c _ (by omega) (by rw [sw_len]; omega) hA1).mono ?_
  rintro e w2 ⟨rfl, hA2, hF2⟩
  go_wp2_with fail
  go_end0
  exact ⟨rfl, hA2.u (by omega), hF1.trans hF2⟩

theorem rPut (rb ab wb : Nat) (r : RS) (ws : List Int) (u : Int) (c a : Int) (w : World) (hR : RRep w rb ab r) (hA : ARep w ab wb ws u) (h : Okc ws c) (h' : Okc ws a) (hp : Okc ws (gw ws (a + 2))) (n1 : rb ≠ ab) (n2 : rb ≠ wb) :
    Calls Tryz.prog 64 #[.pointer (some ⟨rb, 0, none⟩), .int .i64 c, .int .i64 a] w fun e w' => e = .returned (.tuple #[]) ∧ ARep w' ab wb (pt ws c a) (u + 5) ∧ Fr [ab, wb] w w' := by
  go_enter Tryz.func64, Tryz.ntmps64
  go_wp2_with fail
  refine (rPrev rb ab wb r ws u a _ hR hA h').mono ?_
  rintro e w1 ⟨rfl, hA1, hF1⟩
  have hR1 := hR.fr hF1 (by simp [n1])
  go_wp2_with fail
  refine (rLink rb ab wb r ws _ _ _ _ hR1 hA1 hp h n1 n2).mono ?_
  rintro e w2 ⟨rfl, hA2, hF2⟩
  have hR2 := hR1.fr hF2 (by simp [n1, n2])
  go_wp2_with fail
  refine (rLink rb ab wb r _ _ _ _ _ hR2 hA2 (by unfold Okc at *; rw [lk_len]; exact h) (by unfold Okc at *; rw [lk_len]; exact h') n1 n2).mono ?_
  rintro e w3 ⟨rfl, hA3, hF3⟩
  go_wp2_with fail
  go_end0
  exact ⟨rfl, hA3.u (by omega), ((hF1.here (by simp)).trans hF2).trans hF3⟩

theorem rRest (rb ab : Nat) (r : RS) (w : World) (hR : RRep w rb ab r) :
    Calls Tryz.prog 78 #[.pointer (some ⟨rb, 0, none⟩)] w fun e w' => e = .returned (.int .i64 (r.f + r.g + r.b : Nat)) ∧ ∃ n, w' = w.drewN n := by
  obtain ⟨c0, c1, c2, c3, c4, c5, c6⟩ := hR.reads
  have hle := hR.le
  unfold RS.tot at hle
  go_enter Tryz.func78, Tryz.ntmps78
  go_wp2_with fail
  go_quiet (fail)
  go_wp2_with fail
  go_ret
  exact ⟨by simp, _, rfl⟩

theorem rAll (rb ab : Nat) (r : RS) (w : World) (hR : RRep w rb ab r) :
    Calls Tryz.prog 62 #[.pointer (some ⟨rb, 0, none⟩)] w fun e w' => e = .returned (.int .i64 (r.tot : Nat)) ∧ ∃ n, w' = w.drewN n := by
  obtain ⟨c0, c1, c2, c3, c4, c5, c6⟩ := hR.reads
  have hle := hR.le
  unfold RS.tot at hle
  go_enter Tryz.func62, Tryz.ntmps62
  go_wp2_with fail
  go_quiet ((go_at_call 78; refine Calls.quiet_of (rRest rb ab r _ (hR.drewN _))))
  go_wp2_with fail
  go_ret
  exact ⟨rfl, _, rfl⟩
theorem rAll' (rb ab : Nat) (r : RS) (t : Nat) (e : r.tot = t) (w : World) (hR : RRep w rb ab r) :
    Calls Tryz.prog 62 #[.pointer (some ⟨rb, 0, none⟩)] w fun e w' => e = .returned (.int .i64 (t : Nat)) ∧ ∃ n, w' = w.drewN n := by
  subst e; exact rAll rb ab r w hR
end Go.Proofs.YtklnpooninbogaaGreatDoor
