
import Derived.Test.YtklnpooninbogaaGreatProg
import Derived.WalkKit
import Derived.WalkSpells
import Derived.WalkLawsBesides
import Derived.Defers
import Derived.Recover
namespace Go.Proofs.YtklnpooninbogaaGreat
open Go Go.Proofs Go.RowKit
def Blk (w : World) (b : Nat) (cs : List Value) (T : TypeId) : Prop := w.heap[b]? = some (.cells cs.toArray T (0, 0))
theorem hid {p : Prop} (h : p) : Hid p := h
theorem Blk.lt {w : World} {b : Nat} {cs : List Value} {T : TypeId} (h : Blk w b cs T) : b < w.heap.size := (Array.getElem?_eq_some_iff.1 h).1
theorem Blk.cell {w : World} {b : Nat} {cs : List Value} {T : TypeId} (h : Blk w b cs T) {i : Nat} {v : Value} (hi : cs[i]? = some v) : w.cell? ⟨b, i, none⟩ = some v := by
  unfold Blk at h
  simp [World.cell?, h, hi]
theorem Blk.frozen {w : World} {b : Nat} {cs : List Value} {T : TypeId} (h : Blk w b cs T) (i : Nat) : w.frozen? ⟨b, i, none⟩ = false := by
  unfold Blk at h
  simp [World.frozen?, h]
theorem Blk.set {w : World} {b : Nat} {cs : List Value} {T : TypeId} (h : Blk w b cs T) (i : Nat) (v : Value) : Blk (w.setCell ⟨b, i, none⟩ v) b (cs.set i v) T := by
  unfold Blk at h ⊢
  simp [World.setCell, Array.getElem?_modify, h]
theorem Blk.other {w : World} {b : Nat} {cs : List Value} {T : TypeId} (h : Blk w b cs T) {a : Addr} (hne : b ≠ a.block) (v : Value) : Blk (w.setCell a v) b cs T := by
  unfold Blk at h ⊢
  rw [Below.heap_setCell _ _ _ _ hne]; exact h
theorem Blk.alloc {w : World} {b : Nat} {cs : List Value} {T : TypeId} (h : Blk w b cs T) (o : Obj) : Blk (w.alloc o) b cs T := by
  have := h.lt
  unfold Blk at h ⊢
  rw [Below.heap_alloc _ _ _ this]; exact h
theorem Blk.drew {w : World} {b : Nat} {cs : List Value} {T : TypeId} (h : Blk w b cs T) : Blk w.drew b cs T := h
theorem Blk.drewN {w : World} {b : Nat} {cs : List Value} {T : TypeId} (h : Blk w b cs T) (n : Nat) : Blk (w.drewN n) b cs T := by
  induction n with
  | zero => exact h
  | succ n ih => exact ih
theorem Blk.new (w : World) (cs : List Value) (T : TypeId) : Blk (w.alloc (.cells cs.toArray T)) w.heap.size cs T := by
  unfold Blk World.alloc
  simp
structure Fr (S : List Nat) (w w' : World) : Prop where
  os : w'.os = w.os
  tape : w'.tape = w.tape
  output : w'.output = w.output
  size : w.heap.size ≤ w'.heap.size
  block : ∀ k, k < w.heap.size → k ∉ S → w'.heap[k]? = w.heap[k]?
theorem Fr.refl (S : List Nat) (w : World) : Fr S w w := ⟨rfl, rfl, rfl, Nat.le_refl _, fun _ _ _ => rfl⟩
theorem Fr.trans {S : List Nat} {a b c : World} (h : Fr S a b) (k : Fr S b c) : Fr S a c :=
  ⟨k.os.trans h.os, k.tape.trans h.tape, k.output.trans h.output, Nat.le_trans h.size k.size, fun i hi hS => (k.block i (Nat.lt_of_lt_of_le hi h.size) hS).trans (h.block i hi hS)⟩
theorem Fr.mono {S S' : List Nat} {w w' : World} (h : Fr S w w') (hS : ∀ k, k < w.heap.size → k ∈ S → k ∈ S') : Fr S' w w' :=
  ⟨h.os, h.tape, h.output, h.size, fun k hk hn => h.block k hk (fun hc => hn (hS k hk hc))⟩
theorem Fr.drew {S : List Nat} {a w : World} (h : Fr S a w) : Fr S a w.drew := ⟨h.os, h.tape, h.output, h.size, h.block⟩
theorem Fr.drewN {S : List Nat} {a w : World} (h : Fr S a w) (n : Nat) : Fr S a (w.drewN n) := by
  induction n with
  | zero => exact h
  | succ n ih => exact ih.drew
theorem Fr.alloc {S : List Nat} {a w : World} (h : Fr S a w) (o : Obj) : Fr S a (w.alloc o) :=
  h.trans ⟨rfl, rfl, rfl, by simp, fun k hk _ => Below.heap_alloc _ _ _ hk⟩
theorem Fr.set {S : List Nat} {a w : World} (h : Fr S a w) {p : Addr} (hp : p.block ∈ S ∨ a.heap.size ≤ p.block) (v : Value) : Fr S a (w.setCell p v) := by
  refine ⟨h.os, h.tape, h.output, by simpa [World.setCell] using h.size, fun k hk hS => ?_⟩
  rw [Below.heap_setCell _ _ _ _ (by rcases hp with hp | hp; (· intro e; exact hS (e ▸ hp)); (· omega))]
  exact h.block k hk hS
theorem Fr.step {S S' : List Nat} {a b c : World} (h : Fr S a b) (k : Fr S' b c) (hS : ∀ x ∈ S', x ∈ S ∨ a.heap.size ≤ x) : Fr S a c :=
  ⟨k.os.trans h.os, k.tape.trans h.tape, k.output.trans h.output, Nat.le_trans h.size k.size, fun i hi hn => (k.block i (Nat.lt_of_lt_of_le hi h.size) (fun hc => (hS i hc).elim hn (fun h => by omega))).trans (h.block i hi hn)⟩
theorem Fr.below {S : List Nat} {w w' : World} (h : Fr S w w') {B : Nat} (hB : B ≤ w.heap.size) (hS : ∀ k ∈ S, B ≤ k) : Below B w w' :=
  ⟨h.os, h.tape, h.output, h.size, fun k hk => h.block k (by omega) (fun hc => by have := hS k hc; omega)⟩
theorem Blk.fr {S : List Nat} {w w' : World} {b : Nat} {cs : List Value} {T : TypeId} (h : Blk w b cs T) (hf : Fr S w w') (hb : b ∉ S) : Blk w' b cs T := by
  have := h.lt
  unfold Blk at h ⊢
  rw [hf.block b this hb]; exact h
theorem wrap64_bump (u k : Int) : wrap64 (wrap64 u + k) = wrap64 (u + k) := by
  unfold wrap64; omega
theorem Fr.here {S : List Nat} {w w' : World} (h : Fr S w w') {T : List Nat} (hS : ∀ x ∈ S, x ∈ T) : Fr T w w' := h.mono (fun _ _ h => hS _ h)
def gw (ws : List Int) (c : Int) : Int := ws.getD c.toNat 0
def sw (ws : List Int) (c v : Int) : List Int := ws.set c.toNat v
theorem sw_len (ws : List Int) (c v : Int) : (sw ws c v).length = ws.length := by simp [sw]
structure ARep (w : World) (ab wb : Nat) (ws : List Int) (u : Int) : Prop where
  s : Blk w ab [.slice (some ⟨wb, 0, none⟩) ws.length ws.length, .int .i64 (wrap64 u)] 107
  c : Blk w wb (ws.map (.int .i64)) 2
  ne : ab ≠ wb
  le : ws.length ≤ 65536
theorem ARep.u {w : World} {ab wb : Nat} {ws : List Int} {u u' : Int} (h : ARep w ab wb ws u) (e : u = u') : ARep w ab wb ws u' := e ▸ h
theorem ARep.drewN {w : World} {ab wb : Nat} {ws : List Int} {u : Int} (h : ARep w ab wb ws u) (n : Nat) : ARep (w.drewN n) ab wb ws u := ⟨h.s.drewN _, h.c.drewN _, h.ne, h.le⟩
theorem ARep.drew {w : World} {ab wb : Nat} {ws : List Int} {u : Int} (h : ARep w ab wb ws u) : ARep w.drew ab wb ws u := ⟨h.s.drew, h.c.drew, h.ne, h.le⟩
theorem ARep.alloc {w : World} {ab wb : Nat} {ws : List Int} {u : Int} (h : ARep w ab wb ws u) (o : Obj) : ARep (w.alloc o) ab wb ws u := ⟨h.s.alloc _, h.c.alloc _, h.ne, h.le⟩
theorem ARep.other {w : World} {ab wb : Nat} {ws : List Int} {u : Int} (h : ARep w ab wb ws u) {a : Addr} (h1 : ab ≠ a.block) (h2 : wb ≠ a.block) (v : Value) : ARep (w.setCell a v) ab wb ws u := ⟨h.s.other h1 _, h.c.other h2 _, h.ne, h.le⟩
theorem ARep.fr {S : List Nat} {w w' : World} {ab wb : Nat} {ws : List Int} {u : Int} (h : ARep w ab wb ws u) (hf : Fr S w w') (h1 : ab ∉ S) (h2 : wb ∉ S) : ARep w' ab wb ws u := ⟨h.s.fr hf h1, h.c.fr hf h2, h.ne, h.le⟩
theorem storeLit (a pb : Addr) (v x : Int) (w : World) (h1 : w.cell? pb = some (.int .i64 v)) (h2 : w.cell? a = some (.int .i64 x)) (h3 : w.frozen? a = false) :
    Calls Tryz.prog 103 #[.pointer (some a), .pointer (some pb)] w fun e w' => e = .returned (.tuple #[]) ∧ w' = w.setCell a (.int .i64 v) := by
  go_enter Tryz.func103, Tryz.ntmps103
  go_wp2
  go_end0
  exact ⟨rfl, rfl⟩
theorem loadLit (a pb : Addr) (v x : Int) (w : World) (h1 : w.cell? pb = some (.int .i64 v)) (h2 : w.cell? a = some (.int .i64 x)) (h3 : w.frozen? pb = false) :
    Calls Tryz.prog 106 #[.pointer (some a), .pointer (some pb)] w fun e w' => e = .returned (.tuple #[]) ∧ w' = w.setCell pb (.int .i64 x) := by
  go_enter Tryz.func106, Tryz.ntmps106
  go_wp2
  go_end0
  exact ⟨rfl, rfl⟩
theorem addUses (ab : Nat) (x y : Int) (w : World) (hc : w.cell? ⟨ab, 1, none⟩ = some (.int .i64 x)) (hz : w.frozen? ⟨ab, 1, none⟩ = false) :
    Calls Tryz.prog 139 #[.pointer (some ⟨ab, 1, none⟩), .int .i64 y] w fun e w' => e = .returned (.int .i64 (wrap64 (x + y))) ∧ w' = w.setCell ⟨ab, 1, none⟩ (.int .i64 (wrap64 (x + y))) := by
  have hadd := run_call_add (P := Tryz.prog) Tryz.func163 (by kernel_rfl) (by kernel_rfl) (by kernel_rfl) .i64 (by kernel_rfl) (y := y) (s := wrap64 (x + y)) hc hz (by simp [go_sem, wrap64, IntKind.wrap_i64])
  go_enter Tryz.func139, Tryz.ntmps139
  go_wp2
  go_ret
  exact ⟨rfl, rfl⟩
theorem useIdle (p : Addr) (w : World) :
    CallsD Tryz.prog 138 #[.pointer (some p)] .returning w fun e u' w' => e = .returned (.tuple #[]) ∧ u' = .returning ∧ w' = w := by
  refine callsD_of_wpS Tryz.func138 rfl fun c₀ cs hu => ?_
  apply wpS_seq
  apply wpS_region
  simp [wpOpsS, go_sem, recoverD, hu, Tryz.ntmps138, Exit.thenS]
  refine wpS_cond (t := false) (by simp [Act.eval, Array.replicate]) ?_
  simp only [Bool.false_eq_true, if_false]
  refine wpS_of_wp (wp_skip ?_)
  cases c₀
  simp_all [bodyPostS, results, Tryz.results138]
set_option maxHeartbeats 400000 in
theorem useStore (ab wb : Nat) (ws : List Int) (u : Int) (at_ : Nat) (hl : at_ < ws.length) (pb : Nat) (v : Int) (w : World)
    (hA : ARep w ab wb ws u) (hp : Blk w pb [.int .i64 v] 2) :
    Calls Tryz.prog 102 #[.pointer (some ⟨ab, 0, none⟩), .int .i64 at_, .func (.func 103) #[] #[.pointer (some ⟨pb, 0, none⟩)]] w fun e w' =>
      e = .returned (.int .i64 0) ∧ ARep w' ab wb (ws.set at_ v) (u + 1) ∧ Fr [ab, wb] w w' := by
  obtain ⟨hs, hc, hne, hle⟩ := hA
  have hmf : ∀ (fn : Fn) (first cap : Array Value) (w : World), (Instr.makeFunc fn first cap).run Tryz.prog w = .ok (.func fn first cap) w := fun _ _ _ _ => rfl
  have h0 := hs.cell (i := 0) rfl
  have l1 := hs.lt
  have l2 := hc.lt
  have l3 := hp.lt
  go_enter_defers Tryz.func102, Tryz.ntmps102
  go_wp2_with fail
  refine (storeLit _ _ v (ws[at_]'hl) _ ?_ ?_ ?_).mono ?_
  · exact (hp.alloc _).cell rfl
  · exact (hc.alloc _).cell (by simp [hl])
  · exact (hc.alloc _).frozen _
  rintro e w' ⟨rfl, rfl⟩
  go_wp2_with fail
  refine (addUses ab (wrap64 u) _ _ ?_ ?_).mono ?_
  · exact ((hs.other hne _).alloc _).cell rfl
  · exact ((hs.other hne _).alloc _).frozen _
  rintro e w' ⟨rfl, rfl⟩
  go_wp2_with fail
  refine leaves_cons (f := 138) (args := #[.pointer (some ⟨w.heap.size, 0, none⟩)]) (by simp) (by simp [go_sem]) ?_
  refine (useIdle ⟨w.heap.size, 0, none⟩ _).mono ?_
  rintro e u' w'' ⟨rfl, rfl, rfl⟩
  refine ⟨.int .i64 0, by simp [results, Tryz.results102, go_sem], rfl, ⟨?_, ?_, hne, by simpa using hle⟩, ?_⟩
  · have := ((hs.other (a := ⟨wb, at_, none⟩) hne (.int .i64 v)).set 1 (.int .i64 (wrap64 (wrap64 u + 1)))).alloc (.cells #[.int .i64 0] 40)
    rw [wrap64_bump] at this ⊢
    simpa using this
  · have := ((hc.set at_ (.int .i64 v)).other (a := ⟨ab, 1, none⟩) (Ne.symm hne) (.int .i64 (wrap64 (wrap64 u + 1)))).alloc (.cells #[.int .i64 0] 40)
    simpa using this
  · exact (((Fr.refl _ w).set (by simp) _).set (by simp) _).alloc _
set_option maxHeartbeats 400000 in
theorem useLoad (ab wb : Nat) (ws : List Int) (u : Int) (at_ : Nat) (hl : at_ < ws.length) (pb : Nat) (v : Int) (w : World)
    (hA : ARep w ab wb ws u) (hp : Blk w pb [.int .i64 v] 2) (hp1 : pb ≠ ab) (hp2 : pb ≠ wb) :
    Calls Tryz.prog 102 #[.pointer (some ⟨ab, 0, none⟩), .int .i64 at_, .func (.func 106) #[] #[.pointer (some ⟨pb, 0, none⟩)]] w fun e w' =>
      e = .returned (.int .i64 0) ∧ ARep w' ab wb ws (u + 1) ∧ Blk w' pb [.int .i64 (ws.getD at_ 0)] 2 ∧ Fr [ab, pb] w w' := by
  obtain ⟨hs, hc, hne, hle⟩ := hA
  have hmf : ∀ (fn : Fn) (first cap : Array Value) (w : World), (Instr.makeFunc fn first cap).run Tryz.prog w = .ok (.func fn first cap) w := fun _ _ _ _ => rfl
  have h0 := hs.cell (i := 0) rfl
  have l1 := hs.lt
  have l2 := hc.lt
  have l3 := hp.lt
  go_enter_defers Tryz.func102, Tryz.ntmps102
  go_wp2_with fail
  refine (loadLit _ _ v (ws[at_]'hl) _ ?_ ?_ ?_).mono ?_
  · exact (hp.alloc _).cell rfl
  · exact (hc.alloc _).cell (by simp [hl])
  · exact (hp.alloc _).frozen _
  rintro e w' ⟨rfl, rfl⟩
  go_wp2_with fail
  refine (addUses ab (wrap64 u) _ _ ?_ ?_).mono ?_
  · exact ((hs.other (Ne.symm hp1) _).alloc _).cell rfl
  · exact ((hs.other (Ne.symm hp1) _).alloc _).frozen _
  rintro e w' ⟨rfl, rfl⟩
  go_wp2_with fail
  refine leaves_cons (f := 138) (args := #[.pointer (some ⟨w.heap.size, 0, none⟩)]) (by simp) (by simp [go_sem]) ?_
  refine (useIdle ⟨w.heap.size, 0, none⟩ _).mono ?_
  rintro e u' w'' ⟨rfl, rfl, rfl⟩
  refine ⟨.int .i64 0, by simp [results, Tryz.results102, go_sem], rfl, ⟨?_, ?_, hne, hle⟩, ?_, ?_⟩
  · have := ((hs.other (a := ⟨pb, 0, none⟩) (Ne.symm hp1) (.int .i64 ws[at_])).set 1 (.int .i64 (wrap64 (wrap64 u + 1)))).alloc (.cells #[.int .i64 0] 40)
    rw [wrap64_bump] at this ⊢
    simpa using this
  · exact ((hc.other (a := ⟨pb, 0, none⟩) (Ne.symm hp2) _).other (a := ⟨ab, 1, none⟩) (Ne.symm hne) _).alloc _
  · have := ((hp.set 0 (.int .i64 ws[at_])).other (a := ⟨ab, 1, none⟩) hp1 (.int .i64 (wrap64 (wrap64 u + 1)))).alloc (.cells #[.int .i64 0] 40)
    simpa [hl] using this
  · exact (((Fr.refl _ w).set (by simp) _).set (by simp) _).alloc _
set_option maxHeartbeats 400000 in
theorem aStore (ab wb : Nat) (ws : List Int) (u : Int) (at_ : Int) (v : Int) (w : World) (h0 : 0 ≤ at_) (hl : at_ < ws.length)
    (hA : ARep w ab wb ws u) :
    Calls Tryz.prog 51 #[.pointer (some ⟨ab, 0, none⟩), .int .i64 at_, .int .i64 v] w fun e w' =>
      e = .returned (.int .i64 0) ∧ ARep w' ab wb (sw ws at_ v) (u + 1) ∧ Fr [ab, wb] w w' := by
  obtain ⟨k, rfl⟩ := Int.eq_ofNat_of_zero_le h0
  have hmf : ∀ (fn : Fn) (first cap : Array Value) (w : World), (Instr.makeFunc fn first cap).run Tryz.prog w = .ok (.func fn first cap) w := fun _ _ _ _ => rfl
  have hA' : ARep (w.alloc (.cells #[.int .i64 v] 2)) ab wb ws u := ⟨hA.s.alloc _, hA.c.alloc _, hA.ne, hA.le⟩
  have hB := Blk.new w [.int .i64 v] 2
  go_enter Tryz.func51, Tryz.ntmps51
  go_wp2_with fail
  refine (useStore ab wb ws u k (by omega) w.heap.size v _ hA' hB).mono ?_
  rintro e w' ⟨rfl, hA1, hF⟩
  go_wp2_with fail
  go_ret
  exact ⟨rfl, hA1, ((Fr.refl _ w).alloc _).trans hF⟩
set_option maxHeartbeats 400000 in
theorem aLoad (ab wb : Nat) (ws : List Int) (u : Int) (at_ : Int) (w : World) (h0 : 0 ≤ at_) (hl : at_ < ws.length)
    (hA : ARep w ab wb ws u) :
    Calls Tryz.prog 53 #[.pointer (some ⟨ab, 0, none⟩), .int .i64 at_] w fun e w' =>
      e = .returned (.tuple #[.int .i64 (gw ws at_), .int .i64 0]) ∧ ARep w' ab wb ws (u + 1) ∧ Fr [ab] w w' := by
  obtain ⟨k, rfl⟩ := Int.eq_ofNat_of_zero_le h0
  have hmf : ∀ (fn : Fn) (first cap : Array Value) (w : World), (Instr.makeFunc fn first cap).run Tryz.prog w = .ok (.func fn first cap) w := fun _ _ _ _ => rfl
  have hA' : ARep (w.alloc (.cells #[.int .i64 0] 2)) ab wb ws u := ⟨hA.s.alloc _, hA.c.alloc _, hA.ne, hA.le⟩
  have hB := Blk.new w [.int .i64 0] 2
  have l1 := hA.s.lt
  have l2 := hA.c.lt
  go_enter Tryz.func53, Tryz.ntmps53
  go_wp2_with fail
  refine (useLoad ab wb ws u k (by omega) w.heap.size 0 _ hA' hB (by omega) (by omega)).mono ?_
  rintro e w' ⟨rfl, hA1, hB1, hF⟩
  have hc := hB1.cell (i := 0) rfl
  go_wp2_with fail
  go_ret2
  refine ⟨rfl, hA1, ((Fr.refl _ w).alloc _).step hF (by simp)⟩
end Go.Proofs.YtklnpooninbogaaGreat
