import Derived.Test.YtifillpcphiblaaProg
import Derived.WalkKit
import Derived.WalkSpells
import Derived.WalkLawsBesides
import Derived.Defers
import Derived.Recover
namespace Go.Proofs.Ytifillpcphiblaa
open Go Go.Proofs Go.RowKit

/-- Block b is a row of these cells, none of them frozen. -/
def Blk (w : World) (b : Nat) (cs : List Value) (T : TypeId) : Prop := w.heap[b]? = some (.cells cs.toArray T (0, 0))

theorem hid {p : Prop} (h : p) : Hid p := h

theorem Blk.lt {w : World} {b : Nat} {cs : List Value} {T : TypeId} (h : Blk w b cs T) : b < w.heap.size := (Array.getElem?_eq_some_iff.1 h).1

theorem Blk.cell {w : World} {b : Nat} {cs : List Value} {T : TypeId} (h : Blk w b cs T) {i : Nat} {v : Value} (hi : cs[i]? = some v) : w.cell? ⟨b, i, none⟩ = some v := by
  unfold Blk at h
  simp [World.cell?, h, hi]

theorem Blk.frozen {w : World} {b : Nat} {cs : List Value} {T : TypeId} (h : Blk w b cs T) (i : Nat) : w.frozen? ⟨b, i, none⟩ = false := by
  unfold Blk at h
  simp [World.frozen?, h]

theorem Blk.set {w : World} {b : Nat} {cs : List Value} {T : TypeId} (h : Blk w b cs T) (i : Nat) (v : Value) : Blk (w.setCell ⟨b, i, none⟩ v) b (cs.set i v) T := by
  unfold Blk at h ⊢
  simp [World.setCell, Array.getElem?_modify, h]

theorem Blk.other {w : World} {b : Nat} {cs : List Value} {T : TypeId} (h : Blk w b cs T) {a : Addr} (hne : b ≠ a.block) (v : Value) : Blk (w.setCell a v) b cs T := by
  unfold Blk at h ⊢
  rw [Below.heap_setCell _ _ _ _ hne]; exact h

theorem Blk.alloc {w : World} {b : Nat} {cs : List Value} {T : TypeId} (h : Blk w b cs T) (o : Obj) : Blk (w.alloc o) b cs T := by
  have := h.lt
  unfold Blk at h ⊢
  rw [Below.heap_alloc _ _ _ this]; exact h

theorem Blk.drew {w : World} {b : Nat} {cs : List Value} {T : TypeId} (h : Blk w b cs T) : Blk w.drew b cs T := h

theorem Blk.drewN {w : World} {b : Nat} {cs : List Value} {T : TypeId} (h : Blk w b cs T) (n : Nat) : Blk (w.drewN n) b cs T := by
  induction n with
  | zero => exact h
  | succ n ih => exact ih

theorem Blk.new (w : World) (cs : List Value) (T : TypeId) : Blk (w.alloc (.cells cs.toArray T)) w.heap.size cs T := by
  unfold Blk World.alloc
  simp

/-- What may have been written lies in S, or is new. -/
structure Fr (S : List Nat) (w w' : World) : Prop where
  os : w'.os = w.os
  tape : w'.tape = w.tape
  output : w'.output = w.output
  size : w.heap.size ≤ w'.heap.size
  block : ∀ k, k < w.heap.size → k ∉ S → w'.heap[k]? = w.heap[k]?

theorem Fr.refl (S : List Nat) (w : World) : Fr S w w := ⟨rfl, rfl, rfl, Nat.le_refl _, fun _ _ _ => rfl⟩

theorem Fr.trans {S : List Nat} {a b c : World} (h : Fr S a b) (k : Fr S b c) : Fr S a c :=
  ⟨k.os.trans h.os, k.tape.trans h.tape, k.output.trans h.output, Nat.le_trans h.size k.size, fun i hi hS => (k.block i (Nat.lt_of_lt_of_le hi h.size) hS).trans (h.block i hi hS)⟩

theorem Fr.mono {S S' : List Nat} {w w' : World} (h : Fr S w w') (hS : ∀ k, k < w.heap.size → k ∈ S → k ∈ S') : Fr S' w w' :=
  ⟨h.os, h.tape, h.output, h.size, fun k hk hn => h.block k hk (fun hc => hn (hS k hk hc))⟩

theorem Fr.drew {S : List Nat} {a w : World} (h : Fr S a w) : Fr S a w.drew := ⟨h.os, h.tape, h.output, h.size, h.block⟩

theorem Fr.drewN {S : List Nat} {a w : World} (h : Fr S a w) (n : Nat) : Fr S a (w.drewN n) := by
  induction n with
  | zero => exact h
  | succ n ih => exact ih.drew

theorem Fr.alloc {S : List Nat} {a w : World} (h : Fr S a w) (o : Obj) : Fr S a (w.alloc o) :=
  h.trans ⟨rfl, rfl, rfl, by simp, fun k hk _ => Below.heap_alloc _ _ _ hk⟩

theorem Fr.set {S : List Nat} {a w : World} (h : Fr S a w) {p : Addr} (hp : p.block ∈ S ∨ a.heap.size ≤ p.block) (v : Value) : Fr S a (w.setCell p v) := by
  refine ⟨h.os, h.tape, h.output, by simpa [World.setCell] using h.size, fun k hk hS => ?_⟩
  rw [Below.heap_setCell _ _ _ _ (by rcases hp with hp | hp; (· intro e; exact hS (e ▸ hp)); (· omega))]
  exact h.block k hk hS

theorem Fr.step {S S' : List Nat} {a b c : World} (h : Fr S a b) (k : Fr S' b c) (hS : ∀ x ∈ S', x ∈ S ∨ a.heap.size ≤ x) : Fr S a c :=
  ⟨k.os.trans h.os, k.tape.trans h.tape, k.output.trans h.output, Nat.le_trans h.size k.size, fun i hi hn => (k.block i (Nat.lt_of_lt_of_le hi h.size) (fun hc => (hS i hc).elim hn (fun h => by omega))).trans (h.block i hi hn)⟩

theorem Fr.below {S : List Nat} {w w' : World} (h : Fr S w w') {B : Nat} (hB : B ≤ w.heap.size) (hS : ∀ k ∈ S, B ≤ k) : Below B w w' :=
  ⟨h.os, h.tape, h.output, h.size, fun k hk => h.block k (by omega) (fun hc => by have := hS k hc; omega)⟩

theorem Blk.fr {S : List Nat} {w w' : World} {b : Nat} {cs : List Value} {T : TypeId} (h : Blk w b cs T) (hf : Fr S w w') (hb : b ∉ S) : Blk w' b cs T := by
  have := h.lt
  unfold Blk at h ⊢
  rw [hf.block b this hb]; exact h

theorem wrap64_bump (u k : Int) : wrap64 (wrap64 u + k) = wrap64 (u + k) := by
  unfold wrap64; omega

theorem Fr.here {S : List Nat} {w w' : World} (h : Fr S w w') {T : List Nat} (hS : ∀ x ∈ S, x ∈ T) : Fr T w w' := h.mono (fun _ _ h => hS _ h)

def gw (ws : List Int) (c : Int) : Int := ws.getD c.toNat 0
def sw (ws : List Int) (c v : Int) : List Int := ws.set c.toNat v
theorem sw_len (ws : List Int) (c v : Int) : (sw ws c v).length = ws.length := by simp [sw]

/-- An arena: its struct at block ab, its words at block wb. -/
structure ARep (w : World) (ab wb : Nat) (ws : List Int) (u : Int) : Prop where
  s : Blk w ab [.slice (some ⟨wb, 0, none⟩) ws.length ws.length, .int .i64 (wrap64 u)] 165
  c : Blk w wb (ws.map (.int .i64)) 2
  ne : ab ≠ wb
  le : ws.length ≤ 65536
theorem ARep.u {w : World} {ab wb : Nat} {ws : List Int} {u u' : Int} (h : ARep w ab wb ws u) (e : u = u') : ARep w ab wb ws u' := e ▸ h
theorem ARep.drewN {w : World} {ab wb : Nat} {ws : List Int} {u : Int} (h : ARep w ab wb ws u) (n : Nat) : ARep (w.drewN n) ab wb ws u := ⟨h.s.drewN _, h.c.drewN _, h.ne, h.le⟩
theorem ARep.drew {w : World} {ab wb : Nat} {ws : List Int} {u : Int} (h : ARep w ab wb ws u) : ARep w.drew ab wb ws u := ⟨h.s.drew, h.c.drew, h.ne, h.le⟩
theorem ARep.alloc {w : World} {ab wb : Nat} {ws : List Int} {u : Int} (h : ARep w ab wb ws u) (o : Obj) : ARep (w.alloc o) ab wb ws u := ⟨h.s.alloc _, h.c.alloc _, h.ne, h.le⟩
theorem ARep.other {w : World} {ab wb : Nat} {ws : List Int} {u : Int} (h : ARep w ab wb ws u) {a : Addr} (h1 : ab ≠ a.block) (h2 : wb ≠ a.block) (v : Value) : ARep (w.setCell a v) ab wb ws u := ⟨h.s.other h1 _, h.c.other h2 _, h.ne, h.le⟩
theorem ARep.fr {S : List Nat} {w w' : World} {ab wb : Nat} {ws : List Int} {u : Int} (h : ARep w ab wb ws u) (hf : Fr S w w') (h1 : ab ∉ S) (h2 : wb ∉ S) : ARep w' ab wb ws u := ⟨h.s.fr hf h1, h.c.fr hf h2, h.ne, h.le⟩
end Go.Proofs.Ytifillpcphiblaa
