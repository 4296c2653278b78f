import Derived.Test.YtifillpcphiblaaHeapObj
namespace Go.Proofs.Ytifillpcphiblaa
open Go Go.Proofs Go.RowKit

set_option maxHeartbeats 800000 in
theorem becomeLit (cbk kb xb : Nat) (k z a m k' a' : Int) (w : World) (hb : Blk w cbk [.int .i64 k, .int .i64 z, .int .i64 a, .int .i64 m] 40) (h1 : w.cell? ⟨kb, 0, none⟩ = some (.int .i64 k')) (h2 : w.cell? ⟨xb, 0, none⟩ = some (.int .i64 a')) (_n1 : kb ≠ cbk) (_n2 : xb ≠ cbk) :
    Calls Try.prog 76 #[.pointer (some ⟨cbk, 0, none⟩), .pointer (some ⟨kb, 0, none⟩), .pointer (some ⟨xb, 0, none⟩)] w fun e w' => e = .returned (.tuple #[]) ∧ Blk w' cbk [.int .i64 k', .int .i64 z, .int .i64 a', .int .i64 m] 40 ∧ Fr [cbk] w w' := by
  have q0 := hb.cell (i := 0) rfl
  have q2 := hb.cell (i := 2) rfl
  have y0 := hb.frozen 0
  have y2 := hb.frozen 2
  go_enter Try.func76, Try.ntmps76
  go_wp2_with fail
  go_region
  go_end0
  refine ⟨rfl, ?_, ?_⟩
  · have := ((hb.set 0 (.int .i64 k')).set 2 (.int .i64 a')).drew
    simpa using this
  · exact (((Fr.refl _ w).set (by simp) _).set (by simp) _).drew

set_option maxHeartbeats 800000 in
theorem shadeLit (cbk pb : Nat) (L : HL) (s : HS) (k z a m : Int) (w : World) (hH : HRep w L s) (hb : Blk w cbk [.int .i64 k, .int .i64 z, .int .i64 a, .int .i64 m] 40) (h1 : w.cell? ⟨pb, 0, none⟩ = some (.pointer (some ⟨L.hb, 0, none⟩))) :
    Calls Try.prog 81 #[.pointer (some ⟨cbk, 0, none⟩), .pointer (some ⟨pb, 0, none⟩)] w fun e w' => e = .returned (.tuple #[]) ∧ Blk w' cbk [.int .i64 k, .int .i64 z, .int .i64 a, .int .i64 s.parity] 40 ∧ Fr [cbk] w w' := by
  have q3 := hb.cell (i := 3) rfl
  have y3 := hb.frozen 3
  obtain ⟨-, -, -, -, -, -, -, c7⟩ := hH.reads
  go_enter Try.func81, Try.ntmps81
  go_wp2_with fail
  go_end0
  refine ⟨rfl, ?_, ?_⟩
  · have := hb.set 3 (.int .i64 s.parity)
    simpa using this
  · exact (Fr.refl _ w).set (by simp) _

set_option maxHeartbeats 1600000 in
theorem hTurnBecome (L : HL) (s : HS) (p : Int) (k z a m k' a' : Int) (kb xb : Nat) (w : World) (hH : HRep w L s) (p0 : 0 ≤ p) (p1 : p < s.ws.length) (hp : gw s.ws p = packed k z a m) (hd : Hd k z a m) (hd' : Hd k' z a' m)
    (h1 : w.cell? ⟨kb, 0, none⟩ = some (.int .i64 k')) (h2 : w.cell? ⟨xb, 0, none⟩ = some (.int .i64 a')) (l1 : kb < w.heap.size) (l2 : xb < w.heap.size) (n1 : kb ∉ L.all) (n2 : xb ∉ L.all) :
    Calls Try.prog 75 #[.pointer (some ⟨L.hb, 0, none⟩), .int .i64 p, .func (.func 76) #[] #[.pointer (some ⟨kb, 0, none⟩), .pointer (some ⟨xb, 0, none⟩)]] w fun e w' => e = .returned (.int .i64 0) ∧ HRep w' L (s.put p (packed k' z a' m) 2) ∧ Fr [L.ab, L.wb] w w' := by
  have n1' : kb ≠ L.ab := by intro e; apply n1; simp [HL.all, HL.fp, e]
  have n2' : xb ≠ L.ab := by intro e; apply n2; simp [HL.all, HL.fp, e]
  go_enter Try.func75, Try.ntmps75
  go_wp2_with fail
  refine (hCell L s p k z a m _ hH p0 p1 hp hd).mono ?_
  rintro e w1 ⟨rfl, hH1, hF1⟩
  clear hp
  have e1 := (cell_fr hF1 (by simpa using n1') l1 0).trans h1
  have e2 := (cell_fr hF1 (by simpa using n2') l2 0).trans h2
  have b1 := Blk.new w1 [.int .i64 k, .int .i64 z, .int .i64 a, .int .i64 m] 40
  have hsz := hF1.size
  have hH2 := hH1.alloc (.cells #[.int .i64 k, .int .i64 z, .int .i64 a, .int .i64 m] 40)
  have hn := new_apart hH1
  clear h1 h2
  go_wp2_with fail
  refine (becomeLit w1.heap.size kb xb k z a m k' a' _ b1 ?_ ?_ (by omega) (by omega)).mono ?_
  · rw [World.cell?_alloc_past _ _ _ (by omega)]; exact e1
  · rw [World.cell?_alloc_past _ _ _ (by omega)]; exact e2
  rintro e w2 ⟨rfl, b2, hF2⟩
  have hH3 := hH2.fr hF2 (by simpa using hn)
  clear e1 e2 b1 hH2 hn
  have q0 := b2.cell (i := 0) rfl
  have q1 := b2.cell (i := 1) rfl
  have q2 := b2.cell (i := 2) rfl
  have q3 := b2.cell (i := 3) rfl
  have hF3 : Fr [L.ab] w w2 := (hF1.alloc _).step hF2 (by simp; omega)
  clear hF2
  go_wp2_with fail
  refine (cPack k' z a' m _ hd'.k0 hd'.k1 hd'.m0 hd'.m1 hd'.s0 hd'.s1 hd'.a0 hd'.a1).mono ?_
  rintro e w3 ⟨rfl, hF4⟩
  have hH4 := hH3.fr hF4 (by simp)
  have hF5 : Fr [L.ab] w w3 := hF3.trans (hF4.here (by simp))
  clear q0 q1 q2 q3 hF4 hF3 hH3
  have c0 := hH4.reads.1
  go_wp2_with fail
  refine (aStore L.ab L.wb s.ws _ p _ _ p0 p1 hH4.a).mono ?_
  rintro e w4 ⟨rfl, hA5, hF6⟩
  clear c0
  go_wp2_with fail
  go_ret
  exact ⟨rfl, (hH4.arena hF6 (by simp) hA5).cast (by simp [HS.tick, HS.put, Int.add_assoc]), (hF5.here (by simp)).trans hF6⟩

set_option maxHeartbeats 1600000 in
theorem hTurnShade (L : HL) (s : HS) (p : Int) (k z a m : Int) (pb : Nat) (w : World) (hH : HRep w L s) (p0 : 0 ≤ p) (p1 : p < s.ws.length) (hp : gw s.ws p = packed k z a m) (hd : Hd k z a m) (hd' : Hd k z a s.parity)
    (h1 : w.cell? ⟨pb, 0, none⟩ = some (.pointer (some ⟨L.hb, 0, none⟩))) (l1 : pb < w.heap.size) (n1 : pb ∉ L.all) :
    Calls Try.prog 75 #[.pointer (some ⟨L.hb, 0, none⟩), .int .i64 p, .func (.func 81) #[] #[.pointer (some ⟨pb, 0, none⟩)]] w fun e w' => e = .returned (.int .i64 0) ∧ HRep w' L (s.put p (packed k z a s.parity) 2) ∧ Fr [L.ab, L.wb] w w' := by
  have n1' : pb ≠ L.ab := by intro e; apply n1; simp [HL.all, HL.fp, e]
  go_enter Try.func75, Try.ntmps75
  go_wp2_with fail
  refine (hCell L s p k z a m _ hH p0 p1 hp hd).mono ?_
  rintro e w1 ⟨rfl, hH1, hF1⟩
  clear hp
  have e1 := (cell_fr hF1 (by simpa using n1') l1 0).trans h1
  have b1 := Blk.new w1 [.int .i64 k, .int .i64 z, .int .i64 a, .int .i64 m] 40
  have hsz := hF1.size
  have hH2 := hH1.alloc (.cells #[.int .i64 k, .int .i64 z, .int .i64 a, .int .i64 m] 40)
  have hn := new_apart hH1
  clear h1
  go_wp2_with fail
  refine (shadeLit w1.heap.size pb L _ k z a m _ hH2 b1 ?_).mono ?_
  · rw [World.cell?_alloc_past _ _ _ (by omega)]; exact e1
  rintro e w2 ⟨rfl, b2, hF2⟩
  have hH3 := hH2.fr hF2 (by simpa using hn)
  clear e1 b1 hH2 hn
  have q0 := b2.cell (i := 0) rfl
  have q1 := b2.cell (i := 1) rfl
  have q2 := b2.cell (i := 2) rfl
  have q3 : w2.cell? ⟨w1.heap.size, 3, none⟩ = some (.int .i64 s.parity) := b2.cell (i := 3) rfl
  have hF3 : Fr [L.ab] w w2 := (hF1.alloc _).step hF2 (by simp; omega)
  clear hF2
  go_wp2_with fail
  refine (cPack k z a s.parity _ hd'.k0 hd'.k1 hd'.m0 hd'.m1 hd'.s0 hd'.s1 hd'.a0 hd'.a1).mono ?_
  rintro e w3 ⟨rfl, hF4⟩
  have hH4 := hH3.fr hF4 (by simp)
  have hF5 : Fr [L.ab] w w3 := hF3.trans (hF4.here (by simp))
  clear q0 q1 q2 q3 hF4 hF3 hH3
  have c0 := hH4.reads.1
  go_wp2_with fail
  refine (aStore L.ab L.wb s.ws _ p _ _ p0 p1 hH4.a).mono ?_
  rintro e w4 ⟨rfl, hA5, hF6⟩
  clear c0
  go_wp2_with fail
  go_ret
  exact ⟨rfl, (hH4.arena hF6 (by simp) hA5).cast (by simp [HS.tick, HS.put, Int.add_assoc]), (hF5.here (by simp)).trans hF6⟩

set_option maxHeartbeats 800000 in
theorem hBecome (L : HL) (s : HS) (p : Int) (k z a m k' a' : Int) (w : World) (hH : HRep w L s) (p0 : 0 ≤ p) (p1 : p < s.ws.length) (hp : gw s.ws p = packed k z a m) (hd : Hd k z a m) (hd' : Hd k' z a' m) :
    Calls Try.prog 24 #[.pointer (some ⟨L.hb, 0, none⟩), .int .i64 p, .int .i64 k', .int .i64 a'] w fun e w' => e = .returned (.int .i64 0) ∧ HRep w' L (s.put p (packed k' z a' m) 2) ∧ Fr [L.ab, L.wb] w w' := by
  have hmf : ∀ (fn : Fn) (first cap : Array Value) (w : World), (Instr.makeFunc fn first cap).run Try.prog w = .ok (.func fn first cap) w := fun _ _ _ _ => rfl
  have hn := new_apart hH
  have hH1 := hH.alloc (.cells #[.int .i64 k'] 3)
  have hn1 := new_apart hH1
  have hH2 := hH1.alloc (.cells #[.int .i64 a'] 3)
  have b1 := (Blk.new w [.int .i64 k'] 3).alloc (.cells #[.int .i64 a'] 3)
  have b2 := Blk.new (w.alloc (.cells #[.int .i64 k'] 3)) [.int .i64 a'] 3
  simp only [World.size_alloc] at hn1 b2
  go_enter Try.func24, Try.ntmps24
  go_wp2_with fail
  refine (hTurnBecome L s p k z a m k' a' w.heap.size (w.heap.size + 1) _ hH2 p0 p1 hp hd hd' (b1.cell rfl) (b2.cell rfl) b1.lt b2.lt hn hn1).mono ?_
  rintro e w1 ⟨rfl, hH3, hF3⟩
  clear hp b1 b2 hH1 hH2
  go_wp2_with fail
  go_ret
  exact ⟨rfl, hH3, (((Fr.refl _ w).alloc _).alloc _).trans hF3⟩
end Go.Proofs.Ytifillpcphiblaa
