import Derived.Test.YtklnpooninbogaaGreatDoorTRead
import Derived.Laws.EntriesVeiled
namespace Go.Proofs.YtklnpooninbogaaGreatDoor
open Go Go.Proofs Go.RowKit

def RdPost (w : World) (L : HL) (ws : List Int) (d : Nat) (t : Tr) (e : Ending) (w' : World) : Prop :=
  ∃ v, e = .returned v ∧ TrV w' (fun g => w.heap.size ≤ g) d t v ∧ (∃ s', HRep w' L s' ∧ s'.ws = ws) ∧ Fr [L.ab] w w'

set_option maxRecDepth 100000 in
set_option maxHeartbeats 6400000 in
theorem tRead (L : HL) (s : HS) (p dep : Int) (t : Tr) (l' : Nat) (w : World) (hH : HRep w L s) (hd : dep ≤ 1000000000000) (hR : RdT s.ws dep.toNat p 4096 t l') :
    Calls Tryz.prog 10 #[.pointer (some ⟨L.hb, 0, none⟩), .int .i64 p, .int .i64 dep] w (RdPost w L s.ws dep.toNat t) := by
  have hmf : ∀ (fn : Fn) (first cap : Array Value) (w : World), (Instr.makeFunc fn first cap).run Tryz.prog w = .ok (.func fn first cap) w := fun _ _ _ _ => rfl
  obtain ⟨W, hW⟩ : ∃ W, W = (((w.alloc (.cells #[.pointer (some ⟨L.hb, 0, none⟩)] 23)).alloc (.cells #[.int .i64 0, .int .i64 0, .bool false, .int .u64 0, .slice none 0 0] 38)).alloc (.cells #[.int .i64 4096] 3)).alloc (.cells #[clo (w.heap.size + 1 + 1) w.heap.size (w.heap.size + 1 + 1 + 1)] 72) := ⟨_, rfl⟩
  have hB0 : Blk W w.heap.size [.pointer (some ⟨L.hb, 0, none⟩)] 23 := by
    rw [hW]; exact (((Blk.new w _ _).alloc _).alloc _).alloc _
  have hB1 : Blk W (w.heap.size + 1) zeroT 38 := by
    rw [hW]
    have := ((Blk.new (w.alloc (.cells #[.pointer (some ⟨L.hb, 0, none⟩)] 23)) zeroT 38).alloc (.cells #[.int .i64 4096] 3)).alloc (.cells #[clo (w.heap.size + 1 + 1) w.heap.size (w.heap.size + 1 + 1 + 1)] 72)
    rw [World.size_alloc] at this
    exact this
  have hB2 : Blk W (w.heap.size + 1 + 1) [.int .i64 (4096 : Nat)] 3 := by
    rw [hW]
    have := (Blk.new ((w.alloc (.cells #[.pointer (some ⟨L.hb, 0, none⟩)] 23)).alloc (.cells #[.int .i64 0, .int .i64 0, .bool false, .int .u64 0, .slice none 0 0] 38)) [.int .i64 (4096 : Nat)] 3).alloc (.cells #[clo (w.heap.size + 1 + 1) w.heap.size (w.heap.size + 1 + 1 + 1)] 72)
    rw [World.size_alloc, World.size_alloc] at this
    exact this
  have hB3 : Blk W (w.heap.size + 1 + 1 + 1) [clo (w.heap.size + 1 + 1) w.heap.size (w.heap.size + 1 + 1 + 1)] 72 := by
    rw [hW]
    have := Blk.new (((w.alloc (.cells #[.pointer (some ⟨L.hb, 0, none⟩)] 23)).alloc (.cells #[.int .i64 0, .int .i64 0, .bool false, .int .u64 0, .slice none 0 0] 38)).alloc (.cells #[.int .i64 4096] 3)) [clo (w.heap.size + 1 + 1) w.heap.size (w.heap.size + 1 + 1 + 1)] 72
    rw [World.size_alloc, World.size_alloc, World.size_alloc] at this
    exact this
  have hF0 : Fr [] w W := by rw [hW]; exact ((((Fr.refl [] w).alloc _).alloc _).alloc _).alloc _
  have hsz : W.heap.size = w.heap.size + 1 + 1 + 1 + 1 := by rw [hW]; simp
  have hal : ∀ x ∈ L.all, x < w.heap.size := fun x hx => all_lt hH hx
  have hS : RS3 W W L s.ws (w.heap.size + 1 + 1) w.heap.size (w.heap.size + 1 + 1 + 1) 4096 :=
    ⟨⟨s, hH.fr hF0 (by simp), rfl⟩, hB2, hB0, hB3, fun hc => by have := hal _ hc; omega, fun hc => by have := hal _ hc; omega, fun hc => by have := hal _ hc; omega, Fr.refl _ W⟩
  have hcall := tReadIn L s.ws (w.heap.size + 1 + 1) w.heap.size (w.heap.size + 1 + 1 + 1) dep.toNat p dep 4096 l' t W rfl hR (Nat.le_refl _) hd hS
  have hab : L.ab < w.heap.size := hal _ (by simp [HL.all, HL.fp])
  have HC := hid hcall
  have HW := hid hW
  have HB1 := hid hB1
  have HF0 := hid hF0
  have HS := hid hsz
  have HAB := hid hab
  clear hcall hW hB0 hB1 hB2 hB3 hF0 hsz hal hS hab hR
  go_enter Tryz.func10, Tryz.ntmps10
  go_wp2_with fail
  rw [show ((((w.alloc (.cells #[.pointer (some ⟨L.hb, 0, none⟩)] 23)).alloc (.cells #[.int .i64 0, .int .i64 0, .bool false, .int .u64 0, .slice none 0 0] 38)).alloc (.cells #[.int .i64 4096] 3)).alloc (.cells #[.func (.func 27) #[] #[.pointer (some ⟨w.heap.size + 1 + 1, 0, none⟩), .pointer (some ⟨w.heap.size, 0, none⟩), .pointer (some ⟨w.heap.size + 1 + 1 + 1, 0, none⟩)]] 72)) = W from HW.out.symm]
  refine HC.out.mono ?_
  rintro e w' ⟨vv, rfl, ⟨sv, rfl, hk⟩, hR⟩
  unfold trAgg
  have hT := HB1.out.fr hR.fr (by have := HAB.out; simp; omega)
  have x0 := hT.frozen 0
  have x1 := hT.frozen 1
  have x2 := hT.frozen 2
  have x3 := hT.frozen 3
  have x4 := hT.frozen 4
  have v0 := hT.cell (i := 0) rfl
  have v1 := hT.cell (i := 1) rfl
  have v2 := hT.cell (i := 2) rfl
  have v3 := hT.cell (i := 3) rfl
  have v4 := hT.cell (i := 4) rfl
  obtain ⟨A, c, rfl⟩ := hk.form
  have HT := hid hT
  have HR := hid hR
  have HK := hid hk
  clear hT hR hk
  go_wp2_with fail
  obtain ⟨w5, hw5⟩ : ∃ w5, w5 = (((((w'.setCell ⟨w.heap.size + 1, 0, none⟩ (.int .i64 t.k)).setCell ⟨w.heap.size + 1, 1, none⟩ (.int .i64 t.t)).setCell ⟨w.heap.size + 1, 2, none⟩ (.bool t.f)).setCell ⟨w.heap.size + 1, 3, none⟩ (.int .u64 t.b)).setCell ⟨w.heap.size + 1, 4, none⟩ (.slice A t.ks.length c)) := ⟨_, rfl⟩
  have hF5 : Fr [w.heap.size + 1] w' w5 := by
    rw [hw5]
    exact (((((Fr.refl _ w').set (by simp) _).set (by simp) _).set (by simp) _).set (by simp) _).set (by simp) _
  have b1 : Blk w5 (w.heap.size + 1) (trCells t.k t.t t.f t.b (.slice A t.ks.length c)) 38 := by
    rw [hw5]
    exact ((((HT.out.set 0 _).set 1 _).set 2 _).set 3 _).set 4 _
  rw [← hw5]
  have r0 := b1.cell (i := 0) rfl
  have r1 := b1.cell (i := 1) rfl
  have r2 := b1.cell (i := 2) rfl
  have r3 := b1.cell (i := 3) rfl
  have r4 := b1.cell (i := 4) rfl
  have hS := HS.out
  refine bodyPost_ret (v := trAgg t.k t.t t.f t.b (.slice A t.ks.length c)) ?_ rfl ?_
  · simp [results, Tryz.results10, go_sem, r0, r1, r2, r3, r4, trAgg]
  · refine ⟨_, rfl, ⟨_, rfl, (HK.out.fr hF5 (fun g hg _ hc => by rw [List.mem_singleton.1 hc] at hg; omega)).mono (fun g hg => by omega)⟩, ?_, ?_⟩
    · obtain ⟨s', hs', e⟩ := HR.out.h
      exact ⟨s', hs'.fr hF5 (fun x hx hc => by rw [List.mem_singleton.1 hx] at hc; have := all_lt hH hc; omega), e⟩
    · exact ((HF0.out.here (T := [L.ab]) (by simp)).step HR.out.fr (fun x hx => by
        rcases List.mem_cons.1 hx with rfl | hx
        · exact .inr (by omega)
        · exact .inl hx)).step hF5 (fun x hx => .inr (by rw [List.mem_singleton.1 hx]; omega))
end Go.Proofs.YtklnpooninbogaaGreatDoor
