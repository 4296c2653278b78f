import Derived.Test.YtklnpooninbogaaGreatDoorTRead0
import Derived.IntWalk
namespace Go.Proofs.YtklnpooninbogaaGreatDoor
open Go Go.Proofs Go.RowKit

/-! tree.Read, the closure: by induction over the depth. -/

set_option maxRecDepth 100000 in
set_option maxHeartbeats 6400000 in
theorem tReadIn (L : HL) (ws : List Int) (lb xb rb : Nat) : ∀ (d : Nat) (p dep : Int) (l l' : Nat) (t : Tr) (w : World), dep.toNat = d → RdT ws d p l t l' → l ≤ 4096 → dep ≤ 1000000000000 → RS3 w w L ws lb xb rb l →
    Calls Tryz.prog 27 #[.int .i64 p, .int .i64 dep, .pointer (some ⟨lb, 0, none⟩), .pointer (some ⟨xb, 0, none⟩), .pointer (some ⟨rb, 0, none⟩)] w (ReadPost w L ws lb xb rb d t l') := by
  intro d
  induction d with
  | zero =>
    intro p dep l l' t w hd hR hl hdb h
    obtain ⟨rfl, rfl⟩ := hR
    exact tReadNo L ws lb xb rb _ p dep _ w (.inl (by omega)) h
  | succ d ih =>
    intro p dep l l' t w hd hR hl hdb h
    rcases hR with ⟨h0, rfl, rfl⟩ | ⟨hp, hl0, n, q, k, z, a, m, hC, hO, hk5, hT⟩
    · exact tReadNo L ws lb xb rb _ p dep _ w (.inr h0) h
    obtain ⟨k0, z0, a0, m0, hO0⟩ := objFirst hC hO
    have hd1 : ¬ dep ≤ 0 := by omega
    have hl1 : (l : Int) ≠ 0 := by omega
    have hHC := hid hC
    have hHT := hid hT
    have hHI := hid ih
    have hHD := hid hd
    clear hC hT ih hd
    have hp1 : (p == 0) = false := by simpa using hp
    have hl2 : ((l : Int) == 0) = false := by simpa using hl1
    obtain ⟨l1, rfl⟩ : ∃ l1 : Nat, l = l1 + 1 := ⟨l - 1, by omega⟩
    have T0 := Blk.new w [.int .i64 0, .int .i64 0, .bool false, .int .u64 0, .slice none 0 0] 38
    have h0 := h.alloc (.cells #[.int .i64 0, .int .i64 0, .bool false, .int .u64 0, .slice none 0 0] 38)
    have cl := h0.l.cell (i := 0) rfl
    have yl := h0.l.frozen 0
    have cx := h0.x.cell (i := 0) rfl
    have hlx := blk_ne h.l h.x (by decide)
    have hAL0 := h.alllt
    have hBL := h.lt
    have hab := h.ablt
    have hlb := h.lt.1
    have hF1 : Fr [lb] (w.alloc (.cells #[.int .i64 0, .int .i64 0, .bool false, .int .u64 0, .slice none 0 0] 38)) ((w.alloc (.cells #[.int .i64 0, .int .i64 0, .bool false, .int .u64 0, .slice none 0 0] 38)).setCell ⟨lb, 0, none⟩ (.int .i64 l1)) := (Fr.refl _ _).set (by simp) _
    have hT1 := hid (T0.fr hF1 (by simp; omega))
    have hR1 := hid (h0.setl l1)
    have cx1 := hR1.out.x.cell (i := 0) rfl
    have hO0' := hid hO0
    have hO' := hid hO
    have hLB := hid hlb
    have hAB := hid hab
    have hALL := hid hAL0
    have hBLL := hid hBL
    clear T0 h0 hO0 hO hF1 hl1 hlb hab cx1 hAL0 hBL
    go_enter Tryz.func27, Tryz.ntmps27
    go_wp2_with fail
    refine (rCell (wr := (w.alloc (.cells #[.int .i64 0, .int .i64 0, .bool false, .int .u64 0, .slice none 0 0] 38)).setCell ⟨lb, 0, none⟩ (.int .i64 l1)) hR1.out hO0'.out).mono ?_
    rintro e w1 ⟨rfl, hR2, hF2⟩
    have hT2 := hT1.out.fr hF2 (by have := hAB.out; simp; omega)
    have hAL := hALL.out
    have hBL := hBLL.out
    have hW2 : RdW w (w1.alloc (.cells #[.int .i64 k0, .int .i64 z0, .int .i64 a0, .int .i64 m0] 68)) L ws lb xb rb l1 w1.heap.size k0 z0 a0 m0 := ⟨hR2.alloc _, Blk.new _ _ _, hT2.alloc _, hT2.lt, hAL, hBL⟩
    have hW := hid hW2
    clear hR2 hF2 hT2 hW2 cl yl cx hAL hBL
    go_wp2_with fail
    go_loopw [0] (fun at_ wr => ∃ (p' : Int) (n' : Nat) (k' z' a' m' : Int), at_ = .int .i64 p' ∧ Chain ws n' p' q ∧ ObjW ws p' k' z' a' m' ∧ RdW w wr L ws lb xb rb l1 w1.heap.size k' z' a' m') (fun at_ _ => hops ws (intOf at_) q)
    case atStart => exact ⟨p, n, k0, z0, a0, m0, rfl, hHC.out, hO0'.out, hW.out⟩
    case round =>
      obtain ⟨p', n', k', z', a', m', rfl, hC', hOp, hWr⟩ := hrel
      have q0 := hWr.c.cell (i := 0) rfl
      have cx := hWr.r.x.cell (i := 0) rfl
      have hCC := hid hC'
      have hOO := hid hOp
      have hWW := hid hWr
      clear hC' hOp hWr hHC hO0' hW hR1 hT1
      by_cases h5 : k' = 5
      · subst h5
        have hz : 0 < z' := by
          cases n' with
          | zero => have e : p' = q := hCC.out
                    subst e
                    exact absurd (objEq hOO.out hO'.out).1.symm hk5
          | succ n' =>
            obtain ⟨z1, a1, m1, h1, h2, h3⟩ := hCC.out
            have := (objEq hOO.out h1).2.1
            omega
        go_wp2_with fail
        refine (rGet hWW.out.r hOO.out (by omega) hz).mono ?_
        rintro e w2 ⟨rfl, hR2, hF2⟩
        have hA2 := hAB.out
        have hW2 := hWW.out.fr hR2 hF2 (by simp; omega)
        have cx := hW2.r.x.cell (i := 0) rfl
        obtain ⟨n2, k2, z2, a2, m2, hC2, hO2⟩ : ∃ n2 k2 z2 a2 m2, Chain ws n2 (gw ws (p' + 3 + 0)) q ∧ ObjW ws (gw ws (p' + 3 + 0)) k2 z2 a2 m2 := by
          cases n' with
          | zero => have e : p' = q := hCC.out
                    subst e
                    exact absurd (objEq hOO.out hO'.out).1.symm hk5
          | succ n' =>
            obtain ⟨z1, a1, m1, h1, h2, h3⟩ := hCC.out
            obtain ⟨k2, z2, a2, m2, h4⟩ := objFirst h3 hO'.out
            exact ⟨n', k2, z2, a2, m2, h3, h4⟩
        obtain ⟨g, hg⟩ : ∃ g, g = gw ws (p' + 3 + 0) := ⟨_, rfl⟩
        rw [← hg] at hC2 hO2 ⊢
        have hGV := hid hg
        clear hg
        have hWV2 := hid hW2
        have hCV2 := hid hC2
        have hOV2 := hid hO2
        clear hW2 hC2 hO2 hR2 hF2 hA2 q0
        go_wp2_with fail
        refine (rCell hWV2.out.r hOV2.out).mono ?_
        rintro e w3 ⟨rfl, hR3, hF3⟩
        have hW3 := hWV2.out.fr hR3 hF3 (by have := hAB.out; simp; omega)
        have y0 := hW3.c.frozen 0
        have y1 := hW3.c.frozen 1
        have y2 := hW3.c.frozen 2
        have y3 := hW3.c.frozen 3
        have d0 := hW3.c.cell (i := 0) rfl
        have d1 := hW3.c.cell (i := 1) rfl
        have d2 := hW3.c.cell (i := 2) rfl
        have d3 := hW3.c.cell (i := 3) rfl
        have hWV3 := hid hW3
        clear hR3 hF3 hW3 cx
        go_wp2_with fail
        go_roundw
        case rel =>
          refine ⟨g, n2, k2, z2, a2, m2, rfl, hCV2.out, hOV2.out, ?_⟩
          have hF4 : Fr [w1.heap.size] w3 ((((w3.setCell ⟨w1.heap.size, 0, none⟩ (.int .i64 k2)).setCell ⟨w1.heap.size, 1, none⟩ (.int .i64 z2)).setCell ⟨w1.heap.size, 2, none⟩ (.int .i64 a2)).setCell ⟨w1.heap.size, 3, none⟩ (.int .i64 m2)) :=
            ((((Fr.refl _ w3).set (by simp) _).set (by simp) _).set (by simp) _).set (by simp) _
          exact hWV3.out.upd hF4 (((((hWV3.out.c).set 0 (.int .i64 k2)).set 1 (.int .i64 z2)).set 2 (.int .i64 a2)).set 3 (.int .i64 m2))
        case measure =>
          have hne : p' ≠ q := fun e => by
            subst e
            exact absurd (objEq hOO.out hO'.out).1.symm hk5
          show hops ws g q < hops ws p' q
          rw [hGV.out]
          exact (hops_lt ⟨n', hCC.out⟩ hne hOO.out).2
      · obtain ⟨wo, rfl⟩ : ∃ wo : World, wo = wr := ⟨_, rfl⟩
        have hq : p' = q := by
          cases n' with
          | zero => exact hCC.out
          | succ n' =>
            obtain ⟨z1, a1, m1, h1, -⟩ := hCC.out
            exact absurd (objEq hOO.out h1).1 h5
        subst hq
        obtain ⟨rfl, rfl, rfl, rfl⟩ := objEq hOO.out hO'.out
        have T3 := Blk.new wo [.int .i64 k', .int .i64 0, .bool false, .int .u64 0, .slice none 0 0] 38
        have hW3 := hWW.out.fr (hWW.out.r.alloc (.cells #[.int .i64 k', .int .i64 0, .bool false, .int .u64 0, .slice none 0 0] 38)) (S := []) ((Fr.refl [] wo).alloc _) (by simp)
        have c0 := hW3.c.cell (i := 0) rfl
        have c1 := hW3.c.cell (i := 1) rfl
        have c2 := hW3.c.cell (i := 2) rfl
        have t2 := T3.cell (i := 2) rfl
        have t3 := T3.cell (i := 3) rfl
        have y1 := T3.frozen 1
        have y2 := T3.frozen 2
        have y3 := T3.frozen 3
        have cx' := hW3.r.x.cell (i := 0) rfl
        have hW3' := hid hW3
        have hT3' := hid T3
        clear hW3 T3 cx
        have h55 : (k' == 5) = false := by simpa using h5
        rcases hHT.out with ⟨rfl, hz1, ht, hll⟩ | ⟨rfl, hz1, ht, hll⟩ | ⟨rfl, ts, ls, ht, hz1, hls, hll, hts⟩ | ⟨h7, h8, h1, ht, hll⟩
        · have HT := hid ht
          have HLL := hid hll
          clear ht hll
          go_wp2_with fail
          refine (rGet hW3'.out.r hOO.out (by omega) (by omega)).mono ?_
          rintro e w4 ⟨rfl, hR4, hF4⟩
          obtain ⟨g, hg⟩ : ∃ g, g = gw ws (p' + 3 + 0) := ⟨_, rfl⟩
          rw [← hg]
          have hGV := hid hg
          have hW4 := hW3'.out.fr hR4 hF4 (by have := hW3'.out.ab; simp; omega)
          have hT4 := hT3'.out.fr hF4 (by have := hW3'.out.ab; have := hW3'.out.c.lt; have := hT3'.out.lt; have := hWW.out.c.lt; have := hWW.out.n; simp; omega)
          have d0 := hW4.c.cell (i := 0) rfl
          have t0 := hT4.cell (i := 0) rfl
          have t1 := hT4.cell (i := 1) rfl
          have t2 := hT4.cell (i := 2) rfl
          have t3 := hT4.cell (i := 3) rfl
          have t4 := hT4.cell (i := 4) rfl
          have y2 := hT4.frozen 2
          have y3 := hT4.frozen 3
          have x0 := hW4.t.frozen 0
          have x1 := hW4.t.frozen 1
          have x2 := hW4.t.frozen 2
          have x3 := hW4.t.frozen 3
          have x4 := hW4.t.frozen 4
          have v0 := hW4.t.cell (i := 0) rfl
          have v1 := hW4.t.cell (i := 1) rfl
          have v2 := hW4.t.cell (i := 2) rfl
          have v3 := hW4.t.cell (i := 3) rfl
          have v4 := hW4.t.cell (i := 4) rfl
          have ne1 : w.heap.size ≠ wo.heap.size := by have := hWW.out.t.lt; omega
          have HW4 := hid hW4
          have HT4 := hid hT4
          clear hg hR4 hF4 hW4 hT4 cx' c0 c1 c2
          go_wp2_with fail
          have hF5 : Fr [wo.heap.size] w4 ((w4.setCell ⟨wo.heap.size, 2, none⟩ (.bool false)).setCell ⟨wo.heap.size, 3, none⟩ (.int .u64 (IntKind.u64.wrap g))) := ((Fr.refl _ w4).set (by simp) _).set (by simp) _
          have hW5 := HW4.out.fr (HW4.out.own hF5 (by have := hWW.out.t.lt; simp; omega)) hF5 (by have := hWW.out.c.lt; simp; omega)
          obtain ⟨b1, p1⟩ := readFin (t := .mk 7 0 false (IntKind.u64.wrap g) []) (sv := .slice none 0 0) (d := d + 1) hW5 ⟨none, 0, rfl, Nat.zero_le _, fun i x hx => by cases hx⟩ rfl
          have r0 := b1.cell (i := 0) rfl
          have r1 := b1.cell (i := 1) rfl
          have r2 := b1.cell (i := 2) rfl
          have r3 := b1.cell (i := 3) rfl
          have r4 := b1.cell (i := 4) rfl
          simp only [Tr.k, Tr.t, Tr.f, Tr.b] at r0 r1 r2 r3 r4
          refine bodyPost_ret (v := trAgg 7 0 false (IntKind.u64.wrap g) (.slice none 0 0)) ?_ rfl ?_
          · simp [results, Tryz.results27, go_sem, r0, r1, r2, r3, r4, trAgg]
          · rw [HT.out, ← hGV.out, HLL.out]
            exact p1
        · have HT := hid ht
          have HLL := hid hll
          clear ht hll
          go_wp2_with fail
          refine (rGet hW3'.out.r hOO.out (by omega) (by omega)).mono ?_
          rintro e w4 ⟨rfl, hR4, hF4⟩
          obtain ⟨g, hg⟩ : ∃ g, g = gw ws (p' + 3 + 0) := ⟨_, rfl⟩
          rw [← hg]
          have hGV := hid hg
          have hW4 := hW3'.out.fr hR4 hF4 (by have := hW3'.out.ab; simp; omega)
          have hT4 := hT3'.out.fr hF4 (by have := hW3'.out.ab; have := hW3'.out.c.lt; have := hT3'.out.lt; have := hWW.out.c.lt; have := hWW.out.n; simp; omega)
          have d0 := hW4.c.cell (i := 0) rfl
          have t0 := hT4.cell (i := 0) rfl
          have t1 := hT4.cell (i := 1) rfl
          have t2 := hT4.cell (i := 2) rfl
          have t3 := hT4.cell (i := 3) rfl
          have t4 := hT4.cell (i := 4) rfl
          have y2 := hT4.frozen 2
          have y3 := hT4.frozen 3
          have x0 := hW4.t.frozen 0
          have x1 := hW4.t.frozen 1
          have x2 := hW4.t.frozen 2
          have x3 := hW4.t.frozen 3
          have x4 := hW4.t.frozen 4
          have v0 := hW4.t.cell (i := 0) rfl
          have v1 := hW4.t.cell (i := 1) rfl
          have v2 := hW4.t.cell (i := 2) rfl
          have v3 := hW4.t.cell (i := 3) rfl
          have v4 := hW4.t.cell (i := 4) rfl
          have ne1 : w.heap.size ≠ wo.heap.size := by have := hWW.out.t.lt; omega
          have HW4 := hid hW4
          have HT4 := hid hT4
          clear hg hR4 hF4 hW4 hT4 cx' c0 c1 c2
          go_wp2_with fail
          have hF5 : Fr [wo.heap.size] w4 ((w4.setCell ⟨wo.heap.size, 2, none⟩ (.bool true)).setCell ⟨wo.heap.size, 3, none⟩ (.int .u64 (IntKind.u64.wrap g))) := ((Fr.refl _ w4).set (by simp) _).set (by simp) _
          have hW5 := HW4.out.fr (HW4.out.own hF5 (by have := hWW.out.t.lt; simp; omega)) hF5 (by have := hWW.out.c.lt; simp; omega)
          obtain ⟨b1, p1⟩ := readFin (t := .mk 8 0 true (IntKind.u64.wrap g) []) (sv := .slice none 0 0) (d := d + 1) hW5 ⟨none, 0, rfl, Nat.zero_le _, fun i x hx => by cases hx⟩ rfl
          have r0 := b1.cell (i := 0) rfl
          have r1 := b1.cell (i := 1) rfl
          have r2 := b1.cell (i := 2) rfl
          have r3 := b1.cell (i := 3) rfl
          have r4 := b1.cell (i := 4) rfl
          simp only [Tr.k, Tr.t, Tr.f, Tr.b] at r0 r1 r2 r3 r4
          refine bodyPost_ret (v := trAgg 8 0 true (IntKind.u64.wrap g) (.slice none 0 0)) ?_ rfl ?_
          · simp [results, Tryz.results27, go_sem, r0, r1, r2, r3, r4, trAgg]
          · rw [HT.out, ← hGV.out, HLL.out]
            exact p1
        · have HT := hid ht
          have HLL := hid hll
          have HLS := hid hls
          have HTS := hid hts
          obtain ⟨N, hN⟩ : ∃ N : Nat, N = ts.length := ⟨_, rfl⟩
          obtain rfl : z' = (N : Int) := by omega
          have HN := hid hN
          have hN32 : N < 32 := by have := hOO.out.hd.s1; omega
          have t1 := hT3'.out.cell (i := 1) rfl
          have T4 := Blk.new wo [.int .i64 1, .int .i64 a', .bool false, .int .u64 0, .slice none 0 0] 38
          have hW4 := hWW.out.fr (hWW.out.r.alloc (.cells #[.int .i64 1, .int .i64 a', .bool false, .int .u64 0, .slice none 0 0] 38)) (S := []) ((Fr.refl [] wo).alloc _) (by simp)
          have c1' := hW4.c.cell (i := 1) rfl
          have HT4 := hid T4
          have HW4 := hid hW4
          clear ht hll hls hts hN hz1 T4 hW4
          go_wp2_with fail
          go_loopw [78] (fun kv wx => ∃ (i l2 : Nat) (sv : Value), i ≤ N ∧ kv = .int .i64 i ∧ l2 = ls i ∧ l2 ≤ 4096 ∧ RdW w wx L ws lb xb rb l2 w1.heap.size 1 N a' m' ∧ Blk wx wo.heap.size (trCells 1 a' false 0 sv) 38 ∧ KRow wx (wo.heap.size + 1) (PK (wo.heap.size + 1) wx.heap.size sv) d sv (ts.take i)) (fun kv _ => N - (intOf kv).toNat)
          case atStart =>
            exact ⟨0, l1, .slice none 0 0, Nat.zero_le _, rfl, by rw [HLS.out]; rfl, by omega, HW4.out, HT4.out, KRow.nil _ _ _ _⟩
          case round =>
            obtain ⟨i, l2, sv, hi, rfl, hl2, hl2b, hWx, hTx, hKx⟩ := hrel
            have HL2 := hid hl2
            have HWX := hid hWx
            have HTX := hid hTx
            have HKX := hid hKx
            have cx := hWx.r.x.cell (i := 0) rfl
            clear hl2 hWx hTx hKx
            by_cases hlt : i < N
            · obtain ⟨x, hx⟩ : ∃ x, ts[i]? = some x := ⟨_, List.getElem?_eq_getElem (by rw [← HN.out]; exact hlt)⟩
              have hrd := HTS.out i x hx
              have HX := hid hx
              have HRD := hid hrd
              clear hx hrd
              go_wp2_with fail
              refine (rGet HWX.out.r hOO.out (by omega) (by omega)).mono ?_
              rintro e w4 ⟨rfl, hR4, hF4⟩
              obtain ⟨g, hg⟩ : ∃ g, g = gw ws (p' + 3 + (i : Int)) := ⟨_, rfl⟩
              rw [← hg]
              have HG := hid hg
              have hl2' := hR4.self.lt
              have hW4 := HWX.out.fr hR4 hF4 (by have := HWX.out.ab; simp; omega)
              have hT4 := HTX.out.fr hF4 (by have := HWX.out.ab; have := HWX.out.t.lt; have := hW3'.out.t.lt; have := hWW.out.t.lt; simp; omega)
              have hK4 : KRow w4 (wo.heap.size + 1) (PK (wo.heap.size + 1) w4.heap.size sv) d sv (ts.take i) :=
                (HKX.out.fr' hF4 (by have := HWX.out.ab; have := hWW.out.t.lt; simp; omega) (fun g hg => hg.1)).mono (fun g hg => ⟨hg.1, by have := hg.2.1; have := hF4.size; omega, hg.2.2⟩) (fun g hg hc => hc.2.2 hg)
              have hcall : Calls Tryz.prog 27 #[.int .i64 g, .int .i64 (dep - 1), .pointer (some ⟨lb, 0, none⟩), .pointer (some ⟨xb, 0, none⟩), .pointer (some ⟨rb, 0, none⟩)] w4.drew (ReadPost w4.drew L ws lb xb rb d x (ls (i + 1))) :=
                hHI.out g (dep - 1) l2 (ls (i + 1)) x w4.drew (by have := hHD.out; omega) (by have := HRD.out; rw [← HG.out, ← HL2.out] at this; exact this) hl2b (by omega) hR4.drew.self
              have HCALL := hid hcall
              have HE6 : Hid ((List.take i ts ++ [x]).length = i + 1) := hid (by have := HN.out; rw [List.length_append, List.length_take]; simp; omega)
              have hCB : w1.heap.size < wo.heap.size := hWW.out.c.lt
              have hBB := hBLL.out
              have hAA := hAB.out
              have hCC := hW4.t.lt
              have hDD : w.heap.size < wo.heap.size := hWW.out.t.lt
              have d4 := hT4.cell (i := 4) rfl
              have e4 := hT4.frozen 4
              have cr := hW4.r.r.cell (i := 0) rfl
              unfold clo at cr
              have hwd : IntKind.i64.wrap (dep - 1) = dep - 1 := IntWalk.i64_in _ (by omega)
              have HW4' := hid hW4
              have HT4' := hid hT4
              have HK4 := hid hK4
              have HR4 := hid hR4
              clear hg hR4 hF4 hW4 hT4 hK4 hl2' hcall
              go_wp2_with fail
              go_region_law (first
                | (refine step_appT rfl (.tmp 89) (.tmp 95) rfl (wo.heap.size + 1) (PK (wo.heap.size + 1) w5.heap.size sv) d sv (ts.take i) (by rfl) HSTP.out.1 HSTP.out.2.2 ⟨w5.heap.size, 0, none⟩ 1 x sv5 (by rfl) (newTree w5 _ _ _ _ _) HSTP.out.2.1 (by rw [List.length_take]; omega) (by simp; omega) ?_; intro v' w6 h6 f6 b6; obtain ⟨A6, c6, e⟩ := h6.form; rw [HE6.out] at e; subst e; have t6 := ((HT4'.out.fr hF5 (by simp; omega)).alloc (.cells (trCells x.k x.t x.f x.b sv5).toArray 38)).fr f6 (fun hc => by have := (HK4.out.own _ (by simpa using hc)).1; omega); have y6 := t6.frozen 4; have q6 := t6.cell (i := 4) rfl)
                | (go_simp; go_at_call 27; refine HCALL.out.mono ?_; rintro e w5 ⟨vv, rfl, ⟨sv5, rfl, hk5⟩, hR5⟩; unfold trAgg; have hF5 : Fr [lb, L.ab] w4 w5 := ((Fr.refl _ w4).drew).trans hR5.fr; have l5 : wo.heap.size + 1 ≤ w5.heap.size := (by have := hF5.size; have := HT4'.out.lt; omega); have q5 := (HT4'.out.fr hF5 (by simp; omega)).cell (i := 4) rfl; have q5b := ((HT4'.out.fr hF5 (by simp; omega)).alloc (.cells #[.int .i64 x.k, .int .i64 x.t, .bool x.f, .int .u64 x.b, sv5] 38)).cell (i := 4) rfl; have l5b : wo.heap.size < w5.heap.size := (by omega); have HSTP := hid (kidsStep HK4.out hk5 hF5 (by simp; omega) (by have := HT4'.out.lt; omega) (.cells (trCells x.k x.t x.f x.b sv5).toArray 38))))
              all_goals
                have HST := hid (readStep HW4'.out HT4'.out hCB HK4.out hR5 h6 f6 b6)
                clear t6 y6 q6 h6 f6 b6 q5 q5b l5 l5b HSTP hF5 hR5 hk5 cr d4 e4 hwd cx hBB hAA hCC hDD hCB
                go_wp2_with fail
                go_roundw
                case rel => exact ⟨i + 1, ls (i + 1), .slice A6 (i + 1) c6, by omega, by go_num, rfl, by have := HRD.out.le; have := HL2.out; omega, HST.out.1, HST.out.2.1, by
                  have e : ts.take (i + 1) = ts.take i ++ [x] := by rw [List.take_add_one, HX.out]; rfl
                  rw [e]; exact HST.out.2.2⟩
                case measure => simp [intOf]; omega
            · have hW4 := HWX.out
              have hT4 := HTX.out
              have t0 := hT4.cell (i := 0) rfl
              have t1 := hT4.cell (i := 1) rfl
              have t2 := hT4.cell (i := 2) rfl
              have t3 := hT4.cell (i := 3) rfl
              have t4 := hT4.cell (i := 4) rfl
              have x0 := hW4.t.frozen 0
              have x1 := hW4.t.frozen 1
              have x2 := hW4.t.frozen 2
              have x3 := hW4.t.frozen 3
              have x4 := hW4.t.frozen 4
              have v0 := hW4.t.cell (i := 0) rfl
              have v1 := hW4.t.cell (i := 1) rfl
              have v2 := hW4.t.cell (i := 2) rfl
              have v3 := hW4.t.cell (i := 3) rfl
              have v4 := hW4.t.cell (i := 4) rfl
              have eN : (ts.take i).length = N := by have := HN.out; rw [List.length_take]; omega
              obtain ⟨A6, c6, e⟩ := HKX.out.form
              rw [eN] at e
              subst e
              clear eN
              have ne1 : w.heap.size ≠ wo.heap.size := by have := hWW.out.t.lt; omega
              clear hW4 hT4
              have hiN : i = ts.length := by have := HN.out; omega
              have hK := HKX.out.kids (Q := fun g => w.heap.size ≤ g ∧ g ≠ w.heap.size) (fun g hg => by have := hg.1; have := hWW.out.t.lt; omega) (fun g hg => by have := (HKX.out.own g hg).1; have := hWW.out.t.lt; omega)
              rw [hiN, List.take_length] at hK
              have HK := hid hK
              have HI := hid hiN
              clear hK hiN
              go_wp2_with fail
              obtain ⟨b1, p1⟩ := readFin (t := .mk 1 a' false 0 ts) (sv := .slice A6 N c6) (d := d + 1) (l := l') HWX.out HK.out (by rw [HLL.out, HL2.out, HI.out])
              have r0 := b1.cell (i := 0) rfl
              have r1 := b1.cell (i := 1) rfl
              have r2 := b1.cell (i := 2) rfl
              have r3 := b1.cell (i := 3) rfl
              have r4 := b1.cell (i := 4) rfl
              simp only [Tr.k, Tr.t, Tr.f, Tr.b] at r0 r1 r2 r3 r4
              refine bodyPost_ret (v := trAgg 1 a' false 0 (.slice A6 N c6)) ?_ rfl ?_
              · simp [results, Tryz.results27, go_sem, r0, r1, r2, r3, r4, trAgg]
              · rw [HT.out]
                exact p1
        · have HT := hid ht
          have HLL := hid hll
          have h77 : (k' == 7) = false := by simpa using h7
          have h88 : (k' == 8) = false := by simpa using h8
          have h11 : (k' == 1) = false := by simpa using h1
          have hW4 := hW3'.out
          have hT4 := hT3'.out
          have t0 := hT4.cell (i := 0) rfl
          have t1 := hT4.cell (i := 1) rfl
          have t4 := hT4.cell (i := 4) rfl
          have x0 := hW4.t.frozen 0
          have x1 := hW4.t.frozen 1
          have x2 := hW4.t.frozen 2
          have x3 := hW4.t.frozen 3
          have x4 := hW4.t.frozen 4
          have v0 := hW4.t.cell (i := 0) rfl
          have v1 := hW4.t.cell (i := 1) rfl
          have v2 := hW4.t.cell (i := 2) rfl
          have v3 := hW4.t.cell (i := 3) rfl
          have v4 := hW4.t.cell (i := 4) rfl
          have ne1 : w.heap.size ≠ wo.heap.size := by have := hWW.out.t.lt; omega
          clear ht hll hW4 hT4
          go_wp2_with fail
          obtain ⟨b1, p1⟩ := readFin (t := .mk k' 0 false 0 []) (sv := .slice none 0 0) (d := d + 1) hW3'.out ⟨none, 0, rfl, Nat.zero_le _, fun i x hx => by cases hx⟩ rfl
          have r0 := b1.cell (i := 0) rfl
          have r1 := b1.cell (i := 1) rfl
          have r2 := b1.cell (i := 2) rfl
          have r3 := b1.cell (i := 3) rfl
          have r4 := b1.cell (i := 4) rfl
          simp only [Tr.k, Tr.t, Tr.f, Tr.b] at r0 r1 r2 r3 r4
          refine bodyPost_ret (v := trAgg k' 0 false 0 (.slice none 0 0)) ?_ rfl ?_
          · simp [results, Tryz.results27, go_sem, r0, r1, r2, r3, r4, trAgg]
          · rw [HT.out, HLL.out]
            exact p1
end Go.Proofs.YtklnpooninbogaaGreatDoor
