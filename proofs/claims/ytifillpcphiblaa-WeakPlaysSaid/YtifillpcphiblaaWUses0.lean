import Derived.Test.YtifillpcphiblaaWBuries0
import Derived.Deep.RegionHeld3
namespace Go.Proofs.Ytifillpcphiblaa
open Go Go.Proofs Go.RowKit

/-! WeakUses: what it asks beyond. -/

theorem loadUses (ab : Nat) (x : Int) (w : World) (hc : w.cell? ⟨ab, 1, none⟩ = some (.int .i64 x)) :
    Calls Try.prog 100 #[.pointer (some ⟨ab, 1, none⟩)] w fun e w' => e = .returned (.int .i64 x) ∧ w = w' := by
  have hld := run_call_load (P := Try.prog) Try.func131 (by kernel_rfl) (by kernel_rfl) (by kernel_rfl) .i64 (by kernel_rfl) hc
  go_enter Try.func100, Try.ntmps100
  go_wp2
  go_ret
  exact ⟨rfl, rfl⟩

theorem aUses (L : HL) (s : HS) (w : World) (hH : HRep w L s) :
    Calls Try.prog 50 #[.pointer (some ⟨L.ab, 0, none⟩)] w fun e w' => e = .returned (.int .i64 (wrap64 s.u)) ∧ w = w' := by
  have hc : w.cell? ⟨L.ab, 1, none⟩ = some (.int .i64 (wrap64 s.u)) := hH.a.s.cell (i := 1) rfl
  have hl : w.cell? ⟨L.ab, 0, none⟩ = some (.slice (some ⟨L.wb, 0, none⟩) s.ws.length s.ws.length) := hH.a.s.cell (i := 0) rfl
  go_enter Try.func50, Try.ntmps50
  go_wp2_with fail
  refine (loadUses _ _ _ hc).mono ?_
  rintro e w' ⟨rfl, rfl⟩
  go_wp2_with fail
  go_ret
  exact ⟨rfl, rfl⟩

set_option maxHeartbeats 1600000 in
theorem tAddNo (L : HL) (s : HS) (tb : Nat) (sh : Value) (t : TS) (o : Ob) (w : World) (hH : HRep w L s) (hT : TRep w tb L.hb sh t) (htb : tb ∉ L.all) (ho : o.Lies s) (hno : o.k ≠ 9 ∨ o.n ≠ 4) :
    Calls Try.prog 49 #[.pointer (some ⟨tb, 0, none⟩), .int .i64 o.p] w fun e w' => e = .returned (.int .i64 6) ∧ HRep w' L (s.tick 1) ∧ TRep w' tb L.hb sh t ∧ Fr [L.ab] w w' := by
  have c0 := hT.reads.1
  have h0 := ho.p0
  have h1 := ho.p1
  have hnab : tb ∉ [L.ab] := fun hc => htb (by simp at hc; subst hc; simp [HL.all, HL.fp])
  obtain ⟨q, p, k, n, a, m⟩ := o
  simp only at hno
  have hhead := ho.head
  have hhd := ho.hd
  simp only at hhead hhd h0 h1
  have HH := hid hhead
  clear ho hhead
  go_enter Try.func49, Try.ntmps49
  go_wp2_with fail
  refine (hCell L s p k n a m _ hH (by omega) (by omega) HH.out hhd).mono ?_
  rintro e w1 ⟨rfl, hH1, hF1⟩
  have C1 := Blk.new w1 [.int .i64 k, .int .i64 n, .int .i64 a, .int .i64 m] 40
  have hH1' := hH1.alloc (.cells #[.int .i64 k, .int .i64 n, .int .i64 a, .int .i64 m] 40)
  have hT1 : TRep (w1.alloc (.cells #[.int .i64 k, .int .i64 n, .int .i64 a, .int .i64 m] 40)) tb L.hb sh t := Blk.alloc (hT.fr hF1 hnab) _
  have d0 := C1.cell (i := 0) rfl
  have d1 := C1.cell (i := 1) rfl
  have hF1' : Fr [L.ab] w (w1.alloc (.cells #[.int .i64 k, .int .i64 n, .int .i64 a, .int .i64 m] 40)) := hF1.alloc _
  obtain ⟨W1, hW1⟩ : ∃ W1, W1 = w1.alloc (.cells #[.int .i64 k, .int .i64 n, .int .i64 a, .int .i64 m] 40) := ⟨_, rfl⟩
  rw [← hW1] at d0 d1 hH1' hF1' hT1
  clear c0 C1 hT
  by_cases hk : k = 9
  · subst hk
    have hn : ¬ (n : Int) = 4 := by
      intro e
      rcases hno with h | h
      · exact h rfl
      · exact h (by omega)
    have hn' : ¬ n = 4 := by omega
    go_wp2_with fail
    rw [← hW1]
    clear hW1
    go_ret
    exact ⟨rfl, hH1', hT1, hF1'⟩
  · go_wp2_with fail
    rw [← hW1]
    clear hW1
    go_ret
    exact ⟨rfl, hH1', hT1, hF1'⟩

theorem WT.alen {s : HS} {t : TS} {n : Nat} {ks : Nat → Wk} {pre walk queue : List Nat} (h : WT s t n ks pre walk queue) : (pre.length : Int) + walk.length + queue.length ≤ n := by
  have hnd := h.nd
  have h2 : ((pre ++ walk ++ queue).map (fun i : Nat => (i : Int))).Nodup := by
    unfold List.Nodup at hnd ⊢
    rw [List.pairwise_map]
    exact hnd.imp (fun e => by omega)
  have := ints_len (n := n) h2 (fun c hc => by
    obtain ⟨i, hi, rfl⟩ := List.mem_map.1 hc
    have := h.mem hi
    omega)
  simp at this
  omega

/-- What the first object leaves. -/
structure Fst (p p' : LP) : Prop where
  n : p'.n = p.n
  queue : p'.queue = p.queue
  M : p'.M = p.M
  R : p'.R = p.R
  par : p'.s.parity = p.s.parity
  top : p'.s.top ≤ p.s.top + 7
  edge : p'.s.edge = p.s.edge
  nofg : NoFG p.A → NoFG p'.A

def AllocU (w0 : World) (l : LL) (p : LP) (k x : Int) (e : Ending) (w' : World) : Prop :=
  (∃ c : Nat, 1 ≤ c ∧ e = .returned (.tuple #[.int .i64 0, .int .i64 c]) ∧ WR w0 w' l p) ∨
  (∃ (o : Ob) (p' : LP), e = .returned (.tuple #[.int .i64 o.p, .int .i64 0]) ∧ x = o.n ∧ k = o.k ∧ WR w0 w' l p' ∧ o.In p'.s p'.A p'.z ∧ Fst p p')

theorem AllocU.form {w0 : World} {l : LL} {p : LP} {k x : Int} {e : Ending} {w' : World} (h : AllocU w0 l p k x e w') : ∃ a c : Int, e = .returned (.tuple #[.int .i64 a, .int .i64 c]) := by
  rcases h with ⟨c, _, rfl, _⟩ | ⟨o, p', rfl, _⟩
  · exact ⟨_, _, rfl⟩
  · exact ⟨_, _, rfl⟩

theorem wAllocU (w0 w : World) (l : LL) (p : LP) (h : WR w0 w l p) (k x : Int) (hroom : p.s.top + 7 ≤ p.s.edge) (hlen : (p.s.ws.length : Int) ≤ p.s.edge) :
    Calls Try.prog 22 #[.pointer (some ⟨l.L.hb, 0, none⟩), .int .i64 k, .int .i64 0, .int .i64 x] w (AllocU w0 l p k x) := by
  have hm : 0 ≤ p.s.parity ∧ p.s.parity < 2 := by have := h.wh.p0; have := h.wh.p1; omega
  have nx : l.L.fp ⊆ l.L.all := fpall
  by_cases hk : k < 0 ∨ 10 < k
  · refine (hAllocBad l.L p.s k 0 x w h.h hm (.inl hk)).mono ?_
    rintro e w' ⟨rfl, hH', hF⟩
    rw [if_pos hk]
    exact .inl ⟨6, by decide, rfl, h.step hF (by simp) hH' (Blk.fr h.t hF (by simp)) h.wh h.wt (fun _ _ => ⟨rfl, rfl⟩)⟩
  by_cases hx : x < 0 ∨ 32 ≤ x
  · refine (hAllocBad l.L p.s k 0 x w h.h hm (.inr (.inl hx))).mono ?_
    rintro e w' ⟨rfl, hH', hF⟩
    rw [if_neg hk]
    exact .inl ⟨1, by decide, rfl, h.step hF (by simp) hH' (Blk.fr h.t hF (by simp)) h.wh h.wt (fun _ _ => ⟨rfl, rfl⟩)⟩
  obtain ⟨n, rfl⟩ := Int.eq_ofNat_of_zero_le (show 0 ≤ x by omega)
  have hd : Hd k n 0 p.s.parity := Hd.of (by omega) (by omega) h.wh.p0 h.wh.p1 (by omega) (by omega) (by decide) (by decide)
  have fin : ∀ {w' : World} {s' : HS} {A' : Rg} {z' : Int → Int} {q : Option Nat} {pp : Int}, HRep w' l.L s' → Alc p.s s' p.A A' p.z z' q pp (packed k n 0 p.s.parity) n → Fr l.L.fp w w' → s'.top ≤ p.s.top + 7 → AllocU w0 l p k n (.returned (.tuple #[.int .i64 pp, .int .i64 0])) w' := by
    intro w' s' A' z' q pp hH' hA hF ht
    have hcar := hA.car h.wh.nW
    refine .inr ⟨⟨q, pp, k, n, 0, p.s.parity⟩, { p with s := s', A := A', z := z' }, rfl, rfl, rfl, h.step hF (fun b hb => .inl (fpall b hb)) hH' (Blk.fr h.t hF (fun hc => h.ok.ap.nt (fpall _ hc))) (h.wh.alloc hA) (h.wt.same (Nat.le_refl _) (fun i hi x hx => ?_) (fun _ _ => ⟨rfl, rfl, rfl⟩)) (fun _ _ => ⟨rfl, rfl⟩), (Ob.In.new hA hd).1, ⟨rfl, rfl, rfl, rfl, hA.parity, ht, hA.edge, fun hno q' => ?_⟩⟩
    · have gi := h.wh.ob i (h.wt.mem hi)
      exact (hcar _ gi.o).2 x (by rw [gi.on]; exact hx)
    · exact ⟨(hA.F q').1.trans (hno q').1, (hA.F q').2.trans (hno q').2⟩
  have hcls := h.wh.cls
  by_cases h1 : n ≤ 1
  · refine (hAllocRoom l.L p.s p.A p.z k 0 1 n 0 w h.h h.wh.hi hd ?_ (by rw [hcls]; rfl) (by omega) (h.wh.nW _) (by omega)).mono ?_
    · rw [hcls]; have : n = 0 ∨ n = 1 := by omega
      rcases this with rfl | rfl <;> decide
    · rintro e w' ⟨pp, s', A', z', rfl, hH', hA, ht, hF⟩
      exact fin hH' hA hF (by omega)
  by_cases h4 : n ≤ 4
  · refine (hAllocRoom l.L p.s p.A p.z k 0 4 n 1 w h.h h.wh.hi hd ?_ (by rw [hcls]; rfl) (by omega) (h.wh.nW _) (by omega)).mono ?_
    · rw [hcls]; have : n = 2 ∨ n = 3 ∨ n = 4 := by omega
      rcases this with rfl | rfl | rfl <;> decide
    · rintro e w' ⟨pp, s', A', z', rfl, hH', hA, ht, hF⟩
      exact fin hH' hA hF (by omega)
  · refine (hAllocAny l.L p.s p.A p.z k 0 n w h.h h.wh.hi hd).mono ?_
    rintro e w' ⟨hF, ⟨rfl, hH'⟩ | ⟨q, pp, s', A', z', rfl, hH', hA⟩⟩
    · exact .inl ⟨2, by decide, rfl, h.step hF (fun b hb => .inl (fpall b hb)) hH' (Blk.fr h.t hF (fun hc => h.ok.ap.nt (fpall _ hc))) h.wh h.wt (fun _ _ => ⟨rfl, rfl⟩)⟩
    · exfalso
      have hix : ixGe p.s.cls n = -1 := by
        rw [hcls]
        have : n < 32 := by omega
        have : 4 < n := by omega
        have e1 : ¬ (n : Int) ≤ 1 := by omega
        have e2 : ¬ (n : Int) ≤ 4 := by omega
        unfold ixGe
        simp only [List.findIdx?_cons, List.findIdx?_nil, decide_eq_false e1, decide_eq_false e2]
        rfl
      have hq := hA.ring
      rw [if_pos hix] at hq
      subst hq
      have m1 := hA.mem
      have m2 := hA.hi.linn _ m1
      have m3 := hA.hi.pos _ _ m1
      have m4 := hA.edge
      have m5 := hA.len
      simp only [ln] at m3
      omega
end Go.Proofs.Ytifillpcphiblaa
