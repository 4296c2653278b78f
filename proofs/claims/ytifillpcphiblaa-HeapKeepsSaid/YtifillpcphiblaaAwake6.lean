import Derived.Test.YtifillpcphiblaaRound
namespace Go.Proofs.Ytifillpcphiblaa
open Go Go.Proofs Go.RowKit

/-- An object in a cell that is made for it. -/
theorem hAllocGrow (L : HL) (s : HS) (k a : Int) (n : Nat) (j : Nat) (r : RS) (c : Int) (w : World) (hH : HRep w L s) (hd : Hd k n a s.parity) (hk : ixGe s.cls n = j) (hr : s.rs[j]? = some r) (hc : s.cls[j]? = some c) (hw : r.w = 0) (hc0 : 1 ≤ c) (hc1 : c ≤ 24) (hcn : (n : Int) ≤ c) (hfit : c + 3 ≤ s.edge - s.top) (ht : 1 ≤ s.top) (he : s.edge ≤ s.ws.length)
    (hf : r.tot ≠ 0 → Okc s.ws r.first ∧ Okc s.ws (gw s.ws (r.first + 2))) (htot : r.tot + 1 ≤ 65536) :
    Calls Try.prog 22 #[.pointer (some ⟨L.hb, 0, none⟩), .int .i64 k, .int .i64 a, .int .i64 n] w fun e w' => e = .returned (.tuple #[.int .i64 s.top, .int .i64 0]) ∧ (∃ du : Nat, du ≤ 5 ∧ HRep w' L (((s.grown j c r du).took j (r.grown s.top)).laid s.top (packed k n a s.parity) n)) ∧ Fr L.fp w w' := by
  refine (hAlloc L s k a n s.top (fun s' => ∃ du : Nat, du ≤ 5 ∧ s' = (s.grown j c r du).took j (r.grown s.top)) w hH hd ?_ ?_ (by omega) (by omega)).mono ?_
  · intro w' hH'
    refine (hCellGrow L s n j r c w' hH' hk hr hc hw hc0 hc1 hfit ht he hf htot).mono ?_
    rintro e w2 ⟨rfl, ⟨du, h1, h2⟩, h3⟩
    exact ⟨rfl, ⟨_, ⟨du, h1, rfl⟩, h2⟩, h3⟩
  · rintro s' ⟨du, _, rfl⟩
    show (growW s.ws r s.top).length = _
    unfold growW
    split <;> simp [lk_len, pt]
  · rintro e w2 ⟨rfl, ⟨s', ⟨du, h1, rfl⟩, h2⟩, h3⟩
    exact ⟨rfl, ⟨du, h1, h2⟩, h3⟩

def aw0 : List Int := List.replicate 40 0
def aw1 : List Int := zr (sw (growW aw0 ⟨0, 0, 0, 0, 0, 0⟩ 1) 1 (packed 1 1 0 0)) 4 1
def ar1 : RS := (RS.grown ⟨0, 0, 0, 0, 0, 0⟩ 1).allocd (growW aw0 ⟨0, 0, 0, 0, 0, 0⟩ 1)
def aw2 : List Int := zr (sw (growW aw1 ⟨0, 0, 0, 0, 0, 0⟩ 6) 6 (packed 1 3 0 0)) 9 3
def ar2 : RS := (RS.grown ⟨0, 0, 0, 0, 0, 0⟩ 6).allocd (growW aw1 ⟨0, 0, 0, 0, 0, 0⟩ 6)

def awS1 (u : Int) : HS := { ws := aw1, u := u, cls := [2, 4], rs := [ar1, ⟨0, 0, 0, 0, 0, 0⟩], lg := ⟨0, 0, 0, 0, 0, 0⟩, x := ⟨40, 0, []⟩, top := 6, edge := 40, parity := 0 }
def awS2 (u : Int) : HS := { ws := aw2, u := u, cls := [2, 4], rs := [ar1, ar2], lg := ⟨0, 0, 0, 0, 0, 0⟩, x := ⟨40, 0, []⟩, top := 13, edge := 40, parity := 0 }
theorem okc_of {ws : List Int} {c : Int} (h : (decide (0 ≤ c) && decide (c + 2 < ws.length)) = true) : Okc ws c := by
  simpa [Okc] using h

set_option maxRecDepth 200000 in
set_option maxHeartbeats 3200000 in
theorem awake6 (w : World) : Calls Try.prog 16 #[] w fun e w' => e = .returned (.bool true) ∧ Fr [] w w' := by
  have hR : RightC ((40 : Nat) : Int) ((0 : Nat) : Int) [2, 4] := ⟨by decide, by decide, by decide, by decide, by decide, by decide, by simp [Inc]⟩
  have hB := Blk.new w [.int .i64 2, .int .i64 4] 3
  have hr : RdAt (w.alloc (.cells #[.int .i64 2, .int .i64 4] 3)) w.heap.size 0 ([2, 4].map (.int .i64)) := ⟨hB.lt, fun i v h => by rw [Nat.zero_add]; exact hB.cell h⟩
  have Hc := hid (hNew 40 0 0 0 0 0 [2, 4] w.heap.size 0 2 (w.alloc (.cells #[.int .i64 2, .int .i64 4] 3)) hR hr)
  have hD3 : Hd 1 ((3 : Nat) : Int) 0 0 := ⟨by decide, by decide, by decide, by decide, by decide, by decide, by decide, by decide⟩
  have hD2 : Hd 1 ((2 : Nat) : Int) 0 0 := ⟨by decide, by decide, by decide, by decide, by decide, by decide, by decide, by decide⟩
  go_enter Try.func16, Try.ntmps16
  go_wp2_with fail
  refine Hc.out.mono ?_
  rintro e w1 ⟨L, rfl, hH1, hF1, hLb⟩
  clear Hc hB hr
  have hp : ∀ w, (binOp .eql 27 (.pointer (some ⟨L.hb, 0, none⟩)) (.pointer none)).run Try.prog w = .ok (.bool false) w := fun _ => by kernel_rfl
  go_wp2_with fail
  refine (hAllocGrow L (HS.new 40 0 [2, 4]) 1 0 1 0 ⟨0, 0, 0, 0, 0, 0⟩ 2 _ hH1 ⟨by decide, by decide, by decide, by decide, by decide, by decide, by decide, by decide⟩ (by decide) rfl rfl rfl (by decide) (by decide) (by decide) (by decide) (by decide) (by decide) (by intro h; exact absurd rfl h) (by decide)).mono ?_
  rintro e w2 ⟨he, ⟨d1, hd1, hH2⟩, hF2⟩
  have he' : e = .returned (.tuple #[.int .i64 1, .int .i64 0]) := he
  subst he'
  obtain ⟨u2, hH2'⟩ : ∃ u, HRep w2 L (awS1 u) := ⟨_, hH2⟩
  clear hH2 he
  go_wp2_with fail
  refine (hAllocGrow L (awS1 u2) 1 0 3 1 ⟨0, 0, 0, 0, 0, 0⟩ 4 _ hH2' hD3 (by show ixGe [2, 4] 3 = 1; decide) rfl rfl rfl (by decide) (by decide) (by decide) (by show (4 : Int) + 3 ≤ 40 - 6; decide) (by show (1 : Int) ≤ 6; decide) (by show (40 : Int) ≤ (aw1.length : Int); decide) (by intro h; exact absurd rfl h) (by decide)).mono ?_
  rintro e w3 ⟨he, ⟨d2, hd2, hH3⟩, hF3⟩
  have he' : e = .returned (.tuple #[.int .i64 6, .int .i64 0]) := he
  subst he'
  obtain ⟨u3, hH3'⟩ : ∃ u, HRep w3 L (awS2 u) := ⟨_, hH3⟩
  clear hH3 he
  go_wp2_with fail
  refine (hAllocGrow L (awS2 u3) 1 0 2 0 ar1 2 _ hH3' hD2 (by show ixGe [2, 4] 2 = 0; decide) rfl rfl (by decide) (by decide) (by decide) (by decide) (by show (2 : Int) + 3 ≤ 40 - 13; decide) (by show (1 : Int) ≤ 13; decide) (by show (40 : Int) ≤ (aw2.length : Int); decide) (by intro _; exact ⟨okc_of (by show (decide (0 ≤ ar1.first) && decide (ar1.first + 2 < aw2.length)) = true; decide), okc_of (by show (decide (0 ≤ gw aw2 (ar1.first + 2)) && decide (gw aw2 (ar1.first + 2) + 2 < aw2.length)) = true; decide)⟩) (by decide)).mono ?_
  rintro e w4 ⟨he, ⟨d3, hd3, hH4⟩, hF4⟩
  have he' : e = .returned (.tuple #[.int .i64 13, .int .i64 0]) := he
  subst he'
  clear he
  have hcl : ((((awS2 u3).grown 0 2 ar1 d3).took 0 (ar1.grown (awS2 u3).top)).laid (awS2 u3).top (packed 1 ((2 : Nat) : Int) 0 (awS2 u3).parity) 2).cls = [2, 4] := rfl
  go_wp2_with fail
  refine (hRound L _ 3 _ hH4 (by decide) (by decide) (by rw [hcl]; decide)).mono ?_
  rintro e w5 ⟨he, hH5, hF5⟩
  have he' : e = .returned (.int .i64 7) := by rw [he, hcl]; rfl
  subst he'
  clear he hcl
  go_wp2_with fail
  go_ret
  have hlow : ∀ x ∈ L.fp, w.heap.size ≤ x := fun x hx => by
    have := hLb x (by simp only [HL.all, List.mem_cons]; exact .inr (.inr hx))
    simp at this; omega
  have hA : Fr [] w w1 := ((Fr.refl _ w).alloc _).trans hF1
  have hB2 : Fr [] w w2 := hA.step hF2 (fun x hx => .inr (hlow x hx))
  have hB3 := hB2.step hF3 (fun x hx => .inr (hlow x hx))
  have hB4 := hB3.step hF4 (fun x hx => .inr (hlow x hx))
  exact ⟨rfl, hB4.trans hF5⟩
end Go.Proofs.Ytifillpcphiblaa
