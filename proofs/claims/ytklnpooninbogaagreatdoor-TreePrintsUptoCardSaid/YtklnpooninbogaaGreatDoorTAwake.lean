import Derived.Test.YtklnpooninbogaaGreatDoorTPrint
import Derived.Test.YtklnpooninbogaaGreatDoorTRead2
import Derived.Test.YtklnpooninbogaaGreatDoorMHNew
namespace Go.Proofs.YtklnpooninbogaaGreatDoor
open Go Go.Proofs Go.RowKit

/-! law20: the document's example. -/

def ta0 : List Int := List.replicate 40 0
def ta1 : List Int := zr (sw (growW ta0 ⟨0, 0, 0, 0, 0, 0⟩ 1) 1 (packed 7 1 0 0)) 4 1
def tr1 : RS := (RS.grown ⟨0, 0, 0, 0, 0, 0⟩ 1).allocd (growW ta0 ⟨0, 0, 0, 0, 0, 0⟩ 1)
def ta2 : List Int := zr (sw (growW ta1 tr1 6) 6 (packed 1 1 3 0)) 9 1
def tr2 : RS := (RS.grown tr1 6).allocd (growW ta1 tr1 6)
def taS1 (u : Int) : HS := { ws := ta1, u := u, cls := [2], rs := [tr1], lg := ⟨0, 0, 0, 0, 0, 0⟩, x := ⟨40, 0, []⟩, top := 6, edge := 40, parity := 0 }
def taS2 (u : Int) : HS := { ws := ta2, u := u, cls := [2], rs := [tr2], lg := ⟨0, 0, 0, 0, 0, 0⟩, x := ⟨40, 0, []⟩, top := 11, edge := 40, parity := 0 }
def ta3 : List Int := sw (sw ta2 4 3) 9 1
/-- Just 3. -/
def awT : Tr := .mk 1 3 false 0 [.mk 7 0 false 3 []]
theorem aw_rd : RdT ta3 9 6 4096 awT 4094 := by
  refine .inr ⟨by decide, by decide, 0, 6, 1, 1, 3, 0, rfl, ⟨by decide, by decide, by decide, ⟨by decide, by decide, by decide, by decide, by decide, by decide, by decide, by decide⟩⟩, by decide, .inr (.inr (.inl ⟨rfl, [.mk 7 0 false 3 []], fun i => 4095 - i, rfl, rfl, rfl, rfl, ?_⟩))⟩
  intro i x hx
  cases i with
  | zero =>
    simp at hx
    subst hx
    exact .inr ⟨by decide, by decide, 0, 1, 7, 1, 0, 0, (show gw ta3 (6 + 3 + 0) = 1 by decide), ⟨by decide, by decide, by decide, ⟨by decide, by decide, by decide, by decide, by decide, by decide, by decide, by decide⟩⟩, by decide, .inl ⟨rfl, by decide, by rw [show gw ta3 (1 + 3 + 0) = 3 by decide]; rfl, rfl⟩⟩
  | succ i => simp at hx
def just : ByteArray := ⟨#[74, 117, 115, 116]⟩
def awC : List ByteArray := [⟨#[]⟩, ⟨#[]⟩, ⟨#[]⟩, just]
def numTx (_ : Bool) (b : Int) : List UInt8 := srcI (wrap64 b)
theorem aw_txt : prT awC numTx 9 awT = [74, 117, 115, 116, 32, 51] := by
  have e : srcI (wrap64 3) = [51] := by
    have e1 : wrap64 3 = 3 := by unfold wrap64; omega
    rw [e1]
    unfold srcI Lib.itoa
    rw [if_neg (by decide), if_neg (by decide)]
    show Lib.decDigits 3 = _
    rw [Lib.decDigits]
    rfl
  show just.data.toList ++ (32 :: (srcI (wrap64 3))) ++ [] = _
  rw [e]
  rfl
theorem aw_all : AllN (fun f b => f = false ∧ b = 3) 9 awT := by
  refine ⟨by simp [isNum, awT, Tr.k], fun x hx => ?_⟩
  have : x = .mk 7 0 false 3 [] := by simpa [awT, Tr.ks] using hx
  subst this
  exact ⟨fun _ => ⟨rfl, rfl⟩, fun y hy => by simp [Tr.ks] at hy⟩

set_option maxRecDepth 200000 in
set_option maxHeartbeats 3200000 in
theorem awake20 (w : World) (hnm : NamesAt w) : Calls Tryz.prog 6 #[] w fun e w' => e = .returned (.bool true) ∧ Fr [] w w' := by
  have hR : RightC ((40 : Nat) : Int) ((0 : Nat) : Int) [2] := ⟨by decide, by decide, by decide, by decide, by decide, by decide, by simp [Inc]⟩
  have hB := Blk.new w [.int .i64 2] 3
  have hr : RdAt (w.alloc (.cells #[.int .i64 2] 3)) w.heap.size 0 ([2].map (.int .i64)) := ⟨hB.lt, fun i v h => by rw [Nat.zero_add]; exact hB.cell h⟩
  have Hc := hid (hNew 40 0 0 0 0 0 [2] w.heap.size 0 1 (w.alloc (.cells #[.int .i64 2] 3)) hR hr)
  have hD1 : Hd 7 ((1 : Nat) : Int) 0 0 := ⟨by decide, by decide, by decide, by decide, by decide, by decide, by decide, by decide⟩
  have hD2 : Hd 1 ((1 : Nat) : Int) 3 0 := ⟨by decide, by decide, by decide, by decide, by decide, by decide, by decide, by decide⟩
  go_enter Tryz.func6, Tryz.ntmps6
  go_wp2_with fail
  refine Hc.out.mono ?_
  rintro e w1 ⟨L, rfl, hH1, hF1, hLb⟩
  clear Hc hB hr
  have hp : ∀ w, (binOp .eql 23 (.pointer (some ⟨L.hb, 0, none⟩)) (.pointer none)).run Tryz.prog w = .ok (.bool false) w := fun _ => by kernel_rfl
  go_wp2_with fail
  refine (hAllocGrow L (HS.new 40 0 [2]) 7 0 1 0 ⟨0, 0, 0, 0, 0, 0⟩ 2 _ hH1 hD1 (by decide) rfl rfl rfl (by decide) (by decide) (by decide) (by decide) (by decide) (by decide) (by intro h; exact absurd rfl h) (by decide)).mono ?_
  rintro e w2 ⟨he, ⟨d1, hd1, hH2⟩, hF2⟩
  have he' : e = .returned (.tuple #[.int .i64 1, .int .i64 0]) := he
  subst he'
  obtain ⟨u2, hH2'⟩ : ∃ u, HRep w2 L (taS1 u) := ⟨_, hH2⟩
  clear hH2 he
  go_wp2_with fail
  refine (hAllocGrow L (taS1 u2) 1 3 1 0 tr1 2 _ hH2' hD2 (by show ixGe [2] 1 = 0; decide) rfl rfl (by decide) (by decide) (by decide) (by decide) (by show (2 : Int) + 3 ≤ 40 - 6; decide) (by show (1 : Int) ≤ 6; decide) (by show (40 : Int) ≤ (ta1.length : Int); decide) (by intro _; exact ⟨show Okc ta1 tr1.first from okc_of (by decide), show Okc ta1 (gw ta1 (tr1.first + 2)) from okc_of (by decide)⟩) (by decide)).mono ?_
  rintro e w3 ⟨he, ⟨d2, hd2, hH3⟩, hF3⟩
  have he' : e = .returned (.tuple #[.int .i64 6, .int .i64 0]) := he
  subst he'
  obtain ⟨u3, hH3'⟩ : ∃ u, HRep w3 L (taS2 u) := ⟨_, hH3⟩
  clear hH3 he
  go_wp2_with fail
  refine (hSet L (taS2 u3) 1 7 1 0 0 0 3 _ hH3' (by decide) (by show (1 : Int) + 3 + 1 ≤ (ta2.length : Int); decide) (by show gw ta2 1 = _; decide) hD1 (by decide) (by decide)).mono ?_
  rintro e w4 ⟨rfl, hH4, hF4⟩
  go_wp2_with fail
  refine (hSet L _ 6 1 1 3 0 0 1 _ hH4 (by decide) (by show (6 : Int) + 3 + 1 ≤ ((sw ta2 4 3).length : Int); decide) (by show gw (sw ta2 4 3) 6 = _; decide) hD2 (by decide) (by decide)).mono ?_
  rintro e w5 ⟨rfl, hH5, hF5⟩
  go_wp2_with fail
  refine (tRead L _ 6 9 awT 4094 _ hH5 (by decide) aw_rd).mono ?_
  rintro e w6 ⟨v, rfl, ⟨sv, rfl, hk⟩, -, hF6⟩
  obtain ⟨A, c, rfl⟩ := hk.form
  obtain ⟨g, o, kv, m', rfl, -, hg, hat, hm', hkx⟩ := hk.at (i := 0) (x := .mk 7 0 false 3 []) rfl
  rw [show trAgg awT.k awT.t awT.f awT.b (.slice (some ⟨g, o, none⟩) awT.ks.length c) = .agg #[.int .i64 1, .int .i64 3, .bool false, .int .u64 0, .slice (some ⟨g, o, none⟩) 1 c] from rfl]
  have hlow : ∀ x ∈ L.fp, w.heap.size ≤ x := fun x hx => by
    have := hLb x (by simp only [HL.all, List.mem_cons]; exact .inr (.inr hx))
    simp at this; omega
  have hlo : ∀ x ∈ [L.ab, L.wb], w.heap.size ≤ x := fun x hx => hlow x (by simp only [HL.fp]; simp at hx ⊢; rcases hx with h | h <;> simp [h])
  have G1 : Fr [] w w1 := ((Fr.refl _ w).alloc _).trans hF1
  have G2 : Fr [] w w2 := G1.step hF2 (fun x hx => .inr (hlow x hx))
  have G3 := G2.step hF3 (fun x hx => .inr (hlow x hx))
  have G4 := G3.step hF4 (fun x hx => .inr (hlo x hx))
  have G5 := G4.step hF5 (fun x hx => .inr (hlo x hx))
  have G6 := G5.step hF6 (fun x hx => .inr (hlo x (by simp at hx; simp [hx])))
  have k3 := hat.2.2.2.1
  simp only [Tr.b, Nat.zero_mul, Nat.add_zero] at k3
  have HG := hid G6
  have HK := hid hk
  clear hF1 hF2 hF3 hF4 hF5 hF6 G1 G2 G3 G4 G5 G6 hk hat hkx hH1 hH2' hH3' hH4 hH5 hlow hlo hLb hm' hD1 hD2
  go_wp2_with fail
  have hF8 : Fr [] w6 ((w6.alloc (.cells #[.int .i64 1, .int .i64 3, .bool false, .int .u64 0, .slice (some ⟨g, o, none⟩) 1 c] 38)).alloc (.cells #[.string ⟨#[]⟩, .int .i64 0, .string ⟨#[]⟩, .int .i64 0, .string ⟨#[]⟩, .int .i64 0, .string ⟨#[74, 117, 115, 116]⟩, .int .i64 0] 51)) := ((Fr.refl [] w6).alloc _).alloc _
  have hBC := Blk.new (w6.alloc (.cells #[.int .i64 1, .int .i64 3, .bool false, .int .u64 0, .slice (some ⟨g, o, none⟩) 1 c] 38)) [.string ⟨#[]⟩, .int .i64 0, .string ⟨#[]⟩, .int .i64 0, .string ⟨#[]⟩, .int .i64 0, .string ⟨#[74, 117, 115, 116]⟩, .int .i64 0] 51
  rw [World.size_alloc] at hBC
  have hCV : ConsV ((w6.alloc (.cells #[.int .i64 1, .int .i64 3, .bool false, .int .u64 0, .slice (some ⟨g, o, none⟩) 1 c] 38)).alloc (.cells #[.string ⟨#[]⟩, .int .i64 0, .string ⟨#[]⟩, .int .i64 0, .string ⟨#[]⟩, .int .i64 0, .string ⟨#[74, 117, 115, 116]⟩, .int .i64 0] 51)) (.slice (some ⟨w6.heap.size + 1, 0, none⟩) 4 4) awC := by
    refine ⟨_, 4, rfl, by decide, fun i s hs => ⟨w6.heap.size + 1, 0, rfl, hBC.lt, ?_⟩⟩
    have hi : i < 4 := (List.getElem?_eq_some_iff.1 hs).1
    rw [Nat.zero_add]
    match i, hi, hs with
    | 0, _, hs => simp [awC] at hs; subst hs; exact hBC.cell (i := 0) rfl
    | 1, _, hs => simp [awC] at hs; subst hs; exact hBC.cell (i := 2) rfl
    | 2, _, hs => simp [awC] at hs; subst hs; exact hBC.cell (i := 4) rfl
    | 3, _, hs => simp [awC] at hs; subst hs; exact hBC.cell (i := 6) rfl
  refine (tPrint numTx (fun f b => f = false ∧ b = 3) 9 awT (trAgg awT.k awT.t awT.f awT.b (.slice (some ⟨g, o, none⟩) awT.ks.length c)) _ awC _ _ (fun w' _ f b hq w'' _ => by
    obtain ⟨rfl, rfl⟩ := hq
    exact shNumI 3 w'' (.inl (by unfold wrap64; omega))) ((hnm.fr HG.out).fr hF8) hCV ⟨_, rfl, HK.out.fr hF8 (by simp)⟩ aw_all (by rw [aw_txt]; decide)).mono ?_
  rw [aw_txt]
  rintro e w9 ⟨rfl, hF9⟩
  unfold str
  have HF8 := hid hF8
  clear hF8 hBC hCV
  go_wp2_with fail
  go_ret
  exact ⟨rfl, (HG.out.trans HF8.out).trans hF9⟩
end Go.Proofs.YtklnpooninbogaaGreatDoor
