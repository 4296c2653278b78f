import Derived.Test.YtklnpooninbogaaGreatDoorTNum
import Derived.LoopTactic
import Derived.Laws.IdiomStrings
import Derived.Laws.BytesString
namespace Go.Proofs.YtklnpooninbogaaGreatDoor
open Go Go.Proofs Go.RowKit

/-! A float's text: strconv.FormatUint at base 16. -/

def debIx : Int := IntKind.u64.wrap (bits BinOp.and IntKind.u64 16 (IntKind.u64.wrap (-16)) * 285870213051353865) / 288230376151711744
theorem debIx_eq : debIx = 15 := by decide +kernel
def Deb (w : World) : Prop := w.cell? ⟨4, 15, none⟩ = some (.int .u8 4)

set_option maxRecDepth 100000 in
theorem tz64 (w : World) (h : Deb w) : Calls Tryz.prog 113 #[.int .u64 16] w fun e w' => e = .returned (.int .i64 4) ∧ w = w' := by
  have hc : w.cell? ⟨4, (IntKind.u64.wrap (bits BinOp.and IntKind.u64 16 (IntKind.u64.wrap (-16)) * 285870213051353865) / 288230376151711744).toNat, none⟩ = some (.int .u8 4) := by
    have := debIx_eq
    unfold debIx at this
    rw [this]
    exact h
  go_enter Tryz.func113, Tryz.ntmps113
  go_wp2_with fail
  go_ret
  exact ⟨rfl, rfl⟩
theorem tz (w : World) (h : Deb w) : Calls Tryz.prog 111 #[.int .u64 16] w fun e w' => e = .returned (.int .i64 4) ∧ w = w' := by
  go_enter Tryz.func111, Tryz.ntmps111
  go_wp2_with fail
  refine (tz64 _ h).mono ?_
  rintro e w' ⟨rfl, rfl⟩
  go_wp2_with fail
  go_ret
  exact ⟨rfl, rfl⟩
theorem pow2 (w : World) : Calls Tryz.prog 110 #[.int .i64 16] w fun e w' => e = .returned (.bool true) ∧ w = w' := by
  have hb : (bits BinOp.and IntKind.i64 16 15 == 0) = true := by decide +kernel
  go_enter Tryz.func110, Tryz.ntmps110
  go_wp2_with fail
  go_ret
  exact ⟨rfl, rfl⟩

def hexD : List UInt8 := [48, 49, 50, 51, 52, 53, 54, 55, 56, 57, 97, 98, 99, 100, 101, 102, 103, 104, 105, 106, 107, 108, 109, 110, 111, 112, 113, 114, 115, 116, 117, 118, 119, 120, 121, 122]
def hx (n : Nat) : UInt8 := hexD.getD n 48
/-- The digits of a number at base 16. -/
def hexL (u : Nat) : List UInt8 := if u < 16 then [hx u] else hexL (u / 16) ++ [hx (u % 16)]
termination_by u
theorem hexLen : ∀ (k n : Nat), n < 16 ^ (k + 1) → (hexL n).length ≤ k + 1
  | 0, n, h => by rw [hexL, if_pos (by simpa using h)]; simp
  | k + 1, n, h => by
    rw [hexL]
    split
    · simp
    · have : n / 16 < 16 ^ (k + 1) := by rw [Nat.div_lt_iff_lt_mul (by decide)]; rw [Nat.pow_succ] at h; exact h
      have := hexLen k (n / 16) this
      simp; omega
/-- What stands in the row: so many noughts, and digits. -/
def hexC (i : Nat) (suf : List UInt8) : List Value := List.replicate i (.int .u8 0) ++ suf.map fun b => .int .u8 (b.toNat : Int)

theorem and15 (u : Nat) (hu : u < 18446744073709551616) : bits BinOp.and IntKind.u64 (u : Int) 15 = ((u % 16 : Nat) : Int) := by
  have h := bits_and_u64_nat u 15 hu (by omega)
  rw [show (15 : Nat) = 2 ^ 4 - 1 from rfl, Nat.and_two_pow_sub_one_eq_mod] at h
  exact h
/-- Below 2 to the 64. -/
def Lt64 (u : Nat) : Prop := u < 18446744073709551616
theorem hexL_step {u : Nat} (h : 16 ≤ u) : hexL u = hexL (u / 16) ++ [hx (u % 16)] := by
  rw [hexL, if_neg (by omega)]
theorem hexL_one {u : Nat} (h : u < 16) : hexL u = [hx u] := by rw [hexL, if_pos h]
theorem hexL_len {b : Nat} (h : Lt64 b) : (hexL b).length ≤ 16 := hexLen 15 b (by unfold Lt64 at h; have : (16 : Nat) ^ (15 + 1) = 18446744073709551616 := by decide
                                                                                  omega)
theorem hexL_pos (u : Nat) : 1 ≤ (hexL u).length := by
  rw [hexL]; split <;> simp
theorem hexC_set (i : Nat) (suf : List UInt8) (d : UInt8) : (hexC (i + 1) suf).set i (.int .u8 (d.toNat : Int)) = hexC i (d :: suf) := by
  unfold hexC
  rw [List.replicate_succ', List.append_assoc, List.set_append_right _ _ (by simp)]
  simp
def hexB : ByteArray := { data := #[48, 49, 50, 51, 52, 53, 54, 55, 56, 57, 97, 98, 99, 100, 101, 102, 103, 104, 105, 106, 107, 108, 109, 110, 111, 112, 113, 114, 115, 116, 117, 118, 119, 120, 121, 122] }
theorem hexB_get {u : Nat} (h : u < 36) : ∀ (hs : u < ({ data := #[48, 49, 50, 51, 52, 53, 54, 55, 56, 57, 97, 98, 99, 100, 101, 102, 103, 104, 105, 106, 107, 108, 109, 110, 111, 112, 113, 114, 115, 116, 117, 118, 119, 120, 121, 122] } : ByteArray).size), (({ data := #[48, 49, 50, 51, 52, 53, 54, 55, 56, 57, 97, 98, 99, 100, 101, 102, 103, 104, 105, 106, 107, 108, 109, 110, 111, 112, 113, 114, 115, 116, 117, 118, 119, 120, 121, 122] } : ByteArray)[u]'hs).toNat = (hx u).toNat := by
  intro hs
  have : ∀ u : Fin 36, hexD[u.1]'(u.2) = hx u.1 := by decide
  have h2 := this ⟨u, h⟩
  show (hexD[u]'h).toNat = _
  rw [h2]
theorem zc : Tryz.zeroCells172 = (hexC 65 []).toArray := by kernel_rfl

set_option maxRecDepth 100000 in
set_option maxHeartbeats 3200000 in
theorem fmtBits (b : Nat) (hb : Lt64 b) (w : World) (h : Deb w) :
    Calls Tryz.prog 103 #[.slice none 0 0, .int .u64 b, .int .i64 16, .bool false, .bool false] w fun e w' => e = .returned (.tuple #[.slice none 0 0, str (hexL b)]) ∧ Fr [] w w' := by
  have hB0 : Blk (w.alloc (.cells Tryz.zeroCells172 172)) w.heap.size (hexC 65 []) 172 := by rw [zc]; exact Blk.new w (hexC 65 []) _
  have hF0 : Fr [] w (w.alloc (.cells Tryz.zeroCells172 172)) := (Fr.refl [] w).alloc _
  have hdb : Deb (w.alloc (.cells Tryz.zeroCells172 172)) := (cell_fr hF0 (by simp) (World.block_lt_of_cell? w _ h) 15).trans h
  have HB0 := hid hB0
  have HF0 := hid hF0
  clear hB0 hF0
  go_enter Tryz.func103, Tryz.ntmps103
  go_wp2_with fail
  refine (pow2 _).mono ?_
  rintro e w1 ⟨rfl, rfl⟩
  go_wp2_with fail
  refine (tz _ hdb).mono ?_
  rintro e w1 ⟨rfl, rfl⟩
  clear hdb h
  go_wp2_with fail
  go_loopw [1, 13] (fun uv iv wr => ∃ (u i : Nat) (suf : List UInt8), uv = .int .u64 u ∧ iv = .int .i64 i ∧ i + suf.length = 65 ∧ hexL b = hexL u ++ suf ∧ Lt64 u ∧ Blk wr w.heap.size (hexC i suf) 172 ∧ Fr [] w wr) (fun uv _ _ => (intOf uv).toNat)
  case atStart => exact ⟨b, 65, [], rfl, rfl, rfl, by simp, hb, HB0.out, HF0.out⟩
  case round =>
    obtain ⟨u, i, suf, rfl, rfl, hi, hx, hu, hB, hF⟩ := hrel
    have h16 := hexL_len hb
    have hp := hexL_pos u
    rw [hx, List.length_append] at h16
    have hi1 : 50 ≤ i := by omega
    have hi2 : i ≤ 65 := by omega
    have HX := hid hx
    have HU := hid hu
    have HB := hid hB
    have HF := hid hF
    have HI := hid hi
    obtain ⟨j, rfl⟩ : ∃ j, i = j + 1 := ⟨i - 1, by omega⟩
    have z := hB.frozen j
    have hcj : ∃ x, wr.cell? ⟨w.heap.size, j, none⟩ = some x := by
      obtain ⟨x, hxx⟩ : ∃ x, (hexC (j + 1) suf)[j]? = some x := ⟨_, List.getElem?_eq_getElem (by simp [hexC]; omega)⟩
      exact ⟨x, hB.cell hxx⟩
    obtain ⟨x0, hcj⟩ := hcj
    clear hx hu hB hF hi h16 hp
    by_cases hlt : 16 ≤ u
    · have hand := and15 u HU.out
      have hm : u % 16 < 16 := Nat.mod_lt _ (by decide)
      have ht : (16 : Int) ≤ (u : Int) := by omega
      have hdg := hexB_get (u := u % 16) (by omega)
      have hB2 : Blk (wr.setCell ⟨w.heap.size, j, none⟩ (.int .u8 ((hx (u % 16)).toNat : Int))) w.heap.size (hexC j (hx (u % 16) :: suf)) 172 := by
        rw [← hexC_set]; exact HB.out.set j _
      have HB2 := hid hB2
      clear hB2
      go_wp2_with fail
      go_roundw
      case rel => exact ⟨u / 16, j, hx (u % 16) :: suf, by go_num, rfl, by have := HI.out; simp; omega, by rw [HX.out, hexL_step hlt]; simp, by have := HU.out; unfold Lt64 at this ⊢; omega, HB2.out, HF.out.set (by simp) _⟩
      case measure => simp [intOf]; omega
    · have ht : ¬ (16 : Int) ≤ (u : Int) := by omega
      have hdg := hexB_get (u := u) (by omega)
      have hB2 : Blk (wr.setCell ⟨w.heap.size, j, none⟩ (.int .u8 ((hx u).toNat : Int))) w.heap.size (hexC j (hx u :: suf)) 172 := by
        rw [← hexC_set]; exact HB.out.set j _
      have hsl : ∀ W : World, (Instr.sliceAt 172 (.pointer (some ⟨w.heap.size, 0, none⟩)) (some (.int .i64 j)) none none).run Tryz.prog W = .ok (.slice (some ⟨w.heap.size, j, none⟩) (65 - j) (65 - j)) W := by
        intro W
        have hu : Tryz.prog.underlying 172 = some (.array (Tryz.prog.arrayLen 172) (Tryz.prog.elem 172)) := by kernel_rfl
        have hal : Tryz.prog.arrayLen 172 = 65 := by kernel_rfl
        have hse : ∀ W, (sizeOf (Tryz.prog.elem 172)).run Tryz.prog W = .ok 1 W := fun _ => by kernel_rfl
        rw [run_sliceAt_array_l W 172 ⟨w.heap.size, 0, none⟩ hu .i64 j (by omega) (by rw [hal]; omega), hse, hal]
        simp only [Result.andThen, slicedAt, Int.toNat_natCast, Nat.mul_one]
        rw [if_neg (by omega), Addr.add_lit, Nat.zero_add]
      have hcv : (convert 141 9 (.slice (some ⟨w.heap.size, j, none⟩) (65 - j) (65 - j))).run Tryz.prog (wr.setCell ⟨w.heap.size, j, none⟩ (.int .u8 ((hx u).toNat : Int))) = .ok (.string ⟨(hexL b).toArray⟩) (wr.setCell ⟨w.heap.size, j, none⟩ (.int .u8 ((hx u).toNat : Int))) := by
        have hl : hexL b = hx u :: suf := by rw [HX.out, hexL_one (by omega)]; rfl
        have hlen : (hexL b).length = 65 - j := by rw [hl]; have := HI.out; simp; omega
        rw [← hlen]
        refine run_convert_bytes_back _ 141 9 5 _ _ (hexL b) Tryz.underlying141 Tryz.underlying5 Tryz.underlying9 (fun k hk => ?_)
        rw [Addr.add_lit]
        refine hB2.cell ?_
        unfold hexC
        rw [List.getElem?_append_right (by simp), List.length_replicate, show j + k - j = k by omega, List.getElem?_map, ← hl, List.getElem?_eq_getElem hk]
        rfl
      have HCV := hid hcv
      clear hB2
      go_wp2_with fail
      go_ret2
      exact ⟨rfl, HF.out.set (by simp) _⟩

theorem Deb.fr {w w' : World} (h : Deb w) (hF : Fr [] w w') : Deb w' := (cell_fr hF (by simp) (World.block_lt_of_cell? w _ h) 15).trans h
theorem fmtUint0 (b : Nat) (hb : Lt64 b) (w : World) (h : Deb w) :
    Calls Tryz.prog 94 #[.int .u64 b, .int .i64 16] w fun e w' => e = .returned (str (hexL b)) ∧ Fr [] w w' := by
  go_enter Tryz.func94, Tryz.ntmps94
  go_wp2_with fail
  refine (fmtBits b hb _ h).mono ?_
  rintro e w1 ⟨rfl, hF⟩
  unfold str
  go_wp2_with fail
  go_ret
  exact ⟨rfl, hF⟩
theorem fmtUint (b : Nat) (hb : Lt64 b) (w : World) (h : Deb w) :
    Calls Tryz.prog 89 #[.int .u64 b, .int .i64 16] w fun e w' => e = .returned (str (hexL b)) ∧ Fr [] w w' := by
  go_enter Tryz.func89, Tryz.ntmps89
  go_wp2_with fail
  refine (fmtUint0 b hb _ h).mono ?_
  rintro e w1 ⟨rfl, hF⟩
  unfold str
  go_wp2_with fail
  go_ret
  exact ⟨rfl, hF⟩

/-- A float's text. -/
def fltT (b : Nat) : List UInt8 := [48, 102] ++ (List.replicate (16 - (hexL b).length) 48 ++ hexL b)
theorem rep48 (c : Nat) : Lib.repeatL [48] c = List.replicate c 48 := by
  induction c with
  | zero => rfl
  | succ c ih => simp [Lib.repeatL, List.replicate_succ, ← ih] 

set_option maxRecDepth 100000 in
theorem numF (b : Nat) (hb : Lt64 b) (w : World) (h : Deb w) :
    Calls Tryz.prog 84 #[.agg #[.bool true, .int .u64 b]] w fun e w' => e = .returned (str (fltT b)) ∧ Fr [] w w' := by
  have hl := hexL_len hb
  go_enter Tryz.func84, Tryz.ntmps84
  go_wp2_with fail
  have hF0 : Fr [] w (w.alloc (.cells #[.bool true, .int .u64 b] 35)) := (Fr.refl _ w).alloc _
  refine (fmtUint b hb _ (h.fr hF0)).mono ?_
  rintro e w1 ⟨rfl, hF1⟩
  unfold str
  have hF2 := hF0.trans hF1
  obtain ⟨X, hX⟩ : ∃ X : ByteArray, X = ⟨(hexL b).toArray⟩ := ⟨_, rfl⟩
  have hXs : X.size = (hexL b).length := by rw [hX]; exact List.size_toArray
  have hX16 : X.size ≤ 16 := by omega
  obtain ⟨c, hc⟩ : ∃ c : Nat, c = 16 - X.size := ⟨_, rfl⟩
  have hci : (16 : Int) - (X.size : Int) = (c : Int) := by omega
  rw [← hX]
  have HX := hid hX
  have HC := hid hc
  have HXS := hid hXs
  have HCI := hid hci
  have HF2 := hid hF2
  have hc16 : c ≤ 16 := by omega
  clear hX hc hXs hci hF0 hF1 hF2 hl h
  go_wp2_with fail
  rw [HCI.out]
  refine (Tryz.strings_Repeat ⟨#[48]⟩ c w1 (by omega) (by show 1 * c ≤ _; omega)).mono ?_
  rintro e w2 ⟨rfl, hb2⟩
  have HF3 := hid (HF2.out.trans (fr_of_below hb2))
  obtain ⟨R, hR⟩ : ∃ R : ByteArray, R = ⟨(Lib.repeatL [48] c).toArray⟩ := ⟨_, rfl⟩
  have hRs : R.size = c := by rw [hR, rep48]; show (List.toArray _).size = _; simp
  have hR16 : R.size ≤ 16 := by omega
  have HR := hid hR
  rw [show (⟨(Lib.repeatL (({ data := #[48] } : ByteArray).data.toList) c).toArray⟩ : ByteArray) = R from hR.symm]
  clear hR hb2 hRs
  go_wp2_with fail
  go_ret
  refine ⟨?_, HF3.out⟩
  rw [HR.out, HX.out, rep48, show ({ data := #[48, 102] } : ByteArray) = ⟨[48, 102].toArray⟩ from rfl, baApp, baApp]
  unfold fltT str
  rw [HC.out, HXS.out, List.append_assoc]
  rfl

set_option maxRecDepth 100000 in
theorem shNumF (b : Nat) (hb : Lt64 b) (w : World) (h : Deb w) :
    Calls Tryz.prog 72 #[.agg #[.bool true, .int .u64 b]] w fun e w' => e = .returned (str (fltT b)) ∧ Fr [] w w' := by
  go_enter Tryz.func72, Tryz.ntmps72
  go_wp2_with fail
  have hF0 : Fr [] w (w.alloc (.cells #[.bool true, .int .u64 b] 35)) := (Fr.refl _ w).alloc _
  refine (numF b hb _ (h.fr hF0)).mono ?_
  rintro e w1 ⟨rfl, hF1⟩
  have HF := hid (hF0.trans hF1)
  obtain ⟨D, hD⟩ : ∃ D, fltT b = 48 :: D := ⟨_, rfl⟩
  have HD := hid hD
  rw [hD]
  have hc1 : ((((⟨(48 :: D).toArray⟩ : ByteArray)[0]'(by simp [ByteArray.size])).toNat : Int) == 45) = false := by
    have ht : (((⟨(48 :: D).toArray⟩ : ByteArray)[0]'(by simp [ByteArray.size])).toNat : Int) = 48 := rfl
    rw [ht]; rfl
  unfold str
  clear hD hF0 hF1 h
  go_wp2_with fail
  go_ret
  exact ⟨by rw [HD.out]; rfl, HF.out⟩

/-- A number's text in a source. -/
def srcT (f : Bool) (b : Int) : List UInt8 := if f then fltT b.toNat else srcI (wrap64 b)
/-- What a number's text asks of the world. -/
structure NumW (w : World) : Prop where
  tab : Lib.TabIs Tryz.prog w "internal/strconv.uint64pow10" .u64 Lib.pow10Tab
  deb : Deb w
theorem NumW.fr {w w' : World} (h : NumW w) (hF : Fr [] w w') : NumW w' := ⟨tab_fr h.tab hF, h.deb.fr hF⟩
theorem shNum (f : Bool) (b : Int) (h0 : 0 ≤ b) (h1 : b < 18446744073709551616) (w : World) (h : NumW w) :
    Calls Tryz.prog 72 #[.agg #[.bool f, .int .u64 b]] w fun e w' => e = .returned (str (srcT f b)) ∧ Fr [] w w' := by
  cases f with
  | true =>
    obtain ⟨n, rfl⟩ := Int.eq_ofNat_of_zero_le h0
    exact shNumF n (by unfold Lt64; omega) w h.deb
  | false => exact shNumI b w (.inr ⟨(wrap64_rng b).1, (wrap64_rng b).2, h.tab⟩)
end Go.Proofs.YtklnpooninbogaaGreatDoor
