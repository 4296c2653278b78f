/-
  The call of TreeNumbers returns true for every number and every count of hops, and leaves all that was in memory as it was, where the listed tables hold what the program's text lays.
  Conditions: none but those of the given row (the listed variables, which the given card ties to the program's text).
-/
import Derived.Test.YtklnpooninbogaaGreatDoorTNumb
import Derived.Lib.SmallJoins
import Derived.Test.YtklnpooninbogaaGreatDoorCards
import Derived.Test.YtklnpooninbogaaGreatDoorTie
import Derived.SevenTiedAt
namespace Go.Proofs.YtklnpooninbogaaGreatDoor
open Go Go.Proofs Go.RowKit Go.ChangeShapes Go.WideShapes Go.ChangeAt

theorem laidB : laidOutB Tryz.prog = true := by kernel_rfl
theorem read_num : Tryz.prog.readableRec 35 = true := by kernel_rfl
theorem row_num : 35 < Tryz.prog.types.size := of_decide_eq_true (by kernel_rfl)
theorem gDeb : Tryz.prog.globalNamed "math/bits.deBruijn64tab" = some 4 := by kernel_rfl
theorem tDeb : (Tryz.prog.globals[4]?).map (·.type) = some 176 := by kernel_rfl
def debL : List Int := [0, 1, 56, 2, 57, 49, 28, 3, 61, 58, 42, 50, 38, 29, 17, 4, 62, 47, 59, 36, 45, 43, 51, 22, 53, 39, 33, 30, 24, 18, 12, 5, 63, 55, 48, 27, 60, 41, 37, 16, 46, 35, 44, 21, 52, 32, 23, 11, 54, 26, 40, 15, 34, 20, 31, 10, 25, 14, 19, 9, 13, 8, 7, 6]
theorem deb_tab : (Rows.laid_math_bits_deBruijn64tab : DataW Unit) = Lib.tabData .u8 debL := by kernel_rfl
set_option maxRecDepth 100000 in
theorem of_laid2 {W : World} (h : laidMetH Tryz.prog laid4 W) : NamesAt W ∧ NumW W := by
  obtain ⟨h1, h2⟩ := of_laid h
  rw [MakeChecks.laidMetH_plain _ _ _ (by kernel_rfl)] at h
  have h3 : laidMet Tryz.prog (("math/bits.deBruijn64tab", Lib.tabData .u8 debL) :: [("internal/strconv.uint64pow10", Rows.laid_internal_strconv_uint64pow10), ("treadwheel/tree.names", Rows.laid_treadwheel_tree_names)]) W := by
    rw [← deb_tab]
    exact h.tail
  have hT : Lib.TabIs Tryz.prog W "math/bits.deBruijn64tab" .u8 debL := Lib.tabIs_of_head gDeb tDeb Tryz.underlying176 Tryz.underlying5 (by kernel_rfl) (by kernel_rfl) h3
  exact ⟨h1, h2, hT.cell gDeb 15 (by decide)⟩
theorem cells_num : Tryz.prog.cellsOf 35 = 2 := by kernel_rfl
set_option maxRecDepth 100000 in
/-- A number that came in. -/
theorem open_num {H : Type} {enc : TypeId × Value → H} {w : World} {base b0 : Nat} {spare : Nat → Bool} {held : Bool} {r : Reach} {v : Value} {d : DataW H} {p : List MemPlace} (hv : Value.okWide Tryz.prog w r b0 35 v) (h : DataW.Trod enc Tryz.prog w base spare held 35 v d p) :
    ∃ (f : Bool) (b : Nat), Lt64 b ∧ v = .agg #[.bool f, .int .u64 b] := by
  obtain ⟨c0, c1, y0, y1, m, rfl, -, -, hy0, hy1⟩ := Go.Joins.open_agg2 Tryz.underlying35 (by kernel_rfl) cells_num hv h
  obtain ⟨f, e0, -⟩ := DataW.trod_bool Tryz.underlying4 hy0
  obtain ⟨b, e1, -, wb⟩ := DataW.trod_int Tryz.underlying33 hy1
  simp only [List.cons.injEq, and_true] at e0 e1
  subst e0 e1
  have hb : 0 ≤ b ∧ b ≤ 18446744073709551615 := bounds_u64 wb
  obtain ⟨n, rfl⟩ := Int.eq_ofNat_of_zero_le hb.1
  exact ⟨f, n, by unfold Lt64; omega, rfl⟩
theorem lawTreeNumbers (f : Bool) (b : Nat) (hb : Lt64 b) (hops : Int) (w : World) (hk : 0 ≤ hops ∧ hops ≤ 255) (hnm : NamesAt w) (hnw : NumW w) :
    Calls Tryz.prog 4 #[.agg #[.bool f, .int .u64 b], .int .u8 hops] w fun e w' => e = .returned (.bool true) ∧ Fr [] w w' :=
  lawTN f (if f then 8 else 7) (by cases f <;> simp) b hb hops w hk hnm hnw

set_option maxRecDepth 100000 in
theorem treeNumbers_lifted (os : Os) (started : os.Started) (H : Type) (enc : TypeId × Value → H) :
    ReturnsInHanded {} Tryz.checked os 4 .any (fun w args => (Rows.treeNumbersSpec.pre enc Tryz.prog Tryz.f4 [] false w args ∧ laidMetH Tryz.prog laid4 w) ∧ sizedMet enc Tryz.prog Tryz.f4 (OpenSpec.ofChange Rows.treeNumbersSpec) false w args)
      (Rows.treeNumbersSpec.post enc Tryz.prog Tryz.f4 false true false false) := by
  refine returnsInHanded_of_change_and (C := Tryz.checked) (X := fun w _ => laidMetH Tryz.prog laid4 w) (fun _ _ _ hh h => h.of_heap hh) own started (by kernel_rfl) Tryz.func4
    (ChangeSpec.witness_shaped (enc := enc) (C := Tryz.checked) (os := os) (X := fun w _ => laidMetH Tryz.prog laid4 w) false (World.doorLaid Tryz.prog 400 os) #[.agg #[.bool false, .int .u64 0], .int .u8 0] 8 rfl (World.shaped_of_RefB (by kernel_rfl) (by kernel_rfl)) (by kernel_rfl) (by kernel_rfl) (by kernel_rfl) (door_met os _)) ?_
  intro W base args ds gs before hval0 hW _ _ hL _
  have hval : ∀ (j : Nat) t v, Tryz.f4.params[j]? = some t → args[j]? = some v → Value.okWide Tryz.prog W .any base t v := hval0
  have hW' := hW
  obtain ⟨p, q, hA0, hV, rfl, hfz, hnd⟩ := hW
  have hA : DataW.TrodAll enc Tryz.prog W 0 (fun _ => true) true Tryz.f4.params.toList args.toList ds p := hA0
  rw [Tryz.params4] at hA hval
  obtain ⟨v0, vs0, d0, ds0, p0, q0, hargs, rfl, rfl, h0, r0⟩ := trodAll_cons hA
  obtain ⟨v1, vs1, d1, ds1, p1, q1, rfl, rfl, rfl, h1, r1⟩ := trodAll_cons r0
  obtain ⟨rfl, rfl, rfl⟩ := trodAll_nil r1
  obtain rfl : args = #[v0, v1] := by cases args; simp_all
  obtain ⟨rfl, rfl⟩ := trodVars_none hV
  obtain ⟨f, b, hb, rfl⟩ := open_num (hval 0 35 v0 rfl rfl) h0
  obtain ⟨a1, rfl, rfl, rfl, w1⟩ := open_int Tryz.underlying5 (hval 1 5 v1 rfl rfl) h1
  clear hA0 hval0
  simp only [List.append_nil] at hW'
  have b1 : 0 ≤ a1 ∧ a1 ≤ 255 := bounds_u8 w1
  have hL2 := of_laid2 hL
  refine (lawTreeNumbers f b hb a1 W b1 hL2.1 hL2.2).mono fun e W' ⟨he, hg⟩ => ?_
  subst he
  have hb' : Below W.heap.size W W' := hg.below (Nat.le_refl _) (by simp)
  have hlt : ∀ x ∈ p0, x.block < W.heap.size := fun x hx => hW'.lt x hx
  have hargs2 : DataW.TrodAll enc Tryz.prog W' 0 (fun b => decide (b < W.heap.size)) true [35, 5] [.agg #[.bool f, .int .u64 b], .int .u8 a1] [d0, .lit (.int .u8 a1)] p0 := by
    have := trodAll_cons_mk (Below.trod laidB read_num row_num h0 hb' hlt) (trodAll_cons_mk (shut_int (enc := enc) (P := Tryz.prog) (w := W') (base := 0) (spare := fun b => decide (b < W.heap.size)) (held := true) Tryz.underlying5 w1) trodAll_mk0)
    simpa using this
  exact ⟨_, rfl, [d0, .lit (.int .u8 a1)], [], p0, [], p0, [], hW', trodAll_cons_mk (shut_bool Tryz.underlying4 _) trodAll_mk0, hargs2, rfl, hb'.frame _, fun h => by cases h⟩

theorem treeNumbers_said : Rows.TreeNumbersSaid :=
  OpenClaim.holds_of_wide 4 Tryz.f4 rfl rfl rfl rfl rfl rfl rfl ⟨rfl, rfl, rfl, rfl, rfl⟩ rfl rfl rfl rfl rfl (by kernel_rfl) Tryz.func4 (by kernel_rfl)
    (of_decide_eq_true (by kernel_rfl)) (by unfold Func.isWrapper; first | (rw [if_pos (by decide +kernel)]; kernel_rfl) | (rw [if_neg (by decide +kernel)]; exact ⟨rfl, rfl⟩))
    (fun os started H enc _ => treeNumbers_lifted os started H enc)

theorem treeNumbers_holds : Rows.TreeNumbersCardSaid :=
  Claim7.holds_tied_plain_at .later [] [.data, .data, .data, .data] true Rows.treeNumbersCard.stood.harness false
    treeNumbers_said (fun _ h => by cases h) (by kernel_rfl) (fun _ h => by cases h) treeNumbers_row_tie rfl ⟨rfl, rfl⟩ (by kernel_rfl) rfl
    (fun f fn hf hfn => by
      obtain rfl : f = 4 := Option.some.inj ((show Tryz.prog.funcNamed "treadwheel/treadwheellaw20.TreeNumbers" = some 4 by kernel_rfl).symm.trans hf) |>.symm
      obtain rfl : fn = Tryz.f4 := (Option.some.inj (Tryz.func4.symm.trans hfn)).symm
      exact ⟨by kernel_rfl, fun j t ht => by
        rw [Tryz.params4] at ht
        have hm : t ∈ [35, 5] := by simpa using Array.mem_of_getElem? ht
        have hall : ([35, 5].all fun u => !Tryz.prog.wantsStandIn u) = true := by kernel_rfl
        exact (show Tryz.prog.wantsStandIn t = false by simpa using List.all_eq_true.1 hall t hm)⟩)
    (by kernel_rfl)
#print axioms treeNumbers_holds
end Go.Proofs.YtklnpooninbogaaGreatDoor
