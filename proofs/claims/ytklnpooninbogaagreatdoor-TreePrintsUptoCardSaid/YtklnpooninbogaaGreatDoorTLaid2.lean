import Derived.Test.YtklnpooninbogaaGreatDoorTLaid
import Derived.Test.YtklnpooninbogaaGreatDoorTHex
import Derived.Lib.SmallJoins
namespace Go.Proofs.YtklnpooninbogaaGreatDoor
open Go Go.Proofs Go.RowKit Go.ChangeShapes Go.WideShapes Go.ChangeAt

/-! What the listed variables hold, deBruijn64tab too. -/

theorem gDeb : Tryz.prog.globalNamed "math/bits.deBruijn64tab" = some 4 := by kernel_rfl
theorem tDeb : (Tryz.prog.globals[4]?).map (·.type) = some 176 := by kernel_rfl
def debL : List Int := [0, 1, 56, 2, 57, 49, 28, 3, 61, 58, 42, 50, 38, 29, 17, 4, 62, 47, 59, 36, 45, 43, 51, 22, 53, 39, 33, 30, 24, 18, 12, 5, 63, 55, 48, 27, 60, 41, 37, 16, 46, 35, 44, 21, 52, 32, 23, 11, 54, 26, 40, 15, 34, 20, 31, 10, 25, 14, 19, 9, 13, 8, 7, 6]
theorem deb_tab : (Rows.laid_math_bits_deBruijn64tab : DataW Unit) = Lib.tabData .u8 debL := by kernel_rfl
set_option maxRecDepth 100000 in
theorem of_laid2 {W : World} (h : laidMetH Tryz.prog laid4 W) : NamesAt W ∧ NumW W := by
  obtain ⟨h1, h2⟩ := of_laid h
  rw [MakeChecks.laidMetH_plain _ _ _ (by kernel_rfl)] at h
  have h3 : laidMet Tryz.prog (("math/bits.deBruijn64tab", Lib.tabData .u8 debL) :: [("internal/strconv.uint64pow10", Rows.laid_internal_strconv_uint64pow10), ("treadwheel/tree.names", Rows.laid_treadwheel_tree_names)]) W := by
    rw [← deb_tab]
    exact h.tail
  have hT : Lib.TabIs Tryz.prog W "math/bits.deBruijn64tab" .u8 debL := Lib.tabIs_of_head gDeb tDeb Tryz.underlying176 Tryz.underlying5 (by kernel_rfl) (by kernel_rfl) h3
  exact ⟨h1, h2, hT.cell gDeb 15 (by decide)⟩
end Go.Proofs.YtklnpooninbogaaGreatDoor
