import Derived.Test.YtklnpooninbogaaGreatDoorTBounds
import Derived.Test.YtklnpooninbogaaGreatDoorRows
import Derived.ProofKit
import Derived.LaidMore
import Derived.OpenShut
import Derived.Stop.LaidErr
import Derived.Lib.LaidTab
namespace Go.Proofs.YtklnpooninbogaaGreatDoor
open Go Go.Proofs Go.RowKit Go.ChangeShapes Go.WideShapes Go.ChangeAt

/-! What the listed variables hold. -/

theorem own : ownKnob Tryz.prog.godebug = none := by kernel_rfl
def laid4 : List (String × DataW Unit) := [("math/bits.deBruijn32tab", Rows.laid_math_bits_deBruijn32tab), ("math/bits.deBruijn64tab", Rows.laid_math_bits_deBruijn64tab), ("internal/strconv.uint64pow10", Rows.laid_internal_strconv_uint64pow10), ("treadwheel/tree.names", Rows.laid_treadwheel_tree_names)]
theorem gNames : Tryz.prog.globalNamed "treadwheel/tree.names" = some 0 := by kernel_rfl
theorem tNames : (Tryz.prog.globals[0]?).map (·.type) = some 83 := by kernel_rfl
theorem gPow : Tryz.prog.globalNamed "internal/strconv.uint64pow10" = some 2 := by kernel_rfl
theorem tPow : (Tryz.prog.globals[2]?).map (·.type) = some 171 := by kernel_rfl
theorem door_met (os : Os) (args : Array Value) : laidMetH Tryz.prog laid4 ((World.doorLaid Tryz.prog 400 os).forCall (fun _ _ => 0) ⟨#[], args, []⟩).memory :=
  laidMetH_of_parts3 (fuel := 8) (laidMet_of_run' 8 (by kernel_rfl) (by kernel_rfl)) (by kernel_rfl) (by kernel_rfl)

theorem names_of {W : World} (h : laidMet Tryz.prog [("treadwheel/tree.names", Rows.laid_treadwheel_tree_names)] W) : NamesAt W := by
  obtain ⟨ps, ⟨g0, t0, cs0, f0, p0, q0, hg0, ht0, hv0, hd0, -, -⟩, -⟩ := h
  obtain rfl := Option.some.inj (gNames.symm.trans hg0)
  obtain rfl := Option.some.inj (tNames.symm.trans ht0)
  obtain ⟨xs, m1, rfl, hx1, hlen, hn3, hel⟩ := DataW.trod_array Tryz.underlying83 hd0
  have c9 : Tryz.prog.cellsOf 9 = 1 := by kernel_rfl
  have c83 : Tryz.prog.cellsOf 83 = 11 := by kernel_rfl
  rw [c83] at hlen
  have hx2 : (xs.map (·.1)) = [.lit (.string []), .lit (.string []), .lit (.string [116, 104, 117, 110, 107]), .lit (.string [102, 117, 110]), .lit (.string [112, 97, 112]), .lit (.string []), .lit (.string [104, 111, 108, 101]), .lit (.string []), .lit (.string []), .lit (.string [119, 101, 97, 107]), .lit (.string [116, 111, 109, 98])] := by
    have := (Prod.mk.inj hx1).1
    exact (DataW.agg.inj this).symm
  intro k hk
  have hcell := World.var?_cell hg0 hv0 k
  have hl := hel k (by omega)
  rw [c9, Nat.mul_one] at hl
  obtain ⟨x, hx⟩ : ∃ x, xs[k]? = some x := ⟨_, List.getElem?_eq_getElem (by omega)⟩
  rw [hx] at hl
  obtain ⟨s, e1, e2, -⟩ := DataW.trod_string Tryz.underlying9 hl
  have hck : cs0.toList[k]? = some (.string s) := by
    have : ((cs0.toList.drop k).take 1)[0]? = some (.string s) := by rw [e1]; rfl
    simpa [List.getElem?_take, List.getElem?_drop] using this
  have hn : (xs.map (·.1))[k]? = some (.lit (.string s.data.toList)) := by rw [List.getElem?_map, hx, e2]; rfl
  have hs : s.data.toList = nmK k := by
    rw [hx2] at hn
    match k, hk, hn with
    | 0, _, hn => simpa [nmK] using hn.symm
    | 1, _, hn => simpa [nmK] using hn.symm
    | 2, _, hn => simpa [nmK] using hn.symm
    | 3, _, hn => simpa [nmK] using hn.symm
    | 4, _, hn => simpa [nmK] using hn.symm
    | 5, _, hn => simpa [nmK] using hn.symm
    | 6, _, hn => simpa [nmK] using hn.symm
    | 7, _, hn => simpa [nmK] using hn.symm
    | 8, _, hn => simpa [nmK] using hn.symm
    | 9, _, hn => simpa [nmK] using hn.symm
    | 10, _, hn => simpa [nmK] using hn.symm
  have : W.cell? ⟨0, k, none⟩ = some (.string s) := by
    rw [hcell]
    simpa using hck
  rw [this]
  unfold str
  rw [← hs, ← baList]

theorem of_laid {W : World} (h : laidMetH Tryz.prog laid4 W) : NamesAt W ∧ Lib.TabIs Tryz.prog W "internal/strconv.uint64pow10" .u64 Lib.pow10Tab := by
  rw [MakeChecks.laidMetH_plain _ _ _ (by kernel_rfl)] at h
  have h3 := h.tail.tail
  exact ⟨names_of h3.tail, Lib.tabIs_of_head gPow tPow Tryz.underlying171 Tryz.underlying33 (by kernel_rfl) (by kernel_rfl) h3⟩
end Go.Proofs.YtklnpooninbogaaGreatDoor
