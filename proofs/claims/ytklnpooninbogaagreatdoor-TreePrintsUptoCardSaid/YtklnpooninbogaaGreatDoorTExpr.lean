import Derived.Test.YtklnpooninbogaaGreatDoorTNum
import Derived.Laws.EntriesVeiled
import Derived.Deep.RegionWith
namespace Go.Proofs.YtklnpooninbogaaGreatDoor
open Go Go.Proofs Go.RowKit

/-! show.Expr, of a number. -/

/-- An expression that is a number. -/
def exN (f : Bool) (b : Int) : Value := .agg #[.int .i64 3, .string ⟨#[]⟩, .bool f, .int .u64 b, .slice none 0 0, .slice none 0 0, .slice none 0 0, .slice none 0 0]

def NumPost (l : List UInt8) (w : World) (e : Ending) (w' : World) : Prop := e = .returned (str l) ∧ Fr [] w w'
/-- A contract for a number's text. -/
def NumAt (f : Bool) (b : Int) (l : List UInt8) (w : World) : Prop := ∀ w', Fr [] w w' → Calls Tryz.prog 72 #[.agg #[.bool f, .int .u64 b]] w' (NumPost l w')

set_option maxRecDepth 100000 in
theorem shwNum (f : Bool) (b : Int) (l : List UInt8) (w : World) (h : NumAt f b l w) :
    Calls Tryz.prog 49 #[exN f b] w (NumPost l w) := by
  unfold exN
  go_enter Tryz.func49, Tryz.ntmps49
  go_wp2_with fail
  refine (h _ ((Fr.refl [] w).alloc _)).mono ?_
  rintro e w1 ⟨rfl, hF1⟩
  unfold str
  go_wp2_with fail
  go_ret
  exact ⟨rfl, ((Fr.refl _ w).alloc _).trans hF1⟩

set_option maxRecDepth 100000 in
theorem exprNum (f : Bool) (b : Int) (l : List UInt8) (w : World) (h : NumAt f b l w) :
    Calls Tryz.prog 30 #[exN f b] w (NumPost l w) := by
  unfold exN
  have h1 : ∀ w', Fr [] w w' → NumAt f b l w' := fun w' hF w2 hF2 => h w2 (hF.trans hF2)
  go_enter Tryz.func30, Tryz.ntmps30
  go_wp2_with fail
  go_region_with ((go_at_call 49; refine (shwNum f b l _ (h1 _ ?_)).mono ?_; (· exact ((((Fr.refl [] w).alloc _).alloc _).drew)); rintro e w1 ⟨rfl, hF1⟩; unfold str))
  all_goals
    go_wp2_with fail
    go_ret
    exact ⟨rfl, ((((Fr.refl [] w).alloc _).alloc _).drew).trans hF1⟩
end Go.Proofs.YtklnpooninbogaaGreatDoor
