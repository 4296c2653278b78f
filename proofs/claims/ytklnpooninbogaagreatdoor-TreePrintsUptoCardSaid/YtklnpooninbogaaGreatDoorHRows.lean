import Derived.Test.YtklnpooninbogaaGreatDoorHBegin
import Derived.Test.YtklnpooninbogaaGreatDoorMHeapAlloc
import Derived.Test.YtklnpooninbogaaGreatDoorMXDel
namespace Go.Proofs.YtklnpooninbogaaGreatDoor
open Go Go.Proofs Go.RowKit

/-- What no operation on rings turns. -/
structure Sta (s s' : HS) : Prop where
  cls : s'.cls = s.cls
  parity : s'.parity = s.parity
  edge : s'.edge = s.edge
  top : s'.top = s.top
  x : s'.x = s.x
  len : s'.ws.length = s.ws.length
theorem Sta.refl (s : HS) : Sta s s := ⟨rfl, rfl, rfl, rfl, rfl, rfl⟩
theorem Sta.trans {a b c : HS} (h : Sta a b) (k : Sta b c) : Sta a c := ⟨k.cls.trans h.cls, k.parity.trans h.parity, k.edge.trans h.edge, k.top.trans h.top, k.x.trans h.x, k.len.trans h.len⟩
theorem Sta.tick (s : HS) (n : Int) : Sta s (s.tick n) := ⟨rfl, rfl, rfl, rfl, rfl, rfl⟩

/-- The ring of a size. -/
def qOf (cls : List Int) (n : Int) : Option Nat := if ixGe cls n = -1 then none else some (ixGe cls n).toNat
theorem qOf_some {cls : List Int} {n : Int} {j : Nat} (h : qOf cls n = some j) : ixGe cls n = j := by
  unfold qOf at h
  split at h
  · cases h
  · rcases ixGe_cases cls n with h2 | ⟨k, _, h2, _⟩
    · contradiction
    · have := Option.some.inj h; omega
theorem qOf_none {cls : List Int} {n : Int} (h : qOf cls n = none) : ixGe cls n = -1 := by
  unfold qOf at h
  split at h
  · assumption
  · cases h

/-- What a shade does. -/
structure Shd (s s' : HS) (A : Rg) (z : Int → Int) (q : Option Nat) (p : Int) (F1 F2 : List Int) (word : Int) : Prop where
  hi : HI s' (A.up q ⟨(A q).W, F1 ++ F2, (A q).G ++ [p], (A q).B⟩) z
  head : gw s'.ws p = word
  body : ∀ j, 3 ≤ j → j < ln s.cls z q p → gw s'.ws (p + j) = gw s.ws (p + j)
  holds : ∀ q' c, c ∈ (A q').all → (q' ≠ q ∨ c ≠ p) → Holds s s' z q' c
  st : Sta s s'

theorem shW_len (ws : List Int) (r : RS) (c : Int) : (shW ws r c).length = ws.length := by
  unfold shW; split <;> simp [pt_len, ct_len]

/-- What Done does. -/
structure Dne (s s' : HS) (A : Rg) (z : Int → Int) (q : Option Nat) (c : Int) (G : List Int) : Prop where
  hi : HI s' (A.up q ⟨(A q).W, (A q).F, G, c :: (A q).B⟩) z
  ws : s'.ws = s.ws
  st : Sta s s'

/-- A ring stands ahead of another one. -/
def Ahead : Option Nat → Option Nat → Prop
  | some j, some k => j < k
  | some _, none => True
  | none, _ => False

def NextRows (L : HL) (s : HS) (A : Rg) (w : World) (e : Ending) (w' : World) : Prop :=
  Fr [L.ab] w w' ∧ ((e = .returned (.tuple #[.int .i64 0, .bool false]) ∧ HRep w' L s ∧ NoG A) ∨
    ∃ q G c, (A q).G = G ++ [c] ∧ (∀ q', Ahead q' q → (A q').G = []) ∧ e = .returned (.tuple #[.int .i64 c, .bool true]) ∧ HRep w' L (s.tick 1))

end Go.Proofs.YtklnpooninbogaaGreatDoor
