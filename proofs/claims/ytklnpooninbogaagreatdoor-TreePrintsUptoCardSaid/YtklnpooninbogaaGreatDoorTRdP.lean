import Derived.Test.YtklnpooninbogaaGreatDoorTTree
import Derived.Test.YtklnpooninbogaaGreatDoorPTree
namespace Go.Proofs.YtklnpooninbogaaGreatDoor
open Go Go.Proofs Go.RowKit

/-! Reading back, plainly: which tree lies at an address. -/

/-- At place q there stands an object. -/
structure ObjW (ws : List Int) (q k z a m : Int) : Prop where
  p0 : 0 ≤ q
  p1 : q + 3 + z ≤ ws.length
  hp : gw ws q = packed k z a m
  hd : Hd k z a m
/-- By h objects of kind Ind from p to q. -/
def Chain (ws : List Int) : Nat → Int → Int → Prop
  | 0, p, q => p = q
  | h + 1, p, q => ∃ z a m, ObjW ws p 5 z a m ∧ 1 ≤ z ∧ Chain ws h (gw ws (p + 3 + 0)) q
/-- What an address is read back as, to a depth, where l trees may be told; l' may still be told behind it. -/
def RdT (ws : List Int) : Nat → Int → Nat → Tr → Nat → Prop
  | 0, _, l, t, l' => t = .no ∧ l' = l
  | d + 1, p, l, t, l' => ((p = 0 ∨ l = 0) ∧ t = .no ∧ l' = l) ∨ (p ≠ 0 ∧ l ≠ 0 ∧ ∃ h q k z a m, Chain ws h p q ∧ ObjW ws q k z a m ∧ k ≠ 5 ∧
      ((k = 7 ∧ 1 ≤ z ∧ t = .mk 7 0 false (IntKind.u64.wrap (gw ws (q + 3 + 0))) [] ∧ l' = l - 1) ∨
       (k = 8 ∧ 1 ≤ z ∧ t = .mk 8 0 true (IntKind.u64.wrap (gw ws (q + 3 + 0))) [] ∧ l' = l - 1) ∨
       (k = 1 ∧ ∃ (ts : List Tr) (ls : Nat → Nat), t = .mk 1 a false 0 ts ∧ (ts.length : Int) = z ∧ ls 0 = l - 1 ∧ l' = ls ts.length ∧ ∀ (i : Nat) (x : Tr), ts[i]? = some x → RdT ws d (gw ws (q + 3 + (i : Int))) (ls i) x (ls (i + 1))) ∨
       (k ≠ 7 ∧ k ≠ 8 ∧ k ≠ 1 ∧ t = .mk k 0 false 0 [] ∧ l' = l - 1)))

theorem ls_le {ls : Nat → Nat} {n : Nat} (h : ∀ i, i < n → ls (i + 1) ≤ ls i) : ∀ i, i ≤ n → ls i ≤ ls 0
  | 0, _ => Nat.le_refl _
  | i + 1, hi => Nat.le_trans (h i (by omega)) (ls_le h i (by omega))
theorem RdT.le {ws : List Int} : ∀ {d : Nat} {p : Int} {l : Nat} {t : Tr} {l' : Nat}, RdT ws d p l t l' → l' ≤ l
  | 0, _, _, _, _, h => Nat.le_of_eq h.2
  | d + 1, p, l, t, l', h => by
    rcases h with ⟨_, _, rfl⟩ | ⟨_, _, n, q, k, z, a, m, _, _, _, ⟨_, _, _, rfl⟩ | ⟨_, _, _, rfl⟩ | ⟨_, ts, ls, _, _, h0, rfl, hts⟩ | ⟨_, _, _, _, rfl⟩⟩
    · exact Nat.le_refl _
    · omega
    · omega
    · have := ls_le (ls := ls) (n := ts.length) (fun i hi => RdT.le (hts i _ (List.getElem?_eq_getElem hi))) ts.length (Nat.le_refl _)
      omega
    · omega

/-- law20.TreeBounds: the tree of an object of n links to itself. -/
def rgT (n : Nat) : Nat → Nat → Tr
  | 0, _ => .no
  | _ + 1, 0 => .no
  | d + 1, l + 1 => .mk 1 1 false 0 ((List.range n).map fun i => rgT n d (itl (lf n d) i l))
theorem rgT_read {ws : List Int} {n : Nat} {p m : Int} (hO : ObjW ws p 1 n 1 m) (hp : p ≠ 0) (hw : ∀ i : Nat, i < n → gw ws (p + 3 + (i : Int)) = p) : ∀ d l, RdT ws d p l (rgT n d l) (lf n d l)
  | 0, l => ⟨rfl, rfl⟩
  | d + 1, 0 => Or.inl ⟨.inr rfl, rfl, rfl⟩
  | d + 1, l + 1 => by
    refine Or.inr ⟨hp, by omega, 0, p, 1, n, 1, m, rfl, hO, by omega, .inr (.inr (.inl ⟨rfl, (List.range n).map (fun i => rgT n d (itl (lf n d) i l)), fun i => itl (lf n d) i l, rfl, by simp, rfl, ?_, ?_⟩))⟩
    · simp only [List.length_map, List.length_range]; rfl
    · intro i x hx
      rw [List.getElem?_map, Option.map_eq_some_iff] at hx
      obtain ⟨j, hj, rfl⟩ := hx
      have hl := (List.getElem?_eq_some_iff.1 hj).1
      rw [List.length_range] at hl
      rw [List.getElem?_range hl] at hj
      cases hj
      rw [hw i hl]
      exact rgT_read hO hp hw d (itl (lf n d) i l)
end Go.Proofs.YtklnpooninbogaaGreatDoor
