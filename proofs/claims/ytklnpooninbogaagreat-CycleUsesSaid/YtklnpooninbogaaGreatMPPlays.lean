
import Derived.Test.YtklnpooninbogaaGreatMDJoin
import Derived.Test.YtklnpooninbogaaGreatHSweep
import Derived.Test.YtklnpooninbogaaGreatMMXDel
namespace Go.Proofs.YtklnpooninbogaaGreat
open Go Go.Proofs Go.RowKit
theorem HI.allNd {s : HS} {A : Rg} {z : Int → Int} (hi : HI s A z) (q : Option Nat) : (A q).all.Nodup := by
  cases q with
  | none => exact hi.lring.cells.nodup
  | some k =>
    rcases Nat.lt_or_ge k s.rs.length with hk | hk
    · exact (hi.ring k _ (List.getElem?_eq_getElem hk)).cells.nodup
    · rw [hi.out k hk]; exact List.nodup_nil
theorem rowsNd {R : Rows} (h : R.all.Nodup) : (R.W.Nodup ∧ R.F.Nodup ∧ R.G.Nodup ∧ R.B.Nodup) ∧ (∀ x ∈ R.W, x ∉ R.F ∧ x ∉ R.G ∧ x ∉ R.B) ∧ (∀ x ∈ R.F, x ∉ R.G ∧ x ∉ R.B) ∧ (∀ x ∈ R.G, x ∉ R.B) := by
  unfold Rows.all at h
  simp only [List.nodup_append, List.mem_append] at h
  obtain ⟨a1, ⟨a2, ⟨a4, a6, a7⟩, a5⟩, a3⟩ := h
  exact ⟨⟨a1, a2, a4, a6⟩, fun x hx => ⟨fun h => a3 x hx x (.inl h) rfl, fun h => a3 x hx x (.inr (.inl h)) rfl, fun h => a3 x hx x (.inr (.inr h)) rfl⟩, fun x hx => ⟨fun h => a5 x hx x (.inl h) rfl, fun h => a5 x hx x (.inr h) rfl⟩, fun x hx h => a7 x hx x h rfl⟩
theorem mem_rows {R : Rows} {x : Int} : x ∈ R.all ↔ x ∈ R.W ∨ x ∈ R.F ∨ x ∈ R.G ∨ x ∈ R.B := by simp [Rows.all]
def updO (obs : List Ob) (p : Int) (f : Ob → Ob) : List Ob := obs.map fun o => if o.p = p then f o else o
theorem mem_updO {obs : List Ob} {p : Int} {f : Ob → Ob} {o' : Ob} : o' ∈ updO obs p f ↔ ∃ o ∈ obs, o' = if o.p = p then f o else o := by
  unfold updO
  rw [List.mem_map]
  constructor
  · rintro ⟨o, h1, h2⟩; exact ⟨o, h1, h2.symm⟩
  · rintro ⟨o, h1, h2⟩; exact ⟨o, h1, h2.symm⟩
theorem mget_none {m : List (Int × Value)} {k : Int} (h : k ∉ m.map Prod.fst) : mget m k = none := by
  induction m with
  | nil => rfl
  | cons y r ih =>
    rw [List.map_cons, List.mem_cons, not_or] at h
    unfold mget
    rw [if_neg h.1]; exact ih h.2
end Go.Proofs.YtklnpooninbogaaGreat
