import Derived.Test.YtklnpooninbogaaGreatDoorPObj
namespace Go.Proofs.YtklnpooninbogaaGreatDoor
open Go Go.Proofs Go.RowKit

/-- An allocation that goes well, for there is room, and nothing White. -/
theorem hAllocRoom (L : HL) (s : HS) (A : Rg) (z : Int → Int) (k a c : Int) (n j : Nat) (w : World) (hH : HRep w L s) (hI : HI s A z) (hd : Hd k n a s.parity) (hj : ixGe s.cls n = j) (hc : s.cls[j]? = some c) (hnc : (n : Int) ≤ c) (hWn : (A (some j)).W = []) (hfit : c + 3 ≤ s.edge - s.top) :
    Calls Tryz.prog 8 #[.pointer (some ⟨L.hb, 0, none⟩), .int .i64 k, .int .i64 a, .int .i64 n] w fun e w' => ∃ p s' A' z', e = .returned (.tuple #[.int .i64 p, .int .i64 0]) ∧ HRep w' L s' ∧ Alc s s' A A' z z' (some j) p (packed k n a s.parity) n ∧ s'.top = s.top + (c + 3) ∧ Fr L.fp w w' := by
  have hn := hd.s1
  have ht1 := hI.top1
  have ht2 := hI.top2
  have he := hI.edge
  have hq : (some j : Option Nat) = if ixGe s.cls n = -1 then none else some (ixGe s.cls n).toNat := by rw [hj, if_neg (by omega)]; simp
  have hjl : j < s.cls.length := (List.getElem?_eq_some_iff.1 hc).1
  obtain ⟨r, hr⟩ : ∃ r, s.rs[j]? = some r := ⟨_, List.getElem?_eq_getElem (by rw [hI.nrs]; exact hjl)⟩
  have hcb := hI.cls c (List.mem_of_getElem? hc)
  have hR := hI.ring j r hr
  have hln : ∀ z' x, ln s.cls z' (some j) x = c + 3 := fun z' x => by simp [ln, hc]
  have hw0 : r.w = 0 := by
    have := hR.nw
    rw [hWn] at this
    simpa using this
  have hlen : (growW s.ws r s.top).length = s.ws.length := growW_len _ _ _
  have hrl : j < s.rs.length := (List.getElem?_eq_some_iff.1 hr).1
  refine (hAlloc L s k a n s.top (fun s' => ∃ du : Nat, s' = (s.grown j c r du).took j (r.grown s.top)) w hH hd ?_ ?_ (by omega) (by omega)).mono ?_
  · intro w hH
    refine (hCellGrow L s n j r c w hH hj hr hc hw0 hcb.1 hcb.2 hfit ht1 he (fun h => hR.okFirst h) (hI.tot hR)).mono ?_
    rintro e w' ⟨rfl, ⟨du, _, hH'⟩, hF⟩
    exact ⟨rfl, ⟨_, ⟨du, rfl⟩, hH'⟩, hF⟩
  · rintro s' ⟨du, rfl⟩; exact hlen
  · rintro e w' ⟨rfl, ⟨s1, ⟨du, rfl⟩, hH'⟩, hF⟩
    obtain ⟨g1, g2, g3⟩ := hI.grown hr hc hfit du
    have hr1 : (s.grown j c r du).rs[j]? = some (r.grown s.top) := by simp [HS.grown, hrl]
    have hW : ((A.up (some j) ((A (some j)).addW s.top)) (some j)).W = s.top :: [] := by rw [Rg.up_same]; simp [Rows.addW, hWn]
    obtain ⟨-, h2⟩ := g1.took hr1 hW
    rw [up_up, Rg.up_same] at h2
    refine ⟨s.top, _, _, _, rfl, hH', Alc.fin _ h2 ⟨[], rfl, .inr ⟨hWn, ?_, fun _ => rfl⟩⟩ (by rw [hln]; omega) (fun q' c _ => rfl) ?_ rfl rfl rfl hlen hq, rfl, hF⟩
    · intro hm
      rcases g3 _ _ hm with h | h <;> exact absurd rfl h
    · intro q' x hx _
      exact ⟨(g2 q' x hx).head, (g2 q' x hx).body⟩
end Go.Proofs.YtklnpooninbogaaGreatDoor
