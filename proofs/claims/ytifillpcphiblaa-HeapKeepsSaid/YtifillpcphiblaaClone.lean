import Derived.Test.YtifillpcphiblaaHeapNew
namespace Go.Proofs.Ytifillpcphiblaa
open Go Go.Proofs Go.RowKit

/-- Elements that came in: they are read only. -/
def RdAt (w : World) (b o : Nat) (vs : List Value) : Prop := b < w.heap.size ∧ ∀ i v, vs[i]? = some v → w.cell? ⟨b, o + i, none⟩ = some v
theorem RdAt.fr {S : List Nat} {w w' : World} {b o : Nat} {vs : List Value} (h : RdAt w b o vs) (hf : Fr S w w') (hb : b ∉ S) : RdAt w' b o vs :=
  ⟨Nat.lt_of_lt_of_le h.1 hf.size, fun i v hv => (cell_fr hf hb h.1 (o + i)).trans (h.2 i v hv)⟩

theorem info_int : (Try.prog.info? 3).map (fun i => (i.zero, i.size, i.bytes)) = some (some (.int .i64 0), 1, 8) := by kernel_rfl

theorem ownsRow_rd {w : World} {base : Nat} {e : TypeId} {v : Value} {n : Nat} {xs : List Value} (h : w.ownsRow base e 1 v n xs) (hn : 1 ≤ n) : ∃ g cap, v = .slice (some ⟨g, 0, none⟩) n cap ∧ base ≤ g ∧ Rd w g xs := by
  obtain ⟨hl, h | ⟨g, cap, cur, hv, hg, hh, hc, -, hcs, ht⟩⟩ := h
  · omega
  · refine ⟨g, cap, hv, hg, (Array.getElem?_eq_some_iff.1 hh).1, fun i u hu => ?_⟩
    rw [← ht] at hu
    have : cur[i]? = some u := by
      rw [List.getElem?_take] at hu
      split at hu
      · simpa using hu
      · cases hu
    simp [World.cell?, hh, this]

theorem Fr.of_grownBy {w w' : World} {row : Option Nat} (h : w.grownBy w' row) {S : List Nat} (hS : ∀ k, row = some k → k ∈ S ∨ w.heap.size ≤ k) : Fr S w w' :=
  ⟨h.os, h.tape, h.output, h.size, fun k hk hn => h.block k hk (fun e => (hS k e.symm).elim hn (fun h => by omega))⟩

set_option maxHeartbeats 800000 in
set_option maxRecDepth 20000 in
theorem sClone (b o cap : Nat) (vs : List Int) (w : World) (h1 : 1 ≤ vs.length) (h2 : vs.length ≤ 100) (hr : RdAt w b o (vs.map (.int .i64))) :
    Calls Try.prog 65 #[.slice (some ⟨b, o, none⟩) vs.length cap] w fun e w' => ∃ g cap', e = .returned (.slice (some ⟨g, 0, none⟩) vs.length cap') ∧ Rd w' g (vs.map (.int .i64)) ∧ Fr [] w w' ∧ w.heap.size ≤ g := by
  have HI := hid (info_parts info_int)
  have l1 := hr.1
  have hnil : ∀ w, (binOp .eql 22 (.slice (some ⟨b, o, none⟩) vs.length cap) (.slice none 0 0)).run Try.prog w = .ok (.bool false) w := fun _ => by kernel_rfl
  have hown : (w.alloc (.cells #[] 3)).ownsRow w.heap.size 3 1 (.slice (some ⟨w.heap.size, 0, none⟩) 0 0) 0 [] :=
    ⟨rfl, .inr ⟨w.heap.size, 0, #[], rfl, Nat.le_refl _, heap_alloc_new w _, Nat.le_refl _, Nat.zero_le _, rfl, rfl⟩⟩
  have hnews : ∀ j u, (vs.map (Value.int .i64))[j]? = some u → (w.alloc (.cells #[] 3)).cell? (Addr.add ⟨b, o, none⟩ j) = some u := by
    intro j u hu
    have := hr.2 j u hu
    unfold Addr.add
    split
    · rename_i e; subst e
      rw [World.cell?_alloc_past _ _ _ l1]; exact this
    · rw [World.cell?_alloc_past _ _ _ l1]; exact this
  go_enter Try.func65, Try.ntmps65
  obtain ⟨i0, hi, hz0, hz1, hz2⟩ := HI.out
  have h1' := hid hi
  have h2' := hid hz0
  have h3' := hid hz1
  have h4' := hid hz2
  have h5' := hid hnews
  have h6' := hid hown
  clear hi hz0 hz1 hz2 hown hnews HI
  go_wp2_with (at_builtin; refine wpList_append_own _ rfl _ _ 22 rfl w.heap.size 3 i0 (.int .i64 0) 1 8 Try.underlying22 h1'.out h2'.out h3'.out h4'.out rfl (by decide) _ 0 [] rfl h6'.out ⟨b, o, none⟩ vs.length cap (vs.map (.int .i64)) rfl ?c0 h5'.out ?c1 ?c2 ?c3 ?c4 ?c5)
  case c0 => simp
  case c2 => simp only [maxLen]; omega
  case c3 => omega
  case c4 => simp
  case c1 => intro u hu; simp only [List.mem_map] at hu; obtain ⟨x, _, rfl⟩ := hu; rfl
  case c5 =>
    intro v' w1 hown' hgrow hniliff
    have hF : Fr [] w w1 := ((Fr.refl _ w).alloc _).step (Fr.of_grownBy (S := [w.heap.size]) hgrow (by intro k hk; simp [Value.ownBlock] at hk; subst hk; simp)) (by simp)
    obtain ⟨g, cap', hv, hg, hrd⟩ := ownsRow_rd hown' h1
    subst hv
    clear hown' hgrow hniliff h1' h2' h3' h4' h5' h6'
    go_wp2_with fail
    go_ret
    exact ⟨g, cap', rfl, hrd, hF, hg⟩
end Go.Proofs.Ytifillpcphiblaa
