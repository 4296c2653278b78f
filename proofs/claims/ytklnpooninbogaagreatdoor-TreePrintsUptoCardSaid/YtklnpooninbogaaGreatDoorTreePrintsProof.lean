/-
  The call of TreePrints returns true for all trees and declarations whose bulk is within the row's bound, and leaves all that was in memory as it was, where the listed tables hold what the program's text lays.
  Conditions: none but those of the given row (the bound on the input's bulk; the listed variables, which the given card ties to the program's text).
-/
import Derived.Test.YtklnpooninbogaaGreatDoorTPrints
import Derived.Test.YtklnpooninbogaaGreatDoorTLaid2
import Derived.Test.YtklnpooninbogaaGreatDoorCards
import Derived.Test.YtklnpooninbogaaGreatDoorTie
import Derived.SevenTiedAt
import Derived.Deep.DeepHandedRow
import Derived.Deep.DeepWitnessRowRef
namespace Go.Proofs.YtklnpooninbogaaGreatDoor
open Go Go.Proofs Go.RowKit Go.ChangeShapes Go.WideShapes Go.ChangeAt

theorem laidB : laidOutB Tryz.prog = true := by kernel_rfl
theorem read_tree : Tryz.prog.readableRec 38 = true := by kernel_rfl
theorem row_tree : 38 < Tryz.prog.types.size := of_decide_eq_true (by kernel_rfl)
theorem read_decls : Tryz.prog.readableRec 47 = true := by kernel_rfl
theorem row_decls : 47 < Tryz.prog.types.size := of_decide_eq_true (by kernel_rfl)

set_option maxRecDepth 100000 in
/-- What the walk gives, for every input within the bound and every world that holds the tables. -/
theorem treePrints_contract (H : Type) (enc : TypeId × Value → H) (W : World) (base : Nat) (args : Array Value) (ds gs : List (DataW H)) (before : List MemPlace)
    (hval0 : ∀ (j : Nat) t v, Tryz.f5.params[j]? = some t → args[j]? = some v → Value.okWide Tryz.prog W .any base t v)
    (hW : DataW.Whole enc Tryz.prog Tryz.f5.params.toList Rows.treePrintsSpec.vars false W args.toList ds gs before) (hbk : Rows.uptoSmall H (ds ++ gs) = true) (hL : laidMetH Tryz.prog laid4 W) :
    Calls Tryz.prog 5 args W fun e W' => ∃ v, e = .returned v ∧ Rows.treePrintsSpec.post enc Tryz.prog Tryz.f5 false true false false W args v W' := by
  have hval : ∀ (j : Nat) t v, Tryz.f5.params[j]? = some t → args[j]? = some v → Value.okWide Tryz.prog W .any base t v := hval0
  have hW' := hW
  obtain ⟨p, q, hA0, hV, rfl, hfz, hnd⟩ := hW
  have hA : DataW.TrodAll enc Tryz.prog W 0 (fun _ => true) true Tryz.f5.params.toList args.toList ds p := hA0
  rw [Tryz.params5] at hA hval
  obtain ⟨v0, vs0, d0, ds0, p0, q0, hargs, rfl, rfl, h0, r0⟩ := trodAll_cons hA
  obtain ⟨v1, vs1, d1, ds1, p1, q1, rfl, rfl, rfl, h1, r1⟩ := trodAll_cons r0
  obtain ⟨v2, vs2, d2, ds2, p2, q2, rfl, rfl, rfl, h2, r2⟩ := trodAll_cons r1
  obtain ⟨rfl, rfl, rfl⟩ := trodAll_nil r2
  obtain rfl : args = #[v0, v1, v2] := by cases args; simp_all
  obtain ⟨rfl, rfl⟩ := trodVars_none hV
  have hbk' : Rows.uptoBulkAll [d0, d1, d2] ≤ 1048576 := of_decide_eq_true hbk
  simp only [Rows.uptoBulkAll] at hbk'
  obtain ⟨m0, T0, hT0, hc0, ha0⟩ := open_tree (hval 0 38 v0 rfl rfl) rfl h0
  obtain ⟨m1, T1, hT1, hc1, -⟩ := open_tree (hval 1 38 v1 rfl rfl) rfl h1
  obtain ⟨cs, hcv, hcs⟩ := open_cons (hval 2 47 v2 rfl rfl) rfl h2
  clear hA0 hval0
  simp only [List.append_nil] at hW'
  have hL2 := of_laid2 hL
  refine (lawTP m0 m1 T0 T1 v0 v1 v2 cs (fun _ => True) (fun _ => True) W hT0 hT1 hcv ha0 (by omega) (by omega) (fun s hs => by have := hcs s hs; omega) hL2.1 hL2.2).mono fun e W' ⟨he, hg⟩ => ?_
  subst he
  have hb' : Below W.heap.size W W' := hg.below (Nat.le_refl _) (by simp)
  have hlt : ∀ x ∈ p0 ++ (p1 ++ p2), x.block < W.heap.size := fun x hx => hW'.lt x (by simpa using hx)
  have hargs2 : DataW.TrodAll enc Tryz.prog W' 0 (fun b => decide (b < W.heap.size)) true [38, 38, 47] [v0, v1, v2] [d0, d1, d2] (p0 ++ (p1 ++ (p2 ++ []))) :=
    trodAll_cons_mk (Below.trod laidB read_tree row_tree h0 hb' (fun x hx => hlt x (by simp [hx])))
      (trodAll_cons_mk (Below.trod laidB read_tree row_tree h1 hb' (fun x hx => hlt x (by simp [hx])))
        (trodAll_cons_mk (Below.trod laidB read_decls row_decls h2 hb' (fun x hx => hlt x (by simp [hx]))) trodAll_mk0))
  have hargs3 : DataW.TrodAll enc Tryz.prog W' 0 (fun b => decide (b < W.heap.size)) true [38, 38, 47] [v0, v1, v2] [d0, d1, d2] (p0 ++ (p1 ++ p2)) := by simpa using hargs2
  exact ⟨_, rfl, [d0, d1, d2], [], p0 ++ (p1 ++ p2), [], p0 ++ (p1 ++ p2), [], by simpa using hW', trodAll_cons_mk (shut_bool Tryz.underlying4 _) trodAll_mk0, hargs3, rfl, hb'.frame _, fun h => by cases h⟩

theorem treePrints_reads (os : Os) {H : Type} (enc : TypeId × Value → H) : ∃ places, DataW.whole enc Tryz.prog ((World.doorLaid Tryz.prog 400 os).forCall (fun _ _ => 0) ⟨#[], #[.agg #[.int .i64 0, .int .i64 0, .bool false, .int .u64 0, .slice none 0 0], .agg #[.int .i64 0, .int .i64 0, .bool false, .int .u64 0, .slice none 0 0], .slice none 0 0], []⟩).memory Tryz.f5.params.toList Rows.treePrintsSpec.vars false #[Value.agg #[.int .i64 0, .int .i64 0, .bool false, .int .u64 0, .slice none 0 0], .agg #[.int .i64 0, .int .i64 0, .bool false, .int .u64 0, .slice none 0 0], .slice none 0 0].toList 8 =
    some ([.agg [.lit (.int .i64 0), .lit (.int .i64 0), .agg [.lit (.bool false), .lit (.int .u64 0)], .nil], .agg [.lit (.int .i64 0), .lit (.int .i64 0), .agg [.lit (.bool false), .lit (.int .u64 0)], .nil], .nil], [], places) :=
  ⟨[], by kernel_rfl⟩

set_option maxRecDepth 100000 in
theorem treePrints_lifted (os : Os) (started : os.Started) (H : Type) (enc : TypeId × Value → H) (F : Stop.Interp) :
    ReturnsInHanded {} Tryz.checked os 5 .any ((Rows.OpenSpec.upto Rows.treePrintsSpec).preRow enc Tryz.prog Tryz.f5 Rows.treePrintsUptoRow.domain false Rows.treePrintsUptoRow.laid) (((Rows.OpenSpec.upto Rows.treePrintsSpec).at F).post enc Tryz.prog Tryz.f5 false true false false) := by
  obtain ⟨places, hx⟩ := treePrints_reads os enc
  refine returnsInHanded_of_row (C := Tryz.checked) (s := Rows.OpenSpec.upto Rows.treePrintsSpec) own started (by kernel_rfl) Tryz.func5
    (witness_row_atRef (enc := enc) (C := Tryz.checked) false (World.doorLaid Tryz.prog 400 os) #[.agg #[.int .i64 0, .int .i64 0, .bool false, .int .u64 0, .slice none 0 0], .agg #[.int .i64 0, .int .i64 0, .bool false, .int .u64 0, .slice none 0 0], .slice none 0 0] rfl (by kernel_rfl) (by kernel_rfl) (by kernel_rfl)
      (OpenSpec.preRow_of_cond 8 hx (by kernel_rfl) (fun k hk => by cases hk; kernel_rfl) (by kernel_rfl) (door_met os _))) ?_
  intro W base args ds gs before hval hW _ hcond _ hL _ _
  exact treePrints_contract H enc W base args ds gs before hval hW (hcond _ rfl) hL

theorem treePrints_said : Rows.TreePrintsUptoSaid :=
  OpenClaim.holds_of_cond 5 Tryz.f5 rfl rfl rfl rfl rfl rfl rfl ⟨rfl, rfl, rfl, rfl, rfl⟩ rfl rfl rfl rfl rfl (by kernel_rfl) Tryz.func5 (by kernel_rfl)
    (of_decide_eq_true (by kernel_rfl)) (by unfold Func.isWrapper; first | (rw [if_pos (by decide +kernel)]; kernel_rfl) | (rw [if_neg (by decide +kernel)]; exact ⟨rfl, rfl⟩))
    (fun os started H enc _ F => by rw [OpenClaim.pre_eq_preRow]; exact treePrints_lifted os started H enc F)

theorem treePrintsUpto_holds : Rows.TreePrintsUptoCardSaid :=
  Claim7.holds_tied_plain_at .later [] _ _ _ _ treePrints_said (fun _ h => by cases h) (by kernel_rfl) (fun _ h => by cases h) treePrintsUpto_row_tie rfl ⟨rfl, rfl⟩ (by kernel_rfl) rfl
    (fun f fn hf hfn => by
      obtain rfl : f = 5 := Option.some.inj ((show Tryz.prog.funcNamed "treadwheel/treadwheellaw20.TreePrints" = some 5 by kernel_rfl).symm.trans hf) |>.symm
      obtain rfl : fn = Tryz.f5 := (Option.some.inj (Tryz.func5.symm.trans hfn)).symm
      exact ⟨by kernel_rfl, fun j t ht => by
        rw [Tryz.params5] at ht
        have hm : t ∈ [38, 38, 47] := by simpa using Array.mem_of_getElem? ht
        have hall : ([38, 38, 47].all fun u => !Tryz.prog.wantsStandIn u) = true := by kernel_rfl
        exact (show Tryz.prog.wantsStandIn t = false by simpa using List.all_eq_true.1 hall t hm)⟩)
    (by kernel_rfl)
#print axioms treePrintsUpto_holds
end Go.Proofs.YtklnpooninbogaaGreatDoor
