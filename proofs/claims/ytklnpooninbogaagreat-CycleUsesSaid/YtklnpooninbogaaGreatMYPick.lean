
import Derived.Test.YtklnpooninbogaaGreatMYAdd
import Derived.Test.YtklnpooninbogaaGreatPKeeps
import Derived.Test.YtklnpooninbogaaGreatMDHeap
import Derived.Test.YtklnpooninbogaaGreatMMHNew
namespace Go.Proofs.YtklnpooninbogaaGreat
open Go Go.Proofs Go.RowKit
set_option maxRecDepth 100000 in
theorem yPick (n : Int) (of : Nat) (h0 : 0 < of) (h1 : of ≤ 1000) (w : World) :
    Calls Tryz.prog 26 #[.int .i64 n, .int .i64 of] w fun e w' => e = .returned (.int .i64 (pk n of)) ∧ w' = w := by
  have b1 := Int.tmod_lt_of_pos n (show (0 : Int) < of by omega)
  have b2 : -(of : Int) < n.tmod of := by
    have h3 := Int.tmod_lt_of_pos (-n) (show (0 : Int) < of by omega)
    rw [Int.neg_tmod] at h3
    omega
  have hz : ((of : Int) == 0) = false := by simp; omega
  have hz2 : ¬ (of : Int) = 0 := by omega
  unfold pk
  by_cases hn : n.tmod of < 0
  · rw [if_pos hn]
    go_enter Tryz.func26, Tryz.ntmps26
    go_wp2_with fail
    go_ret
    exact ⟨rfl, rfl⟩
  · rw [if_neg hn]
    have g0 : decide (n.tmod of < 0) = false := by simpa using hn
    go_enter Tryz.func26, Tryz.ntmps26
    go_wp2_with fail
    go_ret
    exact ⟨rfl, rfl⟩
set_option maxRecDepth 100000 in
theorem yLink (wb : Nat) (c : WS) (m : List (Int × Value)) (p k a : Int) (n g j : Nat) (w : World) (hW : WBlk w wb c) (hm : IM w c.mp m) (hg : mget m p = some (obV k n a 0 g n)) (hd : Hd k n a 0) :
    Calls Tryz.prog 37 #[.pointer (some ⟨wb, 0, none⟩), .int .i64 p, .int .i64 j] w fun e w' => e = .returned (.bool (lkB k n j)) ∧ Fr [] w w' := by
  have c0 := Blk.cell hW (i := 0) rfl
  have hlk := run_lookup_im (P := Tryz.prog) hm Tryz.underlying66 Tryz.underlying3 (obZero w) p true
  rw [hg] at hlk
  simp only [Option.getD_some, obV, Option.isSome_some, if_true] at hlk
  have hF : Fr [] w (w.alloc (.cells #[.int .i64 k, .int .i64 n, .int .i64 a, .int .i64 0, .slice (some ⟨g, 0, none⟩) n n] 75)) := (Fr.refl [] w).alloc _
  have HF := hid hF
  have HL := hid (fun wx => dLink k n a 0 j hd wx)
  clear hW hm hg hF
  go_enter Tryz.func37, Tryz.ntmps37
  go_wp2_with fail
  refine (HL.out _).mono ?_
  rintro e w1 ⟨rfl, hF1⟩
  have HF1 := hid (HF.out.trans hF1)
  clear hF1 hlk c0
  go_wp2_with fail
  go_ret
  exact ⟨rfl, HF1.out⟩
def few18 (W Lg : Int) (cls : List Int) (n : Nat) : Bool := rightB W Lg cls && decide (W ≤ 600) && decide ((n : Int) ≤ 80)
set_option maxRecDepth 100000 in
set_option maxHeartbeats 1600000 in
theorem yFew (W Lg a b c d : Int) (sv v : Value) (cls : List Int) (l : List Int) (w : World) (hs : SlArg w sv cls) (hms : SlArg w v l) :
    Calls Tryz.prog 9 #[.agg #[.int .i64 W, .int .i64 Lg, .int .i64 a, .int .i64 b, .int .i64 c, .int .i64 d, sv], v] w fun e w' => e = .returned (.bool (few18 W Lg cls l.length)) ∧ Fr [] w w' := by
  obtain ⟨vp, vcap, rfl⟩ := slForm hms
  obtain ⟨sp, scap, rfl⟩ := slForm hs
  obtain ⟨N, hN⟩ : ∃ N, N = l.length := ⟨_, rfl⟩
  have B0 := Blk.new w [.int .i64 W, .int .i64 Lg, .int .i64 a, .int .i64 b, .int .i64 c, .int .i64 d, .slice sp cls.length scap] 24
  have HB0 := hid B0
  have hF0 : Fr [] w (w.alloc (.cells #[.int .i64 W, .int .i64 Lg, .int .i64 a, .int .i64 b, .int .i64 c, .int .i64 d, .slice sp cls.length scap] 24)) := (Fr.refl _ w).alloc _
  have HF0 := hid hF0
  have hs1 := hs.fr hF0 (by simp)
  have HS1 := hid hs1
  rw [← hN]
  clear B0 hF0 hs hs1 hms hN
  obtain ⟨rb, hrb⟩ : ∃ rb, rb = rightB W Lg cls := ⟨_, rfl⟩
  have hE : few18 W Lg cls N = (rb && decide (W ≤ 600) && decide ((N : Int) ≤ 80)) := by unfold few18; rw [hrb]
  rw [hE]
  have HRB := hid hrb
  clear hE hrb
  go_enter Tryz.func9, Tryz.ntmps9
  go_wp2_with fail
  refine (refRight W Lg a b c d _ cls _ HS1.out).mono ?_
  rintro e w1 ⟨rfl, hF1⟩
  rw [← HRB.out]
  have c0 := (HB0.out.fr hF1 (by simp)).cell (i := 0) rfl
  have HF1 := hid (HF0.out.trans hF1)
  clear hF1
  cases rb with
  | false =>
    go_wp2_with fail
    go_ret
    exact ⟨rfl, HF1.out⟩
  | true =>
    by_cases hw : W ≤ 600
    · have g1 : decide (W ≤ 600) = true := by simpa using hw
      go_wp2_with fail
      go_ret
      exact ⟨by simp [g1], HF1.out⟩
    · have g1 : decide (W ≤ 600) = false := by simpa using hw
      go_wp2_with fail
      go_ret
      exact ⟨by simp [g1], HF1.out⟩
set_option maxRecDepth 20000 in
set_option maxHeartbeats 800000 in
theorem yRegs (bx pb wb : Nat) (c : WS) (P : Nat → Prop) (regs : List Int) (w : World) (hbx : w.cell? ⟨bx, 0, none⟩ = some (.pointer (some ⟨pb, 0, none⟩))) (hpb : w.cell? ⟨pb, 3, none⟩ = some (.pointer (some ⟨wb, 0, none⟩))) (hW : WBlk w wb c) (hr : RdS w P c.rv regs) (h4 : 1 ≤ regs.length) (hl : regs.length ≤ 100) :
    Calls Tryz.prog 33 #[.pointer (some ⟨bx, 0, none⟩)] w fun e w' => ∃ v, e = .returned v ∧ RdS w' (fun b => w.heap.size ≤ b) v regs ∧ Fr [] w w' := by
  obtain ⟨Ar, cr, er, hlr, hx⟩ := hr
  have hb1 := World.block_lt_of_cell? w _ hbx
  have hb2 := World.block_lt_of_cell? w _ hpb
  have hW1 := Blk.alloc hW (.cells #[] 2)
  have c2 := Blk.cell hW1 (i := 2) rfl
  rw [er] at c2
  obtain ⟨a0, ha0⟩ : ∃ a0, regs[0]? = some a0 := ⟨_, List.getElem?_eq_getElem (by omega)⟩
  obtain ⟨gb, o, rfl, -, hgl, -⟩ := hx 0 a0 ha0
  have hF0 : Fr [] w (w.alloc (.cells #[] 2)) := (Fr.refl [] w).alloc _
  have e1 := (cell_fr hF0 (by simp) hb1 0).trans hbx
  have e2 := (cell_fr hF0 (by simp) hb2 3).trans hpb
  have HI := hid (info_parts infoI64y)
  have hown : (w.alloc (.cells #[] 2)).ownsRow w.heap.size 2 1 (.slice (some ⟨w.heap.size, 0, none⟩) 0 0) 0 [] :=
    ⟨rfl, .inr ⟨w.heap.size, 0, #[], rfl, Nat.le_refl _, heap_alloc_new w _, Nat.le_refl _, Nat.zero_le _, rfl, rfl⟩⟩
  obtain ⟨N, hN⟩ : ∃ N, N = regs.length := ⟨_, rfl⟩
  have hnews : ∀ j u, (regs.map (Value.int .i64))[j]? = some u → (w.alloc (.cells #[] 2)).cell? (Addr.add ⟨gb, o, none⟩ j) = some u := by
    intro j u hu
    rw [List.getElem?_map, Option.map_eq_some_iff] at hu
    obtain ⟨x, hx1, rfl⟩ := hu
    obtain ⟨g', o', e, -, h3, h5⟩ := hx j x hx1
    cases e
    rw [Addr.add_lit, World.cell?_alloc_past _ _ _ h3]
    exact h5
  rw [← hN] at c2 h4 hl
  clear er hx hW hbx hpb hW1 ha0 hF0 hlr
  go_enter Tryz.func33, Tryz.ntmps33
  obtain ⟨i0, hi, hz0, hz1, hz2⟩ := HI.out
  have h1' := hid hi
  have h2' := hid hz0
  have h3' := hid hz1
  have h4' := hid hz2
  have h5' := hid hnews
  have h6' := hid hown
  have h7' := hid hN
  clear hi hz0 hz1 hz2 hown hnews HI hN
  go_wp2_with (at_builtin; refine wpList_append_own _ rfl _ _ 67 rfl w.heap.size 2 i0 (.int .i64 0) 1 8 Tryz.underlying67 h1'.out h2'.out h3'.out h4'.out rfl (by decide) _ 0 [] rfl h6'.out ⟨gb, o, none⟩ N cr (regs.map (.int .i64)) rfl ?c0 h5'.out ?c1 ?c2 ?c3 ?c4 ?c5)
  case c0 => have := h7'.out; (try rw [List.length_map]); omega
  case c2 => simp only [maxLen]; omega
  case c3 => omega
  case c1 => first | (intro u hu; obtain ⟨x, _, rfl⟩ := List.mem_map.1 hu; rfl) | (intro u hu; simp [Value.oneCell'])
  case c5 =>
    intro v' w1 hown' hgrow hniliff
    have hF : Fr [] w w1 := ((Fr.refl _ w).alloc _).step (Fr.of_grownBy (S := [w.heap.size]) hgrow (by intro k hk; simp [Value.ownBlock] at hk; subst hk; simp)) (by simp)
    obtain ⟨-, h | ⟨g, cap', cur, hv, hg, hh, hc, -, hcs, ht⟩⟩ := hown'
    · omega
    (try simp only [Nat.zero_add] at hv hc)
    have HFI : Hid (RdS w1 (fun b => w.heap.size ≤ b) v' regs) := hid ⟨some ⟨g, 0, none⟩, cap', by rw [hv, h7'.out], ⟨by have := h7'.out; omega, by have := h7'.out; omega⟩, fun i x hx => ⟨g, 0, rfl, hg, (Array.getElem?_eq_some_iff.1 hh).1, by
      have ht2 : (cur.toList.take N) = regs.map (.int .i64) := by simpa using ht
      have h9 : (regs.map (Value.int .i64))[i]? = some (.int .i64 x) := by rw [List.getElem?_map, hx]; rfl
      rw [← ht2, List.getElem?_take] at h9
      have : cur[i]? = some (.int .i64 x) := by
        split at h9
        · simpa using h9
        · cases h9
      rw [Nat.zero_add]
      simp [World.cell?, hh, this]⟩⟩
    have HF := hid hF
    subst hv
    clear hgrow hniliff h1' h2' h3' h4' h5' h6' h7' hg hh hc hcs ht hF
    go_wp2_with fail
    go_ret
    exact ⟨_, rfl, HFI.out, HF.out⟩
end Go.Proofs.YtklnpooninbogaaGreat
