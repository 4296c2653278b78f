import Derived.Test.YtifillpcphiblaaDReach
import Derived.Deep.QuietTactic
import Derived.Deep.DeepCutAuto
import Derived.BigQuiet
namespace Go.Proofs.Ytifillpcphiblaa
open Go Go.Proofs Go.RowKit

/-! ref16.Reached. -/

def mapLen (w : World) (b : Nat) : Nat := match w.heap[b]? with | some (.map es _) => es.size | _ => 0
theorem IM.mapLen {w : World} {mp : Nat} {m : List (Int × Value)} (h : IM w mp m) : mapLen w mp = m.length := by
  obtain ⟨es, ck, h1, h2, _⟩ := h
  unfold Ytifillpcphiblaa.mapLen
  rw [h1]
  have := congrArg List.length h2
  simpa using this
def slLen : Value → Nat
  | .slice _ n _ => n
  | _ => 0
theorem lv_lt {obs Lv : List Ob} (hn : Lv.Nodup) (hs : ∀ o ∈ Lv, o ∈ obs) {o : Ob} (ho : o ∈ obs) (hnew : o ∉ Lv) : Lv.length < obs.length := by
  have : (Lv ++ [o]).length ≤ obs.length := List.Nodup.length_le_of_subset (by
    rw [List.nodup_append]
    exact ⟨hn, by simp, fun x hx y hy e => by rw [List.mem_singleton.1 hy] at e; subst e; exact hnew hx⟩) (fun x hx => by
    rcases List.mem_append.1 hx with h | h
    · exact hs x h
    · rw [List.mem_singleton.1 h]; exact ho)
  simp at this
  omega

def ReachPost (obs : List Ob) (W0 : Int → Nat → Int) (fr : List Int) (w : World) (e : Ending) (w' : World) : Prop :=
  ∃ (om lk : Nat) (Lv : List Ob), e = .returned (.tuple #[.map (some om), .int .i64 lk]) ∧ w.heap.size ≤ om ∧ IM w' om ((Lv.map Ob.p).map fun x => (x, .bool true)) ∧ Lv.Nodup ∧ (∀ o ∈ Lv, o ∈ obs) ∧ (∀ o ∈ obs, o ∈ Lv ↔ Rch obs W0 fr o.p) ∧ lk = (Lv.map nl).sum ∧ Fr [] w w'

set_option maxRecDepth 100000 in
set_option maxHeartbeats 12800000 in
theorem dReached (mp B0 : Nat) (m : List (Int × Value)) (obs : List Ob) (G : Int → Nat) (wd : Ob → Nat → Int) (W0 : Int → Nat → Int) (fr : List Int) (fv : Value) (w : World) (hm : IM w mp m) (hd : DObs w B0 m 0 obs G wd) (hfr : Rowi w B0 fv fr) (hfl : fr.length ≤ 1000) (hol : obs.length ≤ 30) (hW : ∀ o ∈ obs, ∀ j, W0 o.p j = wd o j)
    (hone : ∀ o ∈ obs, ∀ o' ∈ obs, o.p = o'.p → o = o') (hnd : obs.Nodup) (hhd : ∀ o ∈ obs, Hd o.k o.n o.a 0) (hwr : ∀ o ∈ obs, ∀ j, j < o.n → wd o j = 0 ∨ ∃ o' ∈ obs, o'.p = wd o j) (hpos : ∀ o ∈ obs, 1 ≤ o.p ∧ o.p ≤ 65536) (hroots : ∀ x ∈ fr, ∃ o ∈ obs, o.p = x) :
    Calls Try.prog 58 #[.map (some mp), fv] w (ReachPost obs W0 fr w) := by
  have hmm := @run_makeMap Try.prog
  obtain ⟨Af, cf, rfl⟩ := hfr.form
  obtain ⟨nf, hnf⟩ : ∃ nf, nf = fr.length := ⟨_, rfl⟩
  rw [← hnf] at hfr hfl ⊢
  have M0 : IM ((w.alloc (.map #[] 0)).alloc (.cells #[] 3)) w.heap.size [] := (IM.new w).alloc _
  have hE : Rowi ((w.alloc (.map #[] 0)).alloc (.cells #[] 3)) w.heap.size (.slice (some ⟨w.heap.size + 1, 0, none⟩) 0 0) [] := by
    have := Rowi.empty (w.alloc (.map #[] 0)) (B := w.heap.size) (by simp)
    simpa using this
  have hF0 : Fr [] w ((w.alloc (.map #[] 0)).alloc (.cells #[] 3)) := ((Fr.refl _ w).alloc _).alloc _
  have hSr : Srci ((w.alloc (.map #[] 0)).alloc (.cells #[] 3)) Af nf fr := by
    have := ((hfr.alloc (.map #[] 0)).alloc (.cells #[] 3)).src
    rw [← hnf] at this
    exact this
  have hAf : Af = none → nf = 0 := by
    intro e
    rcases Nat.eq_zero_or_pos nf with h0 | h0
    · exact h0
    · obtain ⟨g, e1, _⟩ := hfr.at (by omega)
      rw [e] at e1; cases e1
  have HM0 := hid M0
  have HE := hid hE
  have HF0 := hid hF0
  have HSR := hid hSr
  have HAF := hid hAf
  have HIM := hid hm
  have HD := hid hd
  have HW := hid hW
  have HONE := hid hone
  have HHD := hid hhd
  have HWR := hid hwr
  have HPOS := hid hpos
  have HROOTS := hid hroots
  have HND := hid hnd
  have hNF := hid hnf
  clear M0 hE hF0 hSr hAf hm hd hW hone hhd hwr hpos hroots hnd hfr hnf
  go_enter Try.func58, Try.ntmps58
  go_wp2_with (at_builtin; refine wpList_appi rfl _ _ rfl w.heap.size (.slice (some ⟨w.heap.size + 1, 0, none⟩) 0 0) [] rfl HE.out Af nf cf fr rfl HSR.out HAF.out (by simp; omega) (by simp; omega) ?_)
  intro v1 w1 h1 f1 b1
  have hom : w.heap.size ∉ (Value.slice (some ⟨w.heap.size + 1, 0, none⟩) 0 0).ownBlock.toList := by simp [Value.ownBlock]
  have hM1 := HM0.out.fr f1 hom
  have hF1 : Fr [] w w1 := HF0.out.step f1 (fun y hy => .inr (by simp [Value.ownBlock] at hy; omega))
  have hv1 : ∀ g, v1.ownBlock = some g → g ≠ w.heap.size := by
    intro g hg
    rcases b1 with b1 | b1
    · rw [b1] at hg; simp [Value.ownBlock] at hg; omega
    · rw [b1] at hg; simp at hg; omega
  have dfs0 : DFS obs W0 fr [] fr 0 := ⟨List.nodup_nil, fun o ho => (by cases ho), fun x hx => by
      obtain ⟨o, ho, e⟩ := HROOTS.out x hx
      exact ⟨o, ho, e, Rch.root _ (by rw [e]; exact hx)⟩, fun o ho => (by cases ho), fun o _ hp => .inr hp, rfl, by simp⟩
  have HM1 := hid hM1
  have HF1 := hid hF1
  have H1 := hid h1
  have HV1 := hid hv1
  have HDF := hid dfs0
  clear hM1 hF1 h1 f1 b1 hv1 dfs0 hom hmm
  go_wp2_with fail
  go_loopw [7, 8] (fun wv lv wr => ∃ (Lv : List Ob) (work : List Int) (lk : Nat), lv = .int .i64 lk ∧ Rowi wr w.heap.size wv work ∧ (∀ g, wv.ownBlock = some g → g ≠ w.heap.size) ∧ IM wr w.heap.size ((Lv.map Ob.p).map fun x => (x, .bool true)) ∧ DFS obs W0 fr Lv work lk ∧ Fr [] w wr) (fun wv _ wr => (obs.length - mapLen wr w.heap.size) * 40 + slLen wv)
  case atStart => exact ⟨[], fr, 0, rfl, H1.out, HV1.out, HM1.out, HDF.out, HF1.out⟩
  case round =>
    obtain ⟨Lv, work, lk, rfl, hrow, hvo, him, hdfs, hF⟩ := hrel
    have hml := him.mapLen
    simp only [List.length_map] at hml
    obtain ⟨A0, c0, rfl⟩ := hrow.form
    obtain ⟨Vp, hVp⟩ : ∃ Vp, Vp = Lv.map Ob.p := ⟨_, rfl⟩
    rw [← hVp] at him
    have HVP := hid hVp
    clear hVp
    rcases List.eq_nil_or_concat work with rfl | ⟨rest, x, hwk⟩
    · have HDF2 := hid hdfs
      have HF2 := hid hF
      have HIM2 := hid him
      clear hdfs hF him hrow hvo hml
      go_wp2_with fail
      refine bodyPost_ret (v := .tuple #[.map (some w.heap.size), .int .i64 lk]) (by simp [results, Try.results58, go_sem]) rfl ⟨w.heap.size, lk, Lv, rfl, Nat.le_refl _, by rw [← HVP.out]; exact HIM2.out, HDF2.out.nd, fun o ho => (HDF2.out.sub o ho).1, HDF2.out.fin HONE.out, HDF2.out.lk, HF2.out⟩
    · rw [List.concat_eq_append] at hwk
      subst hwk
      obtain ⟨r, hr⟩ : ∃ r, r = rest.length := ⟨_, rfl⟩
      have hrl : (rest ++ [x]).length = r + 1 := by simp [hr]
      rw [hrl] at hrow hvo ⊢
      obtain ⟨o, ho, hx, hrch⟩ := hdfs.wk x (by simp)
      subst hx
      obtain ⟨g, eg, hgB, hgl, -, hgc, hgm, hgcell⟩ := hrow.at (by simp)
      subst eg
      rw [hrl] at hgc
      have q0 : wr.cell? ⟨g, r, none⟩ = some (.int .i64 o.p) := hgcell r o.p (by rw [hr]; simp)
      have hrow2 := hrow.dropLast hr.symm
      have hlen := hdfs.len
      simp at hlen
      have hlv : Lv.length ≤ obs.length := List.Nodup.length_le_of_subset hdfs.nd (fun a ha => (hdfs.sub a ha).1)
      have hr2 : r ≤ 2000 := by have := hNF.out; omega
      have w0 : IntKind.i64.wrap (r : Int) = r := by rw [IntKind.wrap_i64]; omega
      have i1 : (0 : Int) ≤ (r : Int) := by omega
      have i2 : (r : Int) < (r : Int) + 1 := by omega
      have i3 : r ≤ c0 := by omega
      have hmW := HIM.out.fr hF (by simp)
      have hlk1 := run_lookup_im (P := Try.prog) hmW Try.underlying103 Try.underlying3 (obZero wr) o.p true
      rw [HD.out.get o ho] at hlk1
      simp only [Option.getD_some, Option.isSome_some, obV, if_pos] at hlk1
      have him3 := him.alloc (.cells #[.int .i64 o.k, .int .i64 o.n, .int .i64 o.a, .int .i64 0, .slice (some ⟨G o.p, 0, none⟩) o.n o.n] 114)
      have hlk2 := run_lookup_im (P := Try.prog) him3 Try.underlying92 Try.underlying3 (z := .bool false) (by kernel_rfl) o.p false
      rw [mget_tr] at hlk2
      simp only [if_neg (show ¬ false = true by decide)] at hlk2
      obtain ⟨gg, hgg⟩ : ∃ gg, gg = G o.p := ⟨_, rfl⟩
      rw [← hgg] at hlk1 hlk2 him3
      have HGG := hid hgg
      have HDF := hid hdfs
      have HF2 := hid hF
      have HIM2 := hid him
      have HIM3 := hid him3
      have HROW2 := hid hrow2
      have HVO := hid hvo
      have HO := hid ho
      have HML := hid hml
      have hr1 := hrl
      clear hdfs hF him him3 hrow hrow2 hvo ho hml hgcell hrch hmW hlen hr hgg hgm hrl hr1
      by_cases hin : o ∈ Lv
      · have hmem : o.p ∈ Vp := by rw [HVP.out]; exact List.mem_map.2 ⟨o, hin, rfl⟩
        rw [if_pos hmem] at hlk2
        simp only [Option.getD_some] at hlk2
        have HIN := hid hin
        clear hin hmem
        go_wp2_with fail
        refine ⟨⟨Lv, rest, lk, rfl, HROW2.out.alloc _, fun g' h => HVO.out g' h, by rw [← HVP.out]; exact HIM3.out, HDF.out.skip HONE.out HIN.out, HF2.out.trans ((Fr.refl _ wr).alloc _)⟩, ?_⟩
        have hl9 : Vp.length = Lv.length := by rw [HVP.out]; simp
        rw [HIM3.out.mapLen, HML.out]
        simp [slLen, hl9]
      · have hmem : o.p ∉ Vp := fun hc => by
          rw [HVP.out] at hc
          obtain ⟨o', h1, h2⟩ := List.mem_map.1 hc
          have := HONE.out o' ((HDF.out.sub o' h1).1) o HO.out h2
          subst this
          exact hin h1
        rw [if_neg hmem] at hlk2
        simp only [Option.getD_none] at hlk2
        have HIN := hid hin
        have HMEM := hid hmem
        clear hin hmem
        go_wp2_with (at_mapUpdate; refine wpList_mapUpdate_im _ rfl _ _ _ 92 rfl _ _ Try.underlying92 Try.underlying3 w.heap.size _ rfl HIM3.out o.p rfl (.bool true) rfl ?_)
        intro w3 hI3 hF3
        rw [mput_tr _ _ HMEM.out] at hI3
        have hOb := ((Blk.new wr [.int .i64 o.k, .int .i64 o.n, .int .i64 o.a, .int .i64 0, .slice (some ⟨gg, 0, none⟩) o.n o.n] 114).fr hF3 (fun hc => nomap HIM3.out (Blk.new wr [.int .i64 o.k, .int .i64 o.n, .int .i64 o.a, .int .i64 0, .slice (some ⟨gg, 0, none⟩) o.n o.n] 114) (List.mem_singleton.1 hc)))
        have hF3w : Fr [] w w3 := (HF2.out.trans ((Fr.refl _ wr).alloc _)).step hF3 (fun y hy => .inr (by rw [List.mem_singleton.1 hy]; exact Nat.le_refl _))
        have hrow3 : Rowi w3 w.heap.size (.slice (some ⟨g, 0, none⟩) r c0) rest := (HROW2.out.alloc (.cells #[.int .i64 o.k, .int .i64 o.n, .int .i64 o.a, .int .i64 0, .slice (some ⟨gg, 0, none⟩) o.n o.n] 114)).fr hF3 (fun g' hg' hc => HVO.out g' hg' (List.mem_singleton.1 hc))
        have HI3 := hid hI3
        have HOB := hid hOb
        have HF3 := hid hF3w
        have HROW3 := hid hrow3
        have hwl : wr.heap.size < w3.heap.size := hOb.lt
        have hgw : g < wr.heap.size := hgl
        clear hI3 hOb hF3 hF3w hrow3 hlk1 hlk2 q0
        obtain ⟨N, hN⟩ : ∃ N, N = o.n := ⟨_, rfl⟩
        have hN32 : N < 32 := by have := (HHD.out o HO.out).s1; omega
        rw [← hN] at HOB
        have HN := hid hN
        clear hN
        obtain ⟨wt, rfl⟩ : ∃ wt, wt = wr := ⟨_, rfl⟩
        obtain ⟨lk0, hlk0⟩ : ∃ lk0, lk0 = lk := ⟨_, rfl⟩
        have HLK0 := hid hlk0
        have hlkb : lk ≤ 1000000 := by
          have h1 := HDF.out.lk
          have h2 : (Lv.map nl).sum ≤ 31 * Lv.length := sum_le (fun o' ho' => nl_le (by have := (HHD.out o' (HDF.out.sub o' ho').1).s1; omega))
          omega
        go_wp2_with fail
        go_loopw [12, 8] (fun jv lv wr => ∃ j : Nat, j ≤ N ∧ jv = .int .i64 j ∧ lv = .int .i64 (lk + cntTo o j : Nat) ∧ Fr [] w3 wr) (fun jv _ _ => N - (intOf jv).toNat)
        case atStart => exact ⟨0, Nat.zero_le _, rfl, rfl, Fr.refl _ _⟩
        case round =>
          obtain ⟨j, hj, rfl, rfl, hFj⟩ := hrel
          have hob := HOB.out.fr hFj (by simp)
          have b0 := hob.cell (i := 0) rfl
          have b1 := hob.cell (i := 1) rfl
          have b2 := hob.cell (i := 2) rfl
          have b3 := hob.cell (i := 3) rfl
          have b4 := hob.cell (i := 4) rfl
          have HOB2 := hid hob
          have HFJ := hid hFj
          clear hob hFj
          obtain ⟨lj, hlj⟩ : ∃ lj, lj = lk + cntTo o j := ⟨_, rfl⟩
          have hljb : lj ≤ 2000000 := by rw [hlj, cntTo_eq]; omega
          have HLJ := hid hlj
          rw [← hlj]
          clear hlj
          by_cases hlt : (j : Int) < (N : Int)
          · go_wp2_with fail
            refine (dLink o.k N o.a 0 j (by rw [HN.out]; exact HHD.out o HO.out) wr).mono ?_
            rintro e w4 ⟨rfl, hF4⟩
            have hcn : cntTo o (j + 1) = cntTo o j + (if lkB o.k N j = true then 1 else 0) := by rw [HN.out]; rfl
            have HCN := hid hcn
            have HF4 := hid (HFJ.out.trans hF4)
            clear hcn hF4 b0 b1 b2 b3 b4
            cases hl : lkB o.k N j with
            | true =>
              have HL := hid hl
              clear hl
              go_wp2_with fail
              go_roundw
              case rel => exact ⟨j + 1, by omega, by go_num, by rw [HCN.out, HL.out, if_pos rfl, ← Nat.add_assoc, ← HLJ.out]; go_num, HF4.out⟩
              case measure => simp [intOf]; omega
            | false =>
              have HL := hid hl
              clear hl
              go_wp2_with fail
              go_roundw
              case rel => exact ⟨j + 1, by omega, by go_num, by rw [HCN.out, HL.out, if_neg (by decide), Nat.add_zero, ← HLJ.out], HF4.out⟩
              case measure => simp [intOf]; omega
          · have hjN : j = N := by omega
            subst hjN
            go_wp2_with fail
            have hBg : Blk wr gg (wcs o (wd o)) 2 := by
              rw [HGG.out]
              exact (HD.out.blk o HO.out).2.fr (HF3.out.trans HFJ.out) (by simp)
            rw [show (Value.agg #[.int .i64 o.k, .int .i64 (j : Int), .int .i64 o.a, .int .i64 0, .slice (some ⟨gg, 0, none⟩) j j]) = obV o.k o.n o.a 0 gg o.n from by unfold obV; rw [HN.out]]
            refine (dLinks o 0 (wd o) gg wr hBg (HHD.out o HO.out) (fun i hi => by
              rcases HWR.out o HO.out i hi with h | ⟨o', h1, h2⟩
              · omega
              · have := HPOS.out o' h1; omega)).mono ?_
            rintro e w5 ⟨v5, rfl, h5, hF5⟩
            obtain ⟨A5, c5, rfl⟩ := h5.form
            have hll := lnkTo_len o (wd o) o.n
            have hA5 : A5 = none → (lnkTo o (wd o) o.n).length = 0 := by
              intro e
              rcases Nat.eq_zero_or_pos (lnkTo o (wd o) o.n).length with h0 | h0
              · exact h0
              · obtain ⟨g', e1, _⟩ := h5.at h0
                rw [e] at e1; cases e1
            obtain ⟨n5, hn5⟩ : ∃ n5, n5 = (lnkTo o (wd o) o.n).length := ⟨_, rfl⟩
            have hn5b : n5 ≤ 40 := by have := HN.out; omega
            have hrow5 : Rowi w5 w.heap.size (.slice (some ⟨g, 0, none⟩) r c0) rest := (HROW3.out.fr (HFJ.out.trans hF5) (by simp))
            have hrl5 : rest.length = r := by
              have := HROW2.out.form
              obtain ⟨A', c', e⟩ := this
              injection e with _ h2 _
              exact h2.symm
            have hs5 := h5.src
            rw [← hn5] at hs5 hA5 ⊢
            have hI5 : IM w5 w.heap.size ((Vp ++ [o.p]).map fun x => (x, .bool true)) := HI3.out.fr (HFJ.out.trans hF5) (by simp)
            have hws5 : w.heap.size < w5.heap.size := by have := hI5.lt; exact this
            have H5 := hid hs5
            have HA5 := hid hA5
            have HN5 := hid hn5
            have HROW5 := hid hrow5
            have HI5 := hid hI5
            have HF5 := hid (HF3.out.trans (HFJ.out.trans hF5))
            clear hs5 hA5 hn5 hrow5 hI5 hF5 h5 hll hBg b0 b1 b2 b3 b4
            go_wp2_with (at_builtin; refine wpList_appi rfl _ _ rfl w.heap.size (.slice (some ⟨g, 0, none⟩) r c0) rest rfl HROW5.out A5 n5 c5 (lnkTo o (wd o) o.n) rfl H5.out HA5.out (by omega) (by omega) ?_)
            intro v6 w6 h6 f6 b6
            have hgom : g ≠ w.heap.size := HVO.out g rfl
            have hI6 := HI5.out.fr f6 (by simp [Value.ownBlock]; exact Ne.symm hgom)
            have hF6 : Fr [] w w6 := HF5.out.step f6 (fun y hy => .inr (by simp [Value.ownBlock] at hy; omega))
            have hvo6 : ∀ g', v6.ownBlock = some g' → g' ≠ w.heap.size := by
              intro g' hg'
              rcases b6 with b6 | b6
              · rw [b6] at hg'; exact HVO.out g' hg'
              · rw [b6] at hg'; simp at hg'; omega
            have hW0 : W0 o.p = wd o := funext (HW.out o HO.out)
            have hdf6 : DFS obs W0 fr (Lv ++ [o]) (rest ++ lnkTo o (wd o) o.n) (lk + nl o) := by
              have := HDF.out.visit HONE.out HO.out HIN.out (by have := HN.out; omega) (fun i hi => by rw [hW0]; exact HWR.out o HO.out i hi) (fun o' ho' => by have := HPOS.out o' ho'; omega)
              rw [hW0] at this
              exact this
            have hlj6 : lj = lk + nl o := by rw [HLJ.out, HN.out, cntTo_n]
            have hmeas : (obs.length - mapLen w6 w.heap.size) * 40 + slLen v6 < (obs.length - mapLen wt w.heap.size) * 40 + slLen (.slice (some ⟨g, 0, none⟩) (r + 1) c0) := by
              obtain ⟨A6, c6, rfl⟩ := h6.form
              rw [hI6.mapLen, HML.out]
              have h1 := lv_lt HDF.out.nd (fun a ha => (HDF.out.sub a ha).1) HO.out HIN.out
              have h2 : Vp.length = Lv.length := by rw [HVP.out]; simp
              have h3 := lnkTo_len o (wd o) o.n
              have h4 := HN.out
              simp [slLen, h2]
              omega
            have HI6 := hid hI6
            have HF6 := hid hF6
            have HVO6 := hid hvo6
            have HDF6 := hid hdf6
            have HLJ6 := hid hlj6
            have HME := hid hmeas
            have H6 := hid h6
            clear hI6 hF6 hvo6 hdf6 hlj6 hmeas h6 f6 b6 hW0
            go_wp2_with fail
            go_roundw
            case rel => exact ⟨Lv ++ [o], rest ++ lnkTo o (wd o) o.n, lk + nl o, by rw [HLJ6.out], H6.out, HVO6.out, by rw [List.map_append, ← HVP.out]; exact HI6.out, HDF6.out, HF6.out⟩
            case measure => exact HME.out
end Go.Proofs.Ytifillpcphiblaa
