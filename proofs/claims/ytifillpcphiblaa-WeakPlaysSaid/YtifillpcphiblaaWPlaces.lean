import Derived.Test.YtifillpcphiblaaWFrom
import Derived.Test.YtifillpcphiblaaHList3
import Derived.Test.YtifillpcphiblaaHCollects0
namespace Go.Proofs.Ytifillpcphiblaa
open Go Go.Proofs Go.RowKit Go.Shelf

attribute [local go_sem] Oper.semAt_some

theorem from_in (F : Fence) (n : Nat) (hf : F.fn 130) (hro : F.round = none) (tb : Nat) (v : Int) (w : World) :
    CallsIn F n Try.prog 130 #[.pointer (some ⟨tb, 0, none⟩), .int .i64 v] w fun e w' => e = .returned (.func (.func 152) #[] #[.pointer (some ⟨w.heap.size + 1, 0, none⟩), .pointer (some ⟨w.heap.size, 0, none⟩)]) ∧ w' = (w.alloc (.cells #[.pointer (some ⟨tb, 0, none⟩)] 65)).alloc (.cells #[.int .i64 v] 3) := by
  refine callsIn_of_wp Try.func130 rfl hf ?_ hro
  simp only [Try.ntmps130, List.size_toArray, List.length_cons, List.length_nil, Nat.reduceAdd, Nat.reduceSub, Array.replicate_succ, Array.replicate_zero, List.push_toArray, List.append_toArray, List.nil_append, List.cons_append]
  gi_wp2
  go_ret
  exact ⟨rfl, rfl⟩

def PInv (L : HL) (s : HS) (bx atb base : Nat) (W1 : World) (pre : List Int) (W : World) : Prop :=
  (∃ v, Blk W bx [v] 22 ∧ W.ownsRow base 3 1 v pre.length (intv pre)) ∧ Fr [bx, L.ab, atb] W1 W ∧ ∃ k : Nat, HRep W L (s.tick k)

theorem PInv.own {L : HL} {s : HS} {bx atb base : Nat} {W1 : World} (h1 : bx < W1.heap.size) (h2 : ∀ x ∈ L.all, x < W1.heap.size) : OwnFrom W1.heap.size (PInv L s bx atb base W1) := by
  rintro pre A B row ⟨⟨v, g1, g2⟩, g3, k, g4⟩ hg hr
  have hf : Fr row.toList A B := Fr.of_grownBy (S := row.toList) hg (fun k e => .inl (by simp [e]))
  have hrow : ∀ b ∈ row.toList, W1.heap.size ≤ b ∧ ∃ o, A.heap[b]? = some o ∧ o.isCells = false := fun b hb => hr b (by simpa using hb)
  refine ⟨⟨v, g1.fr hf (fun hc => by have := (hrow _ hc).1; omega), ownsRow_fr g2 hf (fun g hg' hc => ?_)⟩, g3.step hf (fun b hb => .inr (hrow b hb).1), k, g4.fr hf (fun b hb hc => by have := (hrow b hb).1; have := h2 b hc; omega)⟩
  obtain ⟨_, o, e1, e2⟩ := hrow g hc
  rw [own_cells g2 hg' o e1] at e2
  cases e2

theorem PInv.ab {L : HL} {s : HS} {bx atb base : Nat} {W1 : World} (h1 : bx ∉ [L.ab, atb]) (h2 : atb ∉ L.all) (h3 : L.ab < base) (h4 : atb < base) : ∀ pre A B, PInv L s bx atb base W1 pre A → AbF L.ab L.wb atb A B → PInv L s bx atb base W1 pre B := by
  rintro pre A B ⟨⟨v, g1, g2⟩, g3, k, g4⟩ hab
  obtain ⟨k', g5⟩ := hab.rep g4 h2
  refine ⟨⟨v, g1.fr hab.fr h1, ownsRow_fr g2 hab.fr (fun g hg hc => ?_)⟩, g3.trans (hab.fr.here (by simp)), k + k', by rw [tick_tick] at g5; simpa using g5⟩
  have := (own_lt g2 hg).1
  simp at hc
  omega

set_option maxRecDepth 100000 in
set_option maxHeartbeats 4000000 in
theorem tPlaces (L : HL) (s : HS) (tb : Nat) (sh : Value) (t : TS) (l : List Int) (v : Int) (w : World) (hH : HRep w L s) (hT : TRep w tb L.hb sh t) (htb : tb ∉ L.all)
    (hc : Chn s.ws v l) (hl : ∀ p ∈ l, ∃ o : Ob, o.Lies s ∧ o.p = p ∧ 4 ≤ o.n) (hlen : l.length ≤ 65536) :
    Calls Try.prog 96 #[.pointer (some ⟨tb, 0, none⟩), .int .i64 v] w fun e w' => (∃ sv, e = .returned sv ∧ w'.ownsRow w.heap.size 3 1 sv l.length (intv l)) ∧ (∃ k : Nat, HRep w' L (s.tick k)) ∧ Fr [L.ab] w w' := by
  refine (callsIn_wide (n := 3)).1 ?_
  have hall : ∀ x ∈ L.all, x < w.heap.size := fun x hx => all_lt hH hx
  have hab : L.ab ∈ L.all := by simp [HL.all, HL.fp]
  have habl := hall _ hab
  have htl := Blk.lt hT
  refine callsIn_of_wp_marks Try.func96 rfl trivial ?_ rfl
  simp only [Try.ntmps96, List.size_toArray, List.length_cons, List.length_nil, Nat.reduceAdd, Nat.reduceSub, Array.replicate_succ, Array.replicate_zero, List.push_toArray, List.append_toArray, List.nil_append, List.cons_append]
  gi_wp2_with (refine ⟨trivial, ?_⟩; gi_at_call 130; refine (from_in Fence.wide 2 trivial rfl tb v _).mono ?_; rintro e w' ⟨rfl, rfl⟩)
  have B0 := Blk.new w [.slice none 0 0] 22
  have X0 := Blk.new (w.alloc (.cells #[.slice none 0 0] 22)) [.pointer (some ⟨tb, 0, none⟩)] 65
  have A0 := Blk.new ((w.alloc (.cells #[.slice none 0 0] 22)).alloc (.cells #[.pointer (some ⟨tb, 0, none⟩)] 65)) [.int .i64 v] 3
  replace X0 := X0.alloc (.cells #[.int .i64 v] 3)
  replace B0 := (B0.alloc (.cells #[.pointer (some ⟨tb, 0, none⟩)] 65)).alloc (.cells #[.int .i64 v] 3)
  have hF0 : Fr [] w (((w.alloc (.cells #[.slice none 0 0] 22)).alloc (.cells #[.pointer (some ⟨tb, 0, none⟩)] 65)).alloc (.cells #[.int .i64 v] 3)) := (((Fr.refl [] w).alloc _).alloc _).alloc _
  simp only [World.size_alloc] at X0 A0
  obtain ⟨W1, hW1⟩ : ∃ W1, W1 = ((w.alloc (.cells #[.slice none 0 0] 22)).alloc (.cells #[.pointer (some ⟨tb, 0, none⟩)] 65)).alloc (.cells #[.int .i64 v] 3) := ⟨_, rfl⟩
  have hsz : W1.heap.size = w.heap.size + 3 := by rw [hW1]; simp
  try simp only [World.size_alloc]
  rw [← hW1] at B0 X0 A0 hF0 ⊢
  clear hW1
  have hH1 := hH.fr hF0 (by simp)
  have hT1 := hT.fr hF0 (by simp)
  have nb : ∀ {x : Nat}, w.heap.size ≤ x → x ∉ L.all := fun hx hc => by have := hall _ hc; omega
  have hIv : PInv L s w.heap.size (w.heap.size + 1 + 1) W1.heap.size W1 [] W1 := ⟨⟨_, B0, ⟨rfl, .inl ⟨rfl, rfl⟩⟩⟩, Fr.refl _ _, 0, by simpa [HS.tick] using hH1⟩
  refine wpIn_rangeM (n := 3) (gf := 152) (lb := #[.pointer (some ⟨w.heap.size + 1 + 1, 0, none⟩), .pointer (some ⟨w.heap.size + 1, 0, none⟩)]) rfl (enters_of Try.func152 (by kernel_rfl) rfl)
    (from_iter L s tb (w.heap.size + 1) (w.heap.size + 1 + 1) sh t l v W1 hH1 hT1 X0 A0 hc hl htb (nb (by omega)) (nb (by omega)) (by omega) (by omega)) (fun b hb => ?kb) (fun A B h => h.others) (fun _ => rfl)
    (PInv L s w.heap.size (w.heap.size + 1 + 1) W1.heap.size W1) (fun _ _ _ => False) (PInv.own (by omega) (fun x hx => by have := hall x hx; omega)) (fun _ _ _ _ _ hs _ _ => hs) (PInv.ab (by simp; omega) (nb (by omega)) (by omega) (by omega)) hIv
    (fun x => { tmps := #[.pointer (some ⟨tb, 0, none⟩), .int .i64 v, undef, undef, .slice none 0 0, .pointer (some ⟨w.heap.size, 0, none⟩), .int .i64 x, .pointer (some ⟨tb, 0, none⟩), .int .i64 v, .func (.func 152) #[] #[.pointer (some ⟨w.heap.size + 1 + 1, 0, none⟩), .pointer (some ⟨w.heap.size + 1, 0, none⟩)], .int .i64 x, undef, undef, undef, undef, undef], defers := [] }) ?assign ?body ?done ?stop
  case kb =>
    simp only [List.mem_cons] at hb
    rcases hb with rfl | rfl | rfl | hb
    · omega
    · omega
    · omega
    · have := hall b hb; omega
  case assign =>
    intro l x W K hK
    gi_wp2
    exact hK
  case body =>
    rintro lp pre x W hWs ⟨⟨sv, g1, g2⟩, hFW, k, g4⟩ hpl
    obtain ⟨p, c, rfl⟩ := own_len g2
    have q0 := g1.cell (i := 0) rfl
    have q1 := (g1.alloc (.cells #[.int .i64 x] 3)).cell (i := 0) rfl
    obtain ⟨i0, hi, hz0, hz1, hz2⟩ := info_parts info_i
    have h1' := hid hi
    have h2' := hid hz0
    have h3' := hid hz1
    have h4' := hid hz2
    have h5' := hid g2
    have hs' := hid hsz
    have HK := hid hIv
    clear hi hz0 hz1 hz2 g2 hsz hIv
    gi_wp2_with (gi_at_builtin; refine wpListIn_append_own _ rfl _ _ 22 rfl W1.heap.size 3 i0 (.int .i64 0) 1 8 Try.underlying22 h1'.out h2'.out h3'.out h4'.out rfl (by decide) (.slice p pre.length c) pre.length _ rfl (h5'.out.alloc _) ⟨W.heap.size, 0, none⟩ 1 1 [.int .i64 x] rfl rfl (cell_one_new _ _ _) ?c1 ?c2 ?c3 ?c4 ?c5)
    case c1 => simp [Value.oneCell']
    case c2 => simp only [maxLen]; omega
    case c3 => omega
    case c4 => simp; omega
    case c5 =>
      intro v' w2 hown' hgrow hniliff
      obtain ⟨gg, cc, rfl⟩ := own_slice' hown' (by omega)
      have hsz := hs'.out
      have hGr : Fr (Value.slice p pre.length c).ownBlock.toList (W.alloc (.cells #[.int .i64 x] 3)) w2 := Fr.of_grownBy hgrow (by intro k' hk'; left; simp [hk'])
      have hlow := own_low h5'.out
      have B1 := (g1.alloc (.cells #[.int .i64 x] 3)).fr hGr (fun hc => by have := hlow _ hc; omega)
      have f1 := B1.frozen 0
      have q9 := B1.cell (i := 0) rfl
      have HG := hid hGr
      have HO := hid hown'
      clear hsz q0 q1 hGr hown' hgrow hniliff
      gi_wp2
      have hsz := hs'.out
      have hF1 : Fr (w.heap.size :: (Value.slice p pre.length c).ownBlock.toList) W (w2.setCell ⟨w.heap.size, 0, none⟩ (.slice (some ⟨gg, 0, none⟩) (pre.length + 1) cc)) := ((((Fr.refl [] W).alloc _).here (by simp)).trans (HG.out.here (by intro y hy; simp [hy]))).set (by simp) _
      have hcell : ∀ b ∈ w.heap.size :: (Value.slice p pre.length c).ownBlock.toList, ∀ o, W.heap[b]? = some o → o.isCells = true := by
        intro b hb o ho
        rcases List.mem_cons.1 hb with rfl | hb
        · exact g1.cells o ho
        · exact own_cells h5'.out (by simpa using hb) o ho
      have hfar : ∀ b ∈ w.heap.size :: (Value.slice p pre.length c).ownBlock.toList, b = w.heap.size ∨ W1.heap.size ≤ b := by
        intro b hb
        rcases List.mem_cons.1 hb with rfl | hb
        · exact .inl rfl
        · exact .inr (hlow b hb)
      refine ⟨hF1.others hcell, hF1.keepL (fun b hb => ?_) (fun b hb hc => ?_), ⟨.slice (some ⟨gg, 0, none⟩) (pre.length + 1) cc, ?_, ?_⟩, hFW.step hF1 (fun b hb => (hfar b hb).imp (fun e => by simp [e]) id), k, g4.fr hF1 (fun b hb hc => by have := hall b hc; have := hfar b hb; omega)⟩
      · simp only [List.mem_cons] at hb
        rcases hb with rfl | rfl | rfl | hb
        · omega
        · omega
        · omega
        · have := hall b hb; omega
      · have h1 := hfar b hc
        simp only [List.mem_cons] at hb
        rcases hb with rfl | rfl | rfl | hb
        · omega
        · omega
        · omega
        · have := hall b hb; omega
      · have := B1.set 0 (.slice (some ⟨gg, 0, none⟩) (pre.length + 1) cc)
        simpa using this
      · have e : intv (pre ++ [x]) = intv pre ++ [.int .i64 x] := by simp [intv]
        rw [e, List.length_append]
        refine ownsRow_fr HO.out ((Fr.refl [w.heap.size] w2).set (by simp) _) (fun g hg hc => ?_)
        have := (own_lt HO.out hg).1
        simp at hc; omega
  case done =>
    rintro D ys W hD rfl ⟨⟨sv, g1, g2⟩, hFW, k, g4⟩ hK
    have q0 := g1.cell (i := 0) rfl
    have hs' := hid hsz
    clear hsz hIv
    gi_wp2
    have hsz := hs'.out
    refine ⟨by simp, .inl ⟨_, _, rfl, run_takeDeferred hK, ?_⟩⟩
    have hFt : Fr [D] W (W.putObj D (.deferred none)) := fr_putObj W D _
    have hnD : ∀ b, b < W1.heap.size → b ∉ [D] := fun b hb hc => by simp at hc; omega
    refine ⟨sv, by simp [results, Try.f96, go_sem], ⟨sv, rfl, ?_⟩, ⟨k, g4.fr hFt (fun b hb hc => by have := hall b hc; simp at hb; omega)⟩, ?_⟩
    · refine ownsRow_base (ownsRow_fr g2 hFt ?_) (by omega)
      intro g hg hc
      simp at hc
      subst hc
      have := own_cells g2 hg _ hK
      cases this
    · have h0 : Fr [L.ab] w W1 := hF0.here (by simp)
      have h1 := h0.step hFW (fun b hb => by simp at hb; rcases hb with rfl | rfl | rfl; (· right; omega); (· left; simp); (· right; omega))
      exact h1.step hFt (fun b hb => by simp at hb; subst hb; right; omega)
  case stop =>
    rintro D c pre W _ _ h _
    exact h.elim
end Go.Proofs.Ytifillpcphiblaa
