import Derived.Test.YtifillpcphiblaaWPlain
import Derived.Test.YtifillpcphiblaaWPlaces
import Derived.Test.YtifillpcphiblaaWRoom
import Derived.Test.YtifillpcphiblaaHCollects0
namespace Go.Proofs.Ytifillpcphiblaa
open Go Go.Proofs Go.RowKit

/-! The law's world: a struct with slices of its own. -/

def FarV (v v' : Value) : Prop := ∀ g, v.ownBlock = some g → v'.ownBlock ≠ some g

/-- The struct: its first three cells, three rows of ints, and one of int64s, each its own. -/
structure WS (w : World) (vb bx base : Nat) (pre : List Value) (vs : List Value) (os : List (List Int)) (sv : Value) (S : List Int) : Prop where
  lp : pre.length = 3
  lv : vs.length = 3
  lo : os.length = 3
  bb : Blk w bx [.pointer (some ⟨vb, 0, none⟩)] 62
  vv : Blk w vb (pre ++ vs ++ [sv]) 69
  row : ∀ (i : Nat) (v : Value) (xs : List Int), vs[i]? = some v → os[i]? = some xs → w.ownsRow base 3 1 v xs.length (intv xs)
  far : ∀ (i j : Nat) (v v' : Value), i ≠ j → vs[i]? = some v → vs[j]? = some v' → FarV v v'
  sh : w.ownsRow base 2 1 sv S.length (intv S)
  b1 : bx < base
  b2 : vb < base
  hb : base ≤ w.heap.size
  ne : bx ≠ vb

theorem WS.own {w : World} {vb bx base : Nat} {pre vs : List Value} {os : List (List Int)} {sv : Value} {S : List Int} (h : WS w vb bx base pre vs os sv S) {v : Value} (hv : v ∈ vs) : ∃ xs : List Int, xs ∈ os ∧ w.ownsRow base 3 1 v xs.length (intv xs) := by
  obtain ⟨i, hi, rfl⟩ := List.getElem_of_mem hv
  have : i < os.length := by have := h.lv; have := h.lo; omega
  exact ⟨os[i], List.getElem_mem _, h.row i _ _ (List.getElem?_eq_getElem hi) (List.getElem?_eq_getElem this)⟩

/-- What is kept where the blocks are. -/
theorem WS.keep {w w' : World} {vb bx base : Nat} {pre vs : List Value} {os : List (List Int)} {sv : Value} {S : List Int} (h : WS w vb bx base pre vs os sv S) (hs : w.heap.size ≤ w'.heap.size)
    (k : ∀ b, b < w.heap.size → (b = bx ∨ b = vb ∨ (base ≤ b ∧ ((∃ c f, w.heap[b]? = some (.cells c 3 f)) ∨ ∃ c f, w.heap[b]? = some (.cells c 2 f)))) → w'.heap[b]? = w.heap[b]?) : WS w' vb bx base pre vs os sv S := by
  have keepRow : ∀ {T : TypeId} {v : Value} {xs : List Value} {n : Nat}, T = 3 ∨ T = 2 → w.ownsRow base T 1 v n xs → w'.ownsRow base T 1 v n xs := by
    rintro T v xs n hT ⟨h1, h2⟩
    refine ⟨h1, ?_⟩
    rcases h2 with h2 | ⟨g, cap, cur, hv, hg, hh, r⟩
    · exact .inl h2
    · refine .inr ⟨g, cap, cur, hv, hg, ?_, r⟩
      have hl : g < w.heap.size := (Array.getElem?_eq_some_iff.1 hh).1
      rw [k g hl (.inr (.inr ⟨hg, ?_⟩))]; exact hh
      rcases hT with rfl | rfl
      · exact .inl ⟨_, _, hh⟩
      · exact .inr ⟨_, _, hh⟩
  exact ⟨h.lp, h.lv, h.lo, (k bx h.bb.lt (.inl rfl)).trans h.bb, (k vb h.vv.lt (.inr (.inl rfl))).trans h.vv, fun i v xs h1 h2 => keepRow (.inl rfl) (h.row i v xs h1 h2), h.far, keepRow (.inr rfl) h.sh, h.b1, h.b2, Nat.le_trans h.hb hs, h.ne⟩

theorem WS.fr {S' : List Nat} {w w' : World} {vb bx base : Nat} {pre vs : List Value} {os : List (List Int)} {sv : Value} {S : List Int} (h : WS w vb bx base pre vs os sv S) (hf : Fr S' w w') (hS : ∀ b ∈ S', b < base ∧ b ≠ bx ∧ b ≠ vb) : WS w' vb bx base pre vs os sv S := by
  refine h.keep hf.size (fun b hb hc => hf.block b hb (fun hm => ?_))
  obtain ⟨h1, h2, h3⟩ := hS b hm
  rcases hc with e | e | ⟨e, _⟩
  · exact h2 e
  · exact h3 e
  · omega

/-- One is appended to a row of ints. -/
theorem WS.app {w w2 : World} {vb bx base : Nat} {pre vs : List Value} {os : List (List Int)} {sv : Value} {S : List Int} (h : WS w vb bx base pre vs os sv S) {i : Nat} {v : Value} {xs : List Int} {x : Int} (hv : vs[i]? = some v) (hx : os[i]? = some xs)
    {m g cap : Nat} (hm : m = xs.length) (hGr : Fr v.ownBlock.toList (w.alloc (.cells #[.int .i64 x] 3)) w2) (hown : w2.ownsRow base 3 1 (.slice (some ⟨g, 0, none⟩) (m + 1) cap) (m + 1) (intv xs ++ [.int .i64 x])) (hat : v.ownBlock = some g ∨ g = (w.alloc (.cells #[.int .i64 x] 3)).heap.size) :
    WS (w2.setCell ⟨vb, 3 + i, none⟩ (.slice (some ⟨g, 0, none⟩) (m + 1) cap)) vb bx base pre (vs.set i (.slice (some ⟨g, 0, none⟩) (m + 1) cap)) (os.set i (xs ++ [x])) sv S ∧
    Fr (vb :: v.ownBlock.toList) w (w2.setCell ⟨vb, 3 + i, none⟩ (.slice (some ⟨g, 0, none⟩) (m + 1) cap)) := by
  subst hm
  have hrow := h.row i v xs hv hx
  have hlow := own_low hrow
  have hi3 : i < 3 := by have := (List.getElem?_eq_some_iff.1 hv).1; have := h.lv; omega
  have b2 := h.b2
  have b1 := h.b1
  have hb := h.hb
  have hF1 : Fr v.ownBlock.toList w w2 := ((Fr.refl v.ownBlock.toList w).alloc _).trans hGr
  have hF2 : Fr (vb :: v.ownBlock.toList) w (w2.setCell ⟨vb, 3 + i, none⟩ (.slice (some ⟨g, 0, none⟩) (xs.length + 1) cap)) := (hF1.here (by intro y hy; simp [hy])).set (by simp) _
  have gnew : ∀ b, b < w.heap.size → g = b → v.ownBlock = some b := by
    intro b hb' e
    rcases hat with h1 | h1
    · rw [← e]; exact h1
    · rw [World.size_alloc] at h1; omega
  have gbase : base ≤ g := by
    rcases hat with h1 | h1
    · exact hlow g (by simp [h1])
    · rw [World.size_alloc] at h1; omega
  refine ⟨⟨h.lp, by simp [h.lv], by simp [h.lo], h.bb.fr hF2 ?_, ?_, ?_, ?_, ?_, b1, b2, Nat.le_trans hb hF2.size, h.ne⟩, hF2⟩
  · intro hc
    rcases List.mem_cons.1 hc with e | e
    · exact h.ne e
    · have := hlow _ e; omega
  · have hv1 := h.vv.fr hF1 (fun hc => by have := hlow _ hc; omega)
    have := hv1.set (3 + i) (.slice (some ⟨g, 0, none⟩) (xs.length + 1) cap)
    have e : (pre ++ vs ++ [sv]).set (3 + i) (.slice (some ⟨g, 0, none⟩) (xs.length + 1) cap) = pre ++ vs.set i (.slice (some ⟨g, 0, none⟩) (xs.length + 1) cap) ++ [sv] := by
      rw [List.set_append_left _ _ (by simp [h.lp, h.lv]; omega), List.set_append_right _ _ (by rw [h.lp]; omega), h.lp, Nat.add_sub_cancel_left]
    rw [e] at this
    exact this
  · intro j v' xs' hv' hx'
    by_cases e : i = j
    · subst e
      rw [List.getElem?_set_self (by rw [h.lv]; exact hi3)] at hv'
      rw [List.getElem?_set_self (by rw [h.lo]; exact hi3)] at hx'
      cases hv'; cases hx'
      have e2 : intv (xs ++ [x]) = intv xs ++ [.int .i64 x] := by simp [intv]
      rw [e2, List.length_append]
      refine ownsRow_fr hown ((Fr.refl [vb] w2).set (by simp) _) (fun g' hg' hc => ?_)
      simp [Value.ownBlock] at hg' hc
      omega
    · rw [List.getElem?_set_ne e] at hv' hx'
      refine ownsRow_fr (h.row j v' xs' hv' hx') hF2 (fun g' hg' hc => ?_)
      rcases List.mem_cons.1 hc with e3 | e3
      · have := own_low (h.row j v' xs' hv' hx') g' (by simp [hg']); omega
      · exact h.far j i v' v (Ne.symm e) hv' hv g' hg' (by simpa using e3)
  · intro j j' u u' hne hu hu' g' hg' hc
    by_cases e : i = j
    · subst e
      rw [List.getElem?_set_self (by rw [h.lv]; exact hi3)] at hu
      rw [List.getElem?_set_ne hne] at hu'
      cases hu
      simp [Value.ownBlock] at hg'
      obtain ⟨xs', -, hr⟩ := h.own (List.mem_of_getElem? hu')
      have hl := (own_lt hr hc).2
      exact h.far i j' v u' hne hv hu' g' (gnew g' hl hg') hc
    · by_cases e' : i = j'
      · subst e'
        rw [List.getElem?_set_self (by rw [h.lv]; exact hi3)] at hu'
        rw [List.getElem?_set_ne e] at hu
        cases hu'
        simp [Value.ownBlock] at hc
        obtain ⟨xs', -, hr⟩ := h.own (List.mem_of_getElem? hu)
        have hl := (own_lt hr hg').2
        exact h.far j i u v (Ne.symm e) hu hv g' hg' (gnew g' hl hc)
      · rw [List.getElem?_set_ne e] at hu
        rw [List.getElem?_set_ne e'] at hu'
        exact h.far j j' u u' hne hu hu' g' hg' hc
  · refine ownsRow_fr h.sh hF2 (fun g' hg' hc => ?_)
    rcases List.mem_cons.1 hc with e3 | e3
    · have := own_low h.sh g' (by simp [hg']); omega
    · exact own_apart h.sh hrow (by decide) g' hg' e3

/-- As the shade function sees it. -/
theorem WS.shp {w : World} {vb bx base : Nat} {pre vs : List Value} {os : List (List Int)} {sv : Value} {S : List Int} (h : WS w vb bx base pre vs os sv S) : ShP w bx vb base (pre ++ vs) S :=
  ⟨by simp [h.lp, h.lv], ⟨sv, h.bb, h.vv, h.sh⟩, h.b1, h.b2, h.hb⟩

/-- Behind calls that shade. -/
theorem WS.shaded {w w' : World} {L : HL} {tb vb bx base : Nat} {pre vs : List Value} {os : List (List Int)} {sv : Value} {S S' : List Int} (h : WS w vb bx base pre vs os sv S) (hQ : FrQ L tb vb base w w') (hL : ∀ x ∈ L.fp, x < base) (htb : tb < base) (k : ShP w' bx vb base (pre ++ vs) S') :
    ∃ sv', WS w' vb bx base pre vs os sv' S' := by
  obtain ⟨sv', k1, k2, k3⟩ := k.ex
  have b2 := h.b2
  refine ⟨sv', h.lp, h.lv, h.lo, k1, k2, fun i v xs h1 h2 => ?_, h.far, k3, h.b1, h.b2, k.hb, h.ne⟩
  obtain ⟨g1, g2⟩ := h.row i v xs h1 h2
  refine ⟨g1, ?_⟩
  rcases g2 with g2 | ⟨g, cap, cur, hv, hg, hh, r⟩
  · exact .inl g2
  · refine .inr ⟨g, cap, cur, hv, hg, ?_, r⟩
    have hl : g < w.heap.size := (Array.getElem?_eq_some_iff.1 hh).1
    rw [hQ.block g hl (fun hc => by have := hL g hc; omega) (by omega) (by omega) (.inr fun c f hc => ?_)]
    · exact hh
    · rw [hh] at hc
      simp at hc

/-- Cells of the struct. -/
theorem WS.cell {w : World} {vb bx base : Nat} {p0 p1 p2 v0 v1 v2 : Value} {os : List (List Int)} {sv : Value} {S : List Int} (h : WS w vb bx base [p0, p1, p2] [v0, v1, v2] os sv S) :
    w.cell? ⟨vb, 0, none⟩ = some p0 ∧ w.cell? ⟨vb, 1, none⟩ = some p1 ∧ w.cell? ⟨vb, 2, none⟩ = some p2 ∧ w.cell? ⟨vb, 3, none⟩ = some v0 ∧ w.cell? ⟨vb, 4, none⟩ = some v1 ∧ w.cell? ⟨vb, 5, none⟩ = some v2 :=
  ⟨h.vv.cell rfl, h.vv.cell rfl, h.vv.cell rfl, h.vv.cell rfl, h.vv.cell rfl, h.vv.cell rfl⟩

/-! The document's table: rows that are never written again. -/
def mwv (l : List (Int × Int)) : List Value := l.flatMap fun x => [.int .i64 x.1, .int .i64 x.2, .bool false]
def SlM (w : World) (base : Nat) (sv : Value) (l : List (Int × Int)) : Prop :=
  (sv = .slice none 0 0 ∧ l = []) ∨ ∃ b o cap cs f, sv = .slice (some ⟨b, o, none⟩) l.length cap ∧ base ≤ b ∧ w.heap[b]? = some (.cells cs 149 f) ∧ (∀ (j : Nat) (x : Value), (mwv l)[j]? = some x → cs[o + j]? = some x) ∧ l.length ≤ cap
structure MR (w : World) (mb base : Nat) (R Q K : List (Int × Int)) : Prop where
  ex : ∃ rv qv kv, Blk w mb [rv, qv, kv] 144 ∧ SlM w base rv R ∧ SlM w base qv Q ∧ SlM w base kv K

theorem SlM.keep {w w' : World} {base : Nat} {sv : Value} {l : List (Int × Int)} (h : SlM w base sv l) (k : ∀ b, base ≤ b → (∃ c f, w.heap[b]? = some (.cells c 149 f)) → w'.heap[b]? = w.heap[b]?) : SlM w' base sv l := by
  rcases h with h | ⟨b, o, cap, cs, f, e1, e2, e3, e4⟩
  · exact .inl h
  · exact .inr ⟨b, o, cap, cs, f, e1, e2, (k b e2 ⟨_, _, e3⟩).trans e3, e4⟩
theorem SlM.fr {S : List Nat} {w w' : World} {base : Nat} {sv : Value} {l : List (Int × Int)} (h : SlM w base sv l) (hf : Fr S w w') (hS : ∀ b ∈ S, b < base ∨ ∃ c T f, w.heap[b]? = some (.cells c T f) ∧ T ≠ 149) : SlM w' base sv l := by
  refine h.keep (fun b hb hc => ?_)
  obtain ⟨c, f, e⟩ := hc
  refine hf.block b (Array.getElem?_eq_some_iff.1 e).1 (fun hm => ?_)
  rcases hS b hm with h1 | ⟨c', T, f', e', hT⟩
  · omega
  · rw [e] at e'; simp at e'; exact hT e'.2.1.symm
theorem MR.keep {w w' : World} {mb base : Nat} {R Q K : List (Int × Int)} (h : MR w mb base R Q K) (hm : w'.heap[mb]? = w.heap[mb]?) (k : ∀ b, base ≤ b → (∃ c f, w.heap[b]? = some (.cells c 149 f)) → w'.heap[b]? = w.heap[b]?) : MR w' mb base R Q K := by
  obtain ⟨rv, qv, kv, h1, h2, h3, h4⟩ := h.ex
  exact ⟨rv, qv, kv, hm.trans h1, h2.keep k, h3.keep k, h4.keep k⟩
theorem MR.lt {w : World} {mb base : Nat} {R Q K : List (Int × Int)} (h : MR w mb base R Q K) : mb < w.heap.size := by
  obtain ⟨rv, qv, kv, h1, _⟩ := h.ex
  exact h1.lt
theorem MR.fr {S : List Nat} {w w' : World} {mb base : Nat} {R Q K : List (Int × Int)} (h : MR w mb base R Q K) (hf : Fr S w w') (hm : mb ∉ S) (hS : ∀ b ∈ S, b < base ∨ ∃ c T f, w.heap[b]? = some (.cells c T f) ∧ T ≠ 149) : MR w' mb base R Q K := by
  obtain ⟨rv, qv, kv, h1, h2, h3, h4⟩ := h.ex
  exact ⟨rv, qv, kv, h1.fr hf hm, h2.fr hf hS, h3.fr hf hS, h4.fr hf hS⟩
theorem MR.q {L : HL} {tb vb base' : Nat} {w w' : World} {mb base : Nat} {R Q K : List (Int × Int)} (h : MR w mb base R Q K) (hQ : FrQ L tb vb base' w w') (hL : ∀ x ∈ L.fp, x < base ∧ x ≠ mb) (htb : tb < base ∧ tb ≠ mb) (hvb : vb < base ∧ vb ≠ mb) : MR w' mb base R Q K := by
  have hlt := h.lt
  obtain ⟨rv, qv, kv, h1, _⟩ := h.ex
  refine h.keep (hQ.block mb hlt (fun hc => (hL _ hc).2 rfl) (Ne.symm htb.2) (Ne.symm hvb.2) (.inr fun c f hc => ?_)) (fun b hb hc => ?_)
  · unfold Blk at h1; rw [h1] at hc; simp at hc
  · obtain ⟨c, f, e⟩ := hc
    refine hQ.block b (Array.getElem?_eq_some_iff.1 e).1 (fun hc => by have := (hL _ hc).1; omega) (by omega) (by omega) (.inr fun c' f' hc => ?_)
    rw [e] at hc; simp at hc
theorem mwv_len (l : List (Int × Int)) : (mwv l).length = l.length * 3 := by induction l with | nil => rfl | cons o l ih => simp [mwv] at ih ⊢; omega
theorem mwv_get : ∀ {l : List (Int × Int)} {i : Nat} {x : Int × Int}, l[i]? = some x → (mwv l)[i * 3]? = some (.int .i64 x.1) ∧ (mwv l)[i * 3 + 1]? = some (.int .i64 x.2) ∧ (mwv l)[i * 3 + 2]? = some (.bool false)
  | [], i, x, h => by simp at h
  | a :: l, 0, x, h => by simp at h; subst h; exact ⟨rfl, rfl, rfl⟩
  | a :: l, i + 1, x, h => by
    have := mwv_get (l := l) (i := i) (x := x) (by simpa using h)
    have e : mwv (a :: l) = [.int .i64 a.1, .int .i64 a.2, .bool false] ++ mwv l := rfl
    rw [e]
    refine ⟨?_, ?_, ?_⟩ <;> rw [List.getElem?_append_right (by simp; omega)]
    · have e2 : (i + 1) * 3 - [Value.int .i64 a.1, .int .i64 a.2, .bool false].length = i * 3 := by simp; omega
      rw [e2]; exact this.1
    · have e2 : (i + 1) * 3 + 1 - [Value.int .i64 a.1, .int .i64 a.2, .bool false].length = i * 3 + 1 := by simp; omega
      rw [e2]; exact this.2.1
    · have e2 : (i + 1) * 3 + 2 - [Value.int .i64 a.1, .int .i64 a.2, .bool false].length = i * 3 + 2 := by simp; omega
      rw [e2]; exact this.2.2
end Go.Proofs.Ytifillpcphiblaa
