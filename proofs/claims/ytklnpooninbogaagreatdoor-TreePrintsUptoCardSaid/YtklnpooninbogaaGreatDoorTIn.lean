import Derived.Test.YtklnpooninbogaaGreatDoorTLaid
import Derived.Test.YtklnpooninbogaaGreatDoorTFew
import Derived.Deep.Slices
namespace Go.Proofs.YtklnpooninbogaaGreatDoor
open Go Go.Proofs Go.RowKit Go.ChangeShapes Go.WideShapes Go.ChangeAt

/-! Trees and declarations that came in. -/

theorem bulk_pos {H : Type} (d : DataW H) : 1 ≤ Rows.uptoBulk d := by
  cases d with
  | lit l => cases l <;> simp [Rows.uptoBulk]
  | nil => simp [Rows.uptoBulk]
  | ptr d => simp [Rows.uptoBulk]
  | slice elems spare => simp [Rows.uptoBulk]
  | agg parts => simp [Rows.uptoBulk]
  | iface t d => simp [Rows.uptoBulk]
  | map entries => simp [Rows.uptoBulk]
  | held h => simp [Rows.uptoBulk]
theorem bulk_len {H : Type} (l : List (DataW H)) : l.length ≤ Rows.uptoBulkAll l := by
  induction l with
  | nil => simp [Rows.uptoBulkAll]
  | cons x r ih => have := bulk_pos x; simp only [Rows.uptoBulkAll, List.length_cons]; omega
theorem bulk_sum {H : Type} (l : List (DataW H)) : ∀ (c : List Nat), c.length = l.length → (∀ (i x : Nat) (d : DataW H), c[i]? = some x → l[i]? = some d → x ≤ Rows.uptoBulk d) → c.sum ≤ Rows.uptoBulkAll l := by
  induction l with
  | nil => intro c hc _; cases c with
    | nil => simp [Rows.uptoBulkAll]
    | cons a b => simp at hc
  | cons y r ih => intro c hc hx; cases c with
    | nil => simp [Rows.uptoBulkAll]
    | cons a b =>
      have h1 := hx 0 a y rfl rfl
      have h2 := ih b (by simpa using hc) (fun i x d h3 h4 => hx (i + 1) x d (by simpa using h3) (by simpa using h4))
      simp only [Rows.uptoBulkAll, List.sum_cons]; omega
theorem bulk_part {H : Type} {d : DataW H} {l : List (DataW H)} (h : d ∈ l) : Rows.uptoBulk d ≤ Rows.uptoBulkAll l := by
  induction l with
  | nil => cases h
  | cons x r ih =>
    simp only [Rows.uptoBulkAll]
    cases List.mem_cons.1 h with
    | inl e => subst e; omega
    | inr e => have := ih e; omega

theorem c_tree : Tryz.prog.cellsOf 38 = 5 := by kernel_rfl
theorem c_int : Tryz.prog.cellsOf 3 = 1 := by kernel_rfl
theorem c_num : Tryz.prog.cellsOf 35 = 2 := by kernel_rfl
theorem c_kids : Tryz.prog.cellsOf 36 = 1 := by kernel_rfl
theorem c_bool : Tryz.prog.cellsOf 4 = 1 := by kernel_rfl
theorem c_u64 : Tryz.prog.cellsOf 33 = 1 := by kernel_rfl
theorem c_decl : Tryz.prog.cellsOf 51 = 2 := by kernel_rfl
theorem c_str : Tryz.prog.cellsOf 9 = 1 := by kernel_rfl

/-- The address of a slice some element of which was read. -/
theorem addr_of {w : World} {base n : Nat} {a : Addr} {cs : List Value} (h : w.cells? base (a.add 0) n = some cs) (hn : 0 < n) : a = ⟨a.block, a.off, none⟩ ∧ a.block < w.heap.size := by
  obtain ⟨-, hl, hc⟩ := World.cells?_some h
  have h0 := hc 0 hn
  obtain ⟨v, hv⟩ : ∃ v, cs[0]? = some v := ⟨_, List.getElem?_eq_getElem (by omega)⟩
  rw [hv] at h0
  have e : (a.add 0).add 0 = a := by simp [Addr.add]
  rw [e] at h0
  refine ⟨?_, World.block_lt_of_cell? w _ h0⟩
  obtain ⟨g, o, s⟩ := a
  cases s with
  | none => rfl
  | some s => simp [World.cell?] at h0; split at h0 <;> simp_all
theorem addr_at (g o i j : Nat) : ((⟨g, o, none⟩ : Addr).add i).add j = ⟨g, o + i + j, none⟩ := by
  simp only [Addr.add]; split <;> split <;> simp_all

/-- The bits of a number. -/
def Q64 (_ : Bool) (b : Int) : Prop := 0 ≤ b ∧ b < 18446744073709551616

set_option maxRecDepth 10000 in
theorem num_in {H : Type} {enc : TypeId × Value → H} {w : World} {spare : Nat → Bool} {held : Bool} {fuel : Nat} {cs : List Value} {x : DataW H × List MemPlace} (h : DataW.trod enc Tryz.prog w 0 spare held fuel 35 cs = some x) :
    ∃ f b, cs = [.bool f, .int .u64 b] ∧ Q64 f b := by
  obtain ⟨xs, n, rfl, rfl, hl, hs, hf⟩ := DataW.trod_struct Tryz.underlying35 h
  rw [c_num] at hl
  obtain ⟨v0, v1, rfl⟩ : ∃ v0 v1, cs = [v0, v1] := by
    match cs, hl with
    | [v0, v1], _ => exact ⟨_, _, rfl⟩
  have f0 : DataW.trod enc Tryz.prog w 0 spare held n 4 (([v0, v1].drop 0).take (Tryz.prog.cellsOf 4)) = xs[0]? := hf 0 _ rfl
  have f1 : DataW.trod enc Tryz.prog w 0 spare held n 33 (([v0, v1].drop 1).take (Tryz.prog.cellsOf 33)) = xs[1]? := hf 1 _ rfl
  rw [c_bool] at f0
  rw [c_u64] at f1
  obtain ⟨x0, hx0⟩ : ∃ x0, xs[0]? = some x0 := ⟨_, List.getElem?_eq_getElem (by rw [hs]; decide)⟩
  obtain ⟨x1, hx1⟩ : ∃ x1, xs[1]? = some x1 := ⟨_, List.getElem?_eq_getElem (by rw [hs]; decide)⟩
  obtain ⟨f, e0, -⟩ := DataW.trod_bool Tryz.underlying4 (f0.trans hx0)
  obtain ⟨b, e1, -, wb⟩ := DataW.trod_int Tryz.underlying33 (f1.trans hx1)
  simp at e0 e1
  subst e0 e1
  have hb : 0 ≤ b ∧ b ≤ 18446744073709551615 := bounds_u64 wb
  exact ⟨f, b, rfl, by unfold Q64; omega⟩

set_option maxRecDepth 10000 in
set_option maxHeartbeats 1000000 in
theorem tree_in {H : Type} {enc : TypeId × Value → H} {w : World} {spare : Nat → Bool} {held : Bool} : ∀ (fuel : Nat) (cs : List Value) (x : DataW H × List MemPlace), DataW.trod enc Tryz.prog w 0 spare held fuel 38 cs = some x →
    ∃ T sv, cs = trCells T.k T.t T.f T.b sv ∧ KidsV w (fun _ => True) (fuel / 2) T.ks sv ∧ ctA (fuel / 2) T ≤ Rows.uptoBulk x.1 ∧ AllN Q64 (fuel / 2) T := by
  intro fuel
  induction fuel using Nat.strongRecOn with
  | _ fuel ih =>
    intro cs x h
    obtain ⟨xs, n, rfl, rfl, hl, hs, hf⟩ := DataW.trod_struct Tryz.underlying38 h
    rw [c_tree] at hl
    obtain ⟨v0, v1, v2, v3, v4, rfl⟩ : ∃ v0 v1 v2 v3 v4, cs = [v0, v1, v2, v3, v4] := by
      match cs, hl with
      | [v0, v1, v2, v3, v4], _ => exact ⟨_, _, _, _, _, rfl⟩
    have f0 : DataW.trod enc Tryz.prog w 0 spare held n 3 (([v0, v1, v2, v3, v4].drop 0).take (Tryz.prog.cellsOf 3)) = xs[0]? := hf 0 _ rfl
    have f1 : DataW.trod enc Tryz.prog w 0 spare held n 3 (([v0, v1, v2, v3, v4].drop 1).take (Tryz.prog.cellsOf 3)) = xs[1]? := hf 1 _ rfl
    have f2 : DataW.trod enc Tryz.prog w 0 spare held n 35 (([v0, v1, v2, v3, v4].drop 2).take (Tryz.prog.cellsOf 35)) = xs[2]? := hf 2 _ rfl
    have f3 : DataW.trod enc Tryz.prog w 0 spare held n 36 (([v0, v1, v2, v3, v4].drop 4).take (Tryz.prog.cellsOf 36)) = xs[3]? := hf 3 _ rfl
    rw [c_int] at f0 f1
    rw [c_num] at f2
    rw [c_kids] at f3
    obtain ⟨x0, hx0⟩ : ∃ x0, xs[0]? = some x0 := ⟨_, List.getElem?_eq_getElem (by rw [hs]; decide)⟩
    obtain ⟨x1, hx1⟩ : ∃ x1, xs[1]? = some x1 := ⟨_, List.getElem?_eq_getElem (by rw [hs]; decide)⟩
    obtain ⟨x2, hx2⟩ : ∃ x2, xs[2]? = some x2 := ⟨_, List.getElem?_eq_getElem (by rw [hs]; decide)⟩
    obtain ⟨x3, hx3⟩ : ∃ x3, xs[3]? = some x3 := ⟨_, List.getElem?_eq_getElem (by rw [hs]; decide)⟩
    have hm3 : x3.1 ∈ xs.map (·.1) := List.mem_map_of_mem (List.mem_of_getElem? hx3)
    have hb3 := bulk_part hm3
    obtain ⟨k, e0, -⟩ := DataW.trod_int Tryz.underlying3 (f0.trans hx0)
    obtain ⟨t, e1, -⟩ := DataW.trod_int Tryz.underlying3 (f1.trans hx1)
    obtain ⟨f, b, e2, hq⟩ := num_in (f2.trans hx2)
    have h3 := f3.trans hx3
    simp at e0 e1 e2
    obtain ⟨e2, e2'⟩ := e2
    subst e0 e1 e2 e2'
    have fin : ∀ (ks : List Tr), KidsV w (fun _ => True) ((n + 1) / 2) ks v4 → ctA ((n + 1) / 2) (.mk k t f b ks) ≤ Rows.uptoBulk x3.1 + 1 → AllN Q64 ((n + 1) / 2) (.mk k t f b ks) →
        ∃ T sv, [.int .i64 k, .int .i64 t, .bool f, .int .u64 b, v4] = trCells T.k T.t T.f T.b sv ∧ KidsV w (fun _ => True) ((n + 1) / 2) T.ks sv ∧ ctA ((n + 1) / 2) T ≤ Rows.uptoBulk (DataW.agg (xs.map (·.1))) ∧ AllN Q64 ((n + 1) / 2) T :=
      fun ks h1 h2 h3 => ⟨.mk k t f b ks, v4, rfl, h1, by simp only [Rows.uptoBulk]; omega, h3⟩
    rcases DataW.trod_slice Tryz.underlying36 h3 with ⟨e4, e5⟩ | ⟨a, len, cap, elems, rest, n', rfl, e4, e5, -, hlc, hcm, hel, hkid, -, -⟩
    · simp at e4
      subst e4
      refine fin [] ((show KidsV w _ 0 [] _ from ⟨rfl, none, 0, rfl⟩).le (Nat.zero_le _)) ?_ ?_
      · rw [ctA_eq]; have := (ctP_one ((n + 1) / 2)).1; show ctP _ [] ≤ _; omega
      · cases (n + 1) / 2 with
        | zero => exact fun _ => hq
        | succ m => exact ⟨fun _ => hq, fun x hx => by cases hx⟩
    · simp at e4
      subst e4
      have hm : (n' + 1 + 1) / 2 = n' / 2 + 1 := by omega
      rw [hm] at fin ⊢
      have key : ∀ i, i < len → ∃ (r : Tr × Value), (∃ y cs', elems[i]? = some y ∧ w.cells? 0 (a.add (i * 5)) 5 = some cs' ∧ cs' = trCells r.1.k r.1.t r.1.f r.1.b r.2 ∧ ctA (n' / 2) r.1 ≤ Rows.uptoBulk y.1) ∧ KidsV w (fun _ => True) (n' / 2) r.1.ks r.2 ∧ AllN Q64 (n' / 2) r.1 := by
        intro i hi
        have h1 := hkid i hi
        obtain ⟨y, hy⟩ : ∃ y, elems[i]? = some y := ⟨_, List.getElem?_eq_getElem (by omega)⟩
        rw [hy, c_tree] at h1
        obtain ⟨cs', h2, h4⟩ := Option.bind_eq_some_iff.1 h1
        obtain ⟨T, sv, e, k1, k2, k3⟩ := ih n' (by omega) cs' y h4
        exact ⟨(T, sv), ⟨y, cs', hy, h2, e, k2⟩, k1, k3⟩
      obtain ⟨F, hF⟩ := Go.Deep.choose_lt (α := Tr × Value) (fun i hi => key i hi)
      have hget : ∀ i x, ((List.range len).map (fun i => (F i).1))[i]? = some x → i < len ∧ x = (F i).1 := by
        intro i x hx
        simp only [List.getElem?_map, Option.map_eq_some_iff] at hx
        obtain ⟨j, hj, rfl⟩ := hx
        obtain ⟨hj1, rfl⟩ : i < len ∧ j = i := by
          have := List.getElem?_eq_some_iff.1 hj
          obtain ⟨hj1, hj2⟩ := this
          simp at hj1 hj2
          exact ⟨hj1, hj2.symm⟩
        exact ⟨hj1, rfl⟩
      refine fin ((List.range len).map (fun i => (F i).1)) ⟨some a, cap, by simp, by simp; omega, fun i x hx => ?_⟩ ?_ ⟨fun _ => hq, fun x hx => ?_⟩
      · obtain ⟨hi, rfl⟩ := hget i x hx
        obtain ⟨⟨y, cs', -, hc, ec, -⟩, hk, -⟩ := hF i hi
        obtain ⟨⟨y0, cs0, -, hc0, -, -⟩, -⟩ := hF 0 (by omega)
        rw [Nat.zero_mul] at hc0
        obtain ⟨ha, hlt⟩ := addr_of hc0 (by decide)
        refine ⟨a.block, a.off, (F i).2, congrArg some ha, trivial, hlt, ?_, hk⟩
        rw [ha] at hc
        obtain ⟨-, -, hcell⟩ := World.cells?_some hc
        subst ec
        have g0 := hcell 0 (by decide)
        have g1 := hcell 1 (by decide)
        have g2 := hcell 2 (by decide)
        have g3 := hcell 3 (by decide)
        have g4 := hcell 4 (by decide)
        rw [addr_at] at g0 g1 g2 g3 g4
        exact ⟨g0, g1, g2, g3, g4⟩
      · have e6 : x3.1 = DataW.slice (elems.map (·.1)) (rest.map (·.1)) := by rw [e5]
        rw [e6]
        have := bulk_sum (elems.map (·.1)) ((List.range len).map (fun i => ctA (n' / 2) (F i).1)) (by simp [hel]) (by
          intro i x d hx hd
          simp only [List.getElem?_map, Option.map_eq_some_iff] at hx hd
          obtain ⟨j, hj, rfl⟩ := hx
          obtain ⟨y, hy, rfl⟩ := hd
          obtain ⟨hj1, rfl⟩ : i < len ∧ j = i := by
            obtain ⟨hj1, hj2⟩ := List.getElem?_eq_some_iff.1 hj
            simp at hj1 hj2
            exact ⟨hj1, hj2.symm⟩
          obtain ⟨⟨y', cs', hy', -, -, hle⟩, -⟩ := hF j hj1
          rw [hy] at hy'
          cases hy'
          exact hle)
        simp only [Rows.uptoBulk, ctA, Tr.ks, List.map_map, Function.comp_def]
        omega
      · obtain ⟨i, hi0⟩ := List.mem_iff_getElem?.1 hx
        obtain ⟨hi, rfl⟩ := hget i x hi0
        exact (hF i hi).2.2

set_option maxRecDepth 10000 in
/-- A tree that came in. -/
theorem open_tree {H : Type} {enc : TypeId × Value → H} {w : World} {base b0 : Nat} {spare : Nat → Bool} {held : Bool} {r : Reach} {v : Value} {d : DataW H} {p : List MemPlace} (hv : Value.okWide Tryz.prog w r b0 38 v) (hb : base = 0) (h : DataW.Trod enc Tryz.prog w base spare held 38 v d p) :
    ∃ m T, TrV w (fun _ => True) m T v ∧ ctA m T ≤ Rows.uptoBulk d ∧ AllN Q64 m T := by
  subst hb
  obtain ⟨cs, rfl, -⟩ := okWide_struct Tryz.underlying38 hv
  obtain ⟨fuel, h⟩ := h
  obtain ⟨T, sv, e, h1, h2, h3⟩ := tree_in fuel _ _ h
  refine ⟨fuel / 2, T, ⟨sv, ?_, h1⟩, h2, h3⟩
  have e' : cs.toList = trCells T.k T.t T.f T.b sv := e
  unfold trAgg
  congr 1
  exact Array.toList_inj.1 e'

set_option maxRecDepth 10000 in
theorem decl_in {H : Type} {enc : TypeId × Value → H} {w : World} {spare : Nat → Bool} {held : Bool} {fuel : Nat} {cs : List Value} {x : DataW H × List MemPlace} (h : DataW.trod enc Tryz.prog w 0 spare held fuel 51 cs = some x) :
    ∃ s v1, cs = [.string s, v1] ∧ s.size + 1 ≤ Rows.uptoBulk x.1 := by
  obtain ⟨xs, n, rfl, rfl, hl, hs, hf⟩ := DataW.trod_struct Tryz.underlying51 h
  rw [c_decl] at hl
  obtain ⟨v0, v1, rfl⟩ : ∃ v0 v1, cs = [v0, v1] := by
    match cs, hl with
    | [v0, v1], _ => exact ⟨_, _, rfl⟩
  have f0 : DataW.trod enc Tryz.prog w 0 spare held n 9 (([v0, v1].drop 0).take (Tryz.prog.cellsOf 9)) = xs[0]? := hf 0 _ rfl
  rw [c_str] at f0
  obtain ⟨x0, hx0⟩ : ∃ x0, xs[0]? = some x0 := ⟨_, List.getElem?_eq_getElem (by rw [hs]; decide)⟩
  obtain ⟨s, e0, e1, -⟩ := DataW.trod_string Tryz.underlying9 (f0.trans hx0)
  simp at e0
  subst e0 e1
  have hb := bulk_part (List.mem_map_of_mem (f := (·.1)) (List.mem_of_getElem? hx0))
  simp only [Rows.uptoBulk] at hb ⊢
  have : s.size = s.data.toList.length := rfl
  exact ⟨s, v1, rfl, by omega⟩

set_option maxRecDepth 10000 in
/-- Declarations that came in. -/
theorem open_cons {H : Type} {enc : TypeId × Value → H} {w : World} {base b0 : Nat} {spare : Nat → Bool} {held : Bool} {r : Reach} {v : Value} {d : DataW H} {p : List MemPlace} (hv : Value.okWide Tryz.prog w r b0 47 v) (hb : base = 0) (h : DataW.Trod enc Tryz.prog w base spare held 47 v d p) :
    ∃ cs, ConsV w v cs ∧ ∀ s ∈ cs, s.size ≤ Rows.uptoBulk d := by
  subst hb
  obtain ⟨fuel, h⟩ := h
  obtain ⟨a0, l0, c0, rfl⟩ := okWide_slice Tryz.underlying47 hv
  rcases DataW.trod_slice Tryz.underlying47 h with ⟨e4, e5⟩ | ⟨a, len, cap, elems, rest, n', rfl, e4, e5, -, hlc, hcm, hel, hkid, -, -⟩
  · simp [Value.cells] at e4
    obtain ⟨rfl, rfl, rfl⟩ := e4
    exact ⟨[], ⟨none, 0, rfl, Nat.zero_le _, fun i s hs => by simp at hs⟩, fun s hs => by cases hs⟩
  · simp [Value.cells] at e4
    obtain ⟨rfl, rfl, rfl⟩ := e4
    have key : ∀ i, i < l0 → ∃ (s : ByteArray), (∃ y v1, elems[i]? = some y ∧ w.cells? 0 (a.add (i * 2)) 2 = some [.string s, v1] ∧ s.size + 1 ≤ Rows.uptoBulk y.1) := by
      intro i hi
      have h1 := hkid i hi
      obtain ⟨y, hy⟩ : ∃ y, elems[i]? = some y := ⟨_, List.getElem?_eq_getElem (by omega)⟩
      rw [hy, c_decl] at h1
      obtain ⟨cs', h2, h4⟩ := Option.bind_eq_some_iff.1 h1
      obtain ⟨s, v1, rfl, hs⟩ := decl_in h4
      exact ⟨s, y, v1, hy, h2, hs⟩
    haveI : Inhabited ByteArray := ⟨⟨#[]⟩⟩
    obtain ⟨F, hF⟩ := Go.Deep.choose_lt (α := ByteArray) (fun i hi => key i hi)
    have hget : ∀ i x, ((List.range l0).map F)[i]? = some x → i < l0 ∧ x = F i := by
      intro i x hx
      simp only [List.getElem?_map, Option.map_eq_some_iff] at hx
      obtain ⟨j, hj, rfl⟩ := hx
      obtain ⟨hj1, rfl⟩ : i < l0 ∧ j = i := by
        have := List.getElem?_eq_some_iff.1 hj
        obtain ⟨hj1, hj2⟩ := this
        simp at hj1 hj2
        exact ⟨hj1, hj2.symm⟩
      exact ⟨hj1, rfl⟩
    refine ⟨(List.range l0).map F, ⟨some a, c0, by simp, by simp; omega, fun i s hs => ?_⟩, fun s hs => ?_⟩
    · obtain ⟨hi, rfl⟩ := hget i s hs
      obtain ⟨y, v1, -, hc, -⟩ := hF i hi
      obtain ⟨y0, v0, -, hc0, -⟩ := hF 0 (by omega)
      rw [Nat.zero_mul] at hc0
      obtain ⟨ha, hlt⟩ := addr_of hc0 (by decide)
      refine ⟨a.block, a.off, congrArg some ha, hlt, ?_⟩
      rw [ha] at hc
      obtain ⟨-, -, hcell⟩ := World.cells?_some hc
      have g0 := hcell 0 (by decide)
      rw [addr_at] at g0
      exact g0
    · obtain ⟨i, hi0⟩ := List.mem_iff_getElem?.1 hs
      obtain ⟨hi, rfl⟩ := hget i s hi0
      obtain ⟨y, v1, hy, -, hle⟩ := hF i hi
      have e6 : d = DataW.slice (elems.map (·.1)) (rest.map (·.1)) := (Prod.mk.inj e5).1
      rw [e6]
      have := bulk_part (List.mem_map_of_mem (f := (·.1)) (List.mem_of_getElem? hy))
      simp only [Rows.uptoBulk]
      omega
end Go.Proofs.YtklnpooninbogaaGreatDoor
