
import Derived.Maps.OwnOps
import Derived.Maps.OwnSet
import Derived.Test.YtklnpooninbogaaGreatMRing
namespace Go.Proofs.YtklnpooninbogaaGreat
open Go Go.Proofs Go.RowKit Go.Maps Go.ChangeMaps
def Stm (es : Array MapEntry) (ck : Nat) : Prop := (∀ x ∈ es.toList, x.born < ck) ∧ (es.toList.map (·.born)).Nodup
def IM (w : World) (mp : Nat) (m : List (Int × Value)) : Prop :=
  ∃ es ck, w.heap[mp]? = some (.map es ck) ∧ es.toList.map (fun e => (e.key, e.val)) = m.map (fun x => (Value.int .i64 x.1, x.2)) ∧ Stm es ck
theorem Stm.of {es es' : Array MapEntry} {ck : Nat} (h : Stm es ck) (e : es'.toList.map (·.born) = es.toList.map (·.born)) : Stm es' ck := by
  refine ⟨fun x hx => ?_, by rw [e]; exact h.2⟩
  have h1 : x.born ∈ es'.toList.map (·.born) := List.mem_map.2 ⟨x, hx, rfl⟩
  rw [e] at h1
  obtain ⟨y, hy, e2⟩ := List.mem_map.1 h1
  have := h.1 y hy
  omega
theorem Stm.push {es : Array MapEntry} {ck : Nat} (h : Stm es ck) (k v : Value) : Stm (es.push { key := k, val := v, born := ck }) (ck + 1) := by
  refine ⟨fun x hx => ?_, ?_⟩
  · simp only [Array.toList_push, List.mem_append, List.mem_singleton] at hx
    rcases hx with hx | rfl
    · have := h.1 x hx; omega
    · exact Nat.lt_succ_self _
  · simp only [Array.toList_push, List.map_append, List.map_cons, List.map_nil]
    rw [List.nodup_append]
    refine ⟨h.2, by simp, fun x hx y hy e => ?_⟩
    obtain ⟨z, hz, rfl⟩ := List.mem_map.1 hx
    have := h.1 z hz
    simp at hy
    omega
theorem map_modify_same {α β : Type} (g : α → β) (f : α → α) (hg : ∀ x, g (f x) = g x) : ∀ (l : List α) (j : Nat), (l.modify j f).map g = l.map g
  | [], j => by simp
  | a :: l, 0 => by simp [hg]
  | a :: l, j + 1 => by simp [map_modify_same g f hg l j]
theorem Stm.modify {es : Array MapEntry} {ck : Nat} (h : Stm es ck) (j : Nat) (k v : Value) : Stm (es.modify j fun e => { key := k, val := v, born := e.born }) ck :=
  h.of (by rw [Array.toList_modify]; exact map_modify_same (·.born) (fun e : MapEntry => { key := k, val := v, born := e.born }) (fun _ => rfl) _ _)
theorem Stm.sub {es es' : Array MapEntry} {ck : Nat} (h : Stm es ck) (hs : es'.toList.Sublist es.toList) : Stm es' ck :=
  ⟨fun x hx => h.1 x (hs.subset hx), (hs.map _).nodup h.2⟩
def mget : List (Int × Value) → Int → Option Value
  | [], _ => none
  | x :: r, k => if k = x.1 then some x.2 else mget r k
def mput : List (Int × Value) → Int → Value → List (Int × Value)
  | [], k, v => [(k, v)]
  | x :: r, k, v => if k = x.1 then (k, v) :: r else x :: mput r k v
def mdel : List (Int × Value) → Int → List (Int × Value)
  | [], _ => []
  | x :: r, k => if k = x.1 then r else x :: mdel r k
theorem IM.lt {w : World} {mp : Nat} {m : List (Int × Value)} (h : IM w mp m) : mp < w.heap.size := by
  obtain ⟨es, ck, h, _⟩ := h
  exact (Array.getElem?_eq_some_iff.1 h).1
theorem IM.fr {S : List Nat} {w w' : World} {mp : Nat} {m : List (Int × Value)} (h : IM w mp m) (hf : Fr S w w') (hS : mp ∉ S) : IM w' mp m := by
  have hl := h.lt
  obtain ⟨es, ck, h, e⟩ := h
  exact ⟨es, ck, by rw [hf.block mp hl hS]; exact h, e⟩
theorem IM.new (w : World) : IM (w.alloc (.map #[] 0)) w.heap.size [] := ⟨#[], 0, (MapKept.heap_alloc w _).1, rfl, by simp [Stm]⟩
theorem IM.drew {w : World} {mp : Nat} {m : List (Int × Value)} (h : IM w mp m) : IM w.drew mp m := h
theorem IM.drewN {w : World} {mp : Nat} {m : List (Int × Value)} (h : IM w mp m) (n : Nat) : IM (w.drewN n) mp m := h.fr ((Fr.refl [] w).drewN n) (by simp)
theorem IM.alloc {w : World} {mp : Nat} {m : List (Int × Value)} (h : IM w mp m) (o : Obj) : IM (w.alloc o) mp m := h.fr ((Fr.refl [] w).alloc o) (by simp)
theorem findNow_int (q : IntKind) (k : Int) : ∀ (m : List (Int × Value)) (es : List MapEntry) (i : Nat), es.map (fun e => (e.key, e.val)) = m.map (fun x => (Value.int .i64 x.1, x.2)) →
    ∃ r, Instr.findNow (.int q) (.int .i64 k) es i = some r ∧ r.map (·.2) = mget m k ∧ (mget m k = none → r = none) ∧
      ∀ j v, r = some (j, v) → i ≤ j ∧ (es[j - i]?).map (·.key) = some (.int .i64 k) ∧ ∀ v' : Value, (es.modify (j - i) (fun e => { key := .int .i64 k, val := v', born := e.born })).map (fun e => (e.key, e.val)) = (mput m k v').map (fun x => (Value.int .i64 x.1, x.2)) ∧ (es.eraseIdx (j - i)).map (fun e => (e.key, e.val)) = (mdel m k).map (fun x => (Value.int .i64 x.1, x.2))
  | [], [], i, _ => ⟨none, rfl, rfl, fun _ => rfl, by simp⟩
  | [], _ :: _, _, h => by simp at h
  | _ :: _, [], _, h => by simp at h
  | (k', v) :: m, e :: es, i, h => by
    simp only [List.map_cons, List.cons.injEq, Prod.mk.injEq] at h
    obtain ⟨⟨h1, h2⟩, h3⟩ := h
    by_cases hk : k = k'
    · refine ⟨some (i, e.val), ?_, ?_, ?_, ?_⟩
      · simp [Instr.findNow, h1, Instr.sameNow, hk]
      · simp [mget, hk, h2]
      · simp [mget, hk]
      · intro j v' hj
        simp only [Option.some.injEq, Prod.mk.injEq] at hj
        obtain ⟨rfl, rfl⟩ := hj
        refine ⟨Nat.le_refl _, by simp [h1, hk], fun v'' => ⟨?_, ?_⟩⟩
        · simp [mput, hk, h3]
        · simp [mdel, hk, h3]
    · obtain ⟨r, h4, h5, h6, h7⟩ := findNow_int q k m es (i + 1) h3
      refine ⟨r, ?_, ?_, ?_, ?_⟩
      · have hb : (k == k') = false := by simpa using hk
        simp [Instr.findNow, h1, Instr.sameNow, hb, h4]
      · simp [mget, hk, h5]
      · simp [mget, hk]; exact h6
      · intro j v' hj
        obtain ⟨a1, a2, a3⟩ := h7 j v' hj
        have e1 : j - i = (j - (i + 1)) + 1 := by omega
        refine ⟨by omega, by rw [e1]; simpa using a2, fun v'' => ?_⟩
        obtain ⟨b1, b2⟩ := a3 v''
        rw [e1]
        refine ⟨?_, ?_⟩
        · simp [mput, hk, h1, h2]; simpa using b1
        · simp [mdel, hk, h1, h2]; simpa using b2
theorem run_find_im {P : Program} {w : World} {k : TypeId} {x : Int} {es : List MapEntry} {r : Option (Nat × Value)} (hk : P.underlying k = some (.int .i64)) (h : Instr.findNow (.int .i64) (.int .i64 x) es 0 = some r) : (Instr.findKey k (.int .i64 x) es).run P w = .ok r w := by
  simp [Instr.findKey, run_underlying hk, h, Result.andThen]
theorem run_lookup_im {P : Program} {w : World} {t k e : TypeId} {b : Nat} {m : List (Int × Value)} (h : IM w b m) (ht : P.underlying t = some (.map k e)) (hk : P.underlying k = some (.int .i64)) {z : Value} (hz : (zeroValue e).run P w = .ok z w) (x : Int) (c : Bool) :
    (Instr.lookup t (.map (some b)) (.int .i64 x) c).run P w = .ok (if c then .tuple #[(mget m x).getD z, .bool (mget m x).isSome] else (mget m x).getD z) w := by
  obtain ⟨es, ck, hb, he, hst⟩ := h
  obtain ⟨r, h1, h2, h3, _⟩ := findNow_int .i64 x m es.toList 0 he
  have hchk : ∀ b, (Instr.checkKey b 10000 k (.int .i64 x)).run P w = .ok () w := fun b => by
    exact MapKept.run_checkKey (d := .int .i64) hk (by simp [MapKept.IsKey]) b 9999
  cases r with
  | none =>
    have h2' : mget m x = none := by rw [← h2]; rfl
    cases c <;> simp [Instr.lookup, run_underlying ht, MapKept.run_getObj_map hb, hchk, run_find_im hk h1, hz, h2', Result.andThen]
  | some p =>
    obtain ⟨j, v⟩ := p
    have h2' : mget m x = some v := by rw [← h2]; rfl
    cases c <;> simp [Instr.lookup, run_underlying ht, MapKept.run_getObj_map hb, hchk, run_find_im hk h1, h2', Result.andThen]
theorem setBlock_fr (w : World) (b : Nat) (o : Obj) : Fr [b] w (setBlock w b o) :=
  ⟨rfl, rfl, rfl, by simp [setBlock], fun k _ hk => by
    simp only [List.mem_singleton] at hk
    simp [setBlock, Ne.symm hk]⟩
theorem run_mapUpdate_im {P : Program} {w : World} {t k e : TypeId} {b : Nat} {m : List (Int × Value)} (h : IM w b m) (ht : P.underlying t = some (.map k e)) (hk : P.underlying k = some (.int .i64)) (x : Int) (v : Value) :
    ∃ w', (Instr.mapUpdate t (.map (some b)) (.int .i64 x) v).run P w = .ok () w' ∧ IM w' b (mput m x v) ∧ Fr [b] w w' := by
  obtain ⟨es, ck, hb, he, hst⟩ := h
  obtain ⟨r, h1, h2, h3, h4⟩ := findNow_int .i64 x m es.toList 0 he
  have hchk : ∀ b, (Instr.checkKey b 10000 k (.int .i64 x)).run P w = .ok () w := fun b => by
    exact MapKept.run_checkKey (d := .int .i64) hk (by simp [MapKept.IsKey]) b 9999
  cases r with
  | none =>
    have h2' : mget m x = none := by rw [← h2]; rfl
    have hp : ∀ m : List (Int × Value), mget m x = none → mput m x v = m ++ [(x, v)] := by
      intro m
      induction m with
      | nil => intro _; rfl
      | cons y m ih =>
        intro hm
        unfold mget at hm
        split at hm
        · cases hm
        · rename_i hne
          rw [mput, if_neg hne, ih hm]; rfl
    refine ⟨setBlock w b (.map (es.push { key := .int .i64 x, val := v, born := ck }) (ck + 1)), ?_, ⟨_, _, heap_setBlock_same hb _, ?_, hst.push _ _⟩, setBlock_fr _ _ _⟩
    · simp [Instr.mapUpdate, run_underlying ht, MapKept.run_getObj_map hb, hchk, run_find_im hk h1, MapKept.run_setObj_map _ hb, Result.andThen, setBlock]
    · rw [hp m h2']; simp [he]
  | some p =>
    obtain ⟨j, v0⟩ := p
    obtain ⟨_, a2, a3⟩ := h4 j v0 rfl
    obtain ⟨b1, _⟩ := a3 v
    rw [Nat.sub_zero] at a2 b1
    have hkey : (((es[j]?).map (·.key)).getD (.int .i64 x)) = .int .i64 x := by
      rw [← Array.getElem?_toList, a2]; rfl
    have hsame : Instr.sameBits 10000 (.int .i64 x) (.int .i64 x) = true := by simp [Instr.sameBits]
    refine ⟨setBlock w b (.map (es.modify j fun e => { key := .int .i64 x, val := v, born := e.born }) ck), ?_, ⟨_, _, heap_setBlock_same hb _, ?_, hst.modify _ _ _⟩, setBlock_fr _ _ _⟩
    · simp [Instr.mapUpdate, run_underlying ht, MapKept.run_getObj_map hb, hchk, run_find_im hk h1, MapKept.run_setObj_map _ hb, Result.andThen, setBlock, hkey, Instr.keyThatStays, hsame]
    · simpa using b1
theorem wpList_mapUpdate_im {P : Program} (w : World) {ops : Array Oper} {rest : List Oper} {o : Oper} {a : Act} {Q : Exit → Act → World → Prop}
    (hg : o.guard = none) (m x v : Operand) (t : TypeId) (hop : o.op = Op.mapUpdate t m x v)
    (k e : TypeId) (ht : P.underlying t = some (.map k e)) (hk : P.underlying k = some (.int .i64)) (b : Nat) (l : List (Int × Value))
    (hm : a.eval m = .map (some b)) (h : IM w b l) (key : Int) (hx : a.eval x = .int .i64 key) (val : Value) (hv : a.eval v = val)
    (hK : ∀ w', IM w' b (mput l key val) → Fr [b] w w' → wpList P ops Q rest (a.put o.dst undef) w') :
    wpList P ops Q (o :: rest) a w := by
  refine wpList_plain hg fun K' hK' => ?_
  obtain ⟨w', hrun, r1, r2⟩ := run_mapUpdate_im h ht hk key val
  unfold Oper.wp
  simp [execOp, hop, hm, hx, hv, hrun, Result.andThen]
  exact hK' _ _ (hK w' r1 r2)
end Go.Proofs.YtklnpooninbogaaGreat
