import Derived.Test.YtifillpcphiblaaWRef
namespace Go.Proofs.Ytifillpcphiblaa
open Go Go.Proofs Go.RowKit

/-! The document's table: Begin, Take, Places. -/

/-- What is appended: a row that lies somewhere, or nothing. -/
def SrcRow (w : World) (sv : Value) (m : Nat) (news : List Value) : Prop :=
  (sv = .slice none 0 0 ∧ m = 0 ∧ news = []) ∨ ∃ b o c, sv = .slice (some ⟨b, o, none⟩) m c ∧ ∀ j u, news[j]? = some u → w.cell? ⟨b, o + j, none⟩ = some u

theorem SlM.src {w : World} {base : Nat} {sv : Value} {l : List (Int × Int)} (h : SlM w base sv l) : SrcRow w sv l.length (mwv l) := by
  rcases h with ⟨rfl, rfl⟩ | ⟨b, o, cap, cs, f, rfl, e2, e3, e4, e5⟩
  · exact .inl ⟨rfl, rfl, rfl⟩
  · exact .inr ⟨b, o, cap, rfl, fun j u hu => by rw [cell_of_row w b (o + j) cs _ f e3]; exact e4 j u hu⟩

section
variable {P : Program}
theorem run_append_src (w : World) (base : Nat) (t ty e : TypeId) (i : TypeInfo) (z : Value) (size bytes : Nat) (ht : P.underlying t = some (.slice e)) (hi : P.info? e = some i) (hz : i.zero = some z)
    (hsize : i.size = size) (hby : i.bytes = bytes) (hzs : z.cells.size = size) (hsz : 0 < size)
    (v : Value) (n : Nat) (xs : List Value) (hown : w.ownsRow base e size v n xs) (sv : Value) (m : Nat) (news : List Value) (hs : SrcRow w sv m news) (hl : news.length = m * size) (h1 : ∀ u ∈ news, u.oneCell' = true)
    (h63 : n + m ≤ maxLen) (hbytes : (n + m) * bytes ≤ 140737488355328) (hbase : base ≤ w.heap.size) :
    ∃ p c w', (Builtin.append_ #[t, t] ty #[v, sv]).run P w = .ok (.slice p (n + m) c) w' ∧ w'.ownsRow base e size (.slice p (n + m) c) (n + m) (xs ++ news) ∧ w.grownBy w' v.ownBlock := by
  rcases hs with ⟨rfl, rfl, rfl⟩ | ⟨b, o, c, rfl, hc⟩
  · have hrun := run_append_owned_none (P := P) (w := w) base t ty e i size ht hi v n xs hown
    obtain ⟨p, c, rfl⟩ := own_len hown
    exact ⟨p, c, w, hrun, by rw [List.append_nil]; exact hown, ⟨rfl, rfl, rfl, Nat.le_refl _, fun _ _ _ => rfl⟩⟩
  · have hadd : ∀ j, (⟨b, o, none⟩ : Addr).add j = ⟨b, o + j, none⟩ := fun j => by unfold Addr.add; split <;> simp_all
    obtain ⟨v', w', hr, h2, h3, _, _⟩ := run_append_own_at (P := P) w base t ty e i z size bytes ht hi hz hsize hby hzs hsz v n xs hown ⟨b, o, none⟩ m c news hl (fun j u hu => by rw [hadd]; exact hc j u hu) h1 h63 hbytes hbase
    obtain ⟨p, c', rfl⟩ := own_len h2
    exact ⟨p, c', w', hr, h2, h3⟩

variable {w : World}
theorem wpList_append_src {ops : Array Oper} {rest : List Oper} {o : Oper} {a : Act} {Q : Exit → Act → World → Prop} (hgd : o.guard = none) (s x : Operand) (t : TypeId)
    (ho : o.op = .call { callee := .builtin .append, args := #[s, x], argTypes := #[t, t] })
    (base : Nat) (e : TypeId) (i : TypeInfo) (z : Value) (size bytes : Nat) (ht : P.underlying t = some (.slice e)) (hi : P.info? e = some i) (hz : i.zero = some z)
    (hsize : i.size = size) (hby : i.bytes = bytes) (hzs : z.cells.size = size) (hsz : 0 < size)
    (v : Value) (n : Nat) (xs : List Value) (hs : a.eval s = v) (hown : w.ownsRow base e size v n xs) (sv : Value) (m : Nat) (news : List Value) (hx : a.eval x = sv) (hsrc : SrcRow w sv m news) (hl : news.length = m * size) (h1 : ∀ u ∈ news, u.oneCell' = true)
    (h63 : n + m ≤ maxLen) (hbytes : (n + m) * bytes ≤ 140737488355328) (hbase : base ≤ w.heap.size)
    (h : ∀ p c w', w'.ownsRow base e size (.slice p (n + m) c) (n + m) (xs ++ news) → w.grownBy w' v.ownBlock → wpList P ops Q rest (a.put o.dst (.slice p (n + m) c)) w') : wpList P ops Q (o :: rest) a w := by
  refine wpList_plain hgd fun K' hK => ?_
  obtain ⟨p, c, w', hr, h2, h3⟩ := run_append_src (P := P) w base t o.type e i z size bytes ht hi hz hsize hby hzs hsz v n xs hown sv m news hsrc hl h1 h63 hbytes hbase
  unfold Oper.wp execOp
  simp only [ho, resolve, invoke, builtin, Sem.run_bind, Sem.run_pure, Result.andThen_ok, List.map_toArray, List.map_cons, List.map_nil, hs, hx, hr]
  exact hK _ _ (h p c w' h2 h3)

theorem step_append_src {ops : Array Oper} {o : Oper} {a : Act} {K : Act → World → Prop} {Q : Exit → Act → World → Prop} {E : Prop} (hgd : o.guard = none) (s x : Operand) (t : TypeId)
    (ho : o.op = .call { callee := .builtin .append, args := #[s, x], argTypes := #[t, t] })
    (base : Nat) (e : TypeId) (i : TypeInfo) (z : Value) (size bytes : Nat) (ht : P.underlying t = some (.slice e)) (hi : P.info? e = some i) (hz : i.zero = some z)
    (hsize : i.size = size) (hby : i.bytes = bytes) (hzs : z.cells.size = size) (hsz : 0 < size)
    (v : Value) (n : Nat) (xs : List Value) (hs : a.eval s = v) (hown : w.ownsRow base e size v n xs) (sv : Value) (m : Nat) (news : List Value) (hx : a.eval x = sv) (hsrc : SrcRow w sv m news) (hl : news.length = m * size) (h1 : ∀ u ∈ news, u.oneCell' = true)
    (h63 : n + m ≤ maxLen) (hbytes : (n + m) * bytes ≤ 140737488355328) (hbase : base ≤ w.heap.size)
    (h : ∀ p c w', w'.ownsRow base e size (.slice p (n + m) c) (n + m) (xs ++ news) → w.grownBy w' v.ownBlock → K (a.put o.dst (.slice p (n + m) c)) w') :
    if Region.wanted o (yielded ops a.tmps) = true then Oper.wp P o a w K Q else E := by
  have hw : Region.wanted o (yielded ops a.tmps) = true := by simp [Region.wanted, hgd]
  rw [if_pos hw]
  obtain ⟨p, c, w', hr, h2, h3⟩ := run_append_src (P := P) w base t o.type e i z size bytes ht hi hz hsize hby hzs hsz v n xs hown sv m news hsrc hl h1 h63 hbytes hbase
  unfold Oper.wp execOp
  simp only [ho, resolve, invoke, builtin, Sem.run_bind, Sem.run_pure, Result.andThen_ok, List.map_toArray, List.map_cons, List.map_nil, hs, hx, hr]
  exact h p c w' h2 h3
end

set_option maxRecDepth 100000 in
set_option maxHeartbeats 4000000 in
theorem mBegin (mb base : Nat) (R Q K : List (Int × Int)) (w : World) (h : MR w mb base R Q K) (hb : base ≤ w.heap.size) (hmb : mb < base) (hl : R.length ≤ 65536) :
    Calls Try.prog 45 #[.pointer (some ⟨mb, 0, none⟩)] w fun e w' => e = .returned (.tuple #[]) ∧ MR w' mb base R Q R ∧ Fr [mb] w w' := by
  obtain ⟨rv, qv, kv, hB, hR, hQ, hK⟩ := h.ex
  have q0 := hB.cell (i := 0) rfl
  have hsrc := hR.src
  have hmlt := hB.lt
  obtain ⟨pr, cr, er⟩ : ∃ p c, rv = .slice p R.length c := by
    rcases hR with ⟨rfl, rfl⟩ | ⟨b, o, cap, cs, f, rfl, _⟩
    · exact ⟨_, _, rfl⟩
    · exact ⟨_, _, rfl⟩
  subst er
  have C0 := Blk.new w [] 149
  have hF0 : Fr [] w (w.alloc (.cells #[] 149)) := (Fr.refl [] w).alloc _
  have hown : (w.alloc (.cells #[] 149)).ownsRow w.heap.size 149 3 (.slice (some ⟨w.heap.size, 0, none⟩) 0 0) 0 [] := own_of_blk C0 (Nat.le_refl _) (by decide) rfl
  have hR0 := hR.fr hF0 (by simp)
  have hml := mwv_len R
  have HI := hid (info_parts info_w)
  have HL := hid hml
  clear hml
  go_enter Try.func45, Try.ntmps45
  go_wp2_with (at_builtin; obtain ⟨i0, hi, hz0, hz1, hz2⟩ := HI.out; refine wpList_append_src rfl _ _ _ rfl w.heap.size 149 i0 (.agg #[.int .i64 0, .int .i64 0, .bool false]) 3 24 Try.underlying142 hi hz0 hz1 hz2 rfl (by decide) (.slice (some ⟨w.heap.size, 0, none⟩) 0 0) 0 [] rfl hown (.slice pr R.length cr) R.length (mwv R) rfl hR0.src HL.out mwv_one ?c1 ?c2 ?c3 ?c4)
  case c1 => simp only [maxLen]; omega
  case c2 => omega
  case c3 => simp
  case c4 =>
    intro pp cc w9 hown9 hgrow
    have hFa : Fr [w.heap.size] _ w9 := Fr.of_grownBy hgrow (S := [w.heap.size]) (by intro k' hk'; left; simp [Value.ownBlock] at hk'; simp [hk'])
    have hF : Fr [] w w9 := hF0.step hFa (fun b hb => by simp at hb; right; omega)
    have hB9 := hB.fr hF (by simp)
    have q9 := hB9.cell (i := 2) rfl
    have y9 := hB9.frozen 2
    clear q0 hsrc
    go_wp2_with fail
    go_end0
    have hFs : Fr [mb] w (w9.setCell ⟨mb, 2, none⟩ (.slice pp R.length cc)) := (hF.here (by simp)).set (by simp) _
    have far : Fr [mb] w9 (w9.setCell ⟨mb, 2, none⟩ (.slice pp R.length cc)) := (Fr.refl _ w9).set (by simp) _
    have hrow := own_slm (l := R) (ownsRow_base hown9 hb)
    refine ⟨rfl, ⟨.slice pr R.length cr, qv, .slice pp R.length cc, hB9.set 2 _, hR.fr hFs (fun b hb => by simp at hb; subst hb; exact .inl hmb), hQ.fr hFs (fun b hb => by simp at hb; subst hb; exact .inl hmb), hrow.fr far (fun b hb => by simp at hb; subst hb; exact .inl hmb)⟩, hFs⟩
end Go.Proofs.Ytifillpcphiblaa
