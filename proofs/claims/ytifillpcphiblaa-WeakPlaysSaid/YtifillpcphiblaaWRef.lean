import Derived.Test.YtifillpcphiblaaWLaw1
namespace Go.Proofs.Ytifillpcphiblaa
open Go Go.Proofs Go.RowKit

/-! The document's table: Add. -/

theorem own_of_blk {w : World} {base g n size : Nat} {cs : List Value} {T : TypeId} (h : Blk w g cs T) (hb : base ≤ g) (hn : n ≤ maxLen) (hl : cs.length = n * size) : w.ownsRow base T size (.slice (some ⟨g, 0, none⟩) n n) n cs :=
  ⟨hl, .inr ⟨g, n, cs.toArray, rfl, hb, h, Nat.le_refl _, hn, by simpa using hl, by rw [← hl]; simp⟩⟩

theorem own_slm {w : World} {base : Nat} {v : Value} {l : List (Int × Int)} (h : w.ownsRow base 149 3 v l.length (mwv l)) : SlM w base v l := by
  obtain ⟨h1, ⟨rfl, h2⟩ | ⟨g, cap, cur, rfl, hg, hh, hc, hm, hs, ht⟩⟩ := h
  · exact .inl ⟨rfl, List.length_eq_zero_iff.1 h2⟩
  · refine .inr ⟨g, 0, cap, cur, _, rfl, hg, hh, fun j x hx => ?_, hc⟩
    rw [← ht, List.getElem?_take] at hx
    split at hx
    · rw [Nat.zero_add, ← Array.getElem?_toList]; exact hx
    · cases hx

section
variable {P : Program} {w : World}
/-- append at a step of a region that draws: something, onto something, or onto nothing. -/
theorem step_append_any {ops : Array Oper} {o : Oper} {a : Act} {K : Act → World → Prop} {Q : Exit → Act → World → Prop} {E : Prop} (hgd : o.guard = none) (s x : Operand) (t : TypeId)
    (ho : o.op = .call { callee := .builtin .append, args := #[s, x], argTypes := #[t, t] })
    (base : Nat) (e : TypeId) (i : TypeInfo) (z : Value) (size bytes : Nat) (ht : P.underlying t = some (.slice e)) (hi : P.info? e = some i) (hz : i.zero = some z)
    (hsize : i.size = size) (hby : i.bytes = bytes) (hzs : z.cells.size = size) (hsz : 0 < size)
    (v : Value) (n : Nat) (xs : List Value) (hs : a.eval s = v) (hown : w.ownsRow base e size v n xs)
    (ad : Addr) (m c : Nat) (news : List Value) (hx : a.eval x = .slice (some ad) m c) (hl : news.length = m * size) (hnews : ∀ j u, news[j]? = some u → w.cell? (ad.add j) = some u) (h1 : ∀ u ∈ news, u.oneCell' = true)
    (hm : 0 < n + m) (h63 : n + m ≤ maxLen) (hbytes : (n + m) * bytes ≤ 140737488355328) (hbase : base ≤ w.heap.size) (H : Nat) (hH : w.heap.size = H)
    (h : ∀ g cap w', w'.ownsRow base e size (.slice (some ⟨g, 0, none⟩) (n + m) cap) (n + m) (xs ++ news) → w.grownBy w' v.ownBlock → (v.ownBlock = some g ∨ g = H) → g < w'.heap.size → K (a.put o.dst (.slice (some ⟨g, 0, none⟩) (n + m) cap)) w') :
    if Region.wanted o (yielded ops a.tmps) = true then Oper.wp P o a w K Q else E := by
  have hw : Region.wanted o (yielded ops a.tmps) = true := by simp [Region.wanted, hgd]
  rw [if_pos hw]
  obtain ⟨v', w', hr, h2, h3, _, h5⟩ := run_append_own_at (P := P) w base t o.type e i z size bytes ht hi hz hsize hby hzs hsz v n xs hown ad m c news hl hnews h1 h63 hbytes hbase
  obtain ⟨g, cap, rfl, _, hlt⟩ := h2.form hm
  unfold Oper.wp execOp
  simp only [ho, resolve, invoke, builtin, Sem.run_bind, Sem.run_pure, Result.andThen_ok, List.map_toArray, List.map_cons, List.map_nil, hs, hx, hr]
  refine h g cap w' h2 h3 ?_ hlt
  rcases h5 with h5 | h5
  · exact .inl (by rw [← h5]; rfl)
  · right
    have : g = w.heap.size := by simpa [Value.ownBlock] using h5
    rw [this, hH]

theorem step_append_nil {ops : Array Oper} {o : Oper} {a : Act} {K : Act → World → Prop} {Q : Exit → Act → World → Prop} {E : Prop} (hgd : o.guard = none) (s x : Operand) (t : TypeId)
    (ho : o.op = .call { callee := .builtin .append, args := #[s, x], argTypes := #[t, t] })
    (base : Nat) (e : TypeId) (i : TypeInfo) (size : Nat) (ht : P.underlying t = some (.slice e)) (hi : P.info? e = some i)
    (v : Value) (n : Nat) (xs : List Value) (hs : a.eval s = v) (hown : w.ownsRow base e size v n xs) (hx : a.eval x = .slice none 0 0)
    (h : K (a.put o.dst v) w) : if Region.wanted o (yielded ops a.tmps) = true then Oper.wp P o a w K Q else E := by
  have hw : Region.wanted o (yielded ops a.tmps) = true := by simp [Region.wanted, hgd]
  rw [if_pos hw]
  have hrun := run_append_owned_none (P := P) (w := w) base t o.type e i size ht hi v n xs hown
  unfold Oper.wp
  simp [execOp, ho, resolve, invoke, builtin, hs, hx, hrun, Result.andThen]
  exact h
end

theorem info_w : (Try.prog.info? 149).map (fun i => (i.zero, i.size, i.bytes)) = some (some (.agg #[.int .i64 0, .int .i64 0, .bool false]), 3, 24) := by kernel_rfl

theorem mwv_one {l : List (Int × Int)} : ∀ u ∈ mwv l, u.oneCell' = true := by
  intro u hu
  simp only [mwv, List.mem_flatMap] at hu
  obtain ⟨x, -, hx⟩ := hu
  simp at hx
  rcases hx with rfl | rfl | rfl <;> rfl

/-- A row's cells, as append asks for them. -/
theorem SlM.news {w : World} {b o : Nat} {cs : Array Value} {f : Nat × Nat} {l : List (Int × Int)} (e3 : w.heap[b]? = some (.cells cs 149 f)) (e4 : ∀ (j : Nat) (x : Value), (mwv l)[j]? = some x → cs[o + j]? = some x) : ∀ j u, (mwv l)[j]? = some u → w.cell? ((⟨b, o, none⟩ : Addr).add j) = some u := by
  intro j u hu
  have hadd : (⟨b, o, none⟩ : Addr).add j = ⟨b, o + j, none⟩ := by unfold Addr.add; split <;> simp_all
  rw [hadd, cell_of_row w b (o + j) cs _ f e3]
  exact e4 j u hu

set_option maxRecDepth 100000 in
set_option maxHeartbeats 4000000 in
theorem mAdd (mb base : Nat) (R Q K : List (Int × Int)) (p n : Int) (w : World) (h : MR w mb base R Q K) (hb : base ≤ w.heap.size) (hmb : mb < base) (hl : R.length ≤ 65536) :
    Calls Try.prog 91 #[.pointer (some ⟨mb, 0, none⟩), .agg #[.int .i64 p, .int .i64 n, .bool false]] w fun e w' => e = .returned (.tuple #[]) ∧ MR w' mb base ((p, n) :: R) Q K ∧ Fr [mb] w w' := by
  obtain ⟨rv, qv, kv, hB, hR, hQ, hK⟩ := h.ex
  go_enter Try.func91, Try.ntmps91
  go_wp2_with fail
  have C0 := Blk.new w [.int .i64 p, .int .i64 n, .bool false] 149
  have hF0 : Fr [] w (w.alloc (.cells #[.int .i64 p, .int .i64 n, .bool false] 149)) := (Fr.refl [] w).alloc _
  obtain ⟨W0, hW0⟩ : ∃ W0, W0 = w.alloc (.cells #[.int .i64 p, .int .i64 n, .bool false] 149) := ⟨_, rfl⟩
  have hsz : W0.heap.size = w.heap.size + 1 := by rw [hW0]; simp
  rw [← hW0] at C0 hF0 ⊢
  clear hW0
  have c0 := C0.cell (i := 0) rfl
  have c1 := C0.cell (i := 1) rfl
  have c2 := C0.cell (i := 2) rfl
  have B0 := hB.fr hF0 (by simp)
  have q0 := B0.cell (i := 0) rfl
  have y0 := B0.frozen 0
  have Bn := Blk.new W0 [.int .i64 p, .int .i64 n, .bool false] 149
  have a0 := (B0.alloc (.cells #[.int .i64 p, .int .i64 n, .bool false] 149)).cell (i := 0) rfl
  have x0 := (B0.alloc (.cells #[.int .i64 p, .int .i64 n, .bool false] 149)).frozen 0
  have hR0 := hR.fr hF0 (by simp)
  have hQ0 := hQ.fr hF0 (by simp)
  have hK0 := hK.fr hF0 (by simp)
  have HSZ := hid hsz
  have hmlt := hB.lt
  have HI := hid (info_parts info_w)
  have hb0 : base ≤ W0.heap.size := by omega
  clear hsz
  have hW0 : W0.drew.heap.size = W0.heap.size := rfl
  have hown : (W0.drew.alloc (.cells #[.int .i64 p, .int .i64 n, .bool false] 149)).ownsRow base 149 3 (.slice (some ⟨W0.heap.size, 0, none⟩) 1 1) 1 [.int .i64 p, .int .i64 n, .bool false] :=
    own_of_blk (Blk.new W0.drew [.int .i64 p, .int .i64 n, .bool false] 149) hb0 (by decide) rfl
  have fin : ∀ (g cap : Nat) (w9 : World), w9.ownsRow base 149 3 (.slice (some ⟨g, 0, none⟩) (1 + R.length) cap) (1 + R.length) (mwv ((p, n) :: R)) → Fr [W0.heap.size] (W0.drew.alloc (.cells #[.int .i64 p, .int .i64 n, .bool false] 149)) w9 →
      MR (w9.setCell ⟨mb, 0, none⟩ (.slice (some ⟨g, 0, none⟩) (1 + R.length) cap)) mb base ((p, n) :: R) Q K ∧ Fr [mb] w (w9.setCell ⟨mb, 0, none⟩ (.slice (some ⟨g, 0, none⟩) (1 + R.length) cap)) := by
    intro g cap w9 hown9 hF9
    have hsz := HSZ.out
    have hF : Fr [] w w9 := (((hF0.drew).alloc _)).step hF9 (fun b hb => by simp at hb; right; omega)
    have hFs : Fr [mb] w (w9.setCell ⟨mb, 0, none⟩ (.slice (some ⟨g, 0, none⟩) (1 + R.length) cap)) := (hF.here (by simp)).set (by simp) _
    have hrow := own_slm (l := (p, n) :: R) (by rw [List.length_cons, Nat.add_comm]; exact hown9)
    have hmlt' : mb < base := hmb
    have far : Fr [mb] w9 (w9.setCell ⟨mb, 0, none⟩ (.slice (some ⟨g, 0, none⟩) (1 + R.length) cap)) := (Fr.refl _ w9).set (by simp) _
    refine ⟨⟨.slice (some ⟨g, 0, none⟩) (1 + R.length) cap, qv, kv, ?_, ?_, ?_, ?_⟩, hFs⟩
    · exact (hB.fr hF (by simp)).set 0 _
    · exact hrow.fr far (fun b hb => by simp at hb; subst hb; exact .inl hmlt')
    · exact hQ.fr hFs (fun b hb => by simp at hb; subst hb; exact .inl hmlt')
    · exact hK.fr hFs (fun b hb => by simp at hb; subst hb; exact .inl hmlt')
  rcases hR0 with ⟨rfl, rfl⟩ | ⟨b, o, cap, cs, f, rfl, e2, e3, e4⟩
  · go_region_law (first
      | (obtain ⟨i0, hi, hz0, hz1, hz2⟩ := HI.out; refine step_append_nil (by rfl) _ _ _ (by rfl) base 149 i0 3 Try.underlying142 hi (.slice (some ⟨W0.heap.size, 0, none⟩) 1 1) 1 [.int .i64 p, .int .i64 n, .bool false] (by rfl) hown (by rfl) ?_; clear hi hz0 hz1 hz2))
    all_goals
      go_wp2_with fail
      go_end0
      obtain ⟨r1, r2⟩ := fin W0.heap.size 1 _ hown (Fr.refl _ _)
      exact ⟨rfl, r1, r2⟩
  · have hlb : b < W0.heap.size := (Array.getElem?_eq_some_iff.1 e3).1
    have hE3 : (W0.drew.alloc (.cells #[.int .i64 p, .int .i64 n, .bool false] 149)).heap[b]? = some (.cells cs 149 f) := ((((Fr.refl [] W0).drew).alloc (.cells #[.int .i64 p, .int .i64 n, .bool false] 149)).block b hlb (by simp)).trans e3
    go_region_law (first
      | (obtain ⟨i0, hi, hz0, hz1, hz2⟩ := HI.out; refine step_append_any (by rfl) _ _ _ (by rfl) base 149 i0 (.agg #[.int .i64 0, .int .i64 0, .bool false]) 3 24 Try.underlying142 hi hz0 hz1 hz2 rfl (by decide) (.slice (some ⟨W0.heap.size, 0, none⟩) 1 1) 1 [.int .i64 p, .int .i64 n, .bool false] (by rfl) hown ⟨b, o, none⟩ R.length cap (mwv R) (by rfl) (mwv_len R) (SlM.news hE3 e4.1) mwv_one (by omega) (by simp only [maxLen]; omega) (by omega) (by simp; omega) _ rfl ?_; clear hi hz0 hz1 hz2; intro gg cap2 w9 hown9 hgrow hat hlt9; have hFa : Fr [W0.heap.size] _ w9 := Fr.of_grownBy hgrow (S := [W0.heap.size]) (by intro k' hk'; left; simp [Value.ownBlock] at hk'; simp [hk']); have q9 := ((B0.drew.alloc (.cells #[.int .i64 p, .int .i64 n, .bool false] 149)).fr hFa (by simp; omega)).cell (i := 0) rfl; have y9 := ((B0.drew.alloc (.cells #[.int .i64 p, .int .i64 n, .bool false] 149)).fr hFa (by simp; omega)).frozen 0))
    all_goals
      go_wp2_with fail
      go_end0
      obtain ⟨r1, r2⟩ := fin gg cap2 w9 hown9 hFa
      exact ⟨rfl, r1, r2⟩
end Go.Proofs.Ytifillpcphiblaa
