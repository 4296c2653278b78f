import Derived.Test.YtifillpcphiblaaWLaw2
namespace Go.Proofs.Ytifillpcphiblaa
open Go Go.Proofs Go.RowKit

/-! The law's add. -/

theorem LL.Ok.base {l : LL} {B : Nat} (ok : l.Ok B) : B ≤ l.base := by have := ok.l1; have := ok.ap.tl; omega

theorem app_rest {w0 w w' : World} {l : LL} {pr vs : List Value} {os : List (List Int)} {sv v : Value} {S : List Int} {s : HS} {t : TS} {R Q K : List (Int × Int)} (ok : l.Ok w0.heap.size) (hws : WS w l.vb l.bx l.base pr vs os sv S) (hv : v ∈ vs)
    (hF : Fr (l.vb :: v.ownBlock.toList) w w') (hH : HRep w l.L s) (hT : TRep w l.tb l.L.hb (shv l.bx) t) (hM : MR w l.mb l.base R Q K) (hFr : Fr [] w0 w) : HRep w' l.L s ∧ TRep w' l.tb l.L.hb (shv l.bx) t ∧ MR w' l.mb l.base R Q K ∧ Fr [] w0 w' := by
  obtain ⟨xs, -, hown⟩ := hws.own hv
  have low := own_low hown
  have ap := ok.ap
  have hb := ok.base
  refine ⟨hH.fr hF (fun b hb hc => ?_), hT.fr hF (fun hc => ?_), hM.fr hF (fun hc => ?_) (fun b hb => ?_), hFr.step hF (fun b hb => .inr ?_)⟩
  · rcases List.mem_cons.1 hb with e | e
    · subst e; exact ap.nv hc
    · have := low b e; have := ap.lb b hc; omega
  · rcases List.mem_cons.1 hc with e | e
    · exact ap.tv e
    · have := low _ e; have := ap.tl; omega
  · rcases List.mem_cons.1 hc with e | e
    · exact ok.m3 e
    · have := low _ e; have := ok.m5; omega
  · rcases List.mem_cons.1 hb with e | e
    · subst e; exact .inl hws.b2
    · obtain ⟨_, h | ⟨g, cap, cur, hv', hg, hh, _⟩⟩ := hown
      · rw [h.1] at e; simp [Value.ownBlock] at e
      · rw [hv'] at e; simp [Value.ownBlock] at e; subst e
        exact .inr ⟨_, _, _, hh, by decide⟩
  · rcases List.mem_cons.1 hb with e | e
    · subst e; exact ok.l2
    · have := low b e; omega

theorem madd_rest {w0 w w' : World} {l : LL} {pr vs : List Value} {os : List (List Int)} {sv : Value} {S : List Int} {s : HS} {t : TS} (ok : l.Ok w0.heap.size) (hws : WS w l.vb l.bx l.base pr vs os sv S)
    (hF : Fr [l.mb] w w') (hH : HRep w l.L s) (hT : TRep w l.tb l.L.hb (shv l.bx) t) (hFr : Fr [] w0 w) : HRep w' l.L s ∧ TRep w' l.tb l.L.hb (shv l.bx) t ∧ WS w' l.vb l.bx l.base pr vs os sv S ∧ Fr [] w0 w' := by
  refine ⟨hH.fr hF (fun b hb hc => ?_), hT.fr hF (fun hc => ?_), hws.fr hF (fun b hb => ?_), hFr.step hF (fun b hb => .inr ?_)⟩
  · simp at hb; subst hb; exact ok.m1 hc
  · simp at hc; exact ok.m2 hc.symm
  · simp at hb; subst hb; exact ⟨ok.m5, ok.m4, ok.m3⟩
  · simp at hb; subst hb; exact ok.l4

theorem ix1 : ixGe [1, 4] ((1 : Nat) : Int) = ((0 : Nat) : Int) := by decide
theorem ix4 : ixGe [1, 4] ((4 : Nat) : Int) = ((1 : Nat) : Int) := by decide

def AddPost (w0 : World) (l : LL) (p : LP) (e : Ending) (w' : World) : Prop :=
  e = .returned (.bool true) ∧ ∃ s' A' z' k, WR w0 w' l { p with s := s', A := A', z := z', t := p.t.added k.o.p, n := p.n + 1, ks := upk p.ks p.n k, pre := p.n :: p.pre, M := p.M ++ [k.o.p], R := (k.o.p, (p.n : Int)) :: p.R } ∧
    k.ko.m = s'.parity ∧ s'.parity = p.s.parity ∧ s'.top = p.s.top + 15 ∧ s'.edge = p.s.edge ∧ (∀ q, (A' q).F = (p.A q).F ∧ (A' q).G = (p.A q).G)

set_option maxRecDepth 100000 in
set_option maxHeartbeats 8000000 in
theorem wAdd (w0 w : World) (l : LL) (p : LP) (h : WR w0 w l p) (hn : p.n ≤ 60000) (hroom : p.s.top + 15 ≤ p.s.edge) (hM : p.M.length ≤ 60000) (hR : p.R.length ≤ 60000) :
    Calls Try.prog 37 #[.pointer (some ⟨l.vb, 0, none⟩)] w (AddPost w0 l p) := by
  have ok := h.ok
  have ap := ok.ap
  obtain ⟨kv, wv, mv, sv, hws⟩ := h.ws
  have hH := h.h
  have hT := h.t
  have hMR := h.m
  have hFr := h.fr
  have wh := h.wh
  have wt := h.wt
  clear h
  obtain ⟨s, A, z, t, n, ks, pre, walk, queue, M, S, R, Q, K⟩ := p
  simp only at *
  have hcls := wh.cls
  have p0 := wh.p0
  have p1 := wh.p1
  obtain ⟨pk, ck, ek⟩ := own_len (hws.row 0 _ _ rfl rfl)
  obtain ⟨pw, cw, ew⟩ := own_len (hws.row 1 _ _ rfl rfl)
  obtain ⟨pm, cm, em⟩ := own_len (hws.row 2 _ _ rfl rfl)
  rw [keysOf_len] at ek
  rw [weaksOf_len] at ew
  subst ek
  subst ew
  subst em
  have c0 := hws.cell.1
  have hvf : l.vb ∉ l.L.fp := fun hc => ap.nv (fpall _ hc)
  have hxf : l.bx ∉ l.L.fp := fun hc => ap.nx (fpall _ hc)
  have hfp : ∀ b ∈ l.L.fp, b < l.base ∧ b ≠ l.bx ∧ b ≠ l.vb := fun b hb => ⟨ap.lb b (fpall _ hb), fun e => hxf (e ▸ hb), fun e => hvf (e ▸ hb)⟩
  have htf : l.tb ∉ l.L.fp := fun hc => ap.nt (fpall _ hc)
  have hmf : l.mb ∉ l.L.fp := fun hc => ok.m1 (fpall _ hc)
  have hS := hid hws
  have hT' := hid hT
  have hM' := hid hMR
  have hFr' := hid hFr
  clear hws hT hMR hFr
  go_enter Try.func37, Try.ntmps37
  go_wp2_with fail
  refine (hAllocRoom l.L s A z 7 0 1 1 0 _ hH wh.hi (Hd.of (by decide) (by decide) p0 p1 (by decide) (by decide) (by decide) (by decide)) (by rw [hcls]; exact ix1) (by rw [hcls]; rfl) (by decide) (wh.nW _) (by omega)).mono ?_
  rintro e w1 ⟨q1, s1, A1, z1, rfl, hH1, k1, top1, hF1⟩
  have wh1 := wh.alloc k1
  have S1 := hS.out.fr hF1 hfp
  have d0 := S1.cell.1
  have hS1 := hid S1
  clear c0 S1
  go_wp2_with fail
  refine (hAllocRoom l.L s1 A1 z1 7 1 1 1 0 _ hH1 wh1.hi (Hd.of (by decide) (by decide) wh1.p0 wh1.p1 (by decide) (by decide) (by decide) (by decide)) (by rw [wh1.cls]; exact ix1) (by rw [wh1.cls]; rfl) (by decide) (wh1.nW _) (by have := k1.edge; omega)).mono ?_
  rintro e w2 ⟨q2, s2, A2, z2, rfl, hH2, k2, top2, hF2⟩
  have wh2 := wh1.alloc k2
  have S2 := hS1.out.fr hF2 hfp
  have c0 := S2.cell.1
  have c4 := S2.cell.2.2.2.2.1
  have hS2 := hid S2
  clear d0 S2
  go_wp2_with fail
  refine (hAllocRoom l.L s2 A2 z2 9 n 4 4 1 _ hH2 wh2.hi (Hd.of (by decide) (by decide) wh2.p0 wh2.p1 (by decide) (by decide) (by omega) (by omega)) (by rw [wh2.cls]; exact ix4) (by rw [wh2.cls]; rfl) (by decide) (wh2.nW _) (by have := k1.edge; have := k2.edge; omega)).mono ?_
  rintro e w3 ⟨q3, s3, A3, z3, rfl, hH3, k3, top3, hF3⟩
  have S3 := hS2.out.fr hF3 hfp
  have d0 := S3.cell.1
  have hS3 := hid S3
  obtain ⟨l3, l4, l5, l6, whF, wtF, parF, topF, edgeF⟩ := add_plain wh wt (by omega) k1 k2 k3
  have b3 := l3.p1
  have b0 := l3.p0
  simp only at b3 b0
  have HW := hid wtF
  have HV := hid whF
  have HT := hid topF
  clear c0 c4 S3 wtF whF topF
  go_wp2_with fail
  refine (hSet l.L s3 q3 9 (4 : Nat) n s2.parity (0 : Nat) q1 _ hH3 (by omega) l3.p1 l3.head l3.hd (by decide) (by decide)).mono ?_
  rintro e w4 ⟨rfl, hH4, hF4⟩
  have S4 := hS3.out.fr hF4 (fun b hb => hfp b (fpaw l.L b hb))
  have c0 := S4.cell.1
  have hS4 := hid S4
  clear d0 S4
  go_wp2_with fail
  refine (hSet l.L (s3.put (q3 + 3 + (0 : Nat)) q1 2) q3 9 (4 : Nat) n s2.parity (1 : Nat) q2 _ hH4 (by omega) l4.p1 l4.head l4.hd (by decide) (by decide)).mono ?_
  rintro e w5 ⟨rfl, hH5, hF5⟩
  have S5 := hS4.out.fr hF5 (fun b hb => hfp b (fpaw l.L b hb))
  have d0 := S5.cell.1
  have hS5 := hid S5
  clear c0 S5
  go_wp2_with fail
  refine (hSet l.L ((s3.put (q3 + 3 + (0 : Nat)) q1 2).put (q3 + 3 + (1 : Nat)) q2 2) q3 9 (4 : Nat) n s2.parity (2 : Nat) q2 _ hH5 (by omega) l5.p1 l5.head l5.hd (by decide) (by decide)).mono ?_
  rintro e w6 ⟨rfl, hH6, hF6⟩
  have S6 := hS5.out.fr hF6 (fun b hb => hfp b (fpaw l.L b hb))
  have c0 := S6.cell.1
  have hS6 := hid S6
  clear d0 S6
  have S6 := hS6.out
  have hF36 : Fr l.L.fp w w6 := (((hF1.trans hF2).trans hF3).trans (hF4.here (fpaw l.L))).trans ((hF5.here (fpaw l.L)).trans (hF6.here (fpaw l.L)))
  have T6 : TRep w6 l.tb l.L.hb (shv l.bx) t := Blk.fr hT'.out hF36 htf
  have M6 := hM'.out.fr hF36 hmf (fun b hb => .inl (hfp b hb).1)
  have F6 : Fr [] w0 w6 := hFr'.out.step hF36 (fun b hb => .inr (ok.low b (fpall b hb)))
  obtain ⟨i0, hi, hz0, hz1, hz2⟩ := info_parts info_i
  have h1' := hid hi
  have h2' := hid hz0
  have h3' := hid hz1
  have h4' := hid hz2
  have hb6 := S6.hb
  have K6 := hid (show w6.ownsRow l.base 3 1 (.slice pk n ck) n (intv (keysOf n ks)) by have := S6.row 0 _ _ rfl rfl; rwa [keysOf_len] at this)
  have e3 := S6.cell.2.2.2.1
  have HB6 := hid hb6
  have HT6 := hid T6
  have HM6 := hid M6
  have HF6 := hid F6
  clear hi hz0 hz1 hz2 c0 S6 T6 M6 F6 hb6
  have HSw6 := hS6
  have HHw6 := hid hH6
  have HTw6 := HT6
  have HMw6 := HM6
  have HFw6 := HF6
  clear hH6
  go_wp2_with (at_builtin; refine Hid.out ?_)
  refine hid ?_
  have KK7 := hid (show w6.ownsRow l.base 3 1 (.slice pk n ck) n (intv (keysOf n ks)) by have := HSw6.out.row 0 _ _ rfl rfl; rwa [keysOf_len] at this)
  refine wpList_append_lies _ rfl _ _ 22 rfl l.base 3 i0 (.int .i64 0) 1 8 Try.underlying22 h1'.out h2'.out h3'.out h4'.out rfl (by decide) (.slice pk n ck) n _ rfl (KK7.out.alloc _) ⟨w6.heap.size, 0, none⟩ 1 1 [.int .i64 q1] rfl rfl (cell_one_new _ _ _) ?c1_7 (by decide) ?c2_7 ?c3_7 ?c4_7 _ rfl ?c5_7
  case c1_7 => simp [Value.oneCell']
  case c2_7 => simp only [maxLen]; omega
  case c3_7 => omega
  case c4_7 => have := HSw6.out.hb; simp; omega
  case c5_7 =>
  intro g7 cap7 w7 hown7 hgrow7 hat7 hlt7
  have hGr7 : Fr (Value.ownBlock (.slice pk n ck)).toList (w6.alloc (.cells #[.int .i64 q1] 3)) w7 := Fr.of_grownBy hgrow7 (by intro k' hk'; left; simp [hk'])
  have V7 := (HSw6.out.vv.alloc (.cells #[.int .i64 q1] 3)).fr hGr7 (fun hc => by have := own_low KK7.out _ hc; have := HSw6.out.b2; omega)
  have u2 := V7.cell (i := 2) rfl
  have u3 := V7.cell (i := 3) rfl
  have u4 := V7.cell (i := 4) rfl
  have u5 := V7.cell (i := 5) rfl
  have f0 := V7.frozen 3
  have A7 := WS.app HSw6.out (i := 0) rfl rfl (m := n) (by rw [keysOf_len]) hGr7 hown7 hat7
  have S7 : WS (w7.setCell ⟨l.vb, 3, none⟩ (.slice (some ⟨g7, 0, none⟩) (n + 1) cap7)) l.vb l.bx l.base [.pointer (some ⟨l.L.hb, 0, none⟩), .pointer (some ⟨l.tb, 0, none⟩), .pointer (some ⟨l.mb, 0, none⟩)] [(.slice (some ⟨g7, 0, none⟩) (n + 1) cap7), (.slice pw n cw), (.slice pm M.length cm)] [keysOf n ks ++ [q1], weaksOf n ks, M] sv S := A7.1
  have R7 := app_rest ok HSw6.out (by simp) A7.2 HHw6.out HTw6.out HMw6.out HFw6.out
  have HV7 := hid S7
  have HR7 : Hid (HRep (w7.setCell ⟨l.vb, 3, none⟩ (.slice (some ⟨g7, 0, none⟩) (n + 1) cap7)) l.L _ ∧ TRep (w7.setCell ⟨l.vb, 3, none⟩ (.slice (some ⟨g7, 0, none⟩) (n + 1) cap7)) _ _ _ _ ∧ MR (w7.setCell ⟨l.vb, 3, none⟩ (.slice (some ⟨g7, 0, none⟩) (n + 1) cap7)) _ _ _ _ _ ∧ Fr [] w0 (w7.setCell ⟨l.vb, 3, none⟩ (.slice (some ⟨g7, 0, none⟩) (n + 1) cap7))) := hid R7
  clear hown7 hgrow7 hat7 hGr7 V7 A7 S7 R7
  go_wp2_with (at_builtin; refine Hid.out ?_)
  obtain ⟨X7, hX7⟩ : ∃ X, X = w7.setCell ⟨l.vb, 3, none⟩ (.slice (some ⟨g7, 0, none⟩) (n + 1) cap7) := ⟨_, rfl⟩
  have hsz7 : w7.heap.size = X7.heap.size := by rw [hX7, World.size_setCell]
  rw [← hX7] at HV7 HR7 ⊢
  rw [hsz7]
  obtain ⟨hr1, hr2, hr3, hr4⟩ := HR7.out
  have HSX7 := HV7
  have HHX7 := hid hr1
  have HTX7 := hid hr2
  have HMX7 := hid hr3
  have HFX7 := hid hr4
  clear hX7 hsz7 hr1 hr2 hr3 hr4 HR7 HV7 u2 u3 u4 u5 f0

  refine hid ?_
  have KK8 := hid (show X7.ownsRow l.base 3 1 (.slice pw n cw) n (intv (weaksOf n ks)) by have := HSX7.out.row 1 _ _ rfl rfl; rwa [weaksOf_len] at this)
  refine wpList_append_lies _ rfl _ _ 22 rfl l.base 3 i0 (.int .i64 0) 1 8 Try.underlying22 h1'.out h2'.out h3'.out h4'.out rfl (by decide) (.slice pw n cw) n _ rfl (KK8.out.alloc _) ⟨X7.heap.size, 0, none⟩ 1 1 [.int .i64 q3] rfl rfl (cell_one_new _ _ _) ?c1_8 (by decide) ?c2_8 ?c3_8 ?c4_8 _ rfl ?c5_8
  case c1_8 => simp [Value.oneCell']
  case c2_8 => simp only [maxLen]; omega
  case c3_8 => omega
  case c4_8 => have := HSX7.out.hb; simp; omega
  case c5_8 =>
  intro g8 cap8 w8 hown8 hgrow8 hat8 hlt8
  have hGr8 : Fr (Value.ownBlock (.slice pw n cw)).toList (X7.alloc (.cells #[.int .i64 q3] 3)) w8 := Fr.of_grownBy hgrow8 (by intro k' hk'; left; simp [hk'])
  have V8 := (HSX7.out.vv.alloc (.cells #[.int .i64 q3] 3)).fr hGr8 (fun hc => by have := own_low KK8.out _ hc; have := HSX7.out.b2; omega)
  have u2 := V8.cell (i := 2) rfl
  have u3 := V8.cell (i := 3) rfl
  have u4 := V8.cell (i := 4) rfl
  have u5 := V8.cell (i := 5) rfl
  have f1 := V8.frozen 4
  have A8 := WS.app HSX7.out (i := 1) rfl rfl (m := n) (by rw [weaksOf_len]) hGr8 hown8 hat8
  have S8 : WS (w8.setCell ⟨l.vb, 4, none⟩ (.slice (some ⟨g8, 0, none⟩) (n + 1) cap8)) l.vb l.bx l.base [.pointer (some ⟨l.L.hb, 0, none⟩), .pointer (some ⟨l.tb, 0, none⟩), .pointer (some ⟨l.mb, 0, none⟩)] [(.slice (some ⟨g7, 0, none⟩) (n + 1) cap7), (.slice (some ⟨g8, 0, none⟩) (n + 1) cap8), (.slice pm M.length cm)] [keysOf n ks ++ [q1], weaksOf n ks ++ [q3], M] sv S := A8.1
  have R8 := app_rest ok HSX7.out (by simp) A8.2 HHX7.out HTX7.out HMX7.out HFX7.out
  have HV8 := hid S8
  have HR8 : Hid (HRep (w8.setCell ⟨l.vb, 4, none⟩ (.slice (some ⟨g8, 0, none⟩) (n + 1) cap8)) l.L _ ∧ TRep (w8.setCell ⟨l.vb, 4, none⟩ (.slice (some ⟨g8, 0, none⟩) (n + 1) cap8)) _ _ _ _ ∧ MR (w8.setCell ⟨l.vb, 4, none⟩ (.slice (some ⟨g8, 0, none⟩) (n + 1) cap8)) _ _ _ _ _ ∧ Fr [] w0 (w8.setCell ⟨l.vb, 4, none⟩ (.slice (some ⟨g8, 0, none⟩) (n + 1) cap8))) := hid R8
  clear hown8 hgrow8 hat8 hGr8 V8 A8 S8 R8
  go_wp2_with (at_builtin; refine Hid.out ?_)
  obtain ⟨X8, hX8⟩ : ∃ X, X = w8.setCell ⟨l.vb, 4, none⟩ (.slice (some ⟨g8, 0, none⟩) (n + 1) cap8) := ⟨_, rfl⟩
  have hsz8 : w8.heap.size = X8.heap.size := by rw [hX8, World.size_setCell]
  rw [← hX8] at HV8 HR8 ⊢
  rw [hsz8]
  obtain ⟨hr1, hr2, hr3, hr4⟩ := HR8.out
  have HSX8 := HV8
  have HHX8 := hid hr1
  have HTX8 := hid hr2
  have HMX8 := hid hr3
  have HFX8 := hid hr4
  clear hX8 hsz8 hr1 hr2 hr3 hr4 HR8 HV8 u2 u3 u4 u5 f1

  refine hid ?_
  have KK9 := hid (show X8.ownsRow l.base 3 1 (.slice pm M.length cm) M.length (intv (M)) by have := HSX8.out.row 2 _ _ rfl rfl; exact this)
  refine wpList_append_lies _ rfl _ _ 22 rfl l.base 3 i0 (.int .i64 0) 1 8 Try.underlying22 h1'.out h2'.out h3'.out h4'.out rfl (by decide) (.slice pm M.length cm) M.length _ rfl (KK9.out.alloc _) ⟨X8.heap.size, 0, none⟩ 1 1 [.int .i64 q3] rfl rfl (cell_one_new _ _ _) ?c1_9 (by decide) ?c2_9 ?c3_9 ?c4_9 _ rfl ?c5_9
  case c1_9 => simp [Value.oneCell']
  case c2_9 => simp only [maxLen]; omega
  case c3_9 => omega
  case c4_9 => have := HSX8.out.hb; simp; omega
  case c5_9 =>
  intro g9 cap9 w9 hown9 hgrow9 hat9 hlt9
  have hGr9 : Fr (Value.ownBlock (.slice pm M.length cm)).toList (X8.alloc (.cells #[.int .i64 q3] 3)) w9 := Fr.of_grownBy hgrow9 (by intro k' hk'; left; simp [hk'])
  have V9 := (HSX8.out.vv.alloc (.cells #[.int .i64 q3] 3)).fr hGr9 (fun hc => by have := own_low KK9.out _ hc; have := HSX8.out.b2; omega)
  have u2 := V9.cell (i := 2) rfl
  have u3 := V9.cell (i := 3) rfl
  have u4 := V9.cell (i := 4) rfl
  have u5 := V9.cell (i := 5) rfl
  have f2 := V9.frozen 5
  have A9 := WS.app HSX8.out (i := 2) rfl rfl (m := M.length) rfl hGr9 hown9 hat9
  have S9 : WS (w9.setCell ⟨l.vb, 5, none⟩ (.slice (some ⟨g9, 0, none⟩) (M.length + 1) cap9)) l.vb l.bx l.base [.pointer (some ⟨l.L.hb, 0, none⟩), .pointer (some ⟨l.tb, 0, none⟩), .pointer (some ⟨l.mb, 0, none⟩)] [(.slice (some ⟨g7, 0, none⟩) (n + 1) cap7), (.slice (some ⟨g8, 0, none⟩) (n + 1) cap8), (.slice (some ⟨g9, 0, none⟩) (M.length + 1) cap9)] [keysOf n ks ++ [q1], weaksOf n ks ++ [q3], M ++ [q3]] sv S := A9.1
  have R9 := app_rest ok HSX8.out (by simp) A9.2 HHX8.out HTX8.out HMX8.out HFX8.out
  have HV9 := hid S9
  have HR9 : Hid (HRep (w9.setCell ⟨l.vb, 5, none⟩ (.slice (some ⟨g9, 0, none⟩) (M.length + 1) cap9)) l.L _ ∧ TRep (w9.setCell ⟨l.vb, 5, none⟩ (.slice (some ⟨g9, 0, none⟩) (M.length + 1) cap9)) _ _ _ _ ∧ MR (w9.setCell ⟨l.vb, 5, none⟩ (.slice (some ⟨g9, 0, none⟩) (M.length + 1) cap9)) _ _ _ _ _ ∧ Fr [] w0 (w9.setCell ⟨l.vb, 5, none⟩ (.slice (some ⟨g9, 0, none⟩) (M.length + 1) cap9))) := hid R9
  clear hown9 hgrow9 hat9 hGr9 V9 A9 S9 R9
  go_wp2_with fail
  obtain ⟨X9, hX9⟩ : ∃ X, X = w9.setCell ⟨l.vb, 5, none⟩ (.slice (some ⟨g9, 0, none⟩) (M.length + 1) cap9) := ⟨_, rfl⟩
  have hsz9 : w9.heap.size = X9.heap.size := by rw [hX9, World.size_setCell]
  rw [← hX9] at HV9 HR9 ⊢
  skip
  obtain ⟨hr1, hr2, hr3, hr4⟩ := HR9.out
  have HSX9 := HV9
  have HHX9 := hid hr1
  have HTX9 := hid hr2
  have HMX9 := hid hr3
  have HFX9 := hid hr4
  clear hX9 hsz9 hr1 hr2 hr3 hr4 HR9 HV9 u2 u3 u4 u5 f2
  have hb9 := HSX9.out.hb
  refine (mAdd l.mb l.base R Q K q3 n _ HMX9.out hb9 ok.m5 (by omega)).mono ?_
  rintro e w10 ⟨rfl, M10, hF10⟩
  obtain ⟨H10, T10, S10, F10⟩ := madd_rest ok HSX9.out hF10 HHX9.out HTX9.out HFX9.out
  have c1 := S10.cell.2.1
  have HS10 := hid S10
  have HF10 := hid F10
  have HM10 := hid M10
  clear hb9 S10 F10 M10
  go_wp2_with fail
  refine (tAdd l.L _ l.tb (shv l.bx) t ⟨some 1, q3, 9, 4, n, s2.parity⟩ _ H10 T10 ap.nt l6 rfl rfl).mono ?_
  rintro e w11 ⟨rfl, H11, T11, F11⟩
  clear c1
  go_wp2_with fail
  go_ret
  have hS11 : ∀ b ∈ [l.L.ab, l.L.wb, l.tb], b < l.base ∧ b ≠ l.bx ∧ b ≠ l.vb := by
    intro b hb
    simp only [List.mem_cons, List.not_mem_nil, or_false] at hb
    rcases hb with rfl | rfl | rfl
    · exact hfp _ (fpaw l.L _ (by simp))
    · exact hfp _ (fpaw l.L _ (by simp))
    · exact ⟨ap.tl, ap.tx, ap.tv⟩
  have hws11 : ∃ kv wv mv sv', WS w11 l.vb l.bx l.base [.pointer (some ⟨l.L.hb, 0, none⟩), .pointer (some ⟨l.tb, 0, none⟩), .pointer (some ⟨l.mb, 0, none⟩)] [kv, wv, mv] [keysOf (n + 1) (upk ks n ⟨⟨some 1, q3, 9, 4, n, s2.parity⟩, ⟨some 0, q1, 7, 1, 0, s.parity⟩, ⟨some 0, q2, 7, 1, 1, s1.parity⟩⟩), weaksOf (n + 1) (upk ks n ⟨⟨some 1, q3, 9, 4, n, s2.parity⟩, ⟨some 0, q1, 7, 1, 0, s.parity⟩, ⟨some 0, q2, 7, 1, 1, s1.parity⟩⟩), M ++ [q3]] sv' S := by
    rw [keysOf_snoc, weaksOf_snoc]
    exact ⟨_, _, _, sv, HS10.out.fr F11 hS11⟩
  refine ⟨rfl, _, A3, z3, ⟨⟨some 1, q3, 9, 4, n, s2.parity⟩, ⟨some 0, q1, 7, 1, 0, s.parity⟩, ⟨some 0, q2, 7, 1, 1, s1.parity⟩⟩, ⟨ok, H11, T11, HV.out, HW.out, hws11, HM10.out.fr F11 (fun hc => ?_) (fun b hb => .inl (hS11 b hb).1), HF10.out.step F11 (fun b hb => .inr ?_)⟩, ?_, parF, ?_, edgeF, fun q => ?_⟩
  · simp only [List.mem_cons, List.not_mem_nil, or_false] at hc
    rcases hc with e | e | e
    · exact hmf (e ▸ fpaw l.L _ (by simp))
    · exact hmf (e ▸ fpaw l.L _ (by simp))
    · exact ok.m2 e
  · simp only [List.mem_cons, List.not_mem_nil, or_false] at hb
    rcases hb with rfl | rfl | rfl
    · exact ok.low _ (fpall _ (fpaw l.L _ (by simp)))
    · exact ok.low _ (fpall _ (fpaw l.L _ (by simp)))
    · exact ok.l1
  · exact parF.symm
  · exact HT.out.trans (by show s3.top = s.top + 15; omega)
  · have e1 := k1.F q
    have e2 := k2.F q
    have e3' := k3.F q
    exact ⟨e3'.1.trans (e2.1.trans e1.1), e3'.2.trans (e2.2.trans e1.2)⟩
end Go.Proofs.Ytifillpcphiblaa
