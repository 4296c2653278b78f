import Derived.Test.YtifillpcphiblaaWRef
import Derived.Test.YtifillpcphiblaaWPlain2
namespace Go.Proofs.Ytifillpcphiblaa
open Go Go.Proofs Go.RowKit

/-! The law's world, whole. -/

structure LL where
  L : HL
  tb : Nat
  vb : Nat
  bx : Nat
  mb : Nat
  base : Nat

structure LP where
  s : HS
  A : Rg
  z : Int → Int
  t : TS
  n : Nat
  ks : Nat → Wk
  pre : List Nat
  walk : List Nat
  queue : List Nat
  M : List Int
  S : List Int
  R : List (Int × Int)
  Q : List (Int × Int)
  K : List (Int × Int)

def keysOf (n : Nat) (ks : Nat → Wk) : List Int := (List.range n).map fun i => (ks i).ko.p
def weaksOf (n : Nat) (ks : Nat → Wk) : List Int := (List.range n).map (plc ks)
theorem keysOf_len (n : Nat) (ks : Nat → Wk) : (keysOf n ks).length = n := by simp [keysOf]
theorem weaksOf_len (n : Nat) (ks : Nat → Wk) : (weaksOf n ks).length = n := by simp [weaksOf]
theorem keysOf_get {n : Nat} {ks : Nat → Wk} {i : Nat} (h : i < n) : (keysOf n ks)[i]? = some (ks i).ko.p := by simp [keysOf, h]
theorem weaksOf_get {n : Nat} {ks : Nat → Wk} {i : Nat} (h : i < n) : (weaksOf n ks)[i]? = some (ks i).o.p := by simp [weaksOf, h, plc]
theorem keysOf_congr {n : Nat} {ks ks' : Nat → Wk} (h : ∀ i, i < n → (ks' i).ko.p = (ks i).ko.p) : keysOf n ks' = keysOf n ks := List.map_congr_left (fun i hi => h i (by simpa using hi))
theorem weaksOf_congr {n : Nat} {ks ks' : Nat → Wk} (h : ∀ i, i < n → (ks' i).o.p = (ks i).o.p) : weaksOf n ks' = weaksOf n ks := List.map_congr_left (fun i hi => h i (by simpa using hi))
theorem keysOf_snoc (n : Nat) (ks : Nat → Wk) (k : Wk) : keysOf (n + 1) (upk ks n k) = keysOf n ks ++ [k.ko.p] := by
  unfold keysOf
  rw [List.range_succ, List.map_append]
  congr 1
  · exact List.map_congr_left (fun i hi => by rw [upk_ne _ _ (by simp at hi; omega)])
  · simp [upk_same]
theorem weaksOf_snoc (n : Nat) (ks : Nat → Wk) (k : Wk) : weaksOf (n + 1) (upk ks n k) = weaksOf n ks ++ [k.o.p] := by
  unfold weaksOf plc
  rw [List.range_succ, List.map_append]
  congr 1
  · exact List.map_congr_left (fun i hi => by rw [upk_ne _ _ (by simp at hi; omega)])
  · simp [upk_same]

structure LL.Ok (l : LL) (B : Nat) : Prop where
  ap : Apt l.L l.tb l.vb l.bx l.base
  m1 : l.mb ∉ l.L.all
  m2 : l.mb ≠ l.tb
  m3 : l.mb ≠ l.vb
  m4 : l.mb ≠ l.bx
  m5 : l.mb < l.base
  low : ∀ x ∈ l.L.all, B ≤ x
  l1 : B ≤ l.tb
  l2 : B ≤ l.vb
  l3 : B ≤ l.bx
  l4 : B ≤ l.mb

structure WR (w0 w : World) (l : LL) (p : LP) : Prop where
  ok : l.Ok w0.heap.size
  h : HRep w l.L p.s
  t : TRep w l.tb l.L.hb (shv l.bx) p.t
  wh : WH p.s p.A p.z p.n p.ks
  wt : WT p.s p.t p.n p.ks p.pre p.walk p.queue
  ws : ∃ kv wv mv sv, WS w l.vb l.bx l.base [.pointer (some ⟨l.L.hb, 0, none⟩), .pointer (some ⟨l.tb, 0, none⟩), .pointer (some ⟨l.mb, 0, none⟩)] [kv, wv, mv] [keysOf p.n p.ks, weaksOf p.n p.ks, p.M] sv p.S
  m : MR w l.mb l.base p.R p.Q p.K
  fr : Fr [] w0 w

theorem fpall {L : HL} : ∀ x ∈ L.fp, x ∈ L.all := fun x hx => by simp only [HL.all, List.mem_cons]; exact .inr (.inr hx)

/-- The parts of the world that the heap's and the table's own calls leave. -/
theorem WR.rest {S : List Nat} {w0 w w' : World} {l : LL} {p : LP} (h : WR w0 w l p) (hf : Fr S w w') (hS : ∀ b ∈ S, b ∈ l.L.all ∨ b = l.tb) :
    (∃ kv wv mv sv, WS w' l.vb l.bx l.base [.pointer (some ⟨l.L.hb, 0, none⟩), .pointer (some ⟨l.tb, 0, none⟩), .pointer (some ⟨l.mb, 0, none⟩)] [kv, wv, mv] [keysOf p.n p.ks, weaksOf p.n p.ks, p.M] sv p.S) ∧ MR w' l.mb l.base p.R p.Q p.K ∧ Fr [] w0 w' := by
  have ok := h.ok
  have ap := ok.ap
  obtain ⟨kv, wv, mv, sv, hws⟩ := h.ws
  have lt : ∀ b ∈ S, b < l.base := fun b hb => by
    rcases hS b hb with h1 | h1
    · exact ap.lb b h1
    · rw [h1]; exact ap.tl
  refine ⟨⟨kv, wv, mv, sv, hws.fr hf (fun b hb => ⟨lt b hb, ?_, ?_⟩)⟩, h.m.fr hf (fun hc => ?_) (fun b hb => .inl (lt b hb)), h.fr.step hf (fun b hb => .inr ?_)⟩
  · rintro rfl
    rcases hS _ hb with h1 | h1
    · exact ap.nx h1
    · exact ap.tx h1.symm
  · rintro rfl
    rcases hS _ hb with h1 | h1
    · exact ap.nv h1
    · exact ap.tv h1.symm
  · rcases hS _ hc with h1 | h1
    · exact ok.m1 h1
    · exact ok.m2 h1
  · rcases hS _ hb with h1 | h1
    · exact ok.low _ h1
    · rw [h1]; exact ok.l1

/-- A step that changes the heap and the table. -/
theorem WR.step {S : List Nat} {w0 w w' : World} {l : LL} {p : LP} (h : WR w0 w l p) (hf : Fr S w w') (hS : ∀ b ∈ S, b ∈ l.L.all ∨ b = l.tb) {s' : HS} {A' : Rg} {z' : Int → Int} {t' : TS} {ks' : Nat → Wk} {pre' walk' queue' : List Nat}
    (hH : HRep w' l.L s') (hT : TRep w' l.tb l.L.hb (shv l.bx) t') (wh : WH s' A' z' p.n ks') (wt : WT s' t' p.n ks' pre' walk' queue') (hk : ∀ i, i < p.n → (ks' i).o.p = (p.ks i).o.p ∧ (ks' i).ko.p = (p.ks i).ko.p) :
    WR w0 w' l { p with s := s', A := A', z := z', t := t', ks := ks', pre := pre', walk := walk', queue := queue' } := by
  obtain ⟨h1, h2, h3⟩ := h.rest hf hS
  refine ⟨h.ok, hH, hT, wh, wt, ?_, h2, h3⟩
  show ∃ kv wv mv sv, WS w' l.vb l.bx l.base _ [kv, wv, mv] [keysOf p.n ks', weaksOf p.n ks', p.M] sv p.S
  rw [keysOf_congr (fun i hi => (hk i hi).2), weaksOf_congr (fun i hi => (hk i hi).1)]
  exact h1

/-- The struct's pointers. -/
theorem WR.cells {w0 w : World} {l : LL} {p : LP} (h : WR w0 w l p) : w.cell? ⟨l.vb, 0, none⟩ = some (.pointer (some ⟨l.L.hb, 0, none⟩)) ∧ w.cell? ⟨l.vb, 1, none⟩ = some (.pointer (some ⟨l.tb, 0, none⟩)) ∧ w.cell? ⟨l.vb, 2, none⟩ = some (.pointer (some ⟨l.mb, 0, none⟩)) := by
  obtain ⟨kv, wv, mv, sv, hws⟩ := h.ws
  exact ⟨hws.cell.1, hws.cell.2.1, hws.cell.2.2.1⟩

def LP.new (ks : Nat → Wk) : LP := { s := HS.new 3000 0 [1, 4], A := fun _ => ⟨[], [], [], []⟩, z := fun _ => 0, t := TS.new, n := 0, ks := ks, pre := [], walk := [], queue := [], M := [], S := [], R := [], Q := [], K := [] }

theorem rightW : RightC ((3000 : Nat) : Int) ((0 : Nat) : Int) [1, 4] := ⟨by decide, by decide, by decide, by decide, by decide, by decide, by simp [Inc]⟩

set_option maxRecDepth 100000 in
set_option maxHeartbeats 4000000 in
theorem wMade (ks : Nat → Wk) (w : World) :
    Calls Try.prog 36 #[] w fun e w' => ∃ l, e = .returned (.tuple #[.pointer (some ⟨l.vb, 0, none⟩), .bool true]) ∧ WR w w' l (LP.new ks) := by
  have C0 := Blk.new w [.int .i64 1, .int .i64 4] 3
  have hrd : RdAt (w.alloc (.cells #[.int .i64 1, .int .i64 4] 3)) w.heap.size 0 (([1, 4] : List Int).map (.int .i64)) := ⟨C0.lt, fun i v hv => by rw [Nat.zero_add]; exact C0.cell hv⟩
  have hF0 : Fr [] w (w.alloc (.cells #[.int .i64 1, .int .i64 4] 3)) := (Fr.refl [] w).alloc _
  go_enter Try.func36, Try.ntmps36
  go_wp2_with (go_at_call 18; refine (hNew 3000 0 0 0 0 0 [1, 4] w.heap.size 0 2 _ rightW hrd).mono ?_; rintro e w1 ⟨L, rfl, hH1, hF1, hlow⟩)
  have M2 := ((Blk.new w1 [.slice none 0 0, .slice none 0 0, .slice none 0 0] 144).alloc (.cells #[.pointer (some ⟨L.hb, 0, none⟩), .pointer none, .pointer (some ⟨w1.heap.size, 0, none⟩), .slice none 0 0, .slice none 0 0, .slice none 0 0, .slice none 0 0] 69)).alloc (.cells #[.pointer (some ⟨w1.heap.size + 1, 0, none⟩)] 62)
  have V2 := (Blk.new (w1.alloc (.cells #[.slice none 0 0, .slice none 0 0, .slice none 0 0] 144)) [.pointer (some ⟨L.hb, 0, none⟩), .pointer none, .pointer (some ⟨w1.heap.size, 0, none⟩), .slice none 0 0, .slice none 0 0, .slice none 0 0, .slice none 0 0] 69).alloc (.cells #[.pointer (some ⟨w1.heap.size + 1, 0, none⟩)] 62)
  have X2 := Blk.new ((w1.alloc (.cells #[.slice none 0 0, .slice none 0 0, .slice none 0 0] 144)).alloc (.cells #[.pointer (some ⟨L.hb, 0, none⟩), .pointer none, .pointer (some ⟨w1.heap.size, 0, none⟩), .slice none 0 0, .slice none 0 0, .slice none 0 0, .slice none 0 0] 69)) [.pointer (some ⟨w1.heap.size + 1, 0, none⟩)] 62
  have hF2 : Fr [] w1 (((w1.alloc (.cells #[.slice none 0 0, .slice none 0 0, .slice none 0 0] 144)).alloc (.cells #[.pointer (some ⟨L.hb, 0, none⟩), .pointer none, .pointer (some ⟨w1.heap.size, 0, none⟩), .slice none 0 0, .slice none 0 0, .slice none 0 0, .slice none 0 0] 69)).alloc (.cells #[.pointer (some ⟨w1.heap.size + 1, 0, none⟩)] 62)) := (((Fr.refl [] w1).alloc _).alloc _).alloc _
  simp only [World.size_alloc] at V2 X2
  obtain ⟨W2, hW2⟩ : ∃ W2, W2 = ((w1.alloc (.cells #[.slice none 0 0, .slice none 0 0, .slice none 0 0] 144)).alloc (.cells #[.pointer (some ⟨L.hb, 0, none⟩), .pointer none, .pointer (some ⟨w1.heap.size, 0, none⟩), .slice none 0 0, .slice none 0 0, .slice none 0 0, .slice none 0 0] 69)).alloc (.cells #[.pointer (some ⟨w1.heap.size + 1, 0, none⟩)] 62) := ⟨_, rfl⟩
  have hsz2 : W2.heap.size = w1.heap.size + 3 := by rw [hW2]; simp
  rw [← hW2] at M2 V2 X2 hF2 ⊢
  clear hW2
  have HS2 := hid hsz2
  have hs1 := hF1.size
  rw [World.size_alloc] at hs1
  have HS1 := hid hs1
  clear hsz2 hs1
  have c0 := X2.drew.cell (i := 0) rfl
  go_region_held3 (fun w' => w'.cell? ⟨w1.heap.size + 1 + 1, 0, none⟩ = some (.pointer (some ⟨w1.heap.size + 1, 0, none⟩)))
    (first
      | assumption
      | (with_reducible exact c0)
      | (with_reducible exact (X2.drew.fr hF3 (by simp)).cell (i := 0) rfl)
      | go_keep)
    (first
      | (go_at_call 89; (with_reducible refine (tNew L.hb (w1.heap.size + 1 + 1) W2.drew).mono ?_); rintro e w3 ⟨rfl, hT3, hF3, hsz3⟩; have V3 := V2.drew.fr hF3 (by simp); have v1 := V3.cell (i := 1) rfl; have f1 := V3.frozen 1))
  have hsz3' : w3.heap.size = W2.heap.size + 1 := hsz3
  rw [show W2.drew.heap.size = W2.heap.size from rfl] at hT3
  have X3 := X2.drew.fr hF3 (by simp)
  have M3 := M2.drew.fr hF3 (by simp)
  clear c0 hsz3
  have HS3 := hid hsz3'
  clear hsz3'
  go_wp2_with fail
  have V4 := V3.set 1 (.pointer (some ⟨W2.heap.size, 0, none⟩))
  simp only [List.set_cons_zero, List.set_cons_succ] at V4
  have X4 := X3.other (a := ⟨w1.heap.size + 1, 1, none⟩) (by simp) (.pointer (some ⟨W2.heap.size, 0, none⟩))
  have M4 := M3.other (a := ⟨w1.heap.size + 1, 1, none⟩) (by simp) (.pointer (some ⟨W2.heap.size, 0, none⟩))
  have hlt := HS2.out
  have T4 : TRep (w3.setCell ⟨w1.heap.size + 1, 1, none⟩ (.pointer (some ⟨W2.heap.size, 0, none⟩))) W2.heap.size L.hb (shv (w1.heap.size + 1 + 1)) TS.new := Blk.other (a := ⟨w1.heap.size + 1, 1, none⟩) hT3 (by simp; omega) _
  have all1 : ∀ x ∈ L.all, x < w1.heap.size := fun x hx => all_lt hH1 hx
  have H4 := (((hH1.fr hF2 (by simp)).drew).fr hF3 (by simp)).other (a := ⟨w1.heap.size + 1, 1, none⟩) (fun hc => by have := all1 _ hc; simp at this; omega) (.pointer (some ⟨W2.heap.size, 0, none⟩))
  have hF4 : Fr [] w (w3.setCell ⟨w1.heap.size + 1, 1, none⟩ (.pointer (some ⟨W2.heap.size, 0, none⟩))) := by
    have h1 : Fr [] w w3 := (((hF0.trans hF1).trans hF2).drew).trans hF3
    have h2 : Fr [w1.heap.size + 1] w3 (w3.setCell ⟨w1.heap.size + 1, 1, none⟩ (.pointer (some ⟨W2.heap.size, 0, none⟩))) := (Fr.refl _ w3).set (by simp) _
    exact h1.step h2 (fun b hb => by have := HS1.out; simp at hb; subst hb; right; omega)
  obtain ⟨W4, hW4⟩ : ∃ W4, W4 = w3.setCell ⟨w1.heap.size + 1, 1, none⟩ (.pointer (some ⟨W2.heap.size, 0, none⟩)) := ⟨_, rfl⟩
  have hs4 : W4.heap.size = W2.heap.size + 1 := by rw [hW4, World.size_setCell]; exact HS3.out
  rw [← hW4] at V4 X4 M4 T4 H4 hF4 ⊢
  have x4 := X4.cell (i := 0) rfl
  have v4 := V4.cell (i := 1) rfl
  have HS4 := hid hs4
  clear hW4 hlt hs4 v1 f1
  go_region
  go_wp2_with fail
  have hs4 := HS4.out
  have hlt := HS2.out
  have hs1 := HS1.out
  refine bodyPost_ret (v := .tuple #[.pointer (some ⟨w1.heap.size + 1, 0, none⟩), .bool true]) (by simp [results, Try.results36, go_sem]) rfl ⟨⟨L, W2.heap.size, w1.heap.size + 1, w1.heap.size + 1 + 1, w1.heap.size, W4.heap.size⟩, rfl, ?_⟩
  have e : W4.drew.heap.size = W4.heap.size := rfl
  have hrow3 : ∀ (i : Nat) (v : Value) (xs : List Int), ([.slice none 0 0, .slice none 0 0, .slice none 0 0] : List Value)[i]? = some v → ([keysOf 0 ks, weaksOf 0 ks, []] : List (List Int))[i]? = some xs → W4.drew.ownsRow W4.heap.size 3 1 v xs.length (intv xs) := by
    intro i v xs h1 h2
    have hi : i < 3 := (List.getElem?_eq_some_iff.1 h1).1
    rcases (by omega : i = 0 ∨ i = 1 ∨ i = 2) with rfl | rfl | rfl <;> (simp [keysOf, weaksOf] at h1 h2; subst h1; subst h2; exact ⟨rfl, .inl ⟨rfl, rfl⟩⟩)
  have hfar3 : ∀ (i j : Nat) (v v' : Value), i ≠ j → ([.slice none 0 0, .slice none 0 0, .slice none 0 0] : List Value)[i]? = some v → ([.slice none 0 0, .slice none 0 0, .slice none 0 0] : List Value)[j]? = some v' → FarV v v' := by
    intro i j v v' hne h1 h2 g hg
    have hi : i < 3 := (List.getElem?_eq_some_iff.1 h1).1
    rcases (by omega : i = 0 ∨ i = 1 ∨ i = 2) with rfl | rfl | rfl <;> (simp at h1; subst h1; simp [Value.ownBlock] at hg)
  exact {
    ok := { ap := { nt := fun hc => by have := all1 _ hc; dsimp only at this; omega, nv := fun hc => by have := all1 _ hc; dsimp only at this; omega, nx := fun hc => by have := all1 _ hc; dsimp only at this; omega, tv := by show W2.heap.size ≠ w1.heap.size + 1; omega, tx := by show W2.heap.size ≠ w1.heap.size + 1 + 1; omega, xv := by show w1.heap.size + 1 + 1 ≠ w1.heap.size + 1; omega, lb := fun x hx => by have := all1 _ hx; show x < W4.heap.size; omega, tl := by show W2.heap.size < W4.heap.size; omega }
            m1 := fun hc => by have := all1 _ hc; dsimp only at this; omega
            m2 := by show w1.heap.size ≠ W2.heap.size; omega
            m3 := by show w1.heap.size ≠ w1.heap.size + 1; omega
            m4 := by show w1.heap.size ≠ w1.heap.size + 1 + 1; omega
            m5 := by show w1.heap.size < W4.heap.size; omega
            low := fun x hx => by have := hlow x hx; rw [World.size_alloc] at this; omega
            l1 := by show w.heap.size ≤ W2.heap.size; omega
            l2 := by show w.heap.size ≤ w1.heap.size + 1; omega
            l3 := by show w.heap.size ≤ w1.heap.size + 1 + 1; omega
            l4 := by show w.heap.size ≤ w1.heap.size; omega }
    h := H4.drew
    t := Blk.drew T4
    wh := { hi := HI.new rightW, p0 := by show (0 : Int) ≤ 0; decide, p1 := by show (0 : Int) ≤ 1; decide, nW := fun _ => rfl, cls := rfl, ob := fun i hi => absurd hi (Nat.not_lt_zero i), kk := fun i j hi => absurd hi (Nat.not_lt_zero i) }
    wt := WT.new _ ks
    ws := ⟨.slice none 0 0, .slice none 0 0, .slice none 0 0, .slice none 0 0, { lp := rfl, lv := rfl, lo := rfl, bb := X4.drew, vv := V4.drew, row := hrow3, far := hfar3, sh := ⟨rfl, .inl ⟨rfl, rfl⟩⟩, b1 := by show w1.heap.size + 1 + 1 < W4.heap.size; omega, b2 := by show w1.heap.size + 1 < W4.heap.size; omega, hb := Nat.le_refl _, ne := by show w1.heap.size + 1 + 1 ≠ w1.heap.size + 1; omega }⟩
    m := ⟨_, _, _, M4.drew, .inl ⟨rfl, rfl⟩, .inl ⟨rfl, rfl⟩, .inl ⟨rfl, rfl⟩⟩
    fr := hF4.drew }
end Go.Proofs.Ytifillpcphiblaa
