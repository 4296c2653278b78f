import Derived.Test.YtifillpcphiblaaIndex
namespace Go.Proofs.Ytifillpcphiblaa
open Go Go.Proofs Go.RowKit

/-- Where a heap's parts lie. -/
structure HL where
  hb : Nat
  ab : Nat
  wb : Nat
  cb : Nat
  rsb : Nat
  lb : Nat
  xb : Nat
  xlbs : List Nat
  rbs : List Nat
  ccap : Nat
  rcap : Nat

/-- Room: its first place, how many places, its free runs. -/
structure XS where
  first : Int
  places : Int
  l : List (Int × Int)

def flat (l : List (Int × Int)) : List Value := l.flatMap fun x => [.int .i64 x.1, .int .i64 x.2]

structure XRep (w : World) (xb : Nat) (xlbs : List Nat) (x : XS) : Prop where
  s : ∃ sv, Blk w xb [.int .i64 x.first, .int .i64 x.places, sv] 185 ∧
    ((xlbs = [] ∧ sv = .slice none 0 0 ∧ x.l = []) ∨ ∃ b cap rest, xlbs = [b] ∧ sv = .slice (some ⟨b, 0, none⟩) x.l.length cap ∧ Blk w b (flat x.l ++ rest) 186 ∧ (flat x.l ++ rest).length = 2 * cap)

/-- What a heap is. -/
structure HS where
  ws : List Int
  u : Int
  cls : List Int
  rs : List RS
  lg : RS
  x : XS
  top : Int
  edge : Int
  parity : Int

def HL.fp (L : HL) : List Nat := L.hb :: L.ab :: L.wb :: L.lb :: L.xb :: (L.xlbs ++ L.rbs)
def HL.all (L : HL) : List Nat := L.cb :: L.rsb :: L.fp

def HL.cells (L : HL) (s : HS) : List Value :=
  [.pointer (some ⟨L.ab, 0, none⟩), .slice (some ⟨L.cb, 0, none⟩) s.cls.length L.ccap, .slice (some ⟨L.rsb, 0, none⟩) s.cls.length L.rcap, .pointer (some ⟨L.lb, 0, none⟩), .pointer (some ⟨L.xb, 0, none⟩), .int .i64 s.top, .int .i64 s.edge, .int .i64 s.parity]

structure HRep (w : World) (L : HL) (s : HS) : Prop where
  h : Blk w L.hb (L.cells s) 90
  a : ARep w L.ab L.wb s.ws s.u
  c : Rd w L.cb (s.cls.map (.int .i64))
  r : Rd w L.rsb (L.rbs.map fun b => .pointer (some ⟨b, 0, none⟩))
  rr : ∀ (k rb : Nat) (r : RS), L.rbs[k]? = some rb → s.rs[k]? = some r → RRep w rb L.ab r
  lr : RRep w L.lb L.ab s.lg
  x : XRep w L.xb L.xlbs s.x
  nd : L.all.Nodup
  n1 : L.rbs.length = s.cls.length
  n2 : s.rs.length = s.cls.length
  n3 : s.cls.length ≤ 100
  t : 0 ≤ s.top ∧ s.top ≤ 65536
  e : 0 ≤ s.edge ∧ s.edge ≤ 65536

theorem XRep.fr {S : List Nat} {w w' : World} {xb : Nat} {xlbs : List Nat} {x : XS} (h : XRep w xb xlbs x) (hf : Fr S w w') (h1 : xb ∉ S) (h2 : ∀ b ∈ xlbs, b ∉ S) : XRep w' xb xlbs x := by
  obtain ⟨sv, hb, h⟩ := h.s
  refine ⟨sv, hb.fr hf h1, ?_⟩
  rcases h with h | ⟨b, cap, rest, e1, e2, e3, e4⟩
  · exact .inl h
  · exact .inr ⟨b, cap, rest, e1, e2, e3.fr hf (h2 b (by simp [e1])), e4⟩

theorem HRep.fr {S : List Nat} {w w' : World} {L : HL} {s : HS} (h : HRep w L s) (hf : Fr S w w') (hS : ∀ x ∈ S, x ∉ L.all) : HRep w' L s := by
  have g : ∀ x ∈ L.all, x ∉ S := fun x hx hc => hS x hc hx
  simp only [HL.all, HL.fp, List.mem_cons, List.mem_append] at g
  exact { h := h.h.fr hf (g _ (by simp)), a := h.a.fr hf (g _ (by simp)) (g _ (by simp)), c := h.c.fr hf (g _ (by simp)), r := h.r.fr hf (g _ (by simp)),
          rr := fun k rb r hk hr => (h.rr k rb r hk hr).fr hf (g _ (by simp [List.mem_of_getElem? hk])), lr := h.lr.fr hf (g _ (by simp)),
          x := h.x.fr hf (g _ (by simp)) (fun b hb => g _ (by simp [hb])), nd := h.nd, n1 := h.n1, n2 := h.n2, n3 := h.n3, t := h.t, e := h.e }
theorem HRep.alloc {w : World} {L : HL} {s : HS} (h : HRep w L s) (o : Obj) : HRep (w.alloc o) L s := h.fr ((Fr.refl [] w).alloc o) (by simp)
theorem HRep.drew {w : World} {L : HL} {s : HS} (h : HRep w L s) : HRep w.drew L s := h.fr ((Fr.refl [] w).drew) (by simp)
theorem HRep.drewN {w : World} {L : HL} {s : HS} (h : HRep w L s) (n : Nat) : HRep (w.drewN n) L s := h.fr ((Fr.refl [] w).drewN n) (by simp)
theorem HRep.other {w : World} {L : HL} {s : HS} (h : HRep w L s) {a : Addr} (ha : a.block ∉ L.all) (v : Value) : HRep (w.setCell a v) L s := h.fr ((Fr.refl [a.block] w).set (by simp) v) (by simpa using ha)

/-- The parts' numbers are apart. -/
theorem HRep.apart {w : World} {L : HL} {s : HS} (h : HRep w L s) :
    (L.hb ≠ L.ab ∧ L.hb ≠ L.wb ∧ L.hb ≠ L.lb ∧ L.hb ≠ L.xb ∧ L.hb ≠ L.cb ∧ L.hb ≠ L.rsb) ∧ (L.ab ≠ L.wb ∧ L.ab ≠ L.lb ∧ L.ab ≠ L.xb ∧ L.ab ≠ L.cb ∧ L.ab ≠ L.rsb) ∧
    (L.wb ≠ L.lb ∧ L.wb ≠ L.xb ∧ L.wb ≠ L.cb ∧ L.wb ≠ L.rsb) ∧ (L.lb ≠ L.xb ∧ L.lb ≠ L.cb ∧ L.lb ≠ L.rsb) ∧ (L.xb ≠ L.cb ∧ L.xb ≠ L.rsb) ∧ L.cb ≠ L.rsb := by
  have := h.nd
  simp only [HL.all, HL.fp, List.nodup_cons, List.mem_cons, List.mem_append, not_or] at this
  obtain ⟨⟨a1, a2, a3, a4, a5, a6, a7, a8⟩, ⟨b1, b2, b3, b4, b5, b6, b7⟩, ⟨c1, c2, c3, c4, c5⟩, ⟨d1, d2, d3, d4⟩, ⟨e1, e2, e3⟩, ⟨f1, f2⟩, _⟩ := this
  exact ⟨⟨c1, c2, c3, c4, Ne.symm a2, Ne.symm b1⟩, ⟨d1, d2, d3, Ne.symm a3, Ne.symm b2⟩, ⟨e1, e2, Ne.symm a4, Ne.symm b3⟩, ⟨f1, Ne.symm a5, Ne.symm b4⟩, ⟨Ne.symm a6, Ne.symm b5⟩, a1⟩

theorem HRep.rapart {w : World} {L : HL} {s : HS} (h : HRep w L s) {rb : Nat} (hr : rb ∈ L.rbs) : rb ≠ L.hb ∧ rb ≠ L.ab ∧ rb ≠ L.wb ∧ rb ≠ L.lb ∧ rb ≠ L.xb ∧ rb ≠ L.cb ∧ rb ≠ L.rsb ∧ rb ∉ L.xlbs := by
  have := h.nd
  simp only [HL.all, HL.fp, List.nodup_cons, List.mem_cons, List.mem_append, not_or, List.nodup_append] at this
  obtain ⟨⟨a1, a2, a3, a4, a5, a6, a7, a8⟩, ⟨b1, b2, b3, b4, b5, b6, b7⟩, ⟨c1, c2, c3, c4, c5, c6⟩, ⟨d1, d2, d3, d4, d5⟩, ⟨e1, e2, e3, e4⟩, ⟨f1, f2, f3⟩, ⟨g1, g2⟩, _, _, hh⟩ := this
  refine ⟨?_, ?_, ?_, ?_, ?_, ?_, ?_, ?_⟩
  · rintro rfl; exact c6 hr
  · rintro rfl; exact d5 hr
  · rintro rfl; exact e4 hr
  · rintro rfl; exact f3 hr
  · rintro rfl; exact g2 hr
  · rintro rfl; exact a8 hr
  · rintro rfl; exact b7 hr
  · intro hx; exact hh _ hx _ hr rfl

theorem HRep.xapart {w : World} {L : HL} {s : HS} (h : HRep w L s) {b : Nat} (hb : b ∈ L.xlbs) : b ≠ L.hb ∧ b ≠ L.ab ∧ b ≠ L.wb ∧ b ≠ L.lb ∧ b ≠ L.xb ∧ b ≠ L.cb ∧ b ≠ L.rsb ∧ b ∉ L.rbs := by
  have := h.nd
  simp only [HL.all, HL.fp, List.nodup_cons, List.mem_cons, List.mem_append, not_or, List.nodup_append] at this
  obtain ⟨⟨a1, a2, a3, a4, a5, a6, a7, a8⟩, ⟨b1, b2, b3, b4, b5, b6, b7⟩, ⟨c1, c2, c3, c4, c5, c6⟩, ⟨d1, d2, d3, d4, d5⟩, ⟨e1, e2, e3, e4⟩, ⟨f1, f2, f3⟩, ⟨g1, g2⟩, _, _, hh⟩ := this
  refine ⟨?_, ?_, ?_, ?_, ?_, ?_, ?_, ?_⟩
  · rintro rfl; exact c5 hb
  · rintro rfl; exact d4 hb
  · rintro rfl; exact e3 hb
  · rintro rfl; exact f2 hb
  · rintro rfl; exact g1 hb
  · rintro rfl; exact a7 hb
  · rintro rfl; exact b6 hb
  · intro hx; exact hh _ hb _ hx rfl

theorem HRep.rinj {w : World} {L : HL} {s : HS} (h : HRep w L s) {j k rb : Nat} (hj : L.rbs[j]? = some rb) (hk : L.rbs[k]? = some rb) : j = k := by
  have := h.nd
  simp only [HL.all, HL.fp, List.nodup_cons, List.nodup_append] at this
  obtain ⟨_, _, _, _, _, _, _, _, hr, _⟩ := this
  have h1 : j < L.rbs.length := (List.getElem?_eq_some_iff.1 hj).1
  exact (List.getElem?_inj h1 hr).1 (hj.trans hk.symm)

/-- An operation of the arena. -/
theorem HRep.arena {S : List Nat} {w w' : World} {L : HL} {s : HS} (h : HRep w L s) (hf : Fr S w w') (hS : ∀ x ∈ S, x = L.ab ∨ x = L.wb) {ws : List Int} {u : Int} (ha : ARep w' L.ab L.wb ws u) : HRep w' L { s with ws := ws, u := u } := by
  obtain ⟨⟨p1, p2, -, -, -, -⟩, ⟨-, q2, q3, q4, q5⟩, ⟨r1, r2, r3, r4⟩, -, -, -⟩ := h.apart
  have g : ∀ x, x ≠ L.ab → x ≠ L.wb → x ∉ S := fun x h1 h2 hc => (hS x hc).elim h1 h2
  exact { h := h.h.fr hf (g _ p1 p2), a := ha, c := h.c.fr hf (g _ (Ne.symm q4) (Ne.symm r3)), r := h.r.fr hf (g _ (Ne.symm q5) (Ne.symm r4)),
          rr := fun k rb r hk hr => (h.rr k rb r hk hr).fr hf (g _ (h.rapart (List.mem_of_getElem? hk)).2.1 (h.rapart (List.mem_of_getElem? hk)).2.2.1), lr := h.lr.fr hf (g _ (Ne.symm q2) (Ne.symm r1)),
          x := h.x.fr hf (g _ (Ne.symm q3) (Ne.symm r2)) (fun b hb => g _ (h.xapart hb).2.1 (h.xapart hb).2.2.1), nd := h.nd, n1 := h.n1, n2 := h.n2, n3 := h.n3, t := h.t, e := h.e }

/-- An operation of a class's ring. -/
theorem HRep.ring {S : List Nat} {w w' : World} {L : HL} {s : HS} (h : HRep w L s) {k rb : Nat} (hk : L.rbs[k]? = some rb) (hf : Fr S w w') (hS : ∀ x ∈ S, x = L.ab ∨ x = L.wb ∨ x = rb) {ws : List Int} {u : Int} {r : RS} (ha : ARep w' L.ab L.wb ws u) (hr : RRep w' rb L.ab r) : HRep w' L { s with ws := ws, u := u, rs := s.rs.set k r } := by
  obtain ⟨⟨p1, p2, -, -, -, -⟩, ⟨-, q2, q3, q4, q5⟩, ⟨r1, r2, r3, r4⟩, -, -, -⟩ := h.apart
  obtain ⟨s1, s2, s3, s4, s5, s6, s7, s8⟩ := h.rapart (List.mem_of_getElem? hk)
  have g : ∀ x, x ≠ L.ab → x ≠ L.wb → x ≠ rb → x ∉ S := fun x h1 h2 h3 hc => by rcases hS x hc with e | e | e <;> contradiction
  refine { h := h.h.fr hf (g _ p1 p2 (Ne.symm s1)), a := ha, c := h.c.fr hf (g _ (Ne.symm q4) (Ne.symm r3) (Ne.symm s6)), r := h.r.fr hf (g _ (Ne.symm q5) (Ne.symm r4) (Ne.symm s7)),
           rr := fun j rb' r' hj hr' => ?_, lr := h.lr.fr hf (g _ (Ne.symm q2) (Ne.symm r1) (Ne.symm s4)),
           x := h.x.fr hf (g _ (Ne.symm q3) (Ne.symm r2) (Ne.symm s5)) (fun b hb => g _ (h.xapart hb).2.1 (h.xapart hb).2.2.1 (fun e => s8 (e ▸ hb))), nd := h.nd, n1 := h.n1, n2 := by simpa using h.n2, n3 := h.n3, t := h.t, e := h.e }
  by_cases e : j = k
  · subst e
    rw [hk] at hj; cases hj
    rw [List.getElem?_set] at hr'
    simp at hr'
    obtain ⟨_, rfl⟩ := hr'
    exact hr
  · rw [List.getElem?_set_ne (Ne.symm e)] at hr'
    obtain ⟨t1, t2, t3, t4, t5, t6, t7, t8⟩ := h.rapart (List.mem_of_getElem? hj)
    exact (h.rr j rb' r' hj hr').fr hf (g _ t2 t3 (fun e' => e (h.rinj hj (e' ▸ hk))))

/-- An operation of the large ones' ring. -/
theorem HRep.large {S : List Nat} {w w' : World} {L : HL} {s : HS} (h : HRep w L s) (hf : Fr S w w') (hS : ∀ x ∈ S, x = L.ab ∨ x = L.wb ∨ x = L.lb) {ws : List Int} {u : Int} {r : RS} (ha : ARep w' L.ab L.wb ws u) (hr : RRep w' L.lb L.ab r) : HRep w' L { s with ws := ws, u := u, lg := r } := by
  obtain ⟨⟨p1, p2, p3, -, -, -⟩, ⟨-, q2, q3, q4, q5⟩, ⟨r1, r2, r3, r4⟩, ⟨t1, t2, t3⟩, -, -⟩ := h.apart
  have g : ∀ x, x ≠ L.ab → x ≠ L.wb → x ≠ L.lb → x ∉ S := fun x h1 h2 h3 hc => by rcases hS x hc with e | e | e <;> contradiction
  exact { h := h.h.fr hf (g _ p1 p2 p3), a := ha, c := h.c.fr hf (g _ (Ne.symm q4) (Ne.symm r3) (Ne.symm t2)), r := h.r.fr hf (g _ (Ne.symm q5) (Ne.symm r4) (Ne.symm t3)),
          rr := fun j rb r' hj hr' => (h.rr j rb r' hj hr').fr hf (g _ (h.rapart (List.mem_of_getElem? hj)).2.1 (h.rapart (List.mem_of_getElem? hj)).2.2.1 (h.rapart (List.mem_of_getElem? hj)).2.2.2.1), lr := hr,
          x := h.x.fr hf (g _ (Ne.symm q3) (Ne.symm r2) (Ne.symm t1)) (fun b hb => g _ (h.xapart hb).2.1 (h.xapart hb).2.2.1 (h.xapart hb).2.2.2.1), nd := h.nd, n1 := h.n1, n2 := h.n2, n3 := h.n3, t := h.t, e := h.e }

theorem HRep.setTop {w : World} {L : HL} {s : HS} (h : HRep w L s) (t : Int) (ht : 0 ≤ t ∧ t ≤ 65536) : HRep (w.setCell ⟨L.hb, 5, none⟩ (.int .i64 t)) L { s with top := t } := by
  obtain ⟨⟨p1, p2, p3, p4, p5, p6⟩, -, -, -, -, -⟩ := h.apart
  exact { h := by have := h.h.set 5 (.int .i64 t); simpa [HL.cells] using this, a := h.a.other (Ne.symm p1) (Ne.symm p2) _, c := h.c.other (Ne.symm p5) _, r := h.r.other (Ne.symm p6) _,
          rr := fun j rb r' hj hr' => (h.rr j rb r' hj hr').other (h.rapart (List.mem_of_getElem? hj)).1 _, lr := h.lr.other (Ne.symm p3) _,
          x := h.x.fr ((Fr.refl [L.hb] w).set (p := ⟨L.hb, 5, none⟩) (by simp) (.int .i64 t)) (by simp [Ne.symm p4]) (fun b hb => by simp [(h.xapart hb).1]), nd := h.nd, n1 := h.n1, n2 := h.n2, n3 := h.n3, t := ht, e := h.e }
theorem HRep.setParity {w : World} {L : HL} {s : HS} (h : HRep w L s) (t : Int) : HRep (w.setCell ⟨L.hb, 7, none⟩ (.int .i64 t)) L { s with parity := t } := by
  obtain ⟨⟨p1, p2, p3, p4, p5, p6⟩, -, -, -, -, -⟩ := h.apart
  exact { h := by have := h.h.set 7 (.int .i64 t); simpa [HL.cells] using this, a := h.a.other (Ne.symm p1) (Ne.symm p2) _, c := h.c.other (Ne.symm p5) _, r := h.r.other (Ne.symm p6) _,
          rr := fun j rb r' hj hr' => (h.rr j rb r' hj hr').other (h.rapart (List.mem_of_getElem? hj)).1 _, lr := h.lr.other (Ne.symm p3) _,
          x := h.x.fr ((Fr.refl [L.hb] w).set (p := ⟨L.hb, 7, none⟩) (by simp) (.int .i64 t)) (by simp [Ne.symm p4]) (fun b hb => by simp [(h.xapart hb).1]), nd := h.nd, n1 := h.n1, n2 := h.n2, n3 := h.n3, t := h.t, e := h.e }

/-- The cells of a heap's struct. -/
theorem HRep.reads {w : World} {L : HL} {s : HS} (h : HRep w L s) :
    w.cell? ⟨L.hb, 0, none⟩ = some (.pointer (some ⟨L.ab, 0, none⟩)) ∧ w.cell? ⟨L.hb, 1, none⟩ = some (.slice (some ⟨L.cb, 0, none⟩) s.cls.length L.ccap) ∧ w.cell? ⟨L.hb, 2, none⟩ = some (.slice (some ⟨L.rsb, 0, none⟩) s.cls.length L.rcap) ∧
    w.cell? ⟨L.hb, 3, none⟩ = some (.pointer (some ⟨L.lb, 0, none⟩)) ∧ w.cell? ⟨L.hb, 4, none⟩ = some (.pointer (some ⟨L.xb, 0, none⟩)) ∧ w.cell? ⟨L.hb, 5, none⟩ = some (.int .i64 s.top) ∧ w.cell? ⟨L.hb, 6, none⟩ = some (.int .i64 s.edge) ∧ w.cell? ⟨L.hb, 7, none⟩ = some (.int .i64 s.parity) :=
  ⟨h.h.cell rfl, h.h.cell rfl, h.h.cell rfl, h.h.cell rfl, h.h.cell rfl, h.h.cell rfl, h.h.cell rfl, h.h.cell rfl⟩

/-- Class k's ring. -/
theorem HRep.at {w : World} {L : HL} {s : HS} (h : HRep w L s) {k : Nat} (hk : k < s.cls.length) : ∃ rb r, L.rbs[k]? = some rb ∧ s.rs[k]? = some r ∧ w.cell? ⟨L.rsb, k, none⟩ = some (.pointer (some ⟨rb, 0, none⟩)) ∧ RRep w rb L.ab r := by
  have h1 : k < L.rbs.length := by rw [h.n1]; exact hk
  have h2 : k < s.rs.length := by rw [h.n2]; exact hk
  refine ⟨_, _, List.getElem?_eq_getElem h1, List.getElem?_eq_getElem h2, h.r.2 k _ (by simp [h1]), h.rr k _ _ (List.getElem?_eq_getElem h1) (List.getElem?_eq_getElem h2)⟩

set_option maxHeartbeats 800000 in
theorem hClass (L : HL) (s : HS) (n : Int) (w : World) (hH : HRep w L s) :
    Calls Try.prog 68 #[.pointer (some ⟨L.hb, 0, none⟩), .int .i64 n] w fun e w' => e = .returned (.int .i64 (ixGe s.cls n)) ∧ HRep w' L s ∧ Fr [] w w' := by
  have hmf : ∀ (fn : Fn) (first cap : Array Value) (w : World), (Instr.makeFunc fn first cap).run Try.prog w = .ok (.func fn first cap) w := fun _ _ _ _ => rfl
  have c1 := hH.reads.2.1
  have l1 := hH.h.lt
  have l2 := hH.c.1
  have hB := Blk.new w [.int .i64 n] 3
  go_enter Try.func68, Try.ntmps68
  go_wp2_with fail
  refine (ixClass L.cb s.cls L.ccap n ⟨w.heap.size, 0, none⟩ _ hH.n3 (hH.c.alloc _) (hB.cell rfl)).mono ?_
  rintro e w1 ⟨rfl, rfl⟩
  clear hB
  go_wp2_with fail
  go_ret
  exact ⟨rfl, hH.alloc _, (Fr.refl _ w).alloc _⟩

def roundOf (cls : List Int) (n : Int) : Int := match cls.find? (fun c => decide (n ≤ c)) with | some c => c + 3 | none => n + 3
end Go.Proofs.Ytifillpcphiblaa
