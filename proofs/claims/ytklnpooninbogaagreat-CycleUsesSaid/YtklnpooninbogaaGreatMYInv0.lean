
import Derived.Test.YtklnpooninbogaaGreatMYPick
import Derived.Test.YtklnpooninbogaaGreatMYCol
import Derived.Test.YtklnpooninbogaaGreatHSweep
namespace Go.Proofs.YtklnpooninbogaaGreat
open Go Go.Proofs Go.RowKit
structure CE where
  hb : Nat
  kb : Nat
  mb : Nat
  tb : Nat
  sb : Nat
  lb : Nat
  lo : Nat
  lc : Nat
  B : Nat
  sh : Value
  gl : List Int
structure CY where
  L : HL
  s : HS
  A : Rg
  z : Int → Int
  obs : List Ob
  a : Int
  nx : Nat
  U : Nat
  c : CS
  t : TS
  k : Sk
  P : Nat → Prop
  fl : List Int
  bl : List Int
  rw : List Ob
  qu : List Ob
  dn : List Ob
  td : List Ob
structure CX where
  T : Prop
  fr : List Int
  K : List Ob
  ob0 : List Ob
  row0 : List Ob
  pre : List Ob
  bl0 : List Int
  r0 : Int
  f0 : Int
  q0 : List Ob
  cyc0 : Nat
  fs0 : List Fm
  rv0 : Value
  cls0 : List Int
  ub : Option (Int × Nat)
def Chn (s : HS) : Int → List Ob → Prop
  | p, [] => p = 0
  | p, o :: r => p = o.p ∧ Chn s (s.wd o 3) r
theorem Chn.congr {s s' : HS} : ∀ {l : List Ob} {p : Int}, Chn s p l → (∀ o ∈ l, s'.wd o 3 = s.wd o 3) → Chn s' p l
  | [], _, h, _ => h
  | o :: r, _, h, hw => ⟨h.1, by rw [hw o (List.mem_cons_self ..)]; exact h.2.congr fun o ho => hw o (List.mem_cons_of_mem _ ho)⟩
def lastP (l : List Ob) : Int := ((l.getLast?).map Ob.p).getD 0
theorem lastP_snoc (l : List Ob) (o : Ob) : lastP (l ++ [o]) = o.p := by simp [lastP]
def scanW (fs : List Fm) (n : Nat) : List Int := ((fs.take n).map Fm.l).flatten
def scanN (fs : List Fm) (n : Nat) : Nat := ((fs.take n).map fun f => 1 + f.l.length).sum
def CY.left (S : CY) (gl : List Int) : List Int := gl.drop S.c.at' ++ (S.fl ++ scanW S.k.fs S.k.todo)
structure CQ (gl : List Int) (g : MG) (X : CX) (S : CY) : Prop where
  ph : S.c.ph ≤ 4
  mh : MH S.s S.A S.z S.obs
  xok : XOk S.s
  wh : ∀ c ∈ (S.A none).W, ∃ (k : Int) (n : Nat) (a m : Int), gw S.s.ws c = packed k n a m ∧ Hd k n a m ∧ (n : Int) + 3 ≤ S.z c
  wn : S.c.ph ≠ 4 → (S.A none).W = []
  mS : ∀ o ∈ S.obs, Mkd S.A o → g.S o.p
  mi : S.c.ph = 1 ∨ S.c.ph = 2 → MI S.s S.A S.z S.obs g S.a S.nx S.U
  a0 : S.c.ph ≠ 2 → S.a = 0
  nx0 : S.a = 0 → S.nx = 0
  black : S.c.ph = 4 ∨ S.c.ph = 0 → NoFG S.A
  nog : S.c.ph = 3 → NoG S.A
  roots : S.c.ph = 1 ∨ S.c.ph = 2 → ∀ x ∈ X.fr, ∀ o ∈ S.obs, o.p = x → Mkd S.A o ∨ (S.c.ph = 1 ∧ x ∈ S.left gl)
  left : S.c.ph = 1 → ∀ x ∈ S.left gl, x = 0 ∨ ∃ o ∈ S.obs, o.p = x ∧ g.S o.p
  sub : S.c.ph = 1 ∨ S.c.ph = 2 → ∀ o ∈ X.ob0, o ∈ S.obs
  fin : S.c.ph ≠ 1 → S.c.ph ≠ 2 → ∀ x, g.R x → ∃ o ∈ S.obs, o.p = x ∧ Mkd S.A o
  tight : X.T → ∀ o ∈ S.obs, g.S o.p → Mkd S.A o ∨ g.R o.p
  cl : S.c.ph = 3 ∨ ((S.c.ph = 4 ∨ S.c.ph = 0) ∧ X.T) → ∀ o ∈ S.obs, g.S o.p → ∀ j, Lk o j → S.s.wd o j = 0 ∨ ∃ o' ∈ S.obs, o'.p = S.s.wd o j ∧ g.S o'.p
  rch : Chn S.s S.t.row S.rw
  qch : Chn S.s S.t.first S.qu
  last : ∀ o, S.qu.getLast? = some o → S.t.last = o.p
  rin : ∀ o ∈ S.rw, o ∈ S.obs ∧ o.k = 9 ∧ o.n = 4
  qin : ∀ o ∈ S.qu, o ∈ S.obs ∧ o.k = 10 ∧ o.n = 4
  rnd : S.rw.Nodup
  qnd : S.qu.Nodup
  key : ∀ o ∈ S.rw, ∃ ko ∈ S.obs, ko.p = S.s.wd o 0
  rm : S.c.ph = 3 → ∀ o ∈ S.rw, o ∉ S.td → ∀ ko ∈ S.obs, ko.p = S.s.wd o 0 → Mkd S.A ko
  rmk : ∀ o, o ∈ S.rw ∨ o ∈ S.qu → Mkd S.A o ∨ ((S.c.ph = 1 ∨ S.c.ph = 2) ∧ g.R o.p)
  walk : S.c.ph = 3 → ∃ pre, S.rw = pre ++ S.td ∧ Chn S.s S.t.walk S.td ∧ S.t.ahead = lastP pre
  row : X.row0 = S.dn ++ S.td
  tdE : S.c.ph = 4 ∨ S.c.ph = 0 → S.td = []
  dnE : S.c.ph = 1 ∨ S.c.ph = 2 → S.dn = [] ∧ X.pre = []
  hist : ∃ dec : Ob → Bool, S.rw = X.pre ++ (S.dn.filter (fun o => !dec o) ++ S.td) ∧ S.bl = X.bl0 ++ (S.dn.filter dec).map Ob.a ∧ (X.T → ∀ o ∈ S.dn, (dec o = true ↔ ¬ g.S (g.W0 o.p 0))) ∧
    (X.T → S.dn.filter dec = [] → (∀ o ∈ S.obs, ∀ j, j < o.n → S.s.wd o j = g.W0 o.p j) ∧ S.t.row = X.r0 ∧ S.t.first = X.f0 ∧ S.qu = X.q0)
  tdk : X.T → ∀ o ∈ S.td, S.s.wd o 0 = g.W0 o.p 0
  keep : ∀ o ∈ X.K, o.k ≠ 9 ∧ ∃ o' ∈ S.obs, o'.p = o.p ∧ o'.k = o.k ∧ o'.a = o.a ∧ o'.n = o.n ∧ Mkd S.A o'
  cyc : S.c.cyc = X.cyc0 + (if S.c.ph = 0 then 1 else 0)
  blen : S.bl.length + S.rw.length ≤ 10000
theorem CQ.tdin {gl : List Int} {g : MG} {X : CX} {S : CY} (h : CQ gl g X S) : ∀ o ∈ S.td, o ∈ S.rw := by
  obtain ⟨dec, e, -⟩ := h.hist
  intro o ho
  rw [e]
  exact List.mem_append_right _ (List.mem_append_right _ ho)
theorem CQ.mark {gl : List Int} {g : MG} {X : CX} {S : CY} (h : CQ gl g X S) (hp : S.c.ph = 1 ∨ S.c.ph = 2) {s' : HS} {A' : Rg} {a' : Int} {nx' U' : Nat} {c' : CS} {k' : Sk} {fl' : List Int} {P' : Nat → Prop}
    (hi : MI s' A' S.z S.obs g a' nx' U') (hst : MSt S.s s' S.A A' S.obs) (e1 : c'.ph = S.c.ph) (e2 : c'.cyc = S.c.cyc) (ha : S.c.ph ≠ 2 → a' = 0) (hn : a' = 0 → nx' = 0)
    (hl : S.c.ph = 1 → ∀ x ∈ S.left gl, x ∈ gl.drop c'.at' ++ (fl' ++ scanW k'.fs k'.todo) ∨ ∀ o ∈ S.obs, o.p = x → Mkd A' o) (hl2 : S.c.ph = 1 → ∀ x ∈ gl.drop c'.at' ++ (fl' ++ scanW k'.fs k'.todo), x ∈ S.left gl) :
    CQ gl g X { S with s := s', A := A', a := a', nx := nx', U := U', c := c', k := k', fl := fl', P := P' } := by
  have n3 : S.c.ph ≠ 3 := by omega
  have n4 : S.c.ph ≠ 4 := by omega
  have n0 : S.c.ph ≠ 0 := by omega
  have hw3 : ∀ o ∈ S.obs, o.n = 4 → s'.wd o 3 = S.s.wd o 3 := fun o ho hn => hst.wd o ho 3 (by omega)
  have hw0 : ∀ o ∈ S.obs, o.n = 4 → s'.wd o 0 = S.s.wd o 0 := fun o ho hn => hst.wd o ho 0 (by omega)
  have htd := h.tdin
  obtain ⟨dec, d1, d2, d3, d4⟩ := h.hist
  refine ⟨e1 ▸ h.ph, hi.mh, ⟨?_, ?_⟩, ?_, ?_, hi.mS, fun _ => hi, ?_, hn, ?_, ?_, ?_, ?_, ?_, ?_, ?_, ?_, ?_, ?_, h.last, h.rin, h.qin, h.rnd, h.qnd, ?_, ?_, ?_, ?_, h.row, ?_, ?_, ⟨dec, d1, d2, d3, ?_⟩, ?_, ?_, ?_, h.blen⟩
  · have := h.xok.1; show s'.x.first = s'.edge; rw [hst.sta.x, hst.sta.edge]; exact this
  · have := h.xok.2; show s'.x.first + s'.x.places = s'.ws.length; rw [hst.sta.x, hst.sta.len]; exact this
  · intro c hc
    have hc' : c ∈ (A' none).W := hc
    rw [hst.white none, h.wn n4] at hc'
    cases hc'
  · intro _
    show (A' none).W = []
    rw [hst.white none, h.wn n4]
  · intro hne; exact ha (by rwa [← e1])
  · intro hx; exfalso; simp only [e1] at hx; omega
  · intro hx; exfalso; simp only [e1] at hx; omega
  · intro _ x hx o ho e
    rcases h.roots hp x hx o ho e with h1 | ⟨h1, h2⟩
    · exact .inl (hst.mono o ho h1)
    · rcases hl h1 x h2 with h3 | h3
      · exact .inr ⟨e1.trans h1, h3⟩
      · exact .inl (h3 o ho e)
  · intro hx x hm
    have hx' : S.c.ph = 1 := e1 ▸ hx
    exact h.left hx' x (hl2 hx' x hm)
  · intro _; exact h.sub hp
  · intro h1 h2; exfalso; simp only [e1] at h1 h2; omega
  · intro hT o ho hS
    exact (h.tight hT o ho hS).imp (hst.mono o ho) id
  · intro hx; exfalso; simp only [e1] at hx; omega
  · exact h.rch.congr fun o ho => hw3 o (h.rin o ho).1 (h.rin o ho).2.2
  · exact h.qch.congr fun o ho => hw3 o (h.qin o ho).1 (h.qin o ho).2.2
  · intro o ho
    obtain ⟨ko, h1, h2⟩ := h.key o ho
    exact ⟨ko, h1, h2.trans (hw0 o (h.rin o ho).1 (h.rin o ho).2.2).symm⟩
  · intro hx; exfalso; simp only [e1] at hx; omega
  · intro o ho
    have hoo : o ∈ S.obs := ho.elim (fun h1 => (h.rin o h1).1) (fun h1 => (h.qin o h1).1)
    rcases h.rmk o ho with h1 | h1
    · exact .inl (hst.mono o hoo h1)
    · exact .inr ⟨by simpa only [e1] using hp, h1.2⟩
  · intro hx; exfalso; simp only [e1] at hx; omega
  · intro hx; exfalso; simp only [e1] at hx; omega
  · intro _; exact h.dnE hp
  · intro hT hn
    obtain ⟨g1, g2⟩ := d4 hT hn
    exact ⟨fun o ho j hj => (hst.wd o ho j hj).trans (g1 o ho j hj), g2⟩
  · intro hT o ho
    exact (hw0 o (h.rin o (htd o ho)).1 (h.rin o (htd o ho)).2.2).trans (h.tdk hT o ho)
  · intro o ho
    obtain ⟨k1, o', h1, h2, h3, h4, h5, h6⟩ := h.keep o ho
    exact ⟨k1, o', h1, h2, h3, h4, h5, hst.mono o' h1 h6⟩
  · have := h.cyc; show c'.cyc = _; rw [e2, this]; simp only [e1]
structure CXK (g : MG) (X : CX) : Prop where
  r1 : ∀ x, g.R x → ∃ o ∈ X.ob0, o.p = x ∧ Rch X.ob0 g.W0 X.fr x
  r2 : ∀ o ∈ X.ob0, Rch X.ob0 g.W0 X.fr o.p → g.R o.p
  nd : (X.row0.map Ob.p).Nodup
theorem CQ.next1 {gl : List Int} {g : MG} {X : CX} {S : CY} (h : CQ gl g X S) (hp : S.c.ph = 1) (hl : S.left gl = []) : CQ gl g X { S with c := { S.c with ph := 2 } } := by
  obtain ⟨dec, d1, d2, d3, d4⟩ := h.hist
  refine ⟨show 2 ≤ 4 by decide, h.mh, h.xok, h.wh, fun _ => h.wn (by omega), h.mS, fun _ => h.mi (.inl hp), fun hx => absurd rfl hx, h.nx0, fun hx => absurd hx (by simp), fun hx => absurd hx (by simp), ?_, fun hx => absurd hx (by simp), fun _ => h.sub (.inl hp),
    fun _ hx => absurd rfl hx, h.tight, fun hx => hx.elim (fun k => absurd k (by simp)) (fun k => absurd k.1 (by simp)), h.rch, h.qch, h.last, h.rin, h.qin, h.rnd, h.qnd, h.key, fun hx => absurd hx (by simp), ?_, fun hx => absurd hx (by simp), h.row, fun hx => absurd hx (by simp), fun _ => h.dnE (.inl hp), ⟨dec, d1, d2, d3, d4⟩, h.tdk, h.keep, ?_, h.blen⟩
  · intro _ x hx o ho e
    rcases h.roots (.inl hp) x hx o ho e with h1 | ⟨-, h1⟩
    · exact .inl h1
    · rw [hl] at h1; cases h1
  · intro o ho
    exact (h.rmk o ho).imp id fun k => ⟨.inr rfl, k.2⟩
  · have := h.cyc
    rw [hp] at this
    exact this
theorem CQ.next2 {gl : List Int} {g : MG} {X : CX} {S : CY} (h : CQ gl g X S) (hX : CXK g X) (hp : S.c.ph = 2) (ha : S.a = 0) (hno : NoG S.A) : CQ gl g X { S with c := { S.c with ph := 3 }, t := { S.t with walk := S.t.row, ahead := 0, walking := true } } := by
  have hi := h.mi (.inr hp)
  have hd := (h.dnE (.inr hp)).1
  have hpre := (h.dnE (.inr hp)).2
  rw [ha, h.nx0 ha] at hi
  have hsub := h.sub (.inr hp)
  have hf := hi.fin hno hsub hX.r2 (fun o ho hm => by
    rcases h.roots (.inr hp) o.p hm o (hsub o ho) rfl with h1 | ⟨h1, -⟩
    · exact h1
    · omega)
  have hfin : ∀ x, g.R x → ∃ o ∈ S.obs, o.p = x ∧ Mkd S.A o := by
    intro x hx
    obtain ⟨o, ho, rfl, hr⟩ := hX.r1 x hx
    exact ⟨o, hsub o ho, rfl, hf o ho hr⟩
  obtain ⟨dec, d1, d2, d3, d4⟩ := h.hist
  have hrt : S.rw = S.td := by rw [d1, hd, hpre]; rfl
  refine ⟨show 3 ≤ 4 by decide, h.mh, h.xok, h.wh, fun _ => h.wn (by omega), h.mS, fun hx => absurd hx (by simp), fun _ => ha, h.nx0, fun hx => absurd hx (by simp), fun _ => hno, fun hx => absurd hx (by simp), fun hx => absurd hx (by simp), fun hx => absurd hx (by simp),
    fun _ _ => hfin, h.tight, ?_, h.rch, h.qch, h.last, h.rin, h.qin, h.rnd, h.qnd, h.key, ?_, ?_, fun _ => ⟨[], ?_, ?_, rfl⟩, h.row, fun hx => absurd hx (by simp), fun hx => absurd hx (by simp), ⟨dec, d1, d2, d3, d4⟩, h.tdk, h.keep, ?_, h.blen⟩
  · intro _ o ho hS j hj
    rcases hi.wd o ho j hj with h1 | ⟨o', h1, h2⟩
    · exact .inl h1
    · exact .inr ⟨o', h1, h2, hi.cS o ho hS j hj o' h1 h2⟩
  · intro _ o ho hn
    exact absurd (hrt ▸ ho) hn
  · intro o ho
    rcases h.rmk o ho with h1 | ⟨-, h1⟩
    · exact .inl h1
    · obtain ⟨o', h2, h3, h4⟩ := hfin _ h1
      have hoo : o ∈ S.obs := ho.elim (fun k => (h.rin o k).1) (fun k => (h.qin o k).1)
      rw [h.mh.one h2 hoo h3] at h4
      exact .inl h4
  · exact hrt
  · show Chn S.s S.t.row S.td
    rw [← hrt]; exact h.rch
  · have := h.cyc
    rw [hp] at this
    exact this
theorem CQ.wkeep {gl : List Int} {g : MG} {X : CX} {S : CY} (h : CQ gl g X S) (hX : CXK g X) (hp : S.c.ph = 3) {o : Ob} {td' : List Ob} (htd : S.td = o :: td') {ko : Ob} (hko : ko ∈ S.obs) (hk : ko.p = S.s.wd o 0) (hm : Mkd S.A ko) (n : Int) :
    CQ gl g X { S with s := S.s.tick n, t := { S.t with walk := S.s.wd o 3, ahead := o.p }, dn := S.dn ++ [o], td := td' } := by
  obtain ⟨dec, d1, d2, d3, d4⟩ := h.hist
  have hrow := h.row
  have hnd := hX.nd
  rw [hrow, htd, List.map_append, List.map_cons] at hnd
  have hne : ∀ x ∈ S.dn, x.p ≠ o.p := by
    intro x hx e
    have := (List.nodup_append.1 hnd).2.2 x.p (List.mem_map_of_mem hx) o.p (List.mem_cons_self ..)
    exact this e
  have hnt : ∀ x ∈ td', x.p ≠ o.p := by
    intro x hx e
    have := (List.nodup_cons.1 (List.nodup_append.1 hnd).2.1).1
    exact this (e ▸ List.mem_map_of_mem hx)
  have f1 : S.dn.filter (fun x => !(dec x && (x.p != o.p))) = S.dn.filter fun x => !dec x := List.filter_congr fun x hx => by simp [hne x hx]
  have f2 : S.dn.filter (fun x => dec x && (x.p != o.p)) = S.dn.filter dec := List.filter_congr fun x hx => by simp [hne x hx]
  have hoS : g.S ko.p := h.mS ko hko hm
  obtain ⟨pre, w1, w2, w3⟩ := h.walk hp
  rw [htd] at w1 w2
  refine ⟨h.ph, h.mh.tick n, h.xok, h.wh, h.wn, h.mS, fun hx => absurd hx (by show ¬ (S.c.ph = 1 ∨ S.c.ph = 2); omega), h.a0, h.nx0, h.black, h.nog, fun hx => absurd hx (by show ¬ (S.c.ph = 1 ∨ S.c.ph = 2); omega), fun hx => absurd hx (by show ¬ (S.c.ph = 1); omega), fun hx => absurd hx (by show ¬ (S.c.ph = 1 ∨ S.c.ph = 2); omega),
    h.fin, h.tight, h.cl, h.rch.congr fun _ _ => rfl, h.qch.congr fun _ _ => rfl, h.last, h.rin, h.qin, h.rnd, h.qnd, h.key, ?_, h.rmk, fun _ => ⟨pre ++ [o], ?_, w2.2.congr fun _ _ => rfl, (lastP_snoc pre o).symm⟩, ?_, fun hx => absurd hx (by show ¬ (S.c.ph = 4 ∨ S.c.ph = 0); omega), fun hx => absurd hx (by show ¬ (S.c.ph = 1 ∨ S.c.ph = 2); omega), ⟨fun x => dec x && (x.p != o.p), ?_, ?_, ?_, ?_⟩, ?_, h.keep, h.cyc, h.blen⟩
  · intro _ x hx hn k2 hk2 e2
    by_cases hxo : x = o
    · subst hxo
      have : k2 = ko := h.mh.one hk2 hko (e2.trans hk.symm)
      rw [this]; exact hm
    · exact h.rm hp x hx (by rw [htd]; intro hc; rcases List.mem_cons.1 hc with e | e; exact hxo e; exact hn e) k2 hk2 e2
  · show S.rw = (pre ++ [o]) ++ td'
    rw [w1, List.append_assoc]; rfl
  · show X.row0 = (S.dn ++ [o]) ++ td'
    rw [hrow, htd, List.append_assoc]; rfl
  · show S.rw = X.pre ++ ((S.dn ++ [o]).filter (fun x => !(dec x && (x.p != o.p))) ++ td')
    rw [List.filter_append, f1, d1, htd]
    simp
  · show S.bl = X.bl0 ++ ((S.dn ++ [o]).filter (fun x => dec x && (x.p != o.p))).map Ob.a
    rw [List.filter_append, f2, d2]
    simp
  · intro hT x hx
    rcases List.mem_append.1 hx with h1 | h1
    · simpa [hne x h1] using d3 hT x h1
    · rw [List.mem_singleton.1 h1]
      have := h.tdk hT o (by rw [htd]; exact List.mem_cons_self ..)
      simp only [bne_self_eq_false, Bool.and_false]
      rw [← this, ← hk]
      simp [hoS]
  · intro hT he
    rw [List.filter_append, f2] at he
    exact d4 hT (List.append_eq_nil_iff.1 he).1
  · intro hT x hx
    exact h.tdk hT x (by rw [htd]; exact List.mem_cons_of_mem _ hx)
theorem CQ.wend {gl : List Int} {g : MG} {X : CX} {S : CY} (h : CQ gl g X S) (b : Bool) : CQ gl g X { S with t := { S.t with walking := b } } :=
  ⟨h.ph, h.mh, h.xok, h.wh, h.wn, h.mS, h.mi, h.a0, h.nx0, h.black, h.nog, h.roots, h.left, h.sub, h.fin, h.tight, h.cl, h.rch, h.qch, h.last, h.rin, h.qin, h.rnd, h.qnd, h.key, h.rm, h.rmk, h.walk, h.row, h.tdE, h.dnE, h.hist, h.tdk, h.keep, h.cyc, h.blen⟩
theorem CQ.next4 {gl : List Int} {g : MG} {X : CX} {S : CY} (h : CQ gl g X S) (hp : S.c.ph = 4) (hW : (S.A none).W = []) : CQ gl g X { S with c := { S.c with ph := 0, cyc := S.c.cyc + 1 } } := by
  refine ⟨Nat.zero_le _, h.mh, h.xok, h.wh, fun _ => hW, h.mS, fun hx => absurd hx (by simp), fun _ => h.a0 (by omega), h.nx0, fun _ => h.black (.inl hp), fun hx => absurd hx (by simp), fun hx => absurd hx (by simp), fun hx => absurd hx (by simp), fun hx => absurd hx (by simp),
    fun _ _ => h.fin (by omega) (by omega), h.tight, fun hx => h.cl (.inr ⟨.inl hp, ?_⟩), h.rch, h.qch, h.last, h.rin, h.qin, h.rnd, h.qnd, h.key, fun hx => absurd hx (by simp), ?_, fun hx => absurd hx (by simp), h.row, fun _ => h.tdE (.inl hp), fun hx => absurd hx (by simp), h.hist, h.tdk, h.keep, ?_, h.blen⟩
  · rcases hx with hx | hx
    · exact absurd hx (by simp)
    · exact hx.2
  · intro o ho
    rcases h.rmk o ho with h1 | ⟨h1, -⟩
    · exact .inl h1
    · omega
  · have := h.cyc
    rw [hp] at this
    show S.c.cyc + 1 = X.cyc0 + 1
    rw [this]; rfl
end Go.Proofs.YtklnpooninbogaaGreat
