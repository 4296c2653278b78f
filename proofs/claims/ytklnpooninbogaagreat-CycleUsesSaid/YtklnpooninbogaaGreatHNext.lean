
import Derived.Test.YtklnpooninbogaaGreatHAll
import Derived.Test.YtklnpooninbogaaGreatMMHeapAlloc
import Derived.RangeFuncFrom
import Derived.RangeFuncBox
namespace Go.Proofs.YtklnpooninbogaaGreat
open Go Go.Proofs Go.RowKit Go.Shelf
attribute [local go_sem] Oper.semAt_some
theorem all_in (F : Fence) (n : Nat) (hf : F.fn 124) (hro : F.round = none) (L : HL) (w : World) :
    CallsIn F n Tryz.prog 124 #[.pointer (some ⟨L.hb, 0, none⟩)] w fun e w' => e = .returned (.func (.func 156) #[] #[.pointer (some ⟨w.heap.size, 0, none⟩)]) ∧ w' = w.alloc (.cells #[.pointer (some ⟨L.hb, 0, none⟩)] 30) := by
  refine callsIn_of_wp Tryz.func124 rfl hf ?_ hro
  simp only [Tryz.ntmps124, List.size_toArray, List.length_cons, List.length_nil, Nat.reduceAdd, Nat.reduceSub, Array.replicate_succ, Array.replicate_zero, List.push_toArray, List.append_toArray, List.nil_append, List.cons_append]
  gi_wp2
  go_ret
  exact ⟨rfl, rfl⟩
theorem all_stops (F : Fence) (n : Nat) (hf : F.fn 156) (hro : F.round = none) (hn : 1 ≤ n) (pb m : Nat) (L : HL) (hm : m = L.rbs.length) (hm2 : m ≤ 100) (w : World) (hb : ∀ b ∈ [pb, L.hb, L.rsb], b < w.heap.size) (hR : RO L m pb w) :
    SeqStopsK F n Tryz.prog 156 #[.pointer (some ⟨pb, 0, none⟩)] (fun x : RB L => #[Value.pointer (some ⟨x.1, 0, none⟩)]) (KpA L pb) (fun ys => ys = att L) (fun pre => pre <+: att L) (m + 1) w := fun l J Jx W hW _ _ hY h0 =>
  all1_in F n hf hro hn l pb m L hm hm2 J Jx hY W (hR.kp (fun b hb' => hW.block b (hb b hb'))) h0
theorem Fr.others {S : List Nat} {W W' : World} (h : Fr S W W') (hS : ∀ b ∈ S, ∀ o, W.heap[b]? = some o → o.isCells = true) : KeepsOthers W W' :=
  ⟨h.size, fun k o hk ho => by
    refine (h.block k (Array.getElem?_eq_some_iff.1 hk).1 ?_).trans hk
    intro hc
    rw [hS k hc o hk] at ho; cases ho⟩
theorem Blk.cells {w : World} {b : Nat} {cs : List Value} {T : TypeId} (h : Blk w b cs T) : ∀ o, w.heap[b]? = some o → o.isCells = true := by
  intro o ho
  unfold Blk at h
  rw [h] at ho
  cases ho; rfl
theorem ownFrom_hrep {β : Type} (B : Nat) (L : HL) (s : β → HS) (hB : ∀ b ∈ L.all, b < B) : OwnFrom B (fun (x : β) W => HRep W L (s x)) := by
  intro x W W' row hs hg hr
  refine hs.fr (Fr.of_grownBy (S := row.toList) hg (fun k e => .inl (by simp [e]))) ?_
  intro b hb hc
  have := (hr b (by simpa using hb)).1
  have := hB b hc
  omega
theorem ownFrom_fr {β : Type} (B : Nat) (S : List Nat) (w : World) (hB : w.heap.size ≤ B) : OwnFrom B (fun (_ : β) W => Fr S w W) := by
  intro x W W' row hs hg hr
  refine hs.step (Fr.of_grownBy (S := row.toList) hg (fun k e => .inl (by simp [e]))) ?_
  intro b hb
  have := (hr b (by simpa using hb)).1
  exact .inr (by omega)
def RingAt (L : HL) (s : HS) (x : Nat) (r : RS) : Prop := (∃ k : Nat, L.rbs[k]? = some x ∧ s.rs[k]? = some r) ∨ (x = L.lb ∧ s.lg = r)
theorem ringAt_some {w : World} {L : HL} {s : HS} (h : HRep w L s) (x : RB L) : ∃ r, RingAt L s x.1 r ∧ RRep w x.1 L.ab r := by
  obtain ⟨x, hx⟩ := x
  show ∃ r, RingAt L s x r ∧ RRep w x L.ab r
  rcases List.mem_append.1 hx with hx | hx
  · obtain ⟨k, hk, e⟩ := List.getElem_of_mem hx
    have h1 : k < s.cls.length := by rw [← h.n1]; exact hk
    obtain ⟨rb, r, e1, e2, e3, e4⟩ := h.at h1
    have e5 : x = rb := e.symm.trans (List.getElem?_eq_some_iff.1 e1).2
    subst e5
    exact ⟨r, .inl ⟨k, e1, e2⟩, e4⟩
  · have e : x = L.lb := by simpa using hx
    subst e
    exact ⟨s.lg, .inr ⟨rfl, rfl⟩, h.lr⟩
end Go.Proofs.YtklnpooninbogaaGreat
