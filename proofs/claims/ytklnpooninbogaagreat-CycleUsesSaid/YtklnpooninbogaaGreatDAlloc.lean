
import Derived.Test.YtklnpooninbogaaGreatMDHeap
import Derived.Test.YtklnpooninbogaaGreatMHRows
import Derived.Laws.MakeOwn
import Derived.Deep.QuietTactic
import Derived.BigQuiet
namespace Go.Proofs.YtklnpooninbogaaGreat
open Go Go.Proofs Go.RowKit
theorem infoI64 : (Tryz.prog.info? 2).map (fun i => (i.zero, i.size, i.bytes)) = some (some (.int .i64 0), 1, 8) := by kernel_rfl
theorem run_mk64 (n : Nat) (hn : n ≤ 100000) (w : World) : (Instr.makeSlice 67 (.int .i64 n) (.int .i64 n)).run Tryz.prog w = .ok (.slice (some ⟨w.heap.size, 0, none⟩) n n) (w.alloc (.cells (List.replicate n (.int .i64 0)).toArray 2)) := by
  obtain ⟨i, hi, hz0, hz1, hz2⟩ := info_parts infoI64
  have := run_make (P := Tryz.prog) w 67 2 i (.int .i64 0) Tryz.underlying67 hi hz0 .i64 .i64 n n (by omega) (Int.le_refl _) (by rw [hz2]; omega) (by omega)
  rw [hz1] at this
  simp only [Int.toNat_natCast, Nat.mul_one] at this
  have e : madeCells (Value.int IntKind.i64 0).cells n = (List.replicate n (Value.int IntKind.i64 0)).toArray := by
    apply Array.ext
    · simp [madeCells]
    · intro j h1 h2
      simp [madeCells, Value.cells]
      have : j % 1 = 0 := by omega
      simp [this]
  rw [e] at this
  exact this
def obV (k n a m : Int) (g : Nat) (l : Nat) : Value := .agg #[.int .i64 k, .int .i64 n, .int .i64 a, .int .i64 m, .slice (some ⟨g, 0, none⟩) l l]
theorem nomap {w : World} {mp b : Nat} {m : List (Int × Value)} {cs : List Value} {T : TypeId} (h : IM w mp m) (hb : Blk w b cs T) : b ≠ mp := by
  rintro rfl
  obtain ⟨es, ck, h3, _⟩ := h
  unfold Blk at hb
  rw [hb] at h3
  cases h3
end Go.Proofs.YtklnpooninbogaaGreat
