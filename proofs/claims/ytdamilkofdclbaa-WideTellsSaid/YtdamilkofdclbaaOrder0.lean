/- WideOrder walked. -/
import Derived.Test.YtdamilkofdclbaaBack
import Derived.Laws.StructEq
namespace Go.Proofs.Ytdamilkofdclbaa
open Go.RowKit
set_option linter.unusedVariables false

/-- A pair of numbers as the program lays a wide number. -/
abbrev P2 (h l : Int) : Value := .agg #[.int .i64 h, .int .u64 l]
/-- Block b holds the pair. -/
def PAt (w : World) (b : Nat) (h l : Int) : Prop := w.heap[b]? = some (.cells #[.int .i64 h, .int .u64 l] 24 (0, 0))
theorem PAt.c0 {w b h l} (k : PAt w b h l) : w.cell? ⟨b, 0, none⟩ = some (.int .i64 h) := (cell_of_row _ _ _ _ _ _ k).trans rfl
theorem PAt.c1 {w b h l} (k : PAt w b h l) : w.cell? ⟨b, 1, none⟩ = some (.int .u64 l) := (cell_of_row _ _ _ _ _ _ k).trans rfl
theorem PAt.below {w w' b h l} (k : PAt w b h l) (hb : Below w.heap.size w w') : PAt w' b h l := held_plain k hb
theorem PAt.alloc {w b h l} (k : PAt w b h l) (o : Obj) : PAt (w.alloc o) b h l := by
  unfold PAt at *
  rw [← k]
  exact heap_alloc_old w o (lt_of_block k)
theorem PAt.new (w : World) (h l : Int) {b : Nat} (hb : b = w.heap.size) : PAt (w.alloc (.cells #[.int .i64 h, .int .u64 l] 24)) b h l := by subst hb; exact heap_alloc_new w _
theorem pair_ne {ah al bh bl : Int} (h : ¬ (ah = bh ∧ al = bl)) (w : World) : (Op.equalIn 10000 24 (P2 ah al) (P2 bh bl)).run Try.prog w = .ok false w := by
  by_cases h1 : ah = bh
  · have e1 : (ah == bh) = true := by simpa using h1
    have e2 : (al == bl) = false := by rw [beq_eq_false_iff_ne]; exact fun h2 => h ⟨h1, h2⟩
    simp [go_sem, e1, e2]
  · have e1 : (ah == bh) = false := by rw [beq_eq_false_iff_ne]; exact h1
    simp [go_sem, e1]
theorem pair_eq (ah al : Int) (w : World) : (Op.equalIn 10000 24 (P2 ah al) (P2 ah al)).run Try.prog w = .ok true w := by
  simp [go_sem]
end Go.Proofs.Ytdamilkofdclbaa
