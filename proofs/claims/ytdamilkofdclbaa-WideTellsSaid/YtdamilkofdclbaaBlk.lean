/- A wide number in a block of its own. -/
import Derived.Test.YtdamilkofdclbaaText3
import Derived.Test.YtdamilkofdclbaaPlus
import Derived.Test.YtdamilkofdclbaaTimes
namespace Go.Proofs.Ytdamilkofdclbaa
open Go.RowKit
set_option linter.unusedVariables false

/-- Block b holds the wide number v. -/
def WAt (w : World) (b : Nat) (v : Int) : Prop := w.heap[b]? = some (.cells #[.int .i64 (hiOf v), .int .u64 (loOf v)] 24 (0, 0))
theorem WAt.c0 {w b v} (h : WAt w b v) : w.cell? ⟨b, 0, none⟩ = some (.int .i64 (hiOf v)) := (cell_of_row _ _ _ _ _ _ h).trans rfl
theorem WAt.c1 {w b v} (h : WAt w b v) : w.cell? ⟨b, 1, none⟩ = some (.int .u64 (loOf v)) := (cell_of_row _ _ _ _ _ _ h).trans rfl
theorem WAt.lt {w b v} (h : WAt w b v) : b < w.heap.size := lt_of_block h
theorem WAt.new (w : World) (v : Int) {b : Nat} (hb : b = w.heap.size) : WAt (w.alloc (.cells #[.int .i64 (hiOf v), .int .u64 (loOf v)] 24)) b v := by subst hb; exact heap_alloc_new w _
theorem WAt.alloc {w b v} (h : WAt w b v) (o : Obj) : WAt (w.alloc o) b v := by
  unfold WAt at *
  rw [← h]
  exact heap_alloc_old w o (lt_of_block h)
theorem WAt.below {w w' b v} (h : WAt w b v) (hb : Below w.heap.size w w') : WAt w' b v := (hb.block b h.lt).trans h
/-- A call has ended: what lies below B is as it was. -/
theorem _root_.Go.RowKit.Below.then {w w1 w2 : World} (h : Below w.heap.size w w1) (hb : Below w1.heap.size w1 w2) : Below w.heap.size w w2 := h.trans (hb.mono h.size)
/-! What a block holds behind a call, whatever was drawn or made just ahead of it. -/
theorem held_plain {w0 w' : World} {g : Nat} {o : Obj} (h : w0.heap[g]? = some o) (hb : Below w0.heap.size w0 w') : w'.heap[g]? = some o := (hb.block g (lt_of_block h)).trans h
theorem held_draw {w0 w' : World} {g : Nat} {o : Obj} (h : w0.heap[g]? = some o) (hb : Below w0.drew.heap.size w0.drew w') : w'.heap[g]? = some o := held_plain (w0 := w0.drew) h hb
theorem held_make {w0 w' : World} {g : Nat} {o p : Obj} (h : w0.heap[g]? = some o) (hb : Below (w0.alloc p).heap.size (w0.alloc p) w') : w'.heap[g]? = some o := held_plain ((heap_alloc_old w0 p (lt_of_block h)).trans h) hb
theorem held_draw_make {w0 w' : World} {g : Nat} {o p : Obj} (h : w0.heap[g]? = some o) (hb : Below (w0.drew.alloc p).heap.size (w0.drew.alloc p) w') : w'.heap[g]? = some o := held_make (w0 := w0.drew) h hb
theorem held_make_draw {w0 w' : World} {g : Nat} {o p : Obj} (h : w0.heap[g]? = some o) (hb : Below (w0.alloc p).drew.heap.size (w0.alloc p).drew w') : w'.heap[g]? = some o := held_draw (w0 := w0.alloc p) ((heap_alloc_old w0 p (lt_of_block h)).trans h) hb
theorem then_draw {w w0 w' : World} (h : Below w.heap.size w w0) (hb : Below w0.drew.heap.size w0.drew w') : Below w.heap.size w w' := h.drew.then hb
theorem then_make {w w0 w' : World} {p : Obj} (h : Below w.heap.size w w0) (hb : Below (w0.alloc p).heap.size (w0.alloc p) w') : Below w.heap.size w w' := (h.alloc h.size p).then hb
theorem then_draw_make {w w0 w' : World} {p : Obj} (h : Below w.heap.size w w0) (hb : Below (w0.drew.alloc p).heap.size (w0.drew.alloc p) w') : Below w.heap.size w w' := then_make h.drew hb
theorem new_make {w0 w' : World} {p : Obj} (hb : Below (w0.alloc p).heap.size (w0.alloc p) w') : w'.heap[w0.heap.size]? = some p := held_plain (heap_alloc_new w0 p) hb
theorem new_draw_make {w0 w' : World} {p : Obj} (hb : Below (w0.drew.alloc p).heap.size (w0.drew.alloc p) w') : w'.heap[w0.heap.size]? = some p := held_plain (heap_alloc_new w0.drew p) hb
theorem then_make_draw {w w0 w' : World} {p : Obj} (h : Below w.heap.size w w0) (hb : Below (w0.alloc p).drew.heap.size (w0.alloc p).drew w') : Below w.heap.size w w' := (h.alloc h.size p).drew.then hb
theorem new_make_draw {w0 w' : World} {p : Obj} (hb : Below (w0.alloc p).drew.heap.size (w0.alloc p).drew w') : w'.heap[w0.heap.size]? = some p := held_plain (w0 := (w0.alloc p).drew) (heap_alloc_new w0 p) hb
/-- Both cells of a block stored. -/
theorem two_set {w : World} {g : Nat} {x y p q : Value} {t : TypeId} (h : w.heap[g]? = some (.cells #[p, q] t (0, 0))) : ((w.setCell ⟨g, 0, none⟩ x).setCell ⟨g, 1, none⟩ y).heap[g]? = some (.cells #[x, y] t (0, 0)) := by
  rw [heap_setCell_same _ _ _ _ _ _ (heap_setCell_same _ _ _ _ _ _ h)]; rfl
theorem two_other {w : World} {g b : Nat} {x y : Value} {o : Obj} (h : w.heap[b]? = some o) (hn : b ≠ g) : ((w.setCell ⟨g, 0, none⟩ x).setCell ⟨g, 1, none⟩ y).heap[b]? = some o := by
  rw [heap_setCell_other _ _ _ _ hn, heap_setCell_other _ _ _ _ hn]; exact h
end Go.Proofs.Ytdamilkofdclbaa
