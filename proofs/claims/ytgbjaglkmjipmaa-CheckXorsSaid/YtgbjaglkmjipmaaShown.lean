import Derived.Test.YtgbjaglkmjipmaaRefs
import Derived.Lib.SlBytesConst
namespace Go.Proofs.Ytgbjaglkmjipmaa
open Go.RowKit
set_option linter.unusedVariables false

theorem sum_any (a : Option Addr) (len cap : Nat) (l : List (BitVec 8)) (w : World) (hl : Bytes w a len l) :
    Calls Try.prog 9 #[.slice a len cap] w fun e w' => e = .returned (.int .u32 ((Crc.extend 0#32 l).toNat : Int)) ∧ Below w.heap.size w w' := by
  go_enter Try.func9, Try.ntmps9
  go_wp2_with (go_at_call 11; refine (extend_any 0#32 a len cap l _ hl).mono ?_; rintro e w1 ⟨rfl, hb1⟩)
  go_ret
  exact ⟨rfl, hb1⟩

theorem Bytes.lit {w : World} {g : Nat} (l : List (BitVec 8)) {fr : Nat × Nat} (h : w.heap[g]? = some (.cells (l.map u8v).toArray 5 fr)) (hm : l.length ≤ 140737488351232) : Bytes w (some ⟨g, 0, none⟩) l.length l :=
  ⟨rfl, hm, fun i x hx => ⟨g, 0, rfl, by rw [Nat.zero_add, cell_of_row _ _ _ _ _ _ h]; simp [hx, u8v], lt_of_block h⟩⟩
theorem Bytes.none (w : World) (a : Option Addr) : Bytes w a 0 [] := ⟨rfl, by omega, by simp⟩
def L9 : List (BitVec 8) := [49, 50, 51, 52, 53, 54, 55, 56, 57]
def L4 : List (BitVec 8) := [49, 50, 51, 52]
def L5 : List (BitVec 8) := [53, 54, 55, 56, 57]
theorem sum9 : ((Crc.extend 0#32 L9).toNat : Int) = 3421780262 := by decide +kernel
theorem sum9' : Crc.extend 0#32 L9 = 3421780262#32 := by decide +kernel
theorem sum45 : Crc.extend (Crc.extend 0#32 L4) L5 = 3421780262#32 := by decide +kernel
theorem und9 : Crc.undo 3421780262#32 L9 = 0#32 := by decide +kernel

theorem sumL9 (cap : Nat) (w : World) (g : Nat) {fr : Nat × Nat} (h : w.heap[g]? = some (.cells (L9.map u8v).toArray 5 fr)) :
    Calls Try.prog 9 #[.slice (some ⟨g, 0, none⟩) 9 cap] w fun e w' => e = .returned (.int .u32 3421780262) ∧ Below w.heap.size w w' := by
  refine (sum_any _ 9 cap L9 w (Bytes.lit L9 h (by decide))).mono fun e w' => ?_
  rw [sum9]; exact id
theorem sumNil (a : Option Addr) (cap : Nat) (w : World) : Calls Try.prog 9 #[.slice a 0 cap] w fun e w' => e = .returned (.int .u32 0) ∧ Below w.heap.size w w' :=
  sum_any a 0 cap [] w (Bytes.none _ _)
def s4 : BitVec 32 := Crc.extend 0#32 L4
theorem sumL4 (cap : Nat) (w : World) (g : Nat) {fr : Nat × Nat} (h : w.heap[g]? = some (.cells (L4.map u8v).toArray 5 fr)) :
    Calls Try.prog 9 #[.slice (some ⟨g, 0, none⟩) 4 cap] w fun e w' => e = .returned (.int .u32 (s4.toNat : Int)) ∧ Below w.heap.size w w' :=
  sum_any _ 4 cap L4 w (Bytes.lit L4 h (by decide))
theorem extL5 (cap : Nat) (w : World) (g : Nat) {fr : Nat × Nat} (h : w.heap[g]? = some (.cells (L5.map u8v).toArray 5 fr)) :
    Calls Try.prog 11 #[.int .u32 (s4.toNat : Int), .slice (some ⟨g, 0, none⟩) 5 cap] w fun e w' => e = .returned (.int .u32 3421780262) ∧ Below w.heap.size w w' := by
  refine (extend_any s4 _ 5 cap L5 w (Bytes.lit L5 h (by decide))).mono fun e w' => ?_
  unfold s4; rw [sum45]; exact id
theorem undL9 (cap : Nat) (w : World) (g : Nat) {fr : Nat × Nat} (h : w.heap[g]? = some (.cells (L9.map u8v).toArray 5 fr)) :
    Calls Try.prog 12 #[.int .u32 3421780262, .slice (some ⟨g, 0, none⟩) 9 cap] w fun e w' => e = .returned (.int .u32 0) ∧ Below w.heap.size w w' := by
  have := undo_any 3421780262#32 (some ⟨g, 0, none⟩) 9 cap L9 w (Bytes.lit L9 h (by decide))
  rw [und9] at this
  exact this
attribute [irreducible] s4

set_option maxRecDepth 100000 in
set_option maxHeartbeats 1000000 in
theorem shown_any (w : World) : Calls Try.prog 8 #[] w fun e w' => e = .returned (.bool true) ∧ Below w.heap.size w w' := by
  have kc := fun (w : World) (C : Array Value) (n c : Nat) => Lib.run_convert_bytes_const (P := Try.prog) w 23 5 C n c Try.underlying23 Try.underlying5
  go_enter Try.func8, Try.ntmps8
  go_wp2_with fail
  refine (sumL9 _ _ _ (by exact heap_alloc_new _ _)).mono ?_
  rintro e w1 ⟨rfl, hb1⟩
  have hb1 := ((Below.refl w.heap.size w).alloc (Nat.le_refl _) _).trans (hb1.mono (by simp))
  go_wp2_with fail
  refine (sumNil _ _ _).mono ?_
  rintro e w2 ⟨rfl, hb2⟩
  have hb2 := hb1.trans (hb2.mono hb1.size)
  go_wp2_with fail
  refine (sumL4 _ _ _ (by exact heap_alloc_new _ _)).mono ?_
  rintro e w3 ⟨rfl, hb3⟩
  have hb3 := (hb2.alloc hb2.size _).trans (hb3.mono (by have := hb2.size; simp; omega))
  go_wp2_with fail
  refine (extL5 _ _ _ (by exact heap_alloc_new _ _)).mono ?_
  rintro e w4 ⟨rfl, hb4⟩
  have hb4 := (hb3.alloc hb3.size _).trans (hb4.mono (by have := hb3.size; simp; omega))
  go_wp2_with fail
  refine (undL9 _ _ _ (by exact heap_alloc_new _ _)).mono ?_
  rintro e w5 ⟨rfl, hb5⟩
  have hb5 := (hb4.alloc hb4.size _).trans (hb5.mono (by have := hb4.size; simp; omega))
  go_wp2
  go_ret
  exact ⟨rfl, hb5⟩
end Go.Proofs.Ytgbjaglkmjipmaa
