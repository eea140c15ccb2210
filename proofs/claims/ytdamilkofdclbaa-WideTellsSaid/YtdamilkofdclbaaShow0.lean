/- What shown calls, at its numbers. -/
import Derived.Test.YtdamilkofdclbaaBlk
namespace Go.Proofs.Ytdamilkofdclbaa
open Go.RowKit
set_option linter.unusedVariables false

theorem row_three (w : World) (a b c : Value) (e : TypeId) : Row (w.alloc (.cells #[a, b, c] e)) (some ⟨w.heap.size, 0, none⟩) 3 [a, b, c] := by
  refine ⟨rfl, fun i x hx => ⟨w.heap.size, 0, rfl, ?_, by simp⟩⟩
  rw [Nat.zero_add, cell_of_row _ _ _ _ _ _ (heap_alloc_new w _)]
  have : i = 0 ∨ i = 1 ∨ i = 2 ∨ 3 ≤ i := by omega
  rcases this with rfl | rfl | rfl | h
  · simpa using hx
  · simpa using hx
  · simpa using hx
  · rw [List.getElem?_eq_none (by simpa using h)] at hx; simp at hx
theorem digs120 : digs 120 = [48, 50, 49] := by
  rw [digs, if_neg (by omega), digs, if_neg (by omega), digs, if_pos (by omega)]; rfl
theorem text120 : textV (-120) = .string { data := #[45, 49, 50, 48] } := by
  unfold textV textRev
  rw [if_pos (by omega), show (-120 : Int).natAbs = 120 from rfl, digs120]
  rfl
theorem W_is {v h l : Int} (h1 : hiOf v = h) (h2 : loOf v = l) : W v = .agg #[.int .i64 h, .int .u64 l] := by unfold W; rw [h1, h2]
theorem fitW_is {v h l : Int} (hf : Fits v) (h1 : hiOf v = h) (h2 : loOf v = l) : fitW v = .tuple #[.agg #[.int .i64 h, .int .u64 l], .bool true] := by unfold fitW; rw [if_pos hf, decide_eq_true hf, W_is h1 h2]
theorem fitW_not {v : Int} (hf : ¬ Fits v) : fitW v = .tuple #[.agg #[.int .i64 0, .int .u64 0], .bool false] := by unfold fitW; rw [if_neg hf, decide_eq_false hf, W_is (h := 0) (l := 0) (by unfold hiOf; omega) (by unfold loOf; omega)]
theorem smallV_is {v : Int} (hf : Small v) : smallV v = .tuple #[.int .i64 v, .bool true] := by unfold smallV; rw [if_pos hf, decide_eq_true hf]
theorem smallV_not {v : Int} (hf : ¬ Small v) : smallV v = .tuple #[.int .i64 0, .bool false] := by unfold smallV; rw [if_neg hf, decide_eq_false hf]
theorem s1 (w : World) : Calls Try.prog 32 #[.int .i64 1] w fun e w' => e = .returned (.agg #[.int .i64 0, .int .u64 1]) ∧ Below w.heap.size w w' := by
  have := of_any 1 w (by omega) (by omega)
  rwa [W_is (h := 0) (l := 1) (by unfold hiOf; omega) (by unfold loOf; omega)] at this
theorem s2 (w : World) : Calls Try.prog 12 #[.agg #[.int .i64 1, .int .u64 18446744073709551615], .agg #[.int .i64 0, .int .u64 1]] w fun e w' => e = .returned (.tuple #[.agg #[.int .i64 2, .int .u64 0], .bool true]) ∧ Below w.heap.size w w' := by
  have := add_any 36893488147419103231 1 w (by unfold Fits; omega) (by unfold Fits; omega)
  rwa [W_is (v := 1) (h := 0) (l := 1) (by unfold hiOf; omega) (by unfold loOf; omega), W_is (v := 36893488147419103231) (h := 1) (l := 18446744073709551615) (by unfold hiOf; omega) (by unfold loOf; omega), fitW_is (h := 2) (l := 0) (by unfold Fits; omega) (by unfold hiOf; omega) (by unfold loOf; omega)] at this
theorem s3 (w : World) : Calls Try.prog 12 #[.agg #[.int .i64 9223372036854775807, .int .u64 0], .agg #[.int .i64 1, .int .u64 0]] w fun e w' => e = .returned (.tuple #[.agg #[.int .i64 0, .int .u64 0], .bool false]) ∧ Below w.heap.size w w' := by
  have := add_any 170141183460469231713240559642174554112 18446744073709551616 w (by unfold Fits; omega) (by unfold Fits; omega)
  rwa [W_is (v := 18446744073709551616) (h := 1) (l := 0) (by unfold hiOf; omega) (by unfold loOf; omega), W_is (v := 170141183460469231713240559642174554112) (h := 9223372036854775807) (l := 0) (by unfold hiOf; omega) (by unfold loOf; omega), fitW_not (by unfold Fits; omega)] at this
theorem s4 (w : World) (e0 : TypeId) : Calls Try.prog 27 #[.slice (some ⟨w.heap.size, 0, none⟩) 3 3] (w.alloc (.cells #[.int .i64 9223372036854775807, .int .i64 1, .int .i64 (-1)] e0)) fun e w' => e = .returned (.tuple #[.int .i64 9223372036854775807, .bool true]) ∧ Below (w.alloc (.cells #[.int .i64 9223372036854775807, .int .i64 1, .int .i64 (-1)] e0)).heap.size (w.alloc (.cells #[.int .i64 9223372036854775807, .int .i64 1, .int .i64 (-1)] e0)) w' := by
  have := sum_any [9223372036854775807, 1, -1] (some ⟨w.heap.size, 0, none⟩) 3 3 _ (row_three w (iv 9223372036854775807) (iv 1) (iv (-1)) e0) (by intro x hx; simp at hx; omega) (by omega)
  rwa [show sm [9223372036854775807, 1, -1] = 9223372036854775807 from by simp [sm], smallV_is (by unfold Small; omega)] at this
theorem s5 (w : World) : Calls Try.prog 29 #[.int .i64 9223372036854775807, .int .i64 1] w fun e w' => e = .returned (.tuple #[.int .i64 0, .bool false]) ∧ Below w.heap.size w w' := by
  have := plus_any 9223372036854775807 1 w (by omega) (by omega) (by omega) (by omega)
  rwa [smallV_not (by unfold Small; omega)] at this
theorem s6 (w : World) : Calls Try.prog 30 #[.int .i64 (-1), .int .i64 9223372036854775807] w fun e w' => e = .returned (.tuple #[.int .i64 (-9223372036854775808), .bool true]) ∧ Below w.heap.size w w' := by
  have := minus_any (-1) 9223372036854775807 w (by omega) (by omega) (by omega) (by omega)
  rwa [smallV_is (by unfold Small; omega), show (-1 : Int) - 9223372036854775807 = -9223372036854775808 by omega] at this
theorem s7 (w : World) : Calls Try.prog 18 #[.int .i64 (-9223372036854775808), .int .i64 (-9223372036854775808)] w fun e w' => e = .returned (.agg #[.int .i64 4611686018427387904, .int .u64 0]) ∧ Below w.heap.size w w' := by
  have := times_any (-9223372036854775808) (-9223372036854775808) w (by omega) (by omega) (by omega) (by omega)
  rwa [W_is (h := 4611686018427387904) (l := 0) (by unfold hiOf; omega) (by unfold loOf; omega)] at this
theorem s8 (w : World) : Calls Try.prog 32 #[.int .i64 (-120)] w fun e w' => e = .returned (.agg #[.int .i64 (-1), .int .u64 18446744073709551496]) ∧ Below w.heap.size w w' := by
  have := of_any (-120) w (by omega) (by omega)
  rwa [W_is (h := -1) (l := 18446744073709551496) (by unfold hiOf; omega) (by unfold loOf; omega)] at this
theorem s9 (w : World) : Calls Try.prog 24 #[.agg #[.int .i64 (-1), .int .u64 18446744073709551496]] w fun e w' => e = .returned (.string { data := #[45, 49, 50, 48] }) ∧ Below w.heap.size w w' := by
  have := text_any (-120) w (by unfold Fits; omega)
  rwa [text120, W_is (h := -1) (l := 18446744073709551496) (by unfold hiOf; omega) (by unfold loOf; omega)] at this
theorem s10 (w : World) : Calls Try.prog 32 #[.int .i64 (-1)] w fun e w' => e = .returned (.agg #[.int .i64 (-1), .int .u64 18446744073709551615]) ∧ Below w.heap.size w w' := by
  have := of_any (-1) w (by omega) (by omega)
  rwa [W_is (h := -1) (l := 18446744073709551615) (by unfold hiOf; omega) (by unfold loOf; omega)] at this
theorem s11 (w : World) : Calls Try.prog 32 #[.int .i64 0] w fun e w' => e = .returned (.agg #[.int .i64 0, .int .u64 0]) ∧ Below w.heap.size w w' := by
  have := of_any 0 w (by omega) (by omega)
  rwa [W_is (h := 0) (l := 0) (by unfold hiOf; omega) (by unfold loOf; omega)] at this
theorem s12 (w : World) : Calls Try.prog 26 #[.agg #[.int .i64 (-1), .int .u64 18446744073709551615], .agg #[.int .i64 0, .int .u64 0]] w fun e w' => e = .returned (.bool true) ∧ Below w.heap.size w w' := by
  have := less_any (-1) 0 w
  rwa [W_is (v := -1) (h := -1) (l := 18446744073709551615) (by unfold hiOf; omega) (by unfold loOf; omega), W_is (h := 0) (l := 0) (by unfold hiOf; omega) (by unfold loOf; omega), show decide ((-1 : Int) < 0) = true from rfl] at this
end Go.Proofs.Ytdamilkofdclbaa
