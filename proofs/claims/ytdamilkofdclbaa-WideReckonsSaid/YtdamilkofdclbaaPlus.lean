/- Plus, Minus as whole numbers. -/
import Derived.Test.YtdamilkofdclbaaSum
namespace Go.Proofs.Ytdamilkofdclbaa
open Go.RowKit
set_option linter.unusedVariables false

theorem row_two (w : World) (a b : Value) (e : TypeId) : Row (w.alloc (.cells #[a, b] e)) (some ⟨w.heap.size, 0, none⟩) 2 [a, b] := by
  refine ⟨rfl, fun i x hx => ⟨w.heap.size, 0, rfl, ?_, by simp⟩⟩
  rw [Nat.zero_add, cell_of_row _ _ _ _ _ _ (heap_alloc_new w _)]
  have : i = 0 ∨ i = 1 ∨ 2 ≤ i := by omega
  rcases this with rfl | rfl | h
  · simpa using hx
  · simpa using hx
  · rw [List.getElem?_eq_none (by simpa using h)] at hx; simp at hx
set_option maxRecDepth 100000 in
set_option maxHeartbeats 1000000 in
theorem plus_any (a b : Int) (w : World) (h1 : -9223372036854775808 ≤ a) (h2 : a ≤ 9223372036854775807) (h3 : -9223372036854775808 ≤ b) (h4 : b ≤ 9223372036854775807) :
    Calls Try.prog 29 #[.int .i64 a, .int .i64 b] w fun e w' => e = .returned (smallV (a + b)) ∧ Below w.heap.size w w' := by
  have k := fun (e : TypeId) => sum_any [a, b] (some ⟨w.heap.size, 0, none⟩) 2 2 (w.alloc (.cells #[.int .i64 a, .int .i64 b] e)) (row_two w (iv a) (iv b) e) (by intro x hx; simp at hx; omega) (by omega)
  rw [show sm [a, b] = a + b from by simp [sm]] at k
  obtain ⟨r, d, hsv⟩ : ∃ r d, smallV (a + b) = .tuple #[.int .i64 r, .bool d] := ⟨_, _, rfl⟩
  rw [hsv] at k ⊢
  clear hsv
  have K := Lib.hid k; clear k
  go_enter Try.func29, Try.ntmps29
  go_wp2_with (go_at_call 27; refine (K.out _).mono ?_; rintro e w1 ⟨rfl, hb1⟩; have HW1 := Lib.hid (((Below.refl w.heap.size w).alloc (Nat.le_refl _) _).trans (hb1.mono (by simp))); clear hb1)
  go_ret2
  exact ⟨rfl, HW1.out⟩
theorem sub_fits (a b : Int) (w : World) (ha : Fits a) (hb : Fits b) (hab : Fits (a - b)) :
    Calls Try.prog 13 #[W a, W b] w fun e w' => e = .returned (.tuple #[.agg #[.int .i64 (hiOf (a - b)), .int .u64 (loOf (a - b))], .bool true]) ∧ Below w.heap.size w w' := by
  have := sub_any a b w ha hb
  unfold fitW at this
  rw [if_pos hab, decide_eq_true hab] at this
  exact this
set_option maxRecDepth 100000 in
set_option maxHeartbeats 1000000 in
theorem minus_any (a b : Int) (w : World) (h1 : -9223372036854775808 ≤ a) (h2 : a ≤ 9223372036854775807) (h3 : -9223372036854775808 ≤ b) (h4 : b ≤ 9223372036854775807) :
    Calls Try.prog 30 #[.int .i64 a, .int .i64 b] w fun e w' => e = .returned (smallV (a - b)) ∧ Below w.heap.size w w' := by
  have ka := fun w => of_any a w h1 h2
  have kb := fun w => of_any b w h3 h4
  have ks := fun w => sub_fits a b w (fits_small h1 h2) (fits_small h3 h4) (by unfold Fits; omega)
  have ki := fun w => int_any (a - b) w
  obtain ⟨r, d, hsv⟩ : ∃ r d, smallV (a - b) = .tuple #[.int .i64 r, .bool d] := ⟨_, _, rfl⟩
  rw [hsv] at ki ⊢
  clear hsv
  obtain ⟨n, hn⟩ : ∃ n, n = a - b := ⟨_, rfl⟩
  rw [← hn] at ks ki
  unfold W at ki
  clear hn
  have KA := Lib.hid ka; have KB := Lib.hid kb; have KS := Lib.hid ks; have KI := Lib.hid ki
  clear ka kb ks ki h1 h2 h3 h4
  go_enter Try.func30, Try.ntmps30
  go_wp2_with fail
  refine (KA.out _).mono ?_
  rintro e w1 ⟨rfl, hb1⟩
  have B1 := Lib.hid hb1; clear hb1
  go_wp2_with fail
  refine (KB.out _).mono ?_
  rintro e w2 ⟨rfl, hb2⟩
  have B2 := Lib.hid (B1.out.trans (hb2.mono B1.out.size)); clear hb2
  go_wp2_with fail
  refine (KS.out _).mono ?_
  rintro e w3 ⟨rfl, hb3⟩
  have B3 := Lib.hid (B2.out.trans (hb3.mono B2.out.size)); clear hb3
  go_wp2_with fail
  refine (KI.out _).mono ?_
  rintro e w4 ⟨rfl, hb4⟩
  have B4 := Lib.hid ((B3.out.alloc B3.out.size _).trans (hb4.mono (B3.out.alloc B3.out.size _).size)); clear hb4
  go_wp2
  go_ret2
  exact ⟨rfl, B4.out⟩
end Go.Proofs.Ytdamilkofdclbaa
