/- The contracts of Kth, Min, Median; the small case. -/
import Derived.Test.YtlmmmfkhmlafgaaKth
namespace Go.Proofs.Ytlmmmfkhmlafgaa
open Go.RowKit
set_option linter.unusedVariables false

set_option maxRecDepth 100000 in
set_option maxHeartbeats 1000000 in
theorem kth_neg (a : Option Addr) (n c : Nat) (k : Int) (w : World) (hk : k < 0) :
    Calls Try.prog 10 #[.slice a n c, .int .i64 k] w fun e w' => e = .returned (.tuple #[.int .i64 0, .bool false]) ∧ w = w' := by
  go_enter Try.func10, Try.ntmps10
  go_wp2
  go_step3
  go_wp2
  rw [Exit.noGoto_ret]
  go_ret2
  exact ⟨rfl, rfl⟩
set_option maxRecDepth 100000 in
set_option maxHeartbeats 1000000 in
theorem kth_far (a : Option Addr) (n c : Nat) (k : Int) (w : World) (hk0 : 0 ≤ k) (hk : (n : Int) ≤ k) :
    Calls Try.prog 10 #[.slice a n c, .int .i64 k] w fun e w' => e = .returned (.tuple #[.int .i64 0, .bool false]) ∧ w = w' := by
  have hb1 : decide (k < 0) = false := by simp; omega
  go_enter Try.func10, Try.ntmps10
  go_wp2
  go_step3
  go_wp2
  rw [Exit.noGoto_ret]
  go_ret2
  exact ⟨rfl, rfl⟩
/-- What 'Kth' answers. -/
noncomputable def kthOf (l : List Int) (k : Int) : Int := if 0 ≤ k ∧ k < l.length then Ord.kth l k.toNat else 0
def kthOk (l : List Int) (k : Int) : Bool := decide (0 ≤ k ∧ k < (l.length : Int))
theorem kth_any (a : Option Addr) (n c : Nat) (k : Int) (l : List Int) (w : World) (hl : Row w a n (l.map i64v)) (hn : n ≤ 1000) :
    Calls Try.prog 10 #[.slice a n c, .int .i64 k] w fun e w' => e = .returned (.tuple #[.int .i64 (kthOf l k), .bool (kthOk l k)]) ∧ Below w.heap.size w w' := by
  have hlen : l.length = n := by have := hl.1; simpa using this
  unfold kthOf kthOk
  by_cases h0 : k < 0
  · have e : ¬ (0 ≤ k ∧ k < (l.length : Int)) := by omega
    rw [if_neg e, decide_eq_false e]
    exact (kth_neg a n c k w h0).mono fun e w' ⟨h1, h2⟩ => ⟨h1, by rw [← h2]; exact Below.refl _ _⟩
  · by_cases h1 : (n : Int) ≤ k
    · have e : ¬ (0 ≤ k ∧ k < (l.length : Int)) := by omega
      rw [if_neg e, decide_eq_false e]
      exact (kth_far a n c k w (by omega) h1).mono fun e w' ⟨h1, h2⟩ => ⟨h1, by rw [← h2]; exact Below.refl _ _⟩
    · have e : (0 ≤ k ∧ k < (l.length : Int)) := by omega
      rw [if_pos e, decide_eq_true e]
      obtain ⟨j, rfl⟩ := Int.eq_ofNat_of_zero_le (show 0 ≤ k by omega)
      rw [Int.toNat_natCast]
      exact kth_in a n c j l w hl hn (by omega)
theorem min_any (a : Option Addr) (n c : Nat) (l : List Int) (w : World) (hl : Row w a n (l.map i64v)) (hn : n ≤ 1000) :
    Calls Try.prog 11 #[.slice a n c] w fun e w' => e = .returned (.tuple #[.int .i64 (kthOf l 0), .bool (kthOk l 0)]) ∧ Below w.heap.size w w' := by
  go_enter Try.func11, Try.ntmps11
  go_wp2_with (go_at_call 10; refine (kth_any a n c 0 l _ hl hn).mono ?_; rintro e w1 ⟨rfl, hb1⟩)
  go_ret2
  exact ⟨rfl, hb1⟩
/-- The place of the middle one. -/
def mid (n : Nat) : Int := ((n : Int) - 1).tdiv 2
theorem mid_eq (n : Nat) : mid n = (((n - 1) / 2 : Nat) : Int) := by
  unfold mid
  rcases Nat.eq_zero_or_pos n with h | h
  · subst h; rfl
  · rw [Int.tdiv_eq_ediv_of_nonneg (by omega)]; omega
theorem median_any (a : Option Addr) (n c : Nat) (l : List Int) (w : World) (hl : Row w a n (l.map i64v)) (hn : n ≤ 1000) :
    Calls Try.prog 12 #[.slice a n c] w fun e w' => e = .returned (.tuple #[.int .i64 (kthOf l (mid n)), .bool (kthOk l (mid n))]) ∧ Below w.heap.size w w' := by
  go_enter Try.func12, Try.ntmps12
  go_wp2_with (go_at_call 10; refine (kth_any a n c (((n : Int) - 1).tdiv 2) l _ hl hn).mono ?_; rintro e w1 ⟨rfl, hb1⟩)
  go_ret2
  exact ⟨rfl, hb1⟩
theorem kthOf_eq {l : List Int} {k : Nat} {x : Int} (h : Ord.Is l k x) : kthOf l (k : Int) = x ∧ kthOk l (k : Int) = true := by
  have hlt := h.lt
  unfold kthOf kthOk
  have e : (0 ≤ (k : Int) ∧ (k : Int) < (l.length : Int)) := by omega
  rw [if_pos e, decide_eq_true e, Int.toNat_natCast]
  exact ⟨Ord.kth_eq h, rfl⟩
theorem kthOf_out {l : List Int} {k : Int} (h : k < 0 ∨ (l.length : Int) ≤ k) : kthOf l k = 0 ∧ kthOk l k = false := by
  unfold kthOf kthOk
  have e : ¬ (0 ≤ k ∧ k < (l.length : Int)) := by omega
  rw [if_neg e, decide_eq_false e]
  exact ⟨rfl, rfl⟩
theorem kthOf_is {l : List Int} {k : Nat} (h : k < l.length) : Ord.Is l k (kthOf l (k : Int)) := by
  have := Ord.kth_is h
  rw [(kthOf_eq this).1]; exact this

/-! the small case -/
theorem Row.lit {w : World} {g : Nat} (l : List Int) {fr : Nat × Nat} (h : w.heap[g]? = some (.cells (l.map i64v).toArray 2 fr)) : Row w (some ⟨g, 0, none⟩) l.length (l.map i64v) :=
  ⟨by simp, fun i x hx => ⟨g, 0, rfl, by rw [Nat.zero_add, cell_of_row _ _ _ _ _ _ h]; simpa using hx, lt_of_block h⟩⟩
theorem sMin (c : Nat) (w : World) (g : Nat) {fr : Nat × Nat} (h : w.heap[g]? = some (.cells (([5, 1, 3] : List Int).map i64v).toArray 2 fr)) :
    Calls Try.prog 11 #[.slice (some ⟨g, 0, none⟩) 3 c] w fun e w' => e = .returned (.tuple #[.int .i64 1, .bool true]) ∧ Below w.heap.size w w' := by
  have hk := kthOf_eq (l := [5, 1, 3]) (k := 0) (x := 1) ⟨by decide, by decide⟩
  have := min_any (some ⟨g, 0, none⟩) 3 c [5, 1, 3] w (Row.lit [5, 1, 3] h) (by omega)
  rw [show ((0 : Nat) : Int) = 0 from rfl] at hk
  rw [hk.1, hk.2] at this
  exact this
theorem sMed (c : Nat) (w : World) (g : Nat) {fr : Nat × Nat} (h : w.heap[g]? = some (.cells (([5, 1, 3, 9] : List Int).map i64v).toArray 2 fr)) :
    Calls Try.prog 12 #[.slice (some ⟨g, 0, none⟩) 4 c] w fun e w' => e = .returned (.tuple #[.int .i64 3, .bool true]) ∧ Below w.heap.size w w' := by
  have hk := kthOf_eq (l := [5, 1, 3, 9]) (k := 1) (x := 3) ⟨by decide, by decide⟩
  have := median_any (some ⟨g, 0, none⟩) 4 c [5, 1, 3, 9] w (Row.lit [5, 1, 3, 9] h) (by omega)
  rw [show mid 4 = ((1 : Nat) : Int) from rfl, hk.1, hk.2] at this
  exact this
theorem sKth (c : Nat) (w : World) (g : Nat) {fr : Nat × Nat} (h : w.heap[g]? = some (.cells (([5, 1, 3, 9] : List Int).map i64v).toArray 2 fr)) :
    Calls Try.prog 10 #[.slice (some ⟨g, 0, none⟩) 4 c, .int .i64 2] w fun e w' => e = .returned (.tuple #[.int .i64 5, .bool true]) ∧ Below w.heap.size w w' := by
  have hk := kthOf_eq (l := [5, 1, 3, 9]) (k := 2) (x := 5) ⟨by decide, by decide⟩
  have := kth_any (some ⟨g, 0, none⟩) 4 c 2 [5, 1, 3, 9] w (Row.lit [5, 1, 3, 9] h) (by omega)
  rw [show (2 : Int) = ((2 : Nat) : Int) from rfl, hk.1, hk.2] at this
  exact this
theorem sNil (a : Option Addr) (c : Nat) (w : World) : Calls Try.prog 12 #[.slice a 0 c] w fun e w' => e = .returned (.tuple #[.int .i64 0, .bool false]) ∧ Below w.heap.size w w' := by
  have hk := kthOf_out (l := []) (k := 0) (by simp)
  have := median_any a 0 c [] w (Row.nil _ _) (by omega)
  rw [show mid 0 = 0 from rfl, hk.1, hk.2] at this
  exact this

set_option maxRecDepth 100000 in
set_option maxHeartbeats 1000000 in
theorem shown_any (w : World) : Calls Try.prog 9 #[] w fun e w' => e = .returned (.bool true) ∧ Below w.heap.size w w' := by
  go_enter Try.func9, Try.ntmps9
  go_wp2_with fail
  refine (sMin _ _ _ (by exact heap_alloc_new _ _)).mono ?_
  rintro e w1 ⟨rfl, hb1⟩
  have hb1 := ((Below.refl w.heap.size w).alloc (Nat.le_refl _) _).trans (hb1.mono (by simp))
  go_wp2_with fail
  refine (sMed _ _ _ (by exact heap_alloc_new _ _)).mono ?_
  rintro e w2 ⟨rfl, hb2⟩
  have hb2 := (hb1.alloc hb1.size _).trans (hb2.mono (by have := hb1.size; simp; omega))
  go_wp2_with fail
  refine (sKth _ _ _ (by exact heap_alloc_new _ _)).mono ?_
  rintro e w3 ⟨rfl, hb3⟩
  have hb3 := (hb2.alloc hb2.size _).trans (hb3.mono (by have := hb2.size; simp; omega))
  go_wp2_with fail
  refine (sNil _ _ _).mono ?_
  rintro e w4 ⟨rfl, hb4⟩
  have hb4 := hb3.trans (hb4.mono hb3.size)
  go_wp2
  go_ret
  exact ⟨rfl, hb4⟩
end Go.Proofs.Ytlmmmfkhmlafgaa
