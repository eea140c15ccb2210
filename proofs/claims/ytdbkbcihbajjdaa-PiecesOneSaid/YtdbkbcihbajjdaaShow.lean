/- shown walked. -/
import Derived.Test.YtdbkbcihbajjdaaRefc
namespace Go.Proofs.Ytdbkbcihbajjdaa
open Go.RowKit
set_option linter.unusedVariables false

theorem cover_any (n : Int) (lo hi : Nat) (w : World) (hlo : lo < 18446744073709551616) (hhi : hi < 18446744073709551616) :
    Calls Try.prog 10 #[.int .i64 n, .int .u64 lo, .int .u64 hi] w (Cov n lo hi w) := by
  cases h : okC n lo hi with
  | false => exact cover_bad n lo hi w hlo hhi h
  | true => exact cover_good n lo hi w hlo hhi h
theorem rcover_any (n : Int) (lo hi : Nat) (w : World) (hlo : lo < 18446744073709551616) (hhi : hi < 18446744073709551616) :
    Calls Try.prog 11 #[.int .i64 n, .int .u64 lo, .int .u64 hi] w (Cov n lo hi w) := by
  cases h : okC n lo hi with
  | false => exact rcover_bad n lo hi w hlo hhi h
  | true => exact rcover_good n lo hi w h
/-- What a call that answers with a row of pieces and a bool leaves. -/
def RowB (l : List (Nat × Nat)) (m : Nat) (b : Bool) (w : World) (e : Ending) (w' : World) : Prop :=
  ∃ a c, e = .returned (.tuple #[.slice a m c, .bool b]) ∧ PRow w' a m l ∧ Below w.heap.size w w'
theorem cover_s (w : World) : Calls Try.prog 10 #[.int .i64 3, .int .u64 1, .int .u64 6] w (RowB [(0, 1), (1, 1), (1, 2), (0, 6)] 4 true w) := by
  have e1 : okC 3 1 6 = true := by decide
  have e2 : covL 3 1 6 = [(0, 1), (1, 1), (1, 2), (0, 6)] := by unfold covL; rw [e1]; simp [cv]
  have := cover_any 3 1 6 w (by omega) (by omega)
  unfold Cov at this
  rw [e1, e2] at this
  exact this
theorem cover_t (w : World) : Calls Try.prog 10 #[.int .i64 3, .int .u64 1, .int .u64 8] w (RowB [] 0 false w) := by
  have e1 : okC 3 1 8 = false := by decide
  have e2 : covL 3 1 8 = [] := by unfold covL; rw [e1]; rfl
  have := cover_any 3 1 8 w (by omega) (by omega)
  unfold Cov at this
  rw [e1, e2] at this
  exact this
theorem span_s (w : World) : Calls Try.prog 13 #[.int .i64 3, .agg #[.int .i64 1, .int .u64 2]] w fun e w' => e = .returned (.tuple #[.int .u64 4, .int .u64 5, .bool true]) ∧ Below w.heap.size w w' := by
  have e1 : spanV 3 1 2 = .tuple #[.int .u64 4, .int .u64 5, .bool true] := by
    have : isP 3 1 2 = true := by decide
    unfold spanV; rw [this]; rfl
  rw [← e1]
  exact span_any 3 1 2 w (by omega)
theorem halves_s (w : World) : Calls Try.prog 15 #[.int .i64 3, .agg #[.int .i64 1, .int .u64 2]] w fun e w' => e = .returned (.tuple #[.agg #[.int .i64 0, .int .u64 4], .agg #[.int .i64 0, .int .u64 5], .bool true]) ∧ Below w.heap.size w w' := by
  have e1 : halfV 3 1 2 = .tuple #[.agg #[.int .i64 0, .int .u64 4], .agg #[.int .i64 0, .int .u64 5], .bool true] := by
    have : isP 3 1 2 = true := by decide
    unfold halfV; rw [this]; rfl
  rw [← e1]
  exact halves_any 3 1 2 w (by omega)
set_option maxRecDepth 100000 in
set_option maxHeartbeats 1000000 in
theorem shown_any (w : World) : Calls Try.prog 9 #[] w fun e w' => e = .returned (.bool true) ∧ Below w.heap.size w w' := by
  have hq1 := pair_eq 0 4
  have hq2 := pair_eq 0 5
  go_enter Try.func9, Try.ntmps9
  go_wp2_with fail
  refine (cover_s _).mono ?_
  rintro e w1 ⟨a1, c1, rfl, hr1, hb1⟩
  have R1 := Lib.hid hr1; have B1 := Lib.hid hb1; clear hr1 hb1
  go_wp2_with fail
  refine (span_s _).mono ?_
  rintro e w2 ⟨rfl, hb2⟩
  have R2 := Lib.hid (R1.out.below hb2); have B2 := Lib.hid (B1.out.then hb2); clear hb2 R1 B1
  go_wp2_with fail
  refine (halves_s _).mono ?_
  rintro e w3 ⟨rfl, hb3⟩
  have R3 := Lib.hid (R2.out.below hb3); have B3 := Lib.hid (B2.out.then hb3); clear hb3 R2 B2
  go_wp2_with fail
  have hba : Below w3.heap.size w3 ((w3.alloc (.cells #[.int .i64 0, .int .u64 4] 30)).alloc (.cells #[.int .i64 0, .int .u64 5] 30)) := ((Below.refl _ _).alloc (Nat.le_refl _) _).alloc (by simp) _
  have RA := Lib.hid (R3.out.below hba)
  have BA := Lib.hid (B3.out.then hba)
  have PX := Lib.hid ((PAt.new w3 0 4 rfl).alloc (.cells #[.int .i64 0, .int .u64 5] 30))
  have PY := Lib.hid (PAt.new (w3.alloc (.cells #[.int .i64 0, .int .u64 4] 30)) 0 5 (b := w3.heap.size + 1) (by simp))
  clear hba R3 B3
  generalize (w3.alloc (.cells #[.int .i64 0, .int .u64 4] 30)).alloc (.cells #[.int .i64 0, .int .u64 5] 30) = wa at *
  generalize w3.heap.size + 1 = gy at *
  generalize w3.heap.size = gx at *
  refine (cover_t _).mono ?_
  rintro e w4 ⟨a4, c4, rfl, _, hb4⟩
  have R4 := Lib.hid (RA.out.below hb4); have B4 := Lib.hid (BA.out.then hb4)
  have PX4 := Lib.hid (PX.out.below hb4); have PY4 := Lib.hid (PY.out.below hb4)
  clear hb4 RA BA PX PY
  go_wp2_with fail
  have hnew : PRow (w4.alloc (.cells #[.int .i64 0, .int .u64 1, .int .i64 1, .int .u64 1, .int .i64 1, .int .u64 2, .int .i64 0, .int .u64 6] 30)) (some ⟨w4.heap.size, 0, none⟩) 4 [(0, 1), (1, 1), (1, 2), (0, 6)] := ⟨rfl, .inr ⟨w4.heap.size, [], rfl, heap_alloc_new w4 _⟩⟩
  have hbb : Below w4.heap.size w4 (w4.alloc (.cells #[.int .i64 0, .int .u64 1, .int .i64 1, .int .u64 1, .int .i64 1, .int .u64 2, .int .i64 0, .int .u64 6] 30)) := (Below.refl _ _).alloc (Nat.le_refl _) _
  have PX5 := PX4.out.below hbb
  have PY5 := PY4.out.below hbb
  refine (same_any [(0, 1), (1, 1), (1, 2), (0, 6)] [(0, 1), (1, 1), (1, 2), (0, 6)] a1 _ 4 c1 4 4 _ (R4.out.below hbb) hnew (by omega) (by omega)).mono ?_
  rintro e w5 ⟨rfl, hb5⟩
  have PX6 := PX5.below hb5
  have PY6 := PY5.below hb5
  have x0 := PX6.c0
  have x1 := PX6.c1
  have y0 := PY6.c0
  have y1 := PY6.c1
  have B5 := Lib.hid ((B4.out.then hbb).then hb5)
  clear hnew hbb PX5 PY5 hb5 PX6 PY6 B4 R4 PX4 PY4
  rw [decide_eq_true rfl]
  go_wp2
  go_ret
  exact ⟨rfl, B5.out⟩
end Go.Proofs.Ytdbkbcihbajjdaa
