/- PiecesSpan walked. -/
import Derived.Test.YtdbkbcihbajjdaaLaws1
namespace Go.Proofs.Ytdbkbcihbajjdaa
open Go.RowKit
set_option linter.unusedVariables false

/-- A piece with halves, and their keys. -/
theorem span_halves {n L I : Int} (h0 : 0 ≤ I) (h : isP n L I = true) (hL : 0 < L) : ∃ A D F G : Nat,
    spanV n L I = .tuple #[.int .u64 A, .int .u64 G, .bool true] ∧ spanV n (L - 1) (2 * I) = .tuple #[.int .u64 A, .int .u64 D, .bool true] ∧
    spanV n (L - 1) (2 * I + 1) = .tuple #[.int .u64 F, .int .u64 G, .bool true] ∧ D + 1 = F ∧ D < 9223372036854775807 := by
  obtain ⟨N, l, i, rfl, rfl, rfl, h1, h2, h3, h4, h5⟩ := isP_nat h0 h
  obtain ⟨m, rfl⟩ : ∃ m, l = m + 1 := ⟨l - 1, by omega⟩
  have hm : ((m + 1 : Nat) : Int) - 1 = (m : Int) := by omega
  have hpow : 2 ^ (N - m) = 2 * 2 ^ (N - (m + 1)) := by rw [show N - m = N - (m + 1) + 1 by omega, Nat.pow_succ, Nat.mul_comm]
  have e1 : isP N (m : Int) (2 * (i : Int)) = true := by
    unfold isP
    have : ((N : Int) - (m : Int)).toNat = N - m := by omega
    rw [this]
    simp only [Bool.and_eq_true, decide_eq_true_eq]
    refine ⟨⟨⟨⟨by omega, by omega⟩, by omega⟩, by omega⟩, ?_⟩
    rw [hpow]; omega
  have e2 : isP N (m : Int) (2 * (i : Int) + 1) = true := by
    unfold isP
    have : ((N : Int) - (m : Int)).toNat = N - m := by omega
    rw [this]
    simp only [Bool.and_eq_true, decide_eq_true_eq]
    refine ⟨⟨⟨⟨by omega, by omega⟩, by omega⟩, by omega⟩, ?_⟩
    rw [hpow]; omega
  have hH := pow_pos2 m
  have hQ : 2 ^ (m + 1) = 2 * 2 ^ m := by rw [Nat.pow_succ, Nat.mul_comm]
  rw [hQ] at h5
  have hQi : (2 : Int) ^ (m + 1) = 2 * ((2 ^ m : Nat) : Int) := by rw [Int.pow_succ]; push_cast; omega
  have hHi : (2 : Int) ^ m = ((2 ^ m : Nat) : Int) := by push_cast; rfl
  have hA : i * (2 * 2 ^ m) = 2 * (i * 2 ^ m) := by rw [Nat.mul_left_comm]
  have hAi : (i : Int) * (2 * ((2 ^ m : Nat) : Int)) = ((2 * (i * 2 ^ m) : Nat) : Int) := by push_cast; rw [Int.mul_left_comm]
  have hBi : (2 * (i : Int)) * ((2 ^ m : Nat) : Int) = ((2 * (i * 2 ^ m) : Nat) : Int) := by push_cast; rw [Int.mul_assoc]
  have hCi : (2 * (i : Int) + 1) * ((2 ^ m : Nat) : Int) = ((2 * (i * 2 ^ m) : Nat) : Int) + ((2 ^ m : Nat) : Int) := by rw [Int.add_mul, hBi]; omega
  have t1 : ((m + 1 : Nat) : Int).toNat = m + 1 := by omega
  refine ⟨2 * (i * 2 ^ m), 2 * (i * 2 ^ m) + 2 ^ m - 1, 2 * (i * 2 ^ m) + 2 ^ m, 2 * (i * 2 ^ m) + 2 * 2 ^ m - 1, ?_, ?_, ?_, ?_, ?_⟩
  · unfold spanV
    rw [if_pos h, t1, hQi, hAi]
    generalize i * 2 ^ m = X at *
    generalize 2 ^ m = H at *
    congr 6
    omega
  · unfold spanV
    rw [hm, if_pos e1, show (m : Int).toNat = m by omega, hHi, hBi]
    generalize i * 2 ^ m = X at *
    generalize 2 ^ m = H at *
    congr 6
    omega
  · unfold spanV
    rw [hm, if_pos e2, show (m : Int).toNat = m by omega, hHi, hCi]
    generalize i * 2 ^ m = X at *
    generalize 2 ^ m = H at *
    congr 6
    omega
  · generalize i * 2 ^ m = X at *
    generalize 2 ^ m = H at *
    omega
  · rw [hA] at h5
    generalize i * 2 ^ m = X at *
    generalize 2 ^ m = H at *
    omega
/-- The first part of PiecesSpan, and the rest. -/
theorem spanMark : True := trivial
set_option maxRecDepth 100000 in
set_option maxHeartbeats 1000000 in
theorem lawSpan_no (n L I : Int) (w : World) (h0 : 0 ≤ I) (hp : isP n L I = false) :
    Calls Try.prog 4 #[.int .i64 n, .agg #[.int .i64 L, .int .u64 I]] w fun e w' => e = .returned (.bool true) ∧ Below w.heap.size w w' := by
  have e1 : spanV n L I = .tuple #[.int .u64 0, .int .u64 0, .bool false] := by unfold spanV; rw [hp]; rfl
  have e3 : halfV n L I = .tuple #[.agg #[.int .i64 0, .int .u64 0], .agg #[.int .i64 0, .int .u64 0], .bool false] := by unfold halfV; rw [hp]; rfl
  have K1 := Lib.hid (fun w => span_any n L I w h0)
  have K2 := Lib.hid (fun w => rspan_any n L I w h0)
  have K3 := Lib.hid (fun w => halves_any n L I w h0)
  rw [e1] at K1 K2
  rw [e3] at K3
  clear e1 e3 hp
  have P0 := Lib.hid (PAt.new w L I rfl)
  have B0 := Lib.hid ((Below.refl w.heap.size w).alloc (Nat.le_refl _) (.cells #[.int .i64 L, .int .u64 I] 30))
  go_enter Try.func4, Try.ntmps4
  go_wp2_with fail
  generalize w.alloc (.cells #[.int .i64 L, .int .u64 I] 30) = wa at *
  refine (shown_any _).mono ?_
  rintro e w1 ⟨rfl, hb1⟩
  have P1 := P0.out.below hb1
  have B1 := Lib.hid (B0.out.then hb1)
  have c0 := P1.c0
  have c1 := P1.c1
  have P1 := Lib.hid P1
  clear hb1 P0 B0
  go_wp2_with fail
  refine (K1.out _).mono ?_
  rintro e w2 ⟨rfl, hb2⟩
  have P2 := P1.out.below hb2
  have B2 := Lib.hid (B1.out.then hb2)
  clear c0 c1
  have c0 := P2.c0
  have c1 := P2.c1
  have P2 := Lib.hid P2
  clear hb2 P1 B1 K1
  go_wp2_with fail
  refine (K2.out _).mono ?_
  rintro e w3 ⟨rfl, hb3⟩
  have P3 := P2.out.below hb3
  have B3 := Lib.hid (B2.out.then hb3)
  clear c0 c1
  have c0 := P3.c0
  have c1 := P3.c1
  have P3 := Lib.hid P3
  clear hb3 P2 B2 K2
  go_wp2_with fail
  refine (K3.out _).mono ?_
  rintro e w4 ⟨rfl, hb4⟩
  have hba : Below w4.heap.size w4 ((w4.alloc (.cells #[.int .i64 0, .int .u64 0] 30)).alloc (.cells #[.int .i64 0, .int .u64 0] 30)) := ((Below.refl _ _).alloc (Nat.le_refl _) _).alloc (by simp) _
  have P4 := (P3.out.below hb4).below hba
  have B4 := Lib.hid ((B3.out.then hb4).then hba)
  have X4 := (PAt.new w4 _ _ rfl : PAt (w4.alloc (.cells #[.int .i64 0, .int .u64 0] 30)) w4.heap.size _ _).alloc (.cells #[.int .i64 0, .int .u64 0] 30)
  have Y4 := (PAt.new (w4.alloc (.cells #[.int .i64 0, .int .u64 0] 30)) _ _ (by simp) : PAt ((w4.alloc (.cells #[.int .i64 0, .int .u64 0] 30)).alloc (.cells #[.int .i64 0, .int .u64 0] 30)) (w4.heap.size + 1) _ _)
  clear c0 c1
  have c0 := P4.c0
  have c1 := P4.c1
  have x0 := X4.c0
  have x1 := X4.c1
  have y0 := Y4.c0
  have y1 := Y4.c1
  have P4 := Lib.hid P4
  have X4 := Lib.hid X4
  have Y4 := Lib.hid Y4
  clear hb4 hba P3 B3 K3
  have hq := pair_eq 0 0
  go_wp2
  go_ret
  exact ⟨rfl, B4.out⟩
set_option maxRecDepth 100000 in
set_option maxHeartbeats 1000000 in
theorem lawSpan_zero (n I : Int) (w : World) (h0 : 0 ≤ I) (hp : isP n 0 I = true) :
    Calls Try.prog 4 #[.int .i64 n, .agg #[.int .i64 0, .int .u64 I]] w fun e w' => e = .returned (.bool true) ∧ Below w.heap.size w w' := by
  have e3 : halfV n 0 I = .tuple #[.agg #[.int .i64 0, .int .u64 0], .agg #[.int .i64 0, .int .u64 0], .bool false] := by unfold halfV; rw [hp]; rfl
  have K1 := Lib.hid (fun w => span_any n 0 I w h0)
  have K2 := Lib.hid (fun w => rspan_any n 0 I w h0)
  have K3 := Lib.hid (fun w => halves_any n 0 I w h0)
  have e1 : spanV n 0 I = .tuple #[.int .u64 I, .int .u64 I, .bool true] := by
    unfold spanV; rw [hp]; simp
  rw [e1] at K1 K2
  rw [e3] at K3
  clear e1 e3 hp
  have P0 := Lib.hid (PAt.new w 0 I rfl)
  have B0 := Lib.hid ((Below.refl w.heap.size w).alloc (Nat.le_refl _) (.cells #[.int .i64 0, .int .u64 I] 30))
  go_enter Try.func4, Try.ntmps4
  go_wp2_with fail
  generalize w.alloc (.cells #[.int .i64 0, .int .u64 I] 30) = wa at *
  refine (shown_any _).mono ?_
  rintro e w1 ⟨rfl, hb1⟩
  have P1 := P0.out.below hb1
  have B1 := Lib.hid (B0.out.then hb1)
  have c0 := P1.c0
  have c1 := P1.c1
  have P1 := Lib.hid P1
  clear hb1 P0 B0
  go_wp2_with fail
  refine (K1.out _).mono ?_
  rintro e w2 ⟨rfl, hb2⟩
  have P2 := P1.out.below hb2
  have B2 := Lib.hid (B1.out.then hb2)
  clear c0 c1
  have c0 := P2.c0
  have c1 := P2.c1
  have P2 := Lib.hid P2
  clear hb2 P1 B1 K1
  go_wp2_with fail
  refine (K2.out _).mono ?_
  rintro e w3 ⟨rfl, hb3⟩
  have P3 := P2.out.below hb3
  have B3 := Lib.hid (B2.out.then hb3)
  clear c0 c1
  have c0 := P3.c0
  have c1 := P3.c1
  have P3 := Lib.hid P3
  clear hb3 P2 B2 K2
  go_wp2_with fail
  refine (K3.out _).mono ?_
  rintro e w4 ⟨rfl, hb4⟩
  have hba : Below w4.heap.size w4 ((w4.alloc (.cells #[.int .i64 0, .int .u64 0] 30)).alloc (.cells #[.int .i64 0, .int .u64 0] 30)) := ((Below.refl _ _).alloc (Nat.le_refl _) _).alloc (by simp) _
  have P4 := (P3.out.below hb4).below hba
  have B4 := Lib.hid ((B3.out.then hb4).then hba)
  have X4 := (PAt.new w4 _ _ rfl : PAt (w4.alloc (.cells #[.int .i64 0, .int .u64 0] 30)) w4.heap.size _ _).alloc (.cells #[.int .i64 0, .int .u64 0] 30)
  have Y4 := (PAt.new (w4.alloc (.cells #[.int .i64 0, .int .u64 0] 30)) _ _ (by simp) : PAt ((w4.alloc (.cells #[.int .i64 0, .int .u64 0] 30)).alloc (.cells #[.int .i64 0, .int .u64 0] 30)) (w4.heap.size + 1) _ _)
  clear c0 c1
  have c0 := P4.c0
  have c1 := P4.c1
  have x0 := X4.c0
  have x1 := X4.c1
  have y0 := Y4.c0
  have y1 := Y4.c1
  have P4 := Lib.hid P4
  have X4 := Lib.hid X4
  have Y4 := Lib.hid Y4
  clear hb4 hba P3 B3 K3
  have hq := pair_eq 0 0
  go_wp2
  go_ret
  exact ⟨rfl, B4.out⟩
set_option maxRecDepth 100000 in
set_option maxHeartbeats 1000000 in
theorem lawSpan_yes (n L I : Int) (w : World) (h0 : 0 ≤ I) (hp : isP n L I = true) (hL : 0 < L) :
    Calls Try.prog 4 #[.int .i64 n, .agg #[.int .i64 L, .int .u64 I]] w fun e w' => e = .returned (.bool true) ∧ Below w.heap.size w w' := by
  have e3 : halfV n L I = .tuple #[.agg #[.int .i64 (L - 1), .int .u64 (2 * I)], .agg #[.int .i64 (L - 1), .int .u64 (2 * I + 1)], .bool true] := by unfold halfV; rw [hp, decide_eq_true hL]; rfl
  obtain ⟨A, D, F, G, e1, e4, e5, hDF, hD⟩ := span_halves h0 hp hL
  obtain ⟨N, l, i, rfl, rfl, rfl, h1, h2, h3, _, _⟩ := isP_nat h0 hp
  have K1 := Lib.hid (fun w => span_any N l i w h0)
  have K2 := Lib.hid (fun w => rspan_any N l i w h0)
  have K3 := Lib.hid (fun w => halves_any N l i w h0)
  have K4 := Lib.hid (fun w => rspan_any N ((l : Int) - 1) (2 * (i : Int)) w (by omega))
  have K5 := Lib.hid (fun w => rspan_any N ((l : Int) - 1) (2 * (i : Int) + 1) w (by omega))
  rw [e1] at K1 K2
  rw [e3] at K3
  rw [e4] at K4
  rw [e5] at K5
  have hq1 : ((D : Int) + 1 == (F : Int)) = true := by simp; omega
  have hg1 : decide (0 < (l : Int)) = true := by simpa using hL
  have hg2 : decide (0 < l) = true := by simp; omega
  clear e1 e3 e4 e5 hp
  have P0 := Lib.hid (PAt.new w l i rfl)
  have B0 := Lib.hid ((Below.refl w.heap.size w).alloc (Nat.le_refl _) (.cells #[.int .i64 l, .int .u64 i] 30))
  go_enter Try.func4, Try.ntmps4
  go_wp2_with fail
  generalize w.alloc (.cells #[.int .i64 l, .int .u64 i] 30) = wa at *
  refine (shown_any _).mono ?_
  rintro e w1 ⟨rfl, hb1⟩
  have P1 := P0.out.below hb1
  have B1 := Lib.hid (B0.out.then hb1)
  have c0 := P1.c0
  have c1 := P1.c1
  have P1 := Lib.hid P1
  clear hb1 P0 B0
  go_wp2_with fail
  refine (K1.out _).mono ?_
  rintro e w2 ⟨rfl, hb2⟩
  have P2 := P1.out.below hb2
  have B2 := Lib.hid (B1.out.then hb2)
  clear c0 c1
  have c0 := P2.c0
  have c1 := P2.c1
  have P2 := Lib.hid P2
  clear hb2 P1 B1 K1
  go_wp2_with fail
  refine (K2.out _).mono ?_
  rintro e w3 ⟨rfl, hb3⟩
  have P3 := P2.out.below hb3
  have B3 := Lib.hid (B2.out.then hb3)
  clear c0 c1
  have c0 := P3.c0
  have c1 := P3.c1
  have P3 := Lib.hid P3
  clear hb3 P2 B2 K2
  go_wp2_with fail
  refine (K3.out _).mono ?_
  rintro e w4 ⟨rfl, hb4⟩
  have hba : Below w4.heap.size w4 ((w4.alloc (.cells #[.int .i64 ((l : Int) - 1), .int .u64 (2 * (i : Int))] 30)).alloc (.cells #[.int .i64 ((l : Int) - 1), .int .u64 (2 * (i : Int) + 1)] 30)) := ((Below.refl _ _).alloc (Nat.le_refl _) _).alloc (by simp) _
  have P4 := (P3.out.below hb4).below hba
  have B4 := Lib.hid ((B3.out.then hb4).then hba)
  have X4 := (PAt.new w4 _ _ rfl : PAt (w4.alloc (.cells #[.int .i64 ((l : Int) - 1), .int .u64 (2 * (i : Int))] 30)) w4.heap.size _ _).alloc (.cells #[.int .i64 ((l : Int) - 1), .int .u64 (2 * (i : Int) + 1)] 30)
  have Y4 := (PAt.new (w4.alloc (.cells #[.int .i64 ((l : Int) - 1), .int .u64 (2 * (i : Int))] 30)) _ _ (by simp) : PAt ((w4.alloc (.cells #[.int .i64 ((l : Int) - 1), .int .u64 (2 * (i : Int))] 30)).alloc (.cells #[.int .i64 ((l : Int) - 1), .int .u64 (2 * (i : Int) + 1)] 30)) (w4.heap.size + 1) _ _)
  clear c0 c1
  have c0 := P4.c0
  have c1 := P4.c1
  have x0 := X4.c0
  have x1 := X4.c1
  have y0 := Y4.c0
  have y1 := Y4.c1
  have P4 := Lib.hid P4
  have X4 := Lib.hid X4
  have Y4 := Lib.hid Y4
  clear hb4 hba P3 B3 K3
  go_wp2_with fail
  refine (K4.out _).mono ?_
  rintro e w5 ⟨rfl, hb5⟩
  have P5 := P4.out.below hb5
  have X5 := X4.out.below hb5
  have Y5 := Y4.out.below hb5
  have B5 := Lib.hid (B4.out.then hb5)
  clear c0 c1 x0 x1 y0 y1
  have c0 := P5.c0
  have c1 := P5.c1
  have x0 := X5.c0
  have x1 := X5.c1
  have y0 := Y5.c0
  have y1 := Y5.c1
  have P5 := Lib.hid P5
  have X5 := Lib.hid X5
  have Y5 := Lib.hid Y5
  clear hb5 P4 X4 Y4 B4 K4
  go_wp2_with fail
  refine (K5.out _).mono ?_
  rintro e w6 ⟨rfl, hb6⟩
  have P6 := P5.out.below hb6
  have X6 := X5.out.below hb6
  have Y6 := Y5.out.below hb6
  have B6 := Lib.hid (B5.out.then hb6)
  clear c0 c1 x0 x1 y0 y1
  have c0 := P6.c0
  have x0 := X6.c0
  have y0 := Y6.c0
  clear hb6 P5 X5 Y5 B5 K5 P6 X6 Y6
  go_wp2
  go_ret
  exact ⟨rfl, B6.out⟩
theorem lawSpan (n L I : Int) (w : World) (h0 : 0 ≤ I) :
    Calls Try.prog 4 #[.int .i64 n, .agg #[.int .i64 L, .int .u64 I]] w fun e w' => e = .returned (.bool true) ∧ Below w.heap.size w w' := by
  cases hp : isP n L I with
  | false => exact lawSpan_no n L I w h0 hp
  | true =>
    by_cases hL : 0 < L
    · exact lawSpan_yes n L I w h0 hp hL
    · obtain ⟨N, l, i, rfl, rfl, rfl, _⟩ := isP_nat h0 hp
      have : (l : Int) = 0 := by omega
      rw [this] at hp ⊢
      exact lawSpan_zero N i w h0 hp
end Go.Proofs.Ytdbkbcihbajjdaa
