/- VarintZigs, VarintBack, VarintTakes walked. -/
import Derived.Test.YtnkndpgaoplamaaShow
namespace Go.Proofs.Ytnkndpgaoplamaa
open Go.RowKit
set_option linter.unusedVariables false

/-- Contracts with the post that keeps what was there. -/
theorem zig_b (n : Int) (w : World) (h1 : -9223372036854775808 ≤ n) (h2 : n ≤ 9223372036854775807) : Calls Try.prog 10 #[.int .i64 n] w fun e w' => e = .returned (.int .u64 (zg n)) ∧ Below w.heap.size w w' :=
  (zig_any n w h1 h2).mono fun e w' h => ⟨h.1, by rw [← h.2]; exact Below.refl _ _⟩
theorem zag_b (n : Int) (w : World) (h1 : 0 ≤ n) (h2 : n ≤ 18446744073709551615) : Calls Try.prog 12 #[.int .u64 n] w fun e w' => e = .returned (.int .i64 (zu n)) ∧ Below w.heap.size w w' :=
  (zag_any n w h1 h2).mono fun e w' h => ⟨h.1, by rw [← h.2]; exact Below.refl _ _⟩
theorem rzig_b (n : Int) (w : World) (h1 : -9223372036854775808 ≤ n) (h2 : n ≤ 9223372036854775807) : Calls Try.prog 11 #[.int .i64 n] w fun e w' => e = .returned (.int .u64 (zg n)) ∧ Below w.heap.size w w' :=
  (rzig_any n w h1 h2).mono fun e w' h => ⟨h.1, by rw [← h.2]; exact Below.refl _ _⟩
theorem rzag_b (n : Int) (w : World) (h1 : 0 ≤ n) (h2 : n ≤ 18446744073709551615) : Calls Try.prog 13 #[.int .u64 n] w fun e w' => e = .returned (.int .i64 (zu n)) ∧ Below w.heap.size w w' :=
  (rzag_any n w h1 h2).mono fun e w' h => ⟨h.1, by rw [← h.2]; exact Below.refl _ _⟩
theorem take_b (xs : List Int) (a : Option Addr) (n c : Nat) (w : World) (hr : Row w a n (xs.map bv)) (hb : Bytes xs) (hn : n ≤ 1048576) :
    Calls Try.prog 18 #[.slice a n c] w fun e w' => e = .returned (takeV (dec xs)) ∧ Below w.heap.size w w' :=
  (take_any xs a n c w hr hb hn).mono fun e w' h => ⟨h.1, by rw [← h.2]; exact Below.refl _ _⟩
set_option maxRecDepth 100000 in
set_option maxHeartbeats 1000000 in
theorem zigs_walk (n u : Int) (w : World) (h1 : -9223372036854775808 ≤ n) (h2 : n ≤ 9223372036854775807) (h3 : 0 ≤ u) (h4 : u ≤ 18446744073709551615) :
    Calls Try.prog 3 #[.int .i64 n, .int .u64 u] w fun e w' => e = .returned (.bool true) ∧ Below w.heap.size w w' := by
  have K1 := Lib.hid (fun w => zig_b n w h1 h2)
  have K2 := Lib.hid (fun w => rzig_b n w h1 h2)
  have K3 := Lib.hid (fun w => zag_b u w h3 h4)
  have K4 := Lib.hid (fun w => rzag_b u w h3 h4)
  generalize zg n = z at *
  generalize zu u = y at *
  clear h1 h2 h3 h4
  go_enter Try.func3, Try.ntmps3
  go_wp2_with fail
  refine (shown_any _).mono ?_
  rintro e w1 ⟨rfl, hb1⟩
  go_wp2_with fail
  refine (K1.out _).mono ?_
  rintro e w2 ⟨rfl, hb2⟩
  have H2 := Lib.hid (hb1.then hb2); clear hb1 hb2
  go_wp2_with fail
  refine (K2.out _).mono ?_
  rintro e w3 ⟨rfl, hb3⟩
  have H3 := Lib.hid (H2.out.then hb3); clear H2 hb3
  go_wp2_with fail
  refine (K3.out _).mono ?_
  rintro e w4 ⟨rfl, hb4⟩
  have H4 := Lib.hid (H3.out.then hb4); clear H3 hb4
  go_wp2_with fail
  refine (K4.out _).mono ?_
  rintro e w5 ⟨rfl, hb5⟩
  have H5 := Lib.hid (H4.out.then hb5); clear H4 hb5
  go_wp2
  go_ret
  exact ⟨by simp, H5.out⟩
set_option maxRecDepth 100000 in
set_option maxHeartbeats 2000000 in
theorem back_walk (n u : Int) (w : World) (h1 : -9223372036854775808 ≤ n) (h2 : n ≤ 9223372036854775807) (h3 : 0 ≤ u) (h4 : u ≤ 18446744073709551615) :
    Calls Try.prog 6 #[.int .i64 n, .int .u64 u] w fun e w' => e = .returned (.bool true) ∧ Below w.heap.size w w' := by
  obtain ⟨r1, r2⟩ := zg_range h1 h2
  obtain ⟨r3, r4⟩ := zu_range h3 h4
  have k1 := fun w => zig_b n w h1 h2
  have k2 := fun w => zag_b (zg n) w r1 r2
  have k3 := fun w => zag_b u w h3 h4
  have k4 := fun w => zig_b (zu u) w r3 r4
  rw [zu_zg] at k2
  rw [zg_zu h3] at k4
  have hcs : (n < -64 ∧ zg n = -2 * n - 1) ∨ (-64 ≤ n ∧ n < 0 ∧ zg n = -2 * n - 1) ∨ (0 ≤ n ∧ n < 64 ∧ zg n = 2 * n) ∨ (64 ≤ n ∧ zg n = 2 * n) := by unfold zg; split <;> omega
  have K1 := Lib.hid k1; have K2 := Lib.hid k2; have K3 := Lib.hid k3; have K4 := Lib.hid k4
  clear k1 k2 k3 k4 r3 r4 h3 h4 h1 h2
  generalize zg n = z at *
  generalize zu u = y at *
  have hcs2 : (n < -64 ∧ 128 ≤ z ∧ z.tmod 2 = 1) ∨ (-64 ≤ n ∧ n < 0 ∧ z < 128 ∧ z.tmod 2 = 1) ∨ (0 ≤ n ∧ n < 64 ∧ z < 128 ∧ z.tmod 2 = 0) ∨ (64 ≤ n ∧ 128 ≤ z ∧ z.tmod 2 = 0) := by rw [Int.tmod_eq_emod_of_nonneg r1]; omega
  clear hcs r1 r2
  rcases hcs2 with ⟨p1, p3, p4⟩ | ⟨p1, p2, p3, p4⟩ | ⟨p1, p2, p3, p4⟩ | ⟨p1, p3, p4⟩
  all_goals
    go_enter Try.func6, Try.ntmps6
    go_wp2_with fail
    refine (shown_any _).mono ?_
    rintro e w1 ⟨rfl, hb1⟩
    go_wp2_with fail
    refine (K1.out _).mono ?_
    rintro e w2 ⟨rfl, hb2⟩
    have H2 := Lib.hid (hb1.then hb2); clear hb1 hb2
    go_wp2_with fail
    refine (K2.out _).mono ?_
    rintro e w3 ⟨rfl, hb3⟩
    have H3 := Lib.hid (H2.out.then hb3); clear H2 hb3
    go_wp2_with fail
    refine (K3.out _).mono ?_
    rintro e w4 ⟨rfl, hb4⟩
    have H4 := Lib.hid (H3.out.then hb4); clear H3 hb4
    go_wp2_with fail
    refine (K4.out _).mono ?_
    rintro e w5 ⟨rfl, hb5⟩
    have H5 := Lib.hid (H4.out.then hb5); clear H4 hb5
    go_wp2
    go_ret
    exact ⟨by simp [*]; try omega, H5.out⟩
/-- The first K of a row. -/
theorem cut_row {w : World} {a : Option Addr} {len : Nat} {l : List Int} {f : Int → Value} (hl : Row w a len (l.map f)) (K : Nat) : Row w a (min len K) ((l.take K).map f) := by
  have := hl.take (min len K) (Nat.min_le_left _ _)
  rw [← List.map_take] at this
  have e : l.length = len := by simpa using hl.1
  rwa [show l.take (min len K) = l.take K by rw [← e, Nat.min_comm, ← List.take_eq_take_min]] at this
end Go.Proofs.Ytnkndpgaoplamaa
