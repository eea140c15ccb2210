/- two, is, Is walked. -/
import Derived.Test.YtdbkbcihbajjdaaRows
import Derived.Test.YtdbkbcihbajjdaaKit
import Derived.Test.YtdbkbcihbajjdaaFacts
import Derived.Deep.QuietTactic
import Derived.BigQuiet
namespace Go.Proofs.Ytdbkbcihbajjdaa
open Go.RowKit
set_option linter.unusedVariables false

theorem below_drewN {B : Nat} {w w' : World} (h : Below B w w') (n : Nat) : Below B w (w'.drewN n) := ⟨h.os, h.tape, h.output, h.size, h.block⟩
theorem pow_le59 {k : Nat} (h : k ≤ 59) : 2 ^ k ≤ 576460752303423488 := Nat.pow_le_pow_right (by omega) h
theorem pow_le63 {k : Nat} (h : k ≤ 63) : 2 ^ k ≤ 9223372036854775808 := Nat.pow_le_pow_right (by omega) h
set_option maxRecDepth 100000 in
set_option maxHeartbeats 1000000 in
theorem two_any (k : Nat) (w : World) (hk : k ≤ 63) : Calls Try.prog 19 #[.int .i64 k] w fun e w' => e = .returned (.int .u64 ((2 ^ k : Nat) : Int)) ∧ w = w' := by
  have HK := Lib.hid hk; clear hk
  go_enter Try.func19, Try.ntmps19
  go_wp2
  go_loop [3, 4] (fun p i => ∃ (j P : Nat), j ≤ k ∧ i = .int .i64 j ∧ p = .int .u64 P ∧ P = 2 ^ j) (fun _ i => k - (intOf i).toNat)
  case atStart => exact ⟨0, 1, by omega, rfl, rfl, rfl⟩
  case round =>
    obtain ⟨j, P, hj, rfl, rfl, hP⟩ := hrel
    have HP := Lib.hid hP
    by_cases hlt : j < k
    · have hb : P ≤ 4611686018427387904 := by
        rw [hP]
        exact Nat.pow_le_pow_right (n := 2) (j := 62) (by omega) (by have := HK.out; omega)
      have hj62 : j ≤ 62 := by have := HK.out; omega
      clear hP
      go_wp2
      go_round
      case rel => exact ⟨j + 1, P + P, by omega, by go_num, by go_num, by rw [Nat.pow_succ, HP.out]; omega⟩
      case measure => simp [intOf]; omega
    · obtain rfl : j = k := by omega
      go_wp2
      go_ret
      exact ⟨rfl, rfl⟩
/-- Is there such a piece? -/
def isP (n L I : Int) : Bool := decide (1 ≤ n) && decide (n ≤ 59) && decide (0 ≤ L) && decide (L ≤ n) && decide (I < ((2 ^ (n - L).toNat : Nat) : Int))
theorem wrap_pow {k : Nat} (h : k ≤ 59) : IntKind.u64.wrap (2 ^ k) = ((2 ^ k : Nat) : Int) := by
  have hp := pow_le59 h
  have e : (2 : Int) ^ k = ((2 ^ k : Nat) : Int) := by push_cast; rfl
  rw [IntKind.wrap_u64, e]
  generalize 2 ^ k = P at *
  omega
set_option maxRecDepth 100000 in
set_option maxHeartbeats 200000 in
theorem is_any (n L I : Int) (w : World) (h0 : 0 ≤ I) :
    Calls Try.prog 20 #[.int .i64 n, .agg #[.int .i64 L, .int .u64 I]] w fun e w' => e = .returned (.bool (isP n L I)) ∧ Below w.heap.size w w' := by
  have c0 : (w.alloc (.cells #[.int .i64 L, .int .u64 I] 30)).cell? ⟨w.heap.size, 0, none⟩ = some (.int .i64 L) := (cell_of_row _ _ _ _ _ _ (heap_alloc_new w _)).trans rfl
  have c1 : (w.alloc (.cells #[.int .i64 L, .int .u64 I] 30)).cell? ⟨w.heap.size, 1, none⟩ = some (.int .u64 I) := (cell_of_row _ _ _ _ _ _ (heap_alloc_new w _)).trans rfl
  by_cases h1 : 1 ≤ n
  · by_cases h2 : n ≤ 59
    · by_cases h3 : 0 ≤ L
      · by_cases h4 : L ≤ n
        · obtain ⟨k, hk⟩ : ∃ k : Nat, n - L = k := ⟨(n - L).toNat, by omega⟩
          have hk2 : k ≤ 59 := by omega
          have hw := wrap_pow hk2
          have hd : isP n L I = decide (I < ((2 ^ k : Nat) : Int)) := by unfold isP; rw [hk]; simp [h1, h2, h3, h4]
          have HD := Lib.hid hd
          have HK := Lib.hid hk
          have hsub : IntKind.i64.wrap (n - L) = (k : Int) := by rw [IntKind.wrap_i64]; omega
          clear hd hk
          generalize 2 ^ k = P at *
          go_enter Try.func20, Try.ntmps20
          go_wp2_with fail
          go_quiet (fail)
          go_wp2
          go_ret
          exact ⟨by rw [HD.out]; rfl, below_drewN ((Below.refl _ _).alloc (Nat.le_refl _) _) _⟩
        · have hd : isP n L I = false := by simp [isP, h4]
          have HD := Lib.hid hd
          have g : decide (L ≤ n) = false := by simpa using h4
          clear hd h4
          go_enter Try.func20, Try.ntmps20
          go_wp2_with fail
          go_quiet (fail)
          go_wp2
          go_ret
          exact ⟨by rw [HD.out]; rfl, below_drewN ((Below.refl _ _).alloc (Nat.le_refl _) _) _⟩
      · have hd : isP n L I = false := by simp [isP, h3]
        have HD := Lib.hid hd
        have g : decide (0 ≤ L) = false := by simpa using h3
        clear hd h3
        go_enter Try.func20, Try.ntmps20
        go_wp2_with fail
        go_quiet (fail)
        go_wp2
        go_ret
        exact ⟨by rw [HD.out]; rfl, below_drewN ((Below.refl _ _).alloc (Nat.le_refl _) _) _⟩
    · have hd : isP n L I = false := by simp [isP, h2]
      have HD := Lib.hid hd
      have g : decide (n ≤ 59) = false := by simpa using h2
      clear hd h2
      go_enter Try.func20, Try.ntmps20
      go_wp2_with fail
      go_quiet (fail)
      go_wp2
      go_ret
      exact ⟨by rw [HD.out]; rfl, below_drewN ((Below.refl _ _).alloc (Nat.le_refl _) _) _⟩
  · have hd : isP n L I = false := by simp [isP, h1]
    have HD := Lib.hid hd
    have g : decide (1 ≤ n) = false := by simpa using h1
    clear hd h1
    go_enter Try.func20, Try.ntmps20
    go_wp2_with fail
    go_quiet (fail)
    go_wp2
    go_ret
    exact ⟨by rw [HD.out]; rfl, below_drewN ((Below.refl _ _).alloc (Nat.le_refl _) _) _⟩
end Go.Proofs.Ytdbkbcihbajjdaa
