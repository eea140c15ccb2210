/- Is of the reference walked. -/
import Derived.Test.YtdbkbcihbajjdaaBasic
namespace Go.Proofs.Ytdbkbcihbajjdaa
open Go.RowKit
set_option linter.unusedVariables false

theorem two_q (k : Nat) (hk : k ≤ 59) (W : World) (n : Nat) : Calls Try.prog 19 #[.int .i64 k] (W.drewN n) fun e w' => e = .returned (.int .u64 ((2 ^ k : Nat) : Int)) ∧ ∃ m, w' = W.drewN m :=
  (two_any k (W.drewN n) (by omega)).mono fun _ _ h => ⟨h.1, n, h.2.symm⟩
set_option maxRecDepth 100000 in
set_option maxHeartbeats 400000 in
theorem ris_any (n L I : Int) (w : World) (h0 : 0 ≤ I) :
    Calls Try.prog 21 #[.int .i64 n, .agg #[.int .i64 L, .int .u64 I]] w fun e w' => e = .returned (.bool (isP n L I)) ∧ Below w.heap.size w w' := by
  have c0 : (w.alloc (.cells #[.int .i64 L, .int .u64 I] 30)).cell? ⟨w.heap.size, 0, none⟩ = some (.int .i64 L) := (cell_of_row _ _ _ _ _ _ (heap_alloc_new w _)).trans rfl
  have c1 : (w.alloc (.cells #[.int .i64 L, .int .u64 I] 30)).cell? ⟨w.heap.size, 1, none⟩ = some (.int .u64 I) := (cell_of_row _ _ _ _ _ _ (heap_alloc_new w _)).trans rfl
  by_cases h1 : 1 ≤ n
  · by_cases h2 : n ≤ 59
    · by_cases h3 : 0 ≤ L
      · by_cases h4 : L ≤ n
        · obtain ⟨k, hk⟩ : ∃ k : Nat, n - L = k := ⟨(n - L).toNat, by omega⟩
          have hk2 : k ≤ 59 := by omega
          have K2 := Lib.hid (two_q k hk2)
          have hd : isP n L I = decide (I < ((2 ^ k : Nat) : Int)) := by unfold isP; rw [hk]; simp [h1, h2, h3, h4]
          have HD := Lib.hid hd
          have HK := Lib.hid hk
          have hsub : IntKind.i64.wrap (n - L) = (k : Int) := by rw [IntKind.wrap_i64]; omega
          clear hd hk
          generalize 2 ^ k = P at *
          go_enter Try.func21, Try.ntmps21
          go_wp2_with fail
          go_quiet (exact K2.out _ _)
          go_wp2
          go_ret
          exact ⟨by rw [HD.out]; rfl, below_drewN ((Below.refl _ _).alloc (Nat.le_refl _) _) _⟩
        · have hd : isP n L I = false := by simp [isP, h4]
          have HD := Lib.hid hd
          have g : decide (L ≤ n) = false := by simpa using h4
          clear hd h4
          go_enter Try.func21, Try.ntmps21
          go_wp2_with fail
          go_quiet (fail)
          go_wp2
          go_ret
          exact ⟨by rw [HD.out]; rfl, below_drewN ((Below.refl _ _).alloc (Nat.le_refl _) _) _⟩
      · have hd : isP n L I = false := by simp [isP, h3]
        have HD := Lib.hid hd
        have g : decide (0 ≤ L) = false := by simpa using h3
        clear hd h3
        go_enter Try.func21, Try.ntmps21
        go_wp2_with fail
        go_quiet (fail)
        go_wp2
        go_ret
        exact ⟨by rw [HD.out]; rfl, below_drewN ((Below.refl _ _).alloc (Nat.le_refl _) _) _⟩
    · have hd : isP n L I = false := by simp [isP, h2]
      have HD := Lib.hid hd
      have g : decide (n ≤ 59) = false := by simpa using h2
      clear hd h2
      go_enter Try.func21, Try.ntmps21
      go_wp2_with fail
      go_quiet (fail)
      go_wp2
      go_ret
      exact ⟨by rw [HD.out]; rfl, below_drewN ((Below.refl _ _).alloc (Nat.le_refl _) _) _⟩
  · have hd : isP n L I = false := by simp [isP, h1]
    have HD := Lib.hid hd
    have g : decide (1 ≤ n) = false := by simpa using h1
    clear hd h1
    go_enter Try.func21, Try.ntmps21
    go_wp2_with fail
    go_quiet (fail)
    go_wp2
    go_ret
    exact ⟨by rw [HD.out]; rfl, below_drewN ((Below.refl _ _).alloc (Nat.le_refl _) _) _⟩
end Go.Proofs.Ytdbkbcihbajjdaa
