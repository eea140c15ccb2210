/- size, Reverse, Text. -/
import Derived.Test.YtdamilkofdclbaaRows
import Derived.Test.YtdamilkofdclbaaKit
import Derived.Test.YtdamilkofdclbaaWide
import Derived.Test.YtdamilkofdclbaaDiv
import Derived.Deep.QuietTactic
import Derived.BigQuiet
namespace Go.Proofs.Ytdamilkofdclbaa
open Go.RowKit
set_option linter.unusedVariables false

theorem below_drewN (w : World) (n : Nat) : Below w.heap.size w (w.drewN n) := ⟨rfl, rfl, rfl, Nat.le_refl _, fun _ _ => rfl⟩
theorem u64_i64_neg {a : Int} (h1 : -9223372036854775808 ≤ a) (h2 : a < 0) : IntKind.u64.wrap a = a + 18446744073709551616 := by rw [IntKind.wrap_u64]; omega
theorem xor_max {u : Int} (h1 : 0 ≤ u) (h2 : u ≤ 18446744073709551615) : bits .xor .u64 IntKind.u64.max u = 18446744073709551615 - u := by
  obtain ⟨U, rfl⟩ := Int.eq_ofNat_of_zero_le h1
  have hU : U < 2 ^ 64 := by omega
  have e : (BitVec.ofInt 64 IntKind.u64.max) ^^^ (BitVec.ofInt 64 (U : Int)) = ~~~ (BitVec.ofNat 64 U) := by
    rw [BitVec.ofInt_natCast]
    have : (BitVec.ofInt 64 IntKind.u64.max) = BitVec.allOnes 64 := by decide
    rw [this, BitVec.allOnes_xor]
  show IntKind.u64.wrap (((BitVec.ofInt 64 IntKind.u64.max) ^^^ (BitVec.ofInt 64 (U : Int))).toNat : Int) = _
  rw [e, BitVec.toNat_not, BitVec.toNat_ofNat, Nat.mod_eq_of_lt hU, IntKind.wrap_u64]
  omega
set_option maxRecDepth 100000 in
set_option maxHeartbeats 1000000 in
theorem size_any (v : Int) (w : World) (hv : Fits v) :
    Calls Try.prog 36 #[W v] w fun e w' => e = .returned (.tuple #[.int .u64 (hiOf (v.natAbs : Int)), .int .u64 (loOf (v.natAbs : Int))]) ∧ Below w.heap.size w w' := by
  have hr := hi_range hv
  have hl := loOf_range v
  unfold W
  have c0 : (w.alloc (.cells #[.int .i64 (hiOf v), .int .u64 (loOf v)] 24)).cell? ⟨w.heap.size, 0, none⟩ = some (.int .i64 (hiOf v)) := (cell_of_row _ _ _ _ _ _ (heap_alloc_new w _)).trans rfl
  have c1 : (w.alloc (.cells #[.int .i64 (hiOf v), .int .u64 (loOf v)] 24)).cell? ⟨w.heap.size, 1, none⟩ = some (.int .u64 (loOf v)) := (cell_of_row _ _ _ _ _ _ (heap_alloc_new w _)).trans rfl
  by_cases h0 : v < 0
  · have d0 : decide (hiOf v < 0) = true := by simp; unfold hiOf; omega
    have hn : hiOf v < 0 := by unfold hiOf; omega
    have hw := u64_i64_neg hr.1 hn
    obtain ⟨U, hU⟩ : ∃ U, hiOf v + 18446744073709551616 = U := ⟨_, rfl⟩
    have hU1 : 0 ≤ U := by omega
    have hU1' : U ≤ 18446744073709551615 := by omega
    have hx := xor_max hU1 hU1'
    obtain ⟨N, hN⟩ : ∃ N, 18446744073709551615 - U = N := ⟨_, rfl⟩
    have hN1 : 0 ≤ N := by omega
    have hN1' : N ≤ 9223372036854775807 := by omega
    have hs : IntKind.u64.signed = false := rfl
    by_cases hz : loOf v = 0
    · have e1 : hiOf (v.natAbs : Int) = N + 1 := by unfold hiOf at *; unfold loOf at hz; omega
      have e2 : loOf (v.natAbs : Int) = 0 := by unfold loOf at hz ⊢; omega
      rw [e1, e2]
      rw [hz] at c1 hl ⊢
      rw [hU] at hw
      rw [hN] at hx
      clear hz e1 e2 h0 hv hr hl hU hN
      generalize hiOf v = H at *
      go_enter Try.func36, Try.ntmps36
      go_wp2_with fail
      go_quiet (fail)
      go_wp2
      go_ret2
      exact ⟨rfl, ((Below.refl _ _).alloc (Nat.le_refl _) _).trans ((below_drewN _ _).mono (by simp))⟩
    · have e1 : hiOf (v.natAbs : Int) = N := by unfold hiOf at *; unfold loOf at hz; omega
      have e2 : loOf (v.natAbs : Int) = 18446744073709551616 - loOf v := by unfold loOf at hz ⊢; omega
      have hng : IntKind.u64.wrap (-loOf v) = 18446744073709551616 - loOf v := by rw [IntKind.wrap_u64]; omega
      have hz2 : ((18446744073709551616 - loOf v) == 0) = false := by rw [beq_eq_false_iff_ne]; omega
      rw [e1, e2]
      rw [hU] at hw
      rw [hN] at hx
      generalize 18446744073709551616 - loOf v = M at *
      clear hz e1 e2 h0 hv hr hU hN
      generalize hiOf v = H at *
      generalize loOf v = L at *
      go_enter Try.func36, Try.ntmps36
      go_wp2_with fail
      go_quiet (fail)
      go_wp2
      go_ret2
      exact ⟨rfl, ((Below.refl _ _).alloc (Nat.le_refl _) _).trans ((below_drewN _ _).mono (by simp))⟩
  · have d0 : decide (hiOf v < 0) = false := by simp; unfold hiOf; omega
    have hn : 0 ≤ hiOf v := by unfold hiOf; omega
    have e1 : (v.natAbs : Int) = v := by omega
    rw [e1]
    clear e1 h0
    have hr2 := hr.2
    clear hr
    generalize hiOf v = H at *
    generalize loOf v = L at *
    go_enter Try.func36, Try.ntmps36
    go_wp2_with fail
    go_quiet (fail)
    go_wp2
    go_ret2
    exact ⟨rfl, ((Below.refl _ _).alloc (Nat.le_refl _) _).trans ((below_drewN _ _).mono (by simp))⟩
end Go.Proofs.Ytdamilkofdclbaa
