/- Times as whole numbers; the product of 64 bits off the shelf. -/
import Derived.Test.YtdamilkofdclbaaRows
import Derived.Test.YtdamilkofdclbaaKit
import Derived.Test.YtdamilkofdclbaaWide
import Derived.Test.YtdamilkofdclbaaShelf
namespace Go.Proofs.Ytdamilkofdclbaa
open Go.RowKit
set_option linter.unusedVariables false

theorem mul_any (x y : Int) (w : World) (hx : 0 ≤ x) (hx2 : x ≤ 18446744073709551615) (hy : 0 ≤ y) (hy2 : y ≤ 18446744073709551615) :
    Calls Try.prog 35 #[.int .u64 x, .int .u64 y] w fun e w' => e = .returned (.tuple #[.int .u64 (x * y / 18446744073709551616), .int .u64 (x * y % 18446744073709551616)]) ∧ w' = w := by
  obtain ⟨X, rfl⟩ := Int.eq_ofNat_of_zero_le hx
  obtain ⟨Y, rfl⟩ := Int.eq_ofNat_of_zero_le hy
  have h := Try.bits_Mul64 X Y (by omega) (by omega) w
  simpa using h

theorem u64_neg {a : Int} (h1 : -9223372036854775808 ≤ a) (h2 : a < 0) : IntKind.u64.wrap a = a + 18446744073709551616 := by rw [IntKind.wrap_u64]; omega
theorem w64_u64 {H : Int} (h1 : -9223372036854775808 ≤ H) (h2 : H ≤ 9223372036854775807) : wrap64 (IntKind.u64.wrap H) = H := by
  rw [IntKind.wrap_u64]; unfold wrap64; omega
theorem prod_bound {a b : Int} (h1 : -9223372036854775808 ≤ a) (h2 : a ≤ 9223372036854775807) (h3 : -9223372036854775808 ≤ b) (h4 : b ≤ 9223372036854775807) :
    -85070591730234615865843651857942052864 ≤ a * b ∧ a * b ≤ 85070591730234615865843651857942052864 := by
  have key : a.natAbs * b.natAbs ≤ 9223372036854775808 * 9223372036854775808 := Nat.mul_le_mul (by omega) (by omega)
  rw [← Int.natAbs_mul] at key
  omega

set_option maxRecDepth 100000 in
set_option maxHeartbeats 1000000 in
theorem times_any (a b : Int) (w : World) (h1 : -9223372036854775808 ≤ a) (h2 : a ≤ 9223372036854775807) (h3 : -9223372036854775808 ≤ b) (h4 : b ≤ 9223372036854775807) :
    Calls Try.prog 18 #[.int .i64 a, .int .i64 b] w fun e w' => e = .returned (W (a * b)) ∧ Below w.heap.size w w' := by
  have hb := prod_bound h1 h2 h3 h4
  rcases (show (0 ≤ a ∧ 0 ≤ b) ∨ (a < 0 ∧ 0 ≤ b) ∨ (0 ≤ a ∧ b < 0) ∨ (a < 0 ∧ b < 0) from by omega) with ⟨ga, gb⟩ | ⟨ga, gb⟩ | ⟨ga, gb⟩ | ⟨ga, gb⟩
  · have k := fun w => mul_any a b w (by omega) (by omega) (by omega) (by omega)
    have hp : 0 ≤ a * b := Int.mul_nonneg ga gb
    unfold W
    have hH : 0 ≤ hiOf (a * b) ∧ hiOf (a * b) ≤ 9223372036854775807 := by unfold hiOf; omega
    change ∀ w, Calls Try.prog 35 #[.int .u64 a, .int .u64 b] w fun e w' => e = .returned (.tuple #[.int .u64 (hiOf (a * b)), .int .u64 (loOf (a * b))]) ∧ w' = w at k
    generalize hiOf (a * b) = H at *
    generalize loOf (a * b) = L at *
    clear hb hp
    obtain ⟨hH1, hH2⟩ := hH
    have da : decide (a < 0) = false := by simp; omega
    have db : decide (b < 0) = false := by simp; omega
    go_enter Try.func18, Try.ntmps18
    go_wp2_with fail
    refine (k _).mono ?_
    rintro e w1 ⟨rfl, rfl⟩
    go_wp2
    exact bodyPost_ret (v := .agg #[.int .i64 H, .int .u64 L]) (by simp [results, Try.results18, go_sem]) rfl ⟨rfl, (Below.refl _ _).alloc (Nat.le_refl _) _⟩
  · have hwa := u64_neg h1 ga
    have e1 : (a + 18446744073709551616) * b = a * b + 18446744073709551616 * b := by rw [Int.add_mul]
    have k := fun w => mul_any (a + 18446744073709551616) b w (by omega) (by omega) (by omega) (by omega)
    rw [e1] at k
    have e2 : (a * b + 18446744073709551616 * b) % 18446744073709551616 = loOf (a * b) := by unfold loOf; omega
    have e3 : (a * b + 18446744073709551616 * b) / 18446744073709551616 = hiOf (a * b) + b := by unfold hiOf; omega
    rw [e2, e3] at k
    have hH : -9223372036854775808 ≤ hiOf (a * b) ∧ hiOf (a * b) ≤ 9223372036854775807 := by unfold hiOf; omega
    unfold W
    generalize hiOf (a * b) = H at *
    generalize loOf (a * b) = L at *
    have hs : H + b - b = H := by omega
    clear hb e1 e2 e3
    obtain ⟨hH1, hH2⟩ := hH
    have da : decide (a < 0) = true := by simp; omega
    have db : decide (b < 0) = false := by simp; omega
    generalize a + 18446744073709551616 = ua at *
    generalize H + b = M at *
    go_enter Try.func18, Try.ntmps18
    go_wp2_with fail
    refine (k _).mono ?_
    rintro e w1 ⟨rfl, rfl⟩
    go_wp2
    rw [w64_u64 hH1 hH2]
    exact bodyPost_ret (v := .agg #[.int .i64 H, .int .u64 L]) (by simp [results, Try.results18, go_sem]) rfl ⟨rfl, (Below.refl _ _).alloc (Nat.le_refl _) _⟩
  · have hwb := u64_neg h3 gb
    have e1 : a * (b + 18446744073709551616) = a * b + 18446744073709551616 * a := by rw [Int.mul_add, Int.mul_comm a 18446744073709551616]
    have k := fun w => mul_any a (b + 18446744073709551616) w (by omega) (by omega) (by omega) (by omega)
    rw [e1] at k
    have e2 : (a * b + 18446744073709551616 * a) % 18446744073709551616 = loOf (a * b) := by unfold loOf; omega
    have e3 : (a * b + 18446744073709551616 * a) / 18446744073709551616 = hiOf (a * b) + a := by unfold hiOf; omega
    rw [e2, e3] at k
    have hH : -9223372036854775808 ≤ hiOf (a * b) ∧ hiOf (a * b) ≤ 9223372036854775807 := by unfold hiOf; omega
    unfold W
    generalize hiOf (a * b) = H at *
    generalize loOf (a * b) = L at *
    have hs : H + a - a = H := by omega
    clear hb e1 e2 e3
    obtain ⟨hH1, hH2⟩ := hH
    have da : decide (a < 0) = false := by simp; omega
    have db : decide (b < 0) = true := by simp; omega
    generalize b + 18446744073709551616 = ub at *
    generalize H + a = M at *
    go_enter Try.func18, Try.ntmps18
    go_wp2_with fail
    refine (k _).mono ?_
    rintro e w1 ⟨rfl, rfl⟩
    go_wp2
    rw [w64_u64 hH1 hH2]
    exact bodyPost_ret (v := .agg #[.int .i64 H, .int .u64 L]) (by simp [results, Try.results18, go_sem]) rfl ⟨rfl, (Below.refl _ _).alloc (Nat.le_refl _) _⟩
  · have hwa := u64_neg h1 ga
    have hwb := u64_neg h3 gb
    have e1 : (a + 18446744073709551616) * (b + 18446744073709551616) = a * b + 18446744073709551616 * a + 18446744073709551616 * b + 18446744073709551616 * 18446744073709551616 := by rw [Int.add_mul, Int.mul_add, Int.mul_add, Int.mul_comm a 18446744073709551616]; omega
    have k := fun w => mul_any (a + 18446744073709551616) (b + 18446744073709551616) w (by omega) (by omega) (by omega) (by omega)
    rw [e1] at k
    have e2 : (a * b + 18446744073709551616 * a + 18446744073709551616 * b + 18446744073709551616 * 18446744073709551616) % 18446744073709551616 = loOf (a * b) := by unfold loOf; omega
    have e3 : (a * b + 18446744073709551616 * a + 18446744073709551616 * b + 18446744073709551616 * 18446744073709551616) / 18446744073709551616 = hiOf (a * b) + a + b + 18446744073709551616 := by unfold hiOf; omega
    rw [e2, e3] at k
    have hH : -9223372036854775808 ≤ hiOf (a * b) ∧ hiOf (a * b) ≤ 9223372036854775807 := by unfold hiOf; omega
    unfold W
    generalize hiOf (a * b) = H at *
    generalize loOf (a * b) = L at *
    have hs : H + a + b + 18446744073709551616 - (b + 18446744073709551616) = H + a := by omega
    have hr : wrap64 (IntKind.u64.wrap (IntKind.u64.wrap (H + a) - (a + 18446744073709551616))) = H := by
      rw [show wrap64 (IntKind.u64.wrap (IntKind.u64.wrap (H + a) - (a + 18446744073709551616))) = wrap64 (IntKind.u64.wrap H) from by
        rw [IntKind.wrap_u64, IntKind.wrap_u64, IntKind.wrap_u64]; congr 1; omega, w64_u64 hH.1 hH.2]
    clear hb e1 e2 e3
    obtain ⟨hH1, hH2⟩ := hH
    have da : decide (a < 0) = true := by simp; omega
    have db : decide (b < 0) = true := by simp; omega
    generalize H + a + b + 18446744073709551616 = M at *
    generalize a + 18446744073709551616 = ua at *
    generalize b + 18446744073709551616 = ub at *
    generalize H + a = N at *
    go_enter Try.func18, Try.ntmps18
    go_wp2_with fail
    refine (k _).mono ?_
    rintro e w1 ⟨rfl, rfl⟩
    go_wp2
    exact bodyPost_ret (v := .agg #[.int .i64 H, .int .u64 L]) (by simp [results, Try.results18, go_sem]) rfl ⟨rfl, (Below.refl _ _).alloc (Nat.le_refl _) _⟩
end Go.Proofs.Ytdamilkofdclbaa
