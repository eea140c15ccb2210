/- Numbers of 160 bits as ten digits of sixteen bits: the plain laws. -/
import Derived.WalkKit
namespace Go.Proofs.Ytdamilkofdclbaa
open Go.RowKit
set_option linter.unusedVariables false

/-- 65536 to a power. -/
def pw (i : Nat) : Int := (65536 : Int) ^ i
theorem pw_pos (i : Nat) : 0 < pw i := Int.pow_pos (by omega)
theorem pw_succ (i : Nat) : pw (i + 1) = pw i * 65536 := by unfold pw; rw [Int.pow_succ]
theorem pw_add (i k : Nat) : pw (i + k) = pw i * pw k := by unfold pw; rw [Int.pow_add]
theorem pw_zero : pw 0 = 1 := rfl
/-- Digit i of a number. -/
def dg (v : Int) (i : Nat) : Int := v / pw i % 65536
theorem dg_range (v : Int) (i : Nat) : 0 ≤ dg v i ∧ dg v i ≤ 65535 := by unfold dg; omega
/-- What stands below digit i. -/
def lw (v : Int) (i : Nat) : Int := v % pw i
theorem lw_range (v : Int) (i : Nat) : 0 ≤ lw v i ∧ lw v i < pw i := by
  have h := pw_pos i
  exact ⟨Int.emod_nonneg _ (by omega), Int.emod_lt_of_pos _ h⟩
theorem lw_zero (v : Int) : lw v 0 = 0 := by unfold lw; rw [pw_zero]; omega
theorem div_succ (v : Int) (i : Nat) : v / pw (i + 1) = v / pw i / 65536 := by
  rw [pw_succ, Int.ediv_ediv_of_nonneg (Int.le_of_lt (pw_pos i))]
theorem split_at (v : Int) (i : Nat) : v = pw i * (v / pw i) + lw v i := by unfold lw; exact (Int.mul_ediv_add_emod v (pw i)).symm
theorem lw_succ (v : Int) (i : Nat) : lw v (i + 1) = lw v i + pw i * dg v i := by
  have h1 := split_at v i
  have h2 := split_at v (i + 1)
  rw [div_succ, pw_succ] at h2
  unfold dg
  have h3 : v / pw i = 65536 * (v / pw i / 65536) + v / pw i % 65536 := by omega
  generalize v / pw i / 65536 = q at *
  generalize v / pw i % 65536 = r at *
  rw [h3, Int.mul_add, ← Int.mul_assoc] at h1
  omega
/-- Division of M * q + r. -/
theorem div_of {M q r : Int} (hM : 0 < M) : (M * q + r) / M = q + r / M := by
  rw [Int.add_comm, Int.add_mul_ediv_left _ _ (by omega), Int.add_comm]
/-- The carry of a sum. -/
def cy (a b : Int) (i : Nat) : Int := (lw a i + lw b i) / pw i
theorem cy_range (a b : Int) (i : Nat) : 0 ≤ cy a b i ∧ cy a b i ≤ 1 := by
  have h := pw_pos i
  have h1 := lw_range a i
  have h2 := lw_range b i
  unfold cy
  refine ⟨Int.ediv_nonneg (by omega) (by omega), ?_⟩
  have : (lw a i + lw b i) / pw i < 2 := by
    apply Int.ediv_lt_of_lt_mul h
    omega
  omega
theorem cy_zero (a b : Int) : cy a b 0 = 0 := by unfold cy; rw [lw_zero, lw_zero]; rfl
theorem add_div (a b : Int) (i : Nat) : (a + b) / pw i = a / pw i + b / pw i + cy a b i := by
  have h := pw_pos i
  have h1 := split_at a i
  have h2 := split_at b i
  unfold cy
  have h3 : a + b = pw i * (a / pw i + b / pw i) + (lw a i + lw b i) := by rw [Int.mul_add]; omega
  conv => lhs; rw [h3]
  rw [div_of h]
theorem cy_eq (a b : Int) (i : Nat) : cy a b i = (a + b) / pw i - a / pw i - b / pw i := by rw [add_div]; omega
theorem sum_dig (a b : Int) (i : Nat) : (dg a i + dg b i + cy a b i) % 65536 = dg (a + b) i := by
  unfold dg; rw [add_div]; omega
theorem sum_carry (a b : Int) (i : Nat) : (dg a i + dg b i + cy a b i) / 65536 = cy a b (i + 1) := by
  rw [cy_eq a b (i + 1), div_succ, div_succ, div_succ, add_div]; unfold dg; omega
/-- Turned round, digit by digit. -/
theorem not_dig (a : Int) (i : Nat) : 65535 - dg a i = dg (-1 - a) i := by
  have h := pw_pos i
  have h1 := split_at a i
  have h2 := lw_range a i
  have h3 : (-1 - a) / pw i = -1 - a / pw i := by
    have h4 : -1 - a = pw i * (-1 - a / pw i) + (pw i - 1 - lw a i) := by rw [Int.mul_sub]; omega
    have h5 : (pw i - 1 - lw a i) / pw i = 0 := Int.ediv_eq_zero_of_lt (by omega) (by omega)
    have h6 : (pw i * (-1 - a / pw i) + (pw i - 1 - lw a i)) / pw i = -1 - a / pw i := by rw [div_of h, h5]; omega
    rw [← h4] at h6; exact h6
  unfold dg; rw [h3]; omega
/-- The product row i, behind k digits of b. -/
def Qk (a b : Int) (i k : Nat) : Int := lw a i * b + dg a i * pw i * lw b k
/-- .. and its carry. -/
def cm (a b : Int) (i k : Nat) : Int := (lw (lw a i * b) (i + k) + dg a i * pw i * lw b k) / pw (i + k)
theorem Qk_zero (a b : Int) (i : Nat) : Qk a b i 0 = lw a i * b := by unfold Qk; rw [lw_zero]; omega
theorem cm_zero (a b : Int) (i : Nat) : cm a b i 0 = 0 := by
  unfold cm; rw [lw_zero, Int.mul_zero, Int.add_zero]
  have := lw_range (lw a i * b) (i + 0)
  exact Int.ediv_eq_zero_of_lt this.1 this.2
theorem Qk_div (a b : Int) (i k : Nat) : Qk a b i k / pw (i + k) = lw a i * b / pw (i + k) + cm a b i k := by
  have h := pw_pos (i + k)
  have h1 := split_at (lw a i * b) (i + k)
  unfold Qk cm
  conv => lhs; rw [h1]
  rw [Int.add_assoc, div_of h]
theorem Qk_succ (a b : Int) (i k : Nat) : Qk a b i (k + 1) = Qk a b i k + dg a i * dg b k * pw (i + k) := by
  unfold Qk; rw [lw_succ, pw_add, Int.mul_add, ← Int.add_assoc]
  congr 1
  ac_rfl
theorem cm_range (a b : Int) (i k : Nat) : 0 ≤ cm a b i k ∧ cm a b i k ≤ 65536 := by
  have h := pw_pos (i + k)
  have hi := pw_pos i
  have hd := dg_range a i
  have h1 := lw_range (lw a i * b) (i + k)
  have h2 := lw_range b k
  have h3 : 0 ≤ dg a i * pw i * lw b k := Int.mul_nonneg (Int.mul_nonneg hd.1 (by omega)) h2.1
  have h4 : dg a i * pw i * lw b k ≤ 65535 * pw (i + k) := by
    rw [pw_add, Int.mul_assoc]
    refine Int.mul_le_mul hd.2 (Int.mul_le_mul_of_nonneg_left (by omega) (by omega)) (Int.mul_nonneg (by omega) h2.1) (by omega)
  unfold cm
  refine ⟨Int.ediv_nonneg (by omega) (by omega), ?_⟩
  have : (lw (lw a i * b) (i + k) + dg a i * pw i * lw b k) / pw (i + k) < 65537 := by
    apply Int.ediv_lt_of_lt_mul h
    omega
  omega
theorem mul_num (a b : Int) (i k : Nat) : dg (lw a i * b) (i + k) + dg a i * dg b k + cm a b i k = Qk a b i (k + 1) / pw (i + k) - 65536 * (lw a i * b / pw (i + k) / 65536) := by
  have h := pw_pos (i + k)
  rw [Qk_succ, Int.add_mul_ediv_right _ _ (by omega), Qk_div]; unfold dg; omega
theorem mul_dig (a b : Int) (i k : Nat) : (dg (lw a i * b) (i + k) + dg a i * dg b k + cm a b i k) % 65536 = dg (Qk a b i (k + 1)) (i + k) := by
  rw [mul_num]; show _ = Qk a b i (k + 1) / pw (i + k) % 65536; omega
theorem mul_carry (a b : Int) (i k : Nat) : (dg (lw a i * b) (i + k) + dg a i * dg b k + cm a b i k) / 65536 = cm a b i (k + 1) := by
  have h1 := Qk_div a b i (k + 1)
  rw [show i + (k + 1) = i + k + 1 from by omega, div_succ, div_succ] at h1
  rw [mul_num]; omega
/-- What comes later does not turn the digits that stand. -/
theorem dg_add_high (v c : Int) (i j : Nat) (h : j < i) : dg (v + c * pw i) j = dg v j := by
  obtain ⟨d, rfl⟩ : ∃ d, i = j + 1 + d := ⟨i - j - 1, by omega⟩
  have hj := pw_pos j
  unfold dg
  have e : c * pw (j + 1 + d) = (c * pw d * 65536) * pw j := by rw [pw_add, pw_succ]; ac_rfl
  rw [e, Int.add_mul_ediv_right _ _ (by omega)]; omega
theorem Qk_low (a b : Int) (i k j : Nat) (h : j < i + k) : dg (Qk a b i (k + 1)) j = dg (Qk a b i k) j := by
  rw [Qk_succ]; exact dg_add_high _ _ _ _ h
/-- Ten digits deep, a row is whole. -/
theorem dg_whole (a b : Int) (i k j : Nat) (hj : j < i + k) : dg (Qk a b i k) j = dg (lw a (i + 1) * b) j := by
  have e : lw a (i + 1) * b = Qk a b i k + (dg a i * (b / pw k)) * pw (i + k) := by
    have h1 := split_at b k
    unfold Qk
    rw [lw_succ, pw_add, Int.add_mul, Int.add_assoc]
    congr 1
    conv => lhs; rw [h1]
    rw [Int.mul_add, Int.add_comm]
    congr 1
    · ac_rfl
    · ac_rfl
  rw [e]; exact (dg_add_high _ _ _ _ hj).symm
theorem dg_lw (a b : Int) (n j : Nat) (hj : j < n) : dg (lw a n * b) j = dg (a * b) j := by
  have h1 := split_at a n
  have e : a * b = lw a n * b + (a / pw n * b) * pw n := by
    conv => lhs; rw [h1]
    rw [Int.add_mul, Int.add_comm]
    congr 1
    ac_rfl
  rw [e]; exact (dg_add_high _ _ _ _ hj).symm
/-- A number's half. -/
theorem dg_div10 (N : Int) (hN : 0 ≤ N) (i : Nat) : ((N / pw (i + 1)) % 10 * 65536 + dg N i) / 10 = dg (N / 10) i ∧ ((N / pw (i + 1)) % 10 * 65536 + dg N i) % 10 = (N / pw i) % 10 := by
  have h := pw_pos i
  have e : N / 10 / pw i = N / pw i / 10 := by rw [Int.ediv_ediv_of_nonneg (by omega), Int.ediv_ediv_of_nonneg (Int.le_of_lt h), Int.mul_comm]
  unfold dg
  rw [e, div_succ]
  omega
end Go.Proofs.Ytdamilkofdclbaa
