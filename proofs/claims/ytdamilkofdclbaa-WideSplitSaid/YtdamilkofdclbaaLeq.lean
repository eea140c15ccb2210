/- Two arrays of ten numbers held against each other; 'or' of a low and a high part. -/
import Derived.Test.YtdamilkofdclbaaLof
import Derived.Laws.StructEq
namespace Go.Proofs.Ytdamilkofdclbaa
open Go.RowKit
set_option linter.unusedVariables false

theorem arr_ten (f : Nat → Int) : arr f = #[.int .i64 (f 0), .int .i64 (f 1), .int .i64 (f 2), .int .i64 (f 3), .int .i64 (f 4), .int .i64 (f 5), .int .i64 (f 6), .int .i64 (f 7), .int .i64 (f 8), .int .i64 (f 9)] := by
  unfold arr; rfl
theorem size3 (w : World) : (sizeOf 3).run Try.prog w = .ok 1 w := by kernel_rfl
theorem run_equalIn_arr (d : Nat) (f g : Nat → Int) (w : World) :
    (Op.equalIn (d + 2) 30 (.agg (arr f)) (.agg (arr g))).run Try.prog w = .ok ((List.range 10).all fun i => f i == g i) w := by
  rw [List.range_eq_range', Op.equalIn]
  simp only [Sem.run_bind, run_underlying Try.underlying30, Result.andThen_ok, size3, Std.Legacy.Range.forIn_eq_forIn_range', Std.Legacy.Range.size, Nat.sub_zero, Nat.add_sub_cancel, Nat.div_one]
  have hl : ∀ i ∈ List.range' 0 10 1, i < 10 := fun i hi => by simpa using (List.mem_range'_1.1 hi).2
  generalize List.range' 0 10 1 = l at hl ⊢
  induction l with
  | nil => simp
  | cons i l ih =>
    have hi : i < 10 := hl i (by simp)
    have px : ∀ f : Nat → Int, (part 3 (arr f) (i * 1)).run Try.prog w = .ok (.int .i64 (f i)) w := fun f => by
      simp [part, isAgg, run_underlying Try.underlying3, arr_get f i hi]
    have pe : (Op.equalIn (d + 1) 3 (.int .i64 (f i)) (.int .i64 (g i))).run Try.prog w = .ok (f i == g i) w := run_equalIn_int w d 3 .i64 .i64 _ _ Try.underlying3
    simp only [List.forIn_cons, Sem.run_bind, px, pe, Result.andThen_ok, List.all_cons]
    cases hb : (f i == g i)
    · simp
    · simp only [Bool.not_true, Bool.false_eq_true, if_false, Sem.run_pure, Result.andThen_ok, Bool.true_and]
      exact ih fun j hj => hl j (by simp [hj])
theorem eq_arr {f g : Nat → Int} (h : ∀ i, i < 10 → f i = g i) (w : World) : (Op.equalIn 10000 30 (.agg (arr f)) (.agg (arr g))).run Try.prog w = .ok true w := by
  rw [show (10000 : Nat) = 9998 + 2 from rfl, run_equalIn_arr]
  congr 1
  rw [List.all_eq_true]
  intro i hi
  simpa using h i (by simpa using hi)
theorem ne_arr {f g : Nat → Int} (h : ¬ ∀ i, i < 10 → f i = g i) (w : World) : (Op.equalIn 10000 30 (.agg (arr f)) (.agg (arr g))).run Try.prog w = .ok false w := by
  rw [show (10000 : Nat) = 9998 + 2 from rfl, run_equalIn_arr]
  congr 1
  rw [Bool.eq_false_iff]
  intro hb
  apply h
  intro i hi
  rw [List.all_eq_true] at hb
  simpa using hb i (by simpa using hi)
theorem or_nat (X D P n : Nat) (hP : P = 2 ^ n) (hX : X < P) (h : X + P * D < 18446744073709551616) : ((BitVec.ofInt 64 (X : Int) ||| BitVec.ofInt 64 ((P * D : Nat) : Int)).toNat : Int) = X + P * D := by
  have t1 : (BitVec.ofInt 64 (X : Int)).toNat = X := by rw [BitVec.toNat_ofInt]; omega
  have t2 : (BitVec.ofInt 64 ((P * D : Nat) : Int)).toNat = P * D := by rw [BitVec.toNat_ofInt]; omega
  rw [BitVec.toNat_or, t1, t2, hP]
  rw [hP] at hX
  rw [Nat.or_comm, ← Nat.two_pow_add_eq_or_of_lt hX]
  norm_cast
  omega
theorem or_pw (a : Int) (k : Nat) (hk : k < 4) : bits BinOp.or IntKind.u64 (lw a k) (IntKind.u64.wrap (dg a k * 2 ^ (16 * k))) = lw a (k + 1) := by
  have h1 := lw_range a k
  have h2 := dg_range a k
  have h3 := lw_range a (k + 1)
  have h4 := pw_mono (show k + 1 ≤ 4 by omega)
  have h5 := lw_succ a k
  have h6 := pw_pos k
  have hp := shift_pw k
  rw [pw4] at h4
  have h7 : 0 ≤ pw k * dg a k := Int.mul_nonneg (Int.le_of_lt h6) h2.1
  rw [hp, Int.mul_comm, IntKind.wrap_u64, Int.emod_eq_of_lt h7 (by omega)]
  show IntKind.u64.wrap ((BitVec.ofInt 64 (lw a k) ||| BitVec.ofInt 64 (pw k * dg a k)).toNat : Int) = _
  rw [h5] at h3 ⊢
  generalize pw (k + 1) = q at *
  clear h5
  generalize dg a k = D at *
  generalize lw a k = X at *
  generalize pw k = P at *
  obtain ⟨X, rfl⟩ := Int.eq_ofNat_of_zero_le h1.1
  obtain ⟨D, rfl⟩ := Int.eq_ofNat_of_zero_le h2.1
  obtain ⟨P, rfl⟩ := Int.eq_ofNat_of_zero_le (Int.le_of_lt h6)
  have hP : P = 2 ^ (16 * k) := by exact_mod_cast hp.symm
  rw [show (P : Int) * (D : Int) = ((P * D : Nat) : Int) by norm_cast] at *
  rw [or_nat X D P (16 * k) hP (by omega) (by omega), IntKind.wrap_u64]
  rw [show (P : Int) * (D : Int) = ((P * D : Nat) : Int) by norm_cast] at *
  omega
/-- The number of 128 bits, with a sign, that has the same lower digits. -/
def sgn128 (a : Int) : Int := (a + 170141183460469231731687303715884105728) % 340282366920938463463374607431768211456 - 170141183460469231731687303715884105728
theorem sgn_fits (a : Int) : Fits (sgn128 a) := by unfold sgn128 Fits; omega
theorem sgn_same {a : Int} (h : Fits a) : sgn128 a = a := by unfold Fits at h; unfold sgn128; omega
/-- Ten digits tell a number of 160 bits. -/
theorem dg_tell {a b : Int} (h : ∀ i, i < 10 → dg a i = dg b i) : lw a 10 = lw b 10 := by
  have key : ∀ n, n ≤ 10 → lw a n = lw b n := by
    intro n
    induction n with
    | zero => intro _; rw [lw_zero, lw_zero]
    | succ n ih => intro hn; rw [lw_succ, lw_succ, ih (by omega), h n (by omega)]
  exact key 10 (Nat.le_refl _)
theorem pw10 : pw 10 = 1461501637330902918203684832716283019655932542976 := rfl
theorem mid_tell {a b : Int} (ha : Mid a) (hb : Mid b) (h : ∀ i, i < 10 → dg a i = dg b i) : a = b := by
  have := dg_tell h
  unfold lw at this; rw [pw10] at this; unfold Mid at ha hb; omega
theorem fits_mid {a : Int} (h : Fits a) : Mid a := by unfold Fits at h; unfold Mid; omega
theorem sgn_other {a : Int} (ha : Mid a) (h : ¬ Fits a) : ¬ ∀ i, i < 10 → dg (sgn128 a) i = dg a i := by
  intro h'
  have := mid_tell (fits_mid (sgn_fits a)) ha h'
  exact h (this ▸ sgn_fits a)
theorem sgn_lo (a : Int) : loOf (sgn128 a) = lw a 4 := by unfold loOf sgn128 lw; rw [pw4]; omega
theorem sgn_hi (a : Int) : hiOf (sgn128 a) = wrap64 (lw (a / pw 4) 4) := by unfold hiOf sgn128 lw wrap64; rw [pw4]; omega
theorem lw_hi (a : Int) (k : Nat) : dg (a / pw 4) k = dg a (k + 4) := by have := dg_hi a k; unfold hiOf at this; rw [pw4]; exact this
end Go.Proofs.Ytdamilkofdclbaa
