/- field.Pow walked. -/
import Derived.Test.YtjhlpmigkbaegaaDoorField
import Derived.WalkMore
namespace Go.Proofs.YtjhlpmigkbaegaaDoor
open Go.RowKit
set_option linter.unusedVariables false
theorem and_one (x : Nat) (h : x < 18446744073709551616) : bits BinOp.and IntKind.u64 (x : Int) 1 = ((x % 2 : Nat) : Int) := by
  show IntKind.u64.wrap ((BitVec.ofInt 64 (x : Int) &&& BitVec.ofInt 64 1).toNat : Int) = _
  have e : (BitVec.ofInt 64 1).toNat = 2 ^ 1 - 1 := by decide
  rw [BitVec.toNat_and, e, Nat.and_two_pow_sub_one_eq_mod, BitVec.toNat_ofInt, IntKind.wrap_u64]
  omega
theorem pow_odd (out a n P : Nat) (h : n % 2 = 1) : (out * a % P) * (a * a % P) ^ (n / 2) % P = out * a ^ n % P := by
  have e : n = 2 * (n / 2) + 1 := by omega
  generalize n / 2 = m at *
  subst e
  rw [Nat.mul_mod, Nat.mod_mod, Nat.pow_mod, Nat.mod_mod, ← Nat.pow_mod, ← Nat.mul_mod, Nat.pow_succ, Nat.pow_mul, Nat.mul_assoc, show a ^ 2 = a * a from Nat.pow_two a, Nat.mul_comm a]
theorem pow_even (out a n P : Nat) (h : n % 2 = 0) : out * (a * a % P) ^ (n / 2) % P = out * a ^ n % P := by
  have e : n = 2 * (n / 2) := by omega
  generalize n / 2 = m at *
  subst e
  rw [Nat.mul_mod, Nat.pow_mod, Nat.mod_mod, ← Nat.pow_mod, ← Nat.mul_mod, Nat.pow_mul, show a ^ 2 = a * a from Nat.pow_two a]
def RelP (a0 n0 : Nat) (w : World) (u0 u1 u5 : Value) (wr : World) : Prop :=
  ∃ a n out : Nat, u0 = .int .u64 a ∧ u1 = .int .u64 n ∧ u5 = .int .u64 out ∧ a < PR ∧ out < PR ∧ n < 18446744073709551616 ∧ Hid (out * a ^ n % PR = a0 ^ n0 % PR) ∧ w = wr
theorem one_pr : 1 < PR := by rw [PR_eq]; omega
theorem pr_64 : PR < 18446744073709551616 := by rw [PR_eq]; omega
set_option maxRecDepth 100000 in
set_option maxHeartbeats 1000000 in
theorem pow_any (a n : Nat) (w : World) (ha : a < PR) (hn : n < 18446744073709551616) : Calls Tryd.prog 18 #[.int .u64 a, .int .u64 n] w fun e w' => e = .returned (.int .u64 ((a ^ n % PR : Nat) : Int)) ∧ w = w' := by
  go_enter Tryd.func18, Tryd.ntmps18
  go_wp2
  go_step3
  go_wp2
  go_step3
  go_wp2
  have h1 := one_pr
  have h64 := pr_64
  go_loopw [0, 1, 5] (fun u0 u1 u5 wr => RelP a n w u0 u1 u5 wr) (fun _ u1 _ _ => (intOf u1).toNat)
  case atStart => exact ⟨a, n, 1, rfl, rfl, rfl, ha, h1, hn, Lib.hid (by rw [Nat.one_mul]), rfl⟩
  case round =>
    clear ha hn
    obtain ⟨b, m, o, rfl, rfl, rfl, hb, ho, hm, HR, rfl⟩ := hrel
    by_cases h0 : 0 < m
    · have g0 : decide ((0 : Int) < (m : Int)) = true := by simp; omega
      have KS := Lib.hid (mul_any b b w (by omega) (by omega))
      have hand := and_one m hm
      have hbb := Nat.mod_lt (b * b) (show PR > 0 by omega)
      rcases Nat.mod_two_eq_zero_or_one m with hz | hz
      · rw [hz] at hand
        have HS := Lib.hid ((pow_even o b m PR hz).trans HR.out)
        clear HR
        generalize b * b % PR = bb at *
        go_wp2_with fail
        refine KS.out.mono ?_
        rintro e w2 ⟨rfl, rfl⟩
        go_wp2_with fail
        go_roundw
        case rel => exact ⟨bb, m / 2, o, rfl, rfl, rfl, hbb, ho, by omega, HS, rfl⟩
        case measure => simp [intOf]; omega
      · rw [hz] at hand
        have HS := Lib.hid ((pow_odd o b m PR hz).trans HR.out)
        have KO := Lib.hid (mul_any o b w (by omega) (by omega))
        have hoo := Nat.mod_lt (o * b) (show PR > 0 by omega)
        clear HR
        generalize b * b % PR = bb at *
        generalize o * b % PR = oo at *
        go_wp2_with fail
        refine KS.out.mono ?_
        rintro e w2 ⟨rfl, rfl⟩
        go_wp2_with fail
        refine KO.out.mono ?_
        rintro e w2 ⟨rfl, rfl⟩
        go_wp2_with fail
        go_roundw
        case rel => exact ⟨bb, m / 2, oo, rfl, rfl, rfl, hbb, hoo, by omega, HS, rfl⟩
        case measure => simp [intOf]; omega
    · have g0 : decide ((0 : Int) < (m : Int)) = false := by simp; omega
      obtain rfl : m = 0 := by omega
      have HF := Lib.hid (show o = a ^ n % PR by rw [← HR.out, Nat.pow_zero, Nat.mul_one, Nat.mod_eq_of_lt ho])
      go_wp2_with fail
      try rw [Exit.noGoto_ret]
      go_ret
      exact ⟨by rw [← HF.out]; rfl, rfl⟩
end Go.Proofs.YtjhlpmigkbaegaaDoor
