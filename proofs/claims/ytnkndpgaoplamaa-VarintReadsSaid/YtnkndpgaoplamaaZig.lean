/- Folded and unfolded numbers: the plain law, and the four functions. -/
import Derived.Test.YtnkndpgaoplamaaRows
import Derived.Test.YtnkndpgaoplamaaKit
namespace Go.Proofs.Ytnkndpgaoplamaa
open Go.RowKit
set_option linter.unusedVariables false

/-- A number folded. -/
def zg (n : Int) : Int := if 0 ≤ n then 2 * n else -2 * n - 1
/-- A number unfolded. -/
def zu (u : Int) : Int := if u % 2 = 0 then u / 2 else -(u / 2) - 1
theorem zg_range {n : Int} (h1 : -9223372036854775808 ≤ n) (h2 : n ≤ 9223372036854775807) : 0 ≤ zg n ∧ zg n ≤ 18446744073709551615 := by unfold zg; split <;> omega
theorem zu_range {u : Int} (h1 : 0 ≤ u) (h2 : u ≤ 18446744073709551615) : -9223372036854775808 ≤ zu u ∧ zu u ≤ 9223372036854775807 := by unfold zu; split <;> omega
theorem zu_zg (n : Int) : zu (zg n) = n := by unfold zu zg; split <;> split <;> omega
theorem zg_zu {u : Int} (h : 0 ≤ u) : zg (zu u) = u := by unfold zu zg; split <;> split <;> omega

theorem xor_ones_u64 {x : Int} (h1 : 0 ≤ x) (h2 : x ≤ 18446744073709551615) : bits BinOp.xor IntKind.u64 x 18446744073709551615 = 18446744073709551615 - x := by
  show IntKind.u64.wrap ((BitVec.ofInt 64 x ^^^ BitVec.ofInt 64 18446744073709551615).toNat : Int) = _
  have e : BitVec.ofInt 64 18446744073709551615 = BitVec.allOnes 64 := by decide
  rw [e, BitVec.xor_allOnes, BitVec.toNat_not, BitVec.toNat_ofInt, IntKind.wrap_u64]
  omega
theorem xor_zero_u64 {x : Int} (h1 : 0 ≤ x) (h2 : x ≤ 18446744073709551615) : bits BinOp.xor IntKind.u64 x 0 = x := by
  show IntKind.u64.wrap ((BitVec.ofInt 64 x ^^^ BitVec.ofInt 64 0).toNat : Int) = _
  have e : BitVec.ofInt 64 0 = 0#64 := by decide
  rw [e, BitVec.xor_zero, BitVec.toNat_ofInt, IntKind.wrap_u64]
  omega
theorem xor_ones_i64 {x : Int} (h1 : 0 ≤ x) (h2 : x ≤ 9223372036854775807) : bits BinOp.xor IntKind.i64 x (-1) = -1 - x := by
  show IntKind.i64.wrap ((BitVec.ofInt 64 x ^^^ BitVec.ofInt 64 (-1)).toNat : Int) = _
  have e : BitVec.ofInt 64 (-1) = BitVec.allOnes 64 := by decide
  rw [e, BitVec.xor_allOnes, BitVec.toNat_not, BitVec.toNat_ofInt, IntKind.wrap_i64]
  omega
theorem xor_zero_i64 {x : Int} (h1 : 0 ≤ x) (h2 : x ≤ 9223372036854775807) : bits BinOp.xor IntKind.i64 x 0 = x := by
  show IntKind.i64.wrap ((BitVec.ofInt 64 x ^^^ BitVec.ofInt 64 0).toNat : Int) = _
  have e : BitVec.ofInt 64 0 = 0#64 := by decide
  rw [e, BitVec.xor_zero, BitVec.toNat_ofInt, IntKind.wrap_i64]
  omega
theorem and_one_u64 {x : Int} (h1 : 0 ≤ x) (h2 : x ≤ 18446744073709551615) : bits BinOp.and IntKind.u64 x 1 = x % 2 := by
  show IntKind.u64.wrap ((BitVec.ofInt 64 x &&& BitVec.ofInt 64 1).toNat : Int) = _
  have e : (BitVec.ofInt 64 1).toNat = 2 ^ 1 - 1 := by decide
  rw [BitVec.toNat_and, e, Nat.and_two_pow_sub_one_eq_mod, BitVec.toNat_ofInt, IntKind.wrap_u64]
  omega
theorem ret_int {k : IntKind} {a b : Int} (h : a = b) : Ending.returned (.int k a) = .returned (.int k b) := by rw [h]
theorem zig_bits {n : Int} (h1 : -9223372036854775808 ≤ n) (h2 : n ≤ 9223372036854775807) : bits BinOp.xor IntKind.u64 (IntKind.u64.wrap (IntKind.u64.wrap n * 2)) (IntKind.u64.wrap (n / 9223372036854775808)) = zg n := by
  have e2 : IntKind.u64.wrap (n / 9223372036854775808) = if 0 ≤ n then 0 else 18446744073709551615 := by rw [IntKind.wrap_u64]; split <;> omega
  have e1 : IntKind.u64.wrap (IntKind.u64.wrap n * 2) = if 0 ≤ n then 2 * n else 2 * n + 18446744073709551616 := by rw [IntKind.wrap_u64, IntKind.wrap_u64]; split <;> omega
  rw [e1, e2]
  unfold zg
  split
  · rw [xor_zero_u64 (by omega) (by omega)]
  · rw [xor_ones_u64 (by omega) (by omega)]; omega
set_option maxRecDepth 100000 in
theorem zig_any (n : Int) (w : World) (h1 : -9223372036854775808 ≤ n) (h2 : n ≤ 9223372036854775807) :
    Calls Try.prog 10 #[.int .i64 n] w fun e w' => e = .returned (.int .u64 (zg n)) ∧ w = w' := by
  have hz := zig_bits h1 h2
  go_enter Try.func10, Try.ntmps10
  go_wp2
  go_ret
  exact ⟨rfl, rfl⟩
set_option maxRecDepth 100000 in
theorem zag_any (u : Int) (w : World) (h1 : 0 ≤ u) (h2 : u ≤ 18446744073709551615) :
    Calls Try.prog 12 #[.int .u64 u] w fun e w' => e = .returned (.int .i64 (zu u)) ∧ w = w' := by
  have ha := and_one_u64 h1 h2
  have hz : bits BinOp.xor IntKind.i64 (u / 2) (-(u % 2)) = zu u := by
    unfold zu
    split
    · rename_i h; rw [h]; exact xor_zero_i64 (by omega) (by omega)
    · rename_i h; rw [show u % 2 = 1 by omega, xor_ones_i64 (by omega) (by omega)]; omega
  go_enter Try.func12, Try.ntmps12
  go_wp2
  go_ret
  exact ⟨rfl, rfl⟩
set_option maxRecDepth 100000 in
theorem rzig_any (n : Int) (w : World) (h1 : -9223372036854775808 ≤ n) (h2 : n ≤ 9223372036854775807) :
    Calls Try.prog 11 #[.int .i64 n] w fun e w' => e = .returned (.int .u64 (zg n)) ∧ w = w' := by
  by_cases h : 0 ≤ n
  · have hz : 2 * n = zg n := by unfold zg; rw [if_pos h]
    go_enter Try.func11, Try.ntmps11
    go_wp2
    go_ret
    exact ⟨rfl, rfl⟩
  · have hz : 2 * (-(n + 1)) + 1 = zg n := by unfold zg; rw [if_neg h]; omega
    go_enter Try.func11, Try.ntmps11
    go_wp2
    go_ret
    exact ⟨rfl, rfl⟩
set_option maxRecDepth 100000 in
theorem rzag_any (u : Int) (w : World) (h1 : 0 ≤ u) (h2 : u ≤ 18446744073709551615) :
    Calls Try.prog 13 #[.int .u64 u] w fun e w' => e = .returned (.int .i64 (zu u)) ∧ w = w' := by
  by_cases h : u % 2 = 0
  · have hz : u / 2 = zu u := by unfold zu; rw [if_pos h]
    have hb : (u % 2 == 0) = true := by simpa using h
    clear h
    go_enter Try.func13, Try.ntmps13
    go_wp2
    go_ret
    exact ⟨rfl, rfl⟩
  · have hz : -(u / 2) - 1 = zu u := by unfold zu; rw [if_neg h]
    have hb : (u % 2 == 0) = false := by simpa using h
    clear h
    go_enter Try.func13, Try.ntmps13
    go_wp2
    go_ret
    exact ⟨rfl, rfl⟩
end Go.Proofs.Ytnkndpgaoplamaa
