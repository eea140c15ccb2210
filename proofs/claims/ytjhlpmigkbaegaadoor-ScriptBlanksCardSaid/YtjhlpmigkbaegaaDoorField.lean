/- Arithmetic modulo the prime, walked. -/
import Derived.Test.YtjhlpmigkbaegaaDoorRows
import Derived.Test.YtjhlpmigkbaegaaDoorKit
import Derived.Test.YtjhlpmigkbaegaaDoorShelf
import Derived.Laws.BitsLemmas
namespace Go.Proofs.YtjhlpmigkbaegaaDoor
open Go.RowKit
set_option linter.unusedVariables false

/-- The prime. -/
def PR : Nat := 2305843009213693951
theorem PR_pos : 0 < PR := by unfold PR; omega
theorem and_pr (x : Nat) (h : x < 18446744073709551616) : bits BinOp.and IntKind.u64 (x : Int) 2305843009213693951 = ((x % 2305843009213693952 : Nat) : Int) := by
  show IntKind.u64.wrap ((BitVec.ofInt 64 (x : Int) &&& BitVec.ofInt 64 2305843009213693951).toNat : Int) = _
  have e : (BitVec.ofInt 64 2305843009213693951).toNat = 2 ^ 61 - 1 := by decide
  rw [BitVec.toNat_and, e, Nat.and_two_pow_sub_one_eq_mod, BitVec.toNat_ofInt, IntKind.wrap_u64]
  omega
theorem fold_nat (x : Nat) (hx : x < 18446744073709551616) : ∃ A B S : Int, bits BinOp.and IntKind.u64 (x : Int) 2305843009213693951 = A ∧ (x : Int) / 2305843009213693952 = B ∧ A + B = S ∧ IntKind.u64.wrap S = S ∧ 0 ≤ A ∧ 0 ≤ B ∧
    (decide (2305843009213693951 ≤ S) = false ∧ S = ((x % PR : Nat) : Int) ∨ decide (2305843009213693951 ≤ S) = true ∧ S - 2305843009213693951 = ((x % PR : Nat) : Int) ∧ IntKind.u64.wrap ((x % PR : Nat) : Int) = ((x % PR : Nat) : Int)) := by
  refine ⟨_, _, _, rfl, rfl, rfl, ?_, ?_, ?_, ?_⟩
  · rw [and_pr x hx, IntKind.wrap_u64]; omega
  · rw [and_pr x hx]; omega
  · omega
  · rw [and_pr x hx, IntKind.wrap_u64]
    simp only [decide_eq_false_iff_not, decide_eq_true_eq]
    unfold PR
    by_cases h : (2305843009213693951 : Int) ≤ ((x % 2305843009213693952 : Nat) : Int) + (x : Int) / 2305843009213693952
    · right; omega
    · left; omega
attribute [irreducible] PR
set_option maxRecDepth 100000 in
theorem fold_any (x : Nat) (w : World) (hx : x < 18446744073709551616) : Calls Tryd.prog 28 #[.int .u64 x] w fun e w' => e = .returned (.int .u64 ((x % PR : Nat) : Int)) ∧ w = w' := by
  obtain ⟨A, B, S, hA, hB, hS, hW, hA0, hB0, hc⟩ := fold_nat x hx
  generalize ((x % PR : Nat) : Int) = R at *
  have HX := Lib.hid hx
  clear hx
  generalize (x : Int) = X at *
  rcases hc with ⟨hd, he⟩ | ⟨hd, he, he2⟩
  · have HE := Lib.hid he
    clear he
    go_enter Tryd.func28, Tryd.ntmps28
    go_wp2
    go_ret
    exact ⟨by rw [HE.out]; rfl, rfl⟩
  · go_enter Tryd.func28, Tryd.ntmps28
    go_wp2
    go_ret
    exact ⟨rfl, rfl⟩
theorem mod_pr_lt (x : Nat) : x % PR < 2305843009213693951 := by unfold PR; omega
theorem PR_eq : PR = 2305843009213693951 := by unfold PR; rfl
theorem pr_add (a b : Nat) : (a % PR + b % PR) % PR = (a + b) % PR := (Nat.add_mod a b PR).symm
set_option maxRecDepth 100000 in
theorem add_any (a b : Nat) (w : World) (ha : a < 18446744073709551616) (hb : b < 18446744073709551616) : Calls Tryd.prog 16 #[.int .u64 a, .int .u64 b] w fun e w' => e = .returned (.int .u64 (((a + b) % PR : Nat) : Int)) ∧ w = w' := by
  have h1 := mod_pr_lt a
  have h2 := mod_pr_lt b
  have hp := pr_add a b
  have K1 := Lib.hid (fun w => fold_any a w ha)
  have K2 := Lib.hid (fun w => fold_any b w hb)
  have K3 := Lib.hid (fun w => fold_any (a % PR + b % PR) w (by omega))
  rw [hp] at K3
  have hs : ((a % PR + b % PR : Nat) : Int) = ((a % PR : Nat) : Int) + ((b % PR : Nat) : Int) := by omega
  have hw : IntKind.u64.wrap (((a % PR : Nat) : Int) + ((b % PR : Nat) : Int)) = ((a % PR + b % PR : Nat) : Int) := by rw [IntKind.wrap_u64]; omega
  clear hp
  generalize (a + b) % PR = R at *
  generalize a % PR + b % PR = S at *
  generalize ((a % PR : Nat) : Int) = A at *
  generalize ((b % PR : Nat) : Int) = B at *
  have HX := Lib.hid ha
  have HY := Lib.hid hb
  clear ha hb h1 h2 hs
  go_enter Tryd.func16, Tryd.ntmps16
  go_wp2_with fail
  refine (K1.out _).mono ?_
  rintro e w1 ⟨rfl, rfl⟩
  go_wp2_with fail
  refine (K2.out _).mono ?_
  rintro e w1 ⟨rfl, rfl⟩
  go_wp2_with fail
  refine (K3.out _).mono ?_
  rintro e w1 ⟨rfl, rfl⟩
  go_wp2
  go_ret
  exact ⟨rfl, rfl⟩
theorem wraps_u64 (n : Int) (h₀ : 0 ≤ n) (h₁ : n < 2 ^ 64) : IntKind.u64.wrap n = n := by rw [IntKind.wrap_u64]; omega
theorem mul_parts (p : Nat) (hp : p < 5316911983139663491615228241121378304) : ∃ U V W L : Int, ((p / 18446744073709551616 : Nat) : Int) * 8 = U ∧ ((p % 18446744073709551616 : Nat) : Int) / 2305843009213693952 = V ∧ IntKind.u64.wrap U = U ∧
    bits BinOp.or IntKind.u64 U V = W ∧ bits BinOp.and IntKind.u64 ((p % 18446744073709551616 : Nat) : Int) 2305843009213693951 = L ∧ W = ((p / 2305843009213693952 : Nat) : Int) ∧ L = ((p % 2305843009213693952 : Nat) : Int) ∧ 0 ≤ U ∧ 0 ≤ V := by
  have h1 : p / 18446744073709551616 < 288230376151711744 := by omega
  refine ⟨_, _, _, _, rfl, rfl, ?_, rfl, rfl, ?_, ?_, by omega, by omega⟩
  · rw [IntKind.wrap_u64]; omega
  · have := bits_join .u64 64 (by decide) wraps_u64 3 (((p / 18446744073709551616 : Nat) : Int) * 8) (((p % 18446744073709551616 : Nat) : Int) / 2305843009213693952) (by omega) (by omega) (by omega) (by omega) (by omega) (by omega)
    rw [this]
    omega
  · rw [and_pr _ (by omega)]
    omega
theorem mul_pr (p : Nat) : (p / 2305843009213693952 + p % 2305843009213693952) % PR = p % PR := by
  rw [PR_eq]; omega
theorem mul_lt (a b : Nat) : (a % PR) * (b % PR) < 5316911983139663491615228241121378304 := by
  have h1 := mod_pr_lt a
  have h2 := mod_pr_lt b
  calc (a % PR) * (b % PR) ≤ 2305843009213693951 * 2305843009213693951 := Nat.mul_le_mul (by omega) (by omega)
    _ < 5316911983139663491615228241121378304 := by decide
set_option maxRecDepth 100000 in
theorem mul_any (a b : Nat) (w : World) (ha : a < 18446744073709551616) (hb : b < 18446744073709551616) : Calls Tryd.prog 17 #[.int .u64 a, .int .u64 b] w fun e w' => e = .returned (.int .u64 (((a * b) % PR : Nat) : Int)) ∧ w = w' := by
  have h1 := mod_pr_lt a
  have h2 := mod_pr_lt b
  have hp : ((a % PR) * (b % PR)) % PR = (a * b) % PR := (Nat.mul_mod a b PR).symm
  have hlt := mul_lt a b
  have K1 := Lib.hid (fun w => fold_any a w ha)
  have K2 := Lib.hid (fun w => fold_any b w hb)
  have K3 := Lib.hid (fun w => Tryd.bits_Mul64 (a % PR) (b % PR) (by omega) (by omega) w)
  obtain ⟨U, V, W, L, hU, hV, hUw, hW, hL, hWe, hLe, hU0, hV0⟩ := mul_parts _ hlt
  have K4 := Lib.hid (fun w => add_any ((a % PR) * (b % PR) / 2305843009213693952) ((a % PR) * (b % PR) % 2305843009213693952) w (by omega) (by omega))
  rw [mul_pr, hp] at K4
  have hWL := Lib.hid (And.intro hWe hLe)
  clear hp hlt hWe hLe
  generalize (a % PR) * (b % PR) = p at *
  generalize (a * b) % PR = R at *
  generalize ((a % PR : Nat) : Int) = A at *
  generalize ((b % PR : Nat) : Int) = B at *
  generalize ((p / 18446744073709551616 : Nat) : Int) = H at *
  generalize ((p % 18446744073709551616 : Nat) : Int) = O at *
  have HX := Lib.hid ha
  have HY := Lib.hid hb
  clear ha hb h1 h2
  go_enter Tryd.func17, Tryd.ntmps17
  go_wp2_with fail
  refine (K1.out _).mono ?_
  rintro e w1 ⟨rfl, rfl⟩
  go_wp2_with fail
  refine (K2.out _).mono ?_
  rintro e w1 ⟨rfl, rfl⟩
  go_wp2_with fail
  refine (K3.out _).mono ?_
  rintro e w1 ⟨rfl, rfl⟩
  go_wp2_with fail
  obtain ⟨rfl, rfl⟩ := hWL.out
  refine (K4.out _).mono ?_
  rintro e w1 ⟨rfl, rfl⟩
  go_wp2
  go_ret
  exact ⟨rfl, rfl⟩
/-- The reference's sum and product. -/
theorem rem_pr (x : Nat) : (x : Int) % 2305843009213693951 = ((x % PR : Nat) : Int) := by rw [PR_eq]; omega
set_option maxRecDepth 100000 in
theorem radd_any (a b : Nat) (w : World) (ha : a < 18446744073709551616) (hb : b < 18446744073709551616) : Calls Tryd.prog 21 #[.int .u64 a, .int .u64 b] w fun e w' => e = .returned (.int .u64 (((a + b) % PR : Nat) : Int)) ∧ w = w' := by
  have h1 := mod_pr_lt a
  have h2 := mod_pr_lt b
  have hp := pr_add a b
  have ea := rem_pr a
  have eb := rem_pr b
  have ec := rem_pr (a % PR + b % PR)
  rw [hp] at ec
  have hw : IntKind.u64.wrap (((a % PR : Nat) : Int) + ((b % PR : Nat) : Int)) = ((a % PR + b % PR : Nat) : Int) := by rw [IntKind.wrap_u64]; omega
  have ga : (0 : Int) ≤ (a : Int) := by omega
  have gb : (0 : Int) ≤ (b : Int) := by omega
  have gc : (0 : Int) ≤ ((a % PR + b % PR : Nat) : Int) := by omega
  have g1 : (0 : Int) ≤ ((a % PR : Nat) : Int) := by omega
  have g2 : (0 : Int) ≤ ((b % PR : Nat) : Int) := by omega
  clear hp
  generalize ((((a + b) % PR) : Nat) : Int) = R at *
  generalize ((a % PR + b % PR : Nat) : Int) = S at *
  generalize ((a % PR : Nat) : Int) = A at *
  generalize ((b % PR : Nat) : Int) = B at *
  generalize (a : Int) = X at *
  generalize (b : Int) = Y at *
  have EC := Lib.hid ec
  clear ha hb h1 h2
  go_enter Tryd.func21, Tryd.ntmps21
  go_wp2
  go_ret
  exact ⟨by rw [← EC.out]; rfl, rfl⟩
theorem mul_round (o x y t : Nat) (h : (o + x * y) % PR = t) : (y % 2 = 1 → ((o + x) % PR + (x + x) % PR * (y / 2)) % PR = t) ∧ (y % 2 = 0 → (o + (x + x) % PR * (y / 2)) % PR = t) := by
  have hy := Nat.div_add_mod y 2
  constructor
  · intro h2
    rw [← h, Nat.add_mod, Nat.mod_mod, Nat.mod_mul_mod, ← Nat.add_mod]
    congr 1
    generalize y / 2 = z at *
    have : y = 2 * z + 1 := by omega
    subst this
    grind
  · intro h2
    rw [← h, Nat.add_mod, Nat.mod_mul_mod, ← Nat.add_mod]
    congr 1
    generalize y / 2 = z at *
    have : y = 2 * z := by omega
    subst this
    grind
set_option maxRecDepth 100000 in
set_option maxHeartbeats 400000 in
theorem rmul_any (a b : Nat) (w : World) (ha : a < 18446744073709551616) (hb : b < 18446744073709551616) : Calls Tryd.prog 22 #[.int .u64 a, .int .u64 b] w fun e w' => e = .returned (.int .u64 (((a * b) % PR : Nat) : Int)) ∧ w = w' := by
  have h1 := mod_pr_lt a
  have h2 := mod_pr_lt b
  have ea := rem_pr a
  have eb := rem_pr b
  have hinv : (0 + (a % PR) * (b % PR)) % PR = (a * b) % PR := by rw [Nat.zero_add]; exact (Nat.mul_mod a b PR).symm
  generalize (a * b) % PR = R at *
  generalize a % PR = A at *
  generalize b % PR = B at *
  have HI := Lib.hid hinv
  have H12 := Lib.hid (And.intro h1 h2)
  have EA := Lib.hid ea
  have EB := Lib.hid eb
  clear ha hb h1 h2 hinv ea eb
  go_enter Tryd.func22, Tryd.ntmps22
  go_wp2
  go_loop [5, 6, 7] (fun u5 u6 u7 => ∃ x y o : Nat, u5 = .int .u64 x ∧ u6 = .int .u64 y ∧ u7 = .int .u64 o ∧ Hid (x < 2305843009213693951 ∧ y < 2305843009213693951 ∧ o < 2305843009213693951) ∧ Hid ((o + x * y) % PR = R)) (fun _ y _ => (intOf y).toNat)
  case atStart => exact ⟨A, B, 0, congrArg (Value.int .u64) EA.out, congrArg (Value.int .u64) EB.out, rfl, Lib.hid ⟨H12.out.1, H12.out.2, by omega⟩, HI⟩
  case round =>
    obtain ⟨x, y, o, rfl, rfl, rfl, HB, HR⟩ := hrel
    obtain ⟨m1, m2⟩ := mul_round o x y R HR.out
    have hb := HB.out
    obtain ⟨S1, hS1⟩ : ∃ S, o + x = S := ⟨_, rfl⟩
    obtain ⟨S2, hS2⟩ : ∃ S, x + x = S := ⟨_, rfl⟩
    have hw1 : IntKind.u64.wrap ((o : Int) + (x : Int)) = (S1 : Int) := by rw [IntKind.wrap_u64]; omega
    have hw2 : IntKind.u64.wrap ((x : Int) + (x : Int)) = (S2 : Int) := by rw [IntKind.wrap_u64]; omega
    have hwy : IntKind.u64.wrap ((y : Int) / 2) = (y : Int) / 2 := by rw [IntKind.wrap_u64]; omega
    have er1 := rem_pr S1
    have er2 := rem_pr S2
    have hl1 := mod_pr_lt S1
    have hl2 := mod_pr_lt S2
    rw [hS1, hS2] at m1
    rw [hS2] at m2
    generalize S1 % PR = R1 at *
    generalize S2 % PR = R2 at *
    have ER1 := Lib.hid er1
    have ER2 := Lib.hid er2
    have M1 := Lib.hid m1
    have M2 := Lib.hid m2
    have HB2 := Lib.hid (show R1 < 2305843009213693951 ∧ R2 < 2305843009213693951 ∧ y / 2 < 2305843009213693951 by omega)
    clear m1 m2 hb hl1 hl2 hS1 hS2 er1 er2
    by_cases hy : 0 < y
    · have g1 : decide (0 < y) = true := by simpa using hy
      rcases Nat.mod_two_eq_zero_or_one y with h2 | h2
      · have e2 : (y : Int) % 2 = 0 := by omega
        have H2 := Lib.hid h2; clear h2
        go_wp2
        go_round
        case rel => exact ⟨R2, y / 2, o, congrArg (Value.int .u64) ER2.out, congrArg (Value.int .u64) (by omega), rfl, Lib.hid ⟨HB2.out.2.1, HB2.out.2.2, HB.out.2.2⟩, Lib.hid (M2.out H2.out)⟩
        case measure => simp [intOf]; omega
      · have e2 : (y : Int) % 2 = 1 := by omega
        have H2 := Lib.hid h2; clear h2
        go_wp2
        go_round
        case rel => exact ⟨R2, y / 2, R1, congrArg (Value.int .u64) ER2.out, congrArg (Value.int .u64) (by omega), congrArg (Value.int .u64) ER1.out, Lib.hid ⟨HB2.out.2.1, HB2.out.2.2, HB2.out.1⟩, Lib.hid (M1.out H2.out)⟩
        case measure => simp [intOf]; omega
    · obtain rfl : y = 0 := by omega
      have hR := HR.out
      have hO : o = R := by
        rw [Nat.mul_zero, Nat.add_zero, Nat.mod_eq_of_lt (by rw [PR_eq]; exact HB.out.2.2)] at hR
        exact hR
      clear hR
      subst hO
      have g1 : decide (((0 : Nat) : Int) > 0) = false := by simp
      go_wp2
      go_ret
      exact ⟨rfl, rfl⟩
end Go.Proofs.YtjhlpmigkbaegaaDoor
