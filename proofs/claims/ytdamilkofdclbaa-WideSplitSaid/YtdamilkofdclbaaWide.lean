/- Wide numbers as whole numbers: the contracts of Of, Add, Sub, Times, Less, Int. -/
import Derived.Test.YtdamilkofdclbaaRows
import Derived.Test.YtdamilkofdclbaaKit
import Derived.Deep.QuietTactic
import Derived.BigQuiet
namespace Go.Proofs.Ytdamilkofdclbaa
open Go.RowKit
set_option linter.unusedVariables false

/-- 2 to the power of 64, kept from the walk. -/
def two64 : Int := 18446744073709551616
/-- The two halves of a whole number. -/
def hiOf (v : Int) : Int := v / 18446744073709551616
def loOf (v : Int) : Int := v % 18446744073709551616
/-- The wide number v. -/
def W (v : Int) : Value := .agg #[.int .i64 (hiOf v), .int .u64 (loOf v)]
theorem loOf_range (v : Int) : 0 ≤ loOf v ∧ loOf v ≤ 18446744073709551615 := by unfold loOf; omega
theorem hiOf_int {n : Int} (h : -9223372036854775808 ≤ n ∧ n ≤ 9223372036854775807) : n / 9223372036854775808 = hiOf n := by unfold hiOf; omega

theorem wrap_lo (n : Int) : IntKind.u64.wrap n = loOf n := IntKind.wrap_u64 n
set_option maxRecDepth 100000 in
set_option maxHeartbeats 1000000 in
theorem of_any (n : Int) (w : World) (h1 : -9223372036854775808 ≤ n) (h2 : n ≤ 9223372036854775807) :
    Calls Try.prog 32 #[.int .i64 n] w fun e w' => e = .returned (W n) ∧ Below w.heap.size w w' := by
  have hh := hiOf_int ⟨h1, h2⟩
  have hl := wrap_lo n
  go_enter Try.func32, Try.ntmps32
  go_wp2
  exact bodyPost_ret (v := .agg #[.int .i64 (hiOf n), .int .u64 (loOf n)]) (by simp [results, Try.results32, go_sem]) rfl ⟨rfl, (Below.refl _ _).alloc (Nat.le_refl _) _⟩
def sub64Entry : Array Value → Sem Value := fun args => do
  let (x, y, b) ← Extern.MathBitsCarry.three "Sub64" args
  pure (Extern.MathBitsCarry.pair ((x + Extern.MathBitsCarry.m64 - y - b) % Extern.MathBitsCarry.m64) (if x < y + b then 1 else 0))
theorem run_sub64 {P : Program} (x y c : Int) (hx : 0 ≤ x) (hy : 0 ≤ y) (hy2 : y ≤ 18446744073709551615) (hc0 : 0 ≤ c) (hc : c ≤ 1) (w : World) :
    (sub64Entry #[.int .u64 x, .int .u64 y, .int .u64 c]).run P w =
      .ok (.tuple #[.int .u64 ((x - y - c) % 18446744073709551616), .int .u64 (if x < y + c then 1 else 0)]) w := by
  have key : ∀ k : Nat, k ≤ 1 → (sub64Entry #[.int .u64 x, .int .u64 y, .int .u64 (k : Int)]).run P w =
      .ok (Extern.MathBitsCarry.pair ((x.toNat + Extern.MathBitsCarry.m64 - y.toNat - k) % Extern.MathBitsCarry.m64) (if x.toNat < y.toNat + k then 1 else 0)) w := by
    intro k hk
    have : k = 0 ∨ k = 1 := by omega
    rcases this with rfl | rfl <;> rfl
  obtain ⟨k, rfl⟩ := Int.eq_ofNat_of_zero_le hc0
  rw [key k (by omega)]
  obtain ⟨X, rfl⟩ := Int.eq_ofNat_of_zero_le hx
  obtain ⟨Y, rfl⟩ := Int.eq_ofNat_of_zero_le hy
  simp only [Extern.MathBitsCarry.pair, Extern.MathBitsCarry.m64, Int.toNat_natCast]
  have e1 : ((((X + 2 ^ 64 - Y - k) % 2 ^ 64 : Nat)) : Int) = ((X : Int) - (Y : Int) - (k : Int)) % 18446744073709551616 := by omega
  have e2 : (((if X < Y + k then 1 else 0 : Nat)) : Int) = (if (X : Int) < (Y : Int) + (k : Int) then 1 else 0) := by split <;> split <;> omega
  show Result.ok (Value.tuple #[.int .u64 (((X + 2 ^ 64 - Y - k) % 2 ^ 64 : Nat) : Int), .int .u64 ((if X < Y + k then 1 else 0 : Nat) : Int)]) w = _
  rw [e1, e2]
theorem call33 (x y c : Int) (hx : 0 ≤ x) (hy : 0 ≤ y) (hc0 : 0 ≤ c) (hc : c ≤ 1) (w : World) :
    (callFunc 33 #[.int .u64 x, .int .u64 y, .int .u64 c]).run Try.prog w = .ok (.value (.tuple #[.int .u64 ((x + y + c) % 18446744073709551616), .int .u64 ((x + y + c) / 18446744073709551616)])) w := by
  rw [run_callFunc_extern Try.func33 (by kernel_rfl) (by kernel_rfl) (by kernel_rfl) (e := add64Entry) (by kernel_rfl), run_add64 x y c hx hy hc0 hc]
  rfl
theorem call34 (x y c : Int) (hx : 0 ≤ x) (hy : 0 ≤ y) (hy2 : y ≤ 18446744073709551615) (hc0 : 0 ≤ c) (hc : c ≤ 1) (w : World) :
    (callFunc 34 #[.int .u64 x, .int .u64 y, .int .u64 c]).run Try.prog w = .ok (.value (.tuple #[.int .u64 ((x - y - c) % 18446744073709551616), .int .u64 (if x < y + c then 1 else 0)])) w := by
  rw [run_callFunc_extern Try.func34 (by kernel_rfl) (by kernel_rfl) (by kernel_rfl) (e := sub64Entry) (by kernel_rfl), run_sub64 x y c hx hy hy2 hc0 hc]
  rfl

/-- A wide number in its range. -/
def Fits (v : Int) : Prop := -170141183460469231731687303715884105728 ≤ v ∧ v ≤ 170141183460469231731687303715884105727
instance (v : Int) : Decidable (Fits v) := by unfold Fits; exact inferInstance
/-- What Add, Sub answer: the number, if it fits. -/
def fitW (v : Int) : Value := .tuple #[W (if Fits v then v else 0), .bool (decide (Fits v))]
theorem hi_range {v : Int} (h : Fits v) : -9223372036854775808 ≤ hiOf v ∧ hiOf v ≤ 9223372036854775807 := by unfold Fits at h; unfold hiOf; omega
/-- The sum's halves, as Add reckons them. -/
structure Halves (a b : Int) (lo c hi : Int) : Prop where
  lo_eq : (loOf a + loOf b) % 18446744073709551616 = lo
  c_eq : (loOf a + loOf b) / 18446744073709551616 = c
  hi_eq : IntKind.i64.wrap ((IntKind.u64.wrap (hiOf a) + IntKind.u64.wrap (hiOf b) + c) % 18446744073709551616) = hi
theorem add_halves (a b : Int) (ha : Fits a) (hb : Fits b) :
    (loOf a + loOf b) % 18446744073709551616 = loOf (a + b) ∧
    (0 ≤ (loOf a + loOf b) / 18446744073709551616 ∧ (loOf a + loOf b) / 18446744073709551616 ≤ 1) ∧
    hiOf (a + b) = hiOf a + hiOf b + (loOf a + loOf b) / 18446744073709551616 := by
  unfold loOf hiOf; omega
/-- the top half, wrapped to 64 bits with a sign -/
def top (s : Int) : Int := if s ≤ -9223372036854775809 then s + 18446744073709551616 else if 9223372036854775808 ≤ s then s - 18446744073709551616 else s
theorem top_eq (h1 h2 c : Int) (a : -9223372036854775808 ≤ h1 ∧ h1 ≤ 9223372036854775807) (b : -9223372036854775808 ≤ h2 ∧ h2 ≤ 9223372036854775807) (hc : 0 ≤ c ∧ c ≤ 1) :
    IntKind.i64.wrap ((IntKind.u64.wrap h1 + IntKind.u64.wrap h2 + c) % 18446744073709551616) = top (h1 + h2 + c) := by
  rw [IntKind.wrap_i64, IntKind.wrap_u64, IntKind.wrap_u64]
  unfold top
  split
  · omega
  · split <;> omega

set_option maxRecDepth 100000 in
set_option maxHeartbeats 1000000 in
theorem add_any (a b : Int) (w : World) (ha : Fits a) (hb : Fits b) :
    Calls Try.prog 12 #[W a, W b] w fun e w' => e = .returned (fitW (a + b)) ∧ Below w.heap.size w w' := by
  obtain ⟨e1, ⟨e2, e3⟩, e4⟩ := add_halves a b ha hb
  have hla := loOf_range a
  have hlb := loOf_range b
  have hra := hi_range ha
  have hrb := hi_range hb
  have k1 := fun w => call33 (loOf a) (loOf b) 0 hla.1 hlb.1 (by omega) (by omega) w
  rw [Int.add_zero, e1] at k1
  have hf : decide (Fits (a + b)) = decide (-9223372036854775808 ≤ hiOf (a + b) ∧ hiOf (a + b) ≤ 9223372036854775807) := by
    congr 1; unfold Fits hiOf; apply propext; omega
  generalize (loOf a + loOf b) / 18446744073709551616 = c at *
  have hwa : 0 ≤ IntKind.u64.wrap (hiOf a) := by rw [IntKind.wrap_u64]; omega
  have hwb : 0 ≤ IntKind.u64.wrap (hiOf b) := by rw [IntKind.wrap_u64]; omega
  have k2 := fun w => call33 (IntKind.u64.wrap (hiOf a)) (IntKind.u64.wrap (hiOf b)) c hwa hwb e2 e3 w
  have k3 := top_eq (hiOf a) (hiOf b) c hra hrb ⟨e2, e3⟩
  rw [← e4, IntWalk.i64_left] at k3
  have hfw : fitW (a + b) = .tuple #[.agg #[.int .i64 (if Fits (a + b) then hiOf (a + b) else 0), .int .u64 (if Fits (a + b) then loOf (a + b) else 0)], .bool (decide (Fits (a + b)))] := by
    unfold fitW W; split <;> rfl
  rw [hfw]
  unfold W
  have HS : hiOf (a + b) = hiOf a + hiOf b + c := e4
  have hfit : Fits (a + b) ↔ (-9223372036854775808 ≤ hiOf (a + b) ∧ hiOf (a + b) ≤ 9223372036854775807) := by unfold Fits hiOf; omega
  clear hf hfw e1 hwa hwb ha hb hla hlb
  generalize loOf (a + b) = L at *
  generalize hiOf (a + b) = S at *
  rcases (show (0 ≤ hiOf a ∧ 0 ≤ hiOf b ∧ S ≤ 9223372036854775807) ∨ (0 ≤ hiOf a ∧ 0 ≤ hiOf b ∧ 9223372036854775808 ≤ S) ∨ (0 ≤ hiOf a ∧ hiOf b < 0) ∨ (hiOf a < 0 ∧ 0 ≤ hiOf b) ∨ (hiOf a < 0 ∧ hiOf b < 0 ∧ -9223372036854775808 ≤ S) ∨ (hiOf a < 0 ∧ hiOf b < 0 ∧ S ≤ -9223372036854775809) from by omega) with ⟨g1, g2, g3⟩ | ⟨g1, g2, g3⟩ | ⟨g1, g2⟩ | ⟨g1, g2⟩ | ⟨g1, g2, g3⟩ | ⟨g1, g2, g3⟩
  · have wa := IntWalk.u64_in (hiOf a) (by omega)
    rw [wa] at k2 k3
    clear wa
    have wb := IntWalk.u64_in (hiOf b) (by omega)
    rw [wb] at k2 k3
    clear wb
    have hT : top S = S := by unfold top; (repeat' split) <;> omega
    rw [hT] at k3
    generalize (hiOf a + hiOf b + c) % 18446744073709551616 = R at k2 k3
    generalize (hiOf a + hiOf b + c) / 18446744073709551616 = c2 at k2
    have hF : Fits (a + b) := hfit.2 (by omega)
    rw [if_pos hF, if_pos hF, decide_eq_true hF]
    have hs : 0 ≤ S := by omega
    have hd : decide (S < 0) = false := by simp; omega
    clear hfit hF hT HS
    have da : decide (hiOf a < 0) = false := by simp; omega
    have db : decide (hiOf b < 0) = false := by simp; omega
    clear e4
    generalize hiOf a = H1 at *
    generalize hiOf b = H2 at *
    generalize loOf a = l1 at *
    generalize loOf b = l2 at *
    go_enter Try.func12, Try.ntmps12
    go_wp2
    all_goals exact bodyPost_ret (v := .tuple #[.agg #[.int .i64 S, .int .u64 L], .bool true]) (by simp [results, Try.results12, go_sem]) rfl ⟨rfl, (((((Below.refl _ _).alloc (Nat.le_refl _) _).alloc (by simp) _).alloc (by simp; omega) _).alloc (by simp; omega) _)⟩
  · have wa := IntWalk.u64_in (hiOf a) (by omega)
    rw [wa] at k2 k3
    clear wa
    have wb := IntWalk.u64_in (hiOf b) (by omega)
    rw [wb] at k2 k3
    clear wb
    have hT : top S = S - 18446744073709551616 := by unfold top; (repeat' split) <;> omega
    rw [hT] at k3
    generalize (hiOf a + hiOf b + c) % 18446744073709551616 = R at k2 k3
    generalize (hiOf a + hiOf b + c) / 18446744073709551616 = c2 at k2
    have hF : ¬ Fits (a + b) := fun h => by have := hfit.1 h; omega
    rw [if_neg hF, if_neg hF, decide_eq_false hF]
    obtain ⟨T, hTe⟩ : ∃ T, T = S - 18446744073709551616 := ⟨_, rfl⟩
    rw [← hTe] at k3
    have hTs : T < 0 := by omega
    clear hTe hfit hF hT HS
    have da : decide (hiOf a < 0) = false := by simp; omega
    have db : decide (hiOf b < 0) = false := by simp; omega
    clear e4
    generalize hiOf a = H1 at *
    generalize hiOf b = H2 at *
    generalize loOf a = l1 at *
    generalize loOf b = l2 at *
    go_enter Try.func12, Try.ntmps12
    go_wp2
    all_goals exact bodyPost_ret (v := .tuple #[.agg #[.int .i64 0, .int .u64 0], .bool false]) (by simp [results, Try.results12, go_sem]) rfl ⟨rfl, (((((Below.refl _ _).alloc (Nat.le_refl _) _).alloc (by simp) _).alloc (by simp; omega) _).alloc (by simp; omega) _)⟩
  · have wa := IntWalk.u64_in (hiOf a) (by omega)
    rw [wa] at k2 k3
    clear wa
    have hT : top S = S := by unfold top; (repeat' split) <;> omega
    rw [hT] at k3
    generalize (hiOf a + IntKind.u64.wrap (hiOf b) + c) % 18446744073709551616 = R at k2 k3
    generalize (hiOf a + IntKind.u64.wrap (hiOf b) + c) / 18446744073709551616 = c2 at k2
    have hF : Fits (a + b) := hfit.2 (by omega)
    rw [if_pos hF, if_pos hF, decide_eq_true hF]
    clear hfit hF hT HS
    have da : decide (hiOf a < 0) = false := by simp; omega
    have db : decide (hiOf b < 0) = true := by simp; omega
    clear e4
    generalize hiOf a = H1 at *
    generalize hiOf b = H2 at *
    generalize loOf a = l1 at *
    generalize loOf b = l2 at *
    go_enter Try.func12, Try.ntmps12
    go_wp2
    all_goals exact bodyPost_ret (v := .tuple #[.agg #[.int .i64 S, .int .u64 L], .bool true]) (by simp [results, Try.results12, go_sem]) rfl ⟨rfl, (((((Below.refl _ _).alloc (Nat.le_refl _) _).alloc (by simp) _).alloc (by simp; omega) _).alloc (by simp; omega) _)⟩
  · have wb := IntWalk.u64_in (hiOf b) (by omega)
    rw [wb] at k2 k3
    clear wb
    have hT : top S = S := by unfold top; (repeat' split) <;> omega
    rw [hT] at k3
    generalize (IntKind.u64.wrap (hiOf a) + hiOf b + c) % 18446744073709551616 = R at k2 k3
    generalize (IntKind.u64.wrap (hiOf a) + hiOf b + c) / 18446744073709551616 = c2 at k2
    have hF : Fits (a + b) := hfit.2 (by omega)
    rw [if_pos hF, if_pos hF, decide_eq_true hF]
    clear hfit hF hT HS
    have da : decide (hiOf a < 0) = true := by simp; omega
    have db : decide (hiOf b < 0) = false := by simp; omega
    clear e4
    generalize hiOf a = H1 at *
    generalize hiOf b = H2 at *
    generalize loOf a = l1 at *
    generalize loOf b = l2 at *
    go_enter Try.func12, Try.ntmps12
    go_wp2
    all_goals exact bodyPost_ret (v := .tuple #[.agg #[.int .i64 S, .int .u64 L], .bool true]) (by simp [results, Try.results12, go_sem]) rfl ⟨rfl, (((((Below.refl _ _).alloc (Nat.le_refl _) _).alloc (by simp) _).alloc (by simp; omega) _).alloc (by simp; omega) _)⟩
  · have hT : top S = S := by unfold top; (repeat' split) <;> omega
    rw [hT] at k3
    generalize (IntKind.u64.wrap (hiOf a) + IntKind.u64.wrap (hiOf b) + c) % 18446744073709551616 = R at k2 k3
    generalize (IntKind.u64.wrap (hiOf a) + IntKind.u64.wrap (hiOf b) + c) / 18446744073709551616 = c2 at k2
    have hF : Fits (a + b) := hfit.2 (by omega)
    rw [if_pos hF, if_pos hF, decide_eq_true hF]
    have hs : S < 0 := by omega
    have hd : decide (S < 0) = true := by simp; omega
    clear hfit hF hT HS
    have da : decide (hiOf a < 0) = true := by simp; omega
    have db : decide (hiOf b < 0) = true := by simp; omega
    clear e4
    generalize hiOf a = H1 at *
    generalize hiOf b = H2 at *
    generalize loOf a = l1 at *
    generalize loOf b = l2 at *
    go_enter Try.func12, Try.ntmps12
    go_wp2
    all_goals exact bodyPost_ret (v := .tuple #[.agg #[.int .i64 S, .int .u64 L], .bool true]) (by simp [results, Try.results12, go_sem]) rfl ⟨rfl, (((((Below.refl _ _).alloc (Nat.le_refl _) _).alloc (by simp) _).alloc (by simp; omega) _).alloc (by simp; omega) _)⟩
  · have hT : top S = S + 18446744073709551616 := by unfold top; (repeat' split) <;> omega
    rw [hT] at k3
    generalize (IntKind.u64.wrap (hiOf a) + IntKind.u64.wrap (hiOf b) + c) % 18446744073709551616 = R at k2 k3
    generalize (IntKind.u64.wrap (hiOf a) + IntKind.u64.wrap (hiOf b) + c) / 18446744073709551616 = c2 at k2
    have hF : ¬ Fits (a + b) := fun h => by have := hfit.1 h; omega
    rw [if_neg hF, if_neg hF, decide_eq_false hF]
    obtain ⟨T, hTe⟩ : ∃ T, T = S + 18446744073709551616 := ⟨_, rfl⟩
    rw [← hTe] at k3
    have hTs : 0 ≤ T := by omega
    have dT : decide (T < 0) = false := by simp; omega
    clear hTe hfit hF hT HS
    have da : decide (hiOf a < 0) = true := by simp; omega
    have db : decide (hiOf b < 0) = true := by simp; omega
    clear e4
    generalize hiOf a = H1 at *
    generalize hiOf b = H2 at *
    generalize loOf a = l1 at *
    generalize loOf b = l2 at *
    go_enter Try.func12, Try.ntmps12
    go_wp2
    all_goals exact bodyPost_ret (v := .tuple #[.agg #[.int .i64 0, .int .u64 0], .bool false]) (by simp [results, Try.results12, go_sem]) rfl ⟨rfl, (((((Below.refl _ _).alloc (Nat.le_refl _) _).alloc (by simp) _).alloc (by simp; omega) _).alloc (by simp; omega) _)⟩
end Go.Proofs.Ytdamilkofdclbaa
