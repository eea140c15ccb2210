/- The contracts of Sub, Less, Int. -/
import Derived.Test.YtdamilkofdclbaaWide
namespace Go.Proofs.Ytdamilkofdclbaa
open Go.RowKit
set_option linter.unusedVariables false

theorem sub_halves (a b : Int) (ha : Fits a) (hb : Fits b) :
    (loOf a - loOf b) % 18446744073709551616 = loOf (a - b) ∧
    hiOf (a - b) = hiOf a - hiOf b - (if loOf a < loOf b then 1 else 0) := by
  unfold loOf hiOf; refine ⟨by omega, ?_⟩; split <;> omega
theorem top_sub (h1 h2 c : Int) (a : -9223372036854775808 ≤ h1 ∧ h1 ≤ 9223372036854775807) (b : -9223372036854775808 ≤ h2 ∧ h2 ≤ 9223372036854775807) (hc : 0 ≤ c ∧ c ≤ 1) :
    IntKind.i64.wrap ((IntKind.u64.wrap h1 - IntKind.u64.wrap h2 - c) % 18446744073709551616) = top (h1 - h2 - c) := by
  rw [IntKind.wrap_i64, IntKind.wrap_u64, IntKind.wrap_u64]
  unfold top
  split
  · omega
  · split <;> omega

set_option maxRecDepth 100000 in
set_option maxHeartbeats 1000000 in
theorem sub_any (a b : Int) (w : World) (ha : Fits a) (hb : Fits b) :
    Calls Try.prog 13 #[W a, W b] w fun e w' => e = .returned (fitW (a - b)) ∧ Below w.heap.size w w' := by
  obtain ⟨e1, e4⟩ := sub_halves a b ha hb
  have hla := loOf_range a
  have hlb := loOf_range b
  have hra := hi_range ha
  have hrb := hi_range hb
  have k1 := fun w => call34 (loOf a) (loOf b) 0 hla.1 hlb.1 hlb.2 (by omega) (by omega) w
  rw [Int.sub_zero, Int.add_zero, e1] at k1
  obtain ⟨c, hc⟩ : ∃ c : Int, c = if loOf a < loOf b then 1 else 0 := ⟨_, rfl⟩
  rw [← hc] at k1 e4
  have e2 : 0 ≤ c := by rw [hc]; split <;> omega
  have e3 : c ≤ 1 := by rw [hc]; split <;> omega
  clear hc
  have hwa : 0 ≤ IntKind.u64.wrap (hiOf a) := by rw [IntKind.wrap_u64]; omega
  have hwb : 0 ≤ IntKind.u64.wrap (hiOf b) := by rw [IntKind.wrap_u64]; omega
  have hwb2 : IntKind.u64.wrap (hiOf b) ≤ 18446744073709551615 := by rw [IntKind.wrap_u64]; omega
  have k2 := fun w => call34 (IntKind.u64.wrap (hiOf a)) (IntKind.u64.wrap (hiOf b)) c hwa hwb hwb2 e2 e3 w
  have k3 := top_sub (hiOf a) (hiOf b) c hra hrb ⟨e2, e3⟩
  rw [← e4, IntWalk.i64_left] at k3
  have hfw : fitW (a - b) = .tuple #[.agg #[.int .i64 (if Fits (a - b) then hiOf (a - b) else 0), .int .u64 (if Fits (a - b) then loOf (a - b) else 0)], .bool (decide (Fits (a - b)))] := by
    unfold fitW W; split <;> rfl
  rw [hfw]
  unfold W
  have hfit : Fits (a - b) ↔ (-9223372036854775808 ≤ hiOf (a - b) ∧ hiOf (a - b) ≤ 9223372036854775807) := by unfold Fits hiOf; omega
  clear hfw e1 hwa hwb hwb2 ha hb hla hlb
  generalize loOf (a - b) = L at *
  generalize hiOf (a - b) = S at *
  rcases (show (0 ≤ hiOf a ∧ hiOf b < 0 ∧ S ≤ 9223372036854775807) ∨ (0 ≤ hiOf a ∧ hiOf b < 0 ∧ 9223372036854775808 ≤ S) ∨ (0 ≤ hiOf a ∧ 0 ≤ hiOf b) ∨ (hiOf a < 0 ∧ hiOf b < 0) ∨ (hiOf a < 0 ∧ 0 ≤ hiOf b ∧ -9223372036854775808 ≤ S) ∨ (hiOf a < 0 ∧ 0 ≤ hiOf b ∧ S ≤ -9223372036854775809) from by omega) with ⟨g1, g2, g3⟩ | ⟨g1, g2, g3⟩ | ⟨g1, g2⟩ | ⟨g1, g2⟩ | ⟨g1, g2, g3⟩ | ⟨g1, g2, g3⟩
  · have wa := IntWalk.u64_in (hiOf a) (by omega)
    rw [wa] at k2 k3
    clear wa
    have hT : top S = S := by unfold top; (repeat' split) <;> omega
    rw [hT] at k3
    generalize (hiOf a - IntKind.u64.wrap (hiOf b) - c) % 18446744073709551616 = R at k2 k3
    generalize (if hiOf a < IntKind.u64.wrap (hiOf b) + c then (1 : Int) else 0) = c2 at k2
    have hF : Fits (a - b) := hfit.2 (by omega)
    rw [if_pos hF, if_pos hF, decide_eq_true hF]
    have hs : 0 ≤ S := by omega
    have hd : decide (S < 0) = false := by simp; omega
    clear hfit hF hT
    have da : decide (hiOf a < 0) = false := by simp; omega
    have db : decide (hiOf b < 0) = true := by simp; omega
    clear e4
    generalize hiOf a = H1 at *
    generalize hiOf b = H2 at *
    generalize loOf a = l1 at *
    generalize loOf b = l2 at *
    go_enter Try.func13, Try.ntmps13
    go_wp2
    all_goals exact bodyPost_ret (v := .tuple #[.agg #[.int .i64 S, .int .u64 L], .bool true]) (by simp [results, Try.results13, go_sem]) rfl ⟨rfl, (((((Below.refl _ _).alloc (Nat.le_refl _) _).alloc (by simp) _).alloc (by simp; omega) _).alloc (by simp; omega) _)⟩
  · have wa := IntWalk.u64_in (hiOf a) (by omega)
    rw [wa] at k2 k3
    clear wa
    have hT : top S = S - 18446744073709551616 := by unfold top; (repeat' split) <;> omega
    rw [hT] at k3
    generalize (hiOf a - IntKind.u64.wrap (hiOf b) - c) % 18446744073709551616 = R at k2 k3
    generalize (if hiOf a < IntKind.u64.wrap (hiOf b) + c then (1 : Int) else 0) = c2 at k2
    have hF : ¬ Fits (a - b) := fun h => by have := hfit.1 h; omega
    rw [if_neg hF, if_neg hF, decide_eq_false hF]
    obtain ⟨T, hTe⟩ : ∃ T, T = S - 18446744073709551616 := ⟨_, rfl⟩
    rw [← hTe] at k3
    have hTs : T < 0 := by omega
    have dT : decide (T < 0) = true := by simp; omega
    clear hTe hfit hF hT
    have da : decide (hiOf a < 0) = false := by simp; omega
    have db : decide (hiOf b < 0) = true := by simp; omega
    clear e4
    generalize hiOf a = H1 at *
    generalize hiOf b = H2 at *
    generalize loOf a = l1 at *
    generalize loOf b = l2 at *
    go_enter Try.func13, Try.ntmps13
    go_wp2
    all_goals exact bodyPost_ret (v := .tuple #[.agg #[.int .i64 0, .int .u64 0], .bool false]) (by simp [results, Try.results13, go_sem]) rfl ⟨rfl, (((((Below.refl _ _).alloc (Nat.le_refl _) _).alloc (by simp) _).alloc (by simp; omega) _).alloc (by simp; omega) _)⟩
  · have wa := IntWalk.u64_in (hiOf a) (by omega)
    rw [wa] at k2 k3
    clear wa
    have wb := IntWalk.u64_in (hiOf b) (by omega)
    rw [wb] at k2 k3
    clear wb
    have hT : top S = S := by unfold top; (repeat' split) <;> omega
    rw [hT] at k3
    generalize (hiOf a - hiOf b - c) % 18446744073709551616 = R at k2 k3
    generalize (if hiOf a < hiOf b + c then (1 : Int) else 0) = c2 at k2
    have hF : Fits (a - b) := hfit.2 (by omega)
    rw [if_pos hF, if_pos hF, decide_eq_true hF]
    clear hfit hF hT
    have da : decide (hiOf a < 0) = false := by simp; omega
    have db : decide (hiOf b < 0) = false := by simp; omega
    clear e4
    generalize hiOf a = H1 at *
    generalize hiOf b = H2 at *
    generalize loOf a = l1 at *
    generalize loOf b = l2 at *
    go_enter Try.func13, Try.ntmps13
    go_wp2
    all_goals exact bodyPost_ret (v := .tuple #[.agg #[.int .i64 S, .int .u64 L], .bool true]) (by simp [results, Try.results13, go_sem]) rfl ⟨rfl, (((((Below.refl _ _).alloc (Nat.le_refl _) _).alloc (by simp) _).alloc (by simp; omega) _).alloc (by simp; omega) _)⟩
  · have hT : top S = S := by unfold top; (repeat' split) <;> omega
    rw [hT] at k3
    generalize (IntKind.u64.wrap (hiOf a) - IntKind.u64.wrap (hiOf b) - c) % 18446744073709551616 = R at k2 k3
    generalize (if IntKind.u64.wrap (hiOf a) < IntKind.u64.wrap (hiOf b) + c then (1 : Int) else 0) = c2 at k2
    have hF : Fits (a - b) := hfit.2 (by omega)
    rw [if_pos hF, if_pos hF, decide_eq_true hF]
    clear hfit hF hT
    have da : decide (hiOf a < 0) = true := by simp; omega
    have db : decide (hiOf b < 0) = true := by simp; omega
    clear e4
    generalize hiOf a = H1 at *
    generalize hiOf b = H2 at *
    generalize loOf a = l1 at *
    generalize loOf b = l2 at *
    go_enter Try.func13, Try.ntmps13
    go_wp2
    all_goals exact bodyPost_ret (v := .tuple #[.agg #[.int .i64 S, .int .u64 L], .bool true]) (by simp [results, Try.results13, go_sem]) rfl ⟨rfl, (((((Below.refl _ _).alloc (Nat.le_refl _) _).alloc (by simp) _).alloc (by simp; omega) _).alloc (by simp; omega) _)⟩
  · have wb := IntWalk.u64_in (hiOf b) (by omega)
    rw [wb] at k2 k3
    clear wb
    have hT : top S = S := by unfold top; (repeat' split) <;> omega
    rw [hT] at k3
    generalize (IntKind.u64.wrap (hiOf a) - hiOf b - c) % 18446744073709551616 = R at k2 k3
    generalize (if IntKind.u64.wrap (hiOf a) < hiOf b + c then (1 : Int) else 0) = c2 at k2
    have hF : Fits (a - b) := hfit.2 (by omega)
    rw [if_pos hF, if_pos hF, decide_eq_true hF]
    have hs : S < 0 := by omega
    have hd : decide (S < 0) = true := by simp; omega
    clear hfit hF hT
    have da : decide (hiOf a < 0) = true := by simp; omega
    have db : decide (hiOf b < 0) = false := by simp; omega
    clear e4
    generalize hiOf a = H1 at *
    generalize hiOf b = H2 at *
    generalize loOf a = l1 at *
    generalize loOf b = l2 at *
    go_enter Try.func13, Try.ntmps13
    go_wp2
    all_goals exact bodyPost_ret (v := .tuple #[.agg #[.int .i64 S, .int .u64 L], .bool true]) (by simp [results, Try.results13, go_sem]) rfl ⟨rfl, (((((Below.refl _ _).alloc (Nat.le_refl _) _).alloc (by simp) _).alloc (by simp; omega) _).alloc (by simp; omega) _)⟩
  · have wb := IntWalk.u64_in (hiOf b) (by omega)
    rw [wb] at k2 k3
    clear wb
    have hT : top S = S + 18446744073709551616 := by unfold top; (repeat' split) <;> omega
    rw [hT] at k3
    generalize (IntKind.u64.wrap (hiOf a) - hiOf b - c) % 18446744073709551616 = R at k2 k3
    generalize (if IntKind.u64.wrap (hiOf a) < hiOf b + c then (1 : Int) else 0) = c2 at k2
    have hF : ¬ Fits (a - b) := fun h => by have := hfit.1 h; omega
    rw [if_neg hF, if_neg hF, decide_eq_false hF]
    obtain ⟨T, hTe⟩ : ∃ T, T = S + 18446744073709551616 := ⟨_, rfl⟩
    rw [← hTe] at k3
    have hTs : 0 ≤ T := by omega
    have dT : decide (T < 0) = false := by simp; omega
    clear hTe hfit hF hT
    have da : decide (hiOf a < 0) = true := by simp; omega
    have db : decide (hiOf b < 0) = false := by simp; omega
    clear e4
    generalize hiOf a = H1 at *
    generalize hiOf b = H2 at *
    generalize loOf a = l1 at *
    generalize loOf b = l2 at *
    go_enter Try.func13, Try.ntmps13
    go_wp2
    all_goals exact bodyPost_ret (v := .tuple #[.agg #[.int .i64 0, .int .u64 0], .bool false]) (by simp [results, Try.results13, go_sem]) rfl ⟨rfl, (((((Below.refl _ _).alloc (Nat.le_refl _) _).alloc (by simp) _).alloc (by simp; omega) _).alloc (by simp; omega) _)⟩
end Go.Proofs.Ytdamilkofdclbaa
