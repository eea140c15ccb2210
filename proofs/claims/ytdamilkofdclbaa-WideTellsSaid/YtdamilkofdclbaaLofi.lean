/- OfInt of the reference. -/
import Derived.Test.YtdamilkofdclbaaArr
namespace Go.Proofs.Ytdamilkofdclbaa
open Go.RowKit
set_option linter.unusedVariables false

theorem pw_mono {i k : Nat} (h : i ≤ k) : pw i ≤ pw k := by
  obtain ⟨d, rfl⟩ : ∃ d, k = i + d := ⟨k - i, by omega⟩
  rw [pw_add]
  have h1 := pw_pos i
  have h2 := pw_pos d
  have := Int.mul_le_mul_of_nonneg_left (show (1 : Int) ≤ pw d by omega) (Int.le_of_lt h1)
  omega
theorem dg_high {n : Int} {k : Nat} (h : 0 ≤ n) (h2 : n < pw k) : dg n k = 0 := by unfold dg; rw [Int.ediv_eq_zero_of_lt h h2]; rfl
theorem dg_neg {n : Int} {k : Nat} (h : n < 0) (h2 : -pw k ≤ n) : dg n k = 65535 := by
  have := not_dig (-1 - n) k
  rw [dg_high (by omega) (by omega)] at this
  rw [show -1 - (-1 - n) = n by omega] at this
  omega
theorem pw4 : pw 4 = 18446744073709551616 := rfl
theorem pw8 : pw 8 = 340282366920938463463374607431768211456 := rfl
theorem shift_pw (k : Nat) : (2 : Int) ^ (16 * k) = pw k := by unfold pw; rw [Int.pow_mul]; rfl
theorem dg_low64 (n : Int) (k : Nat) (h : k < 4) : n % 18446744073709551616 / pw k % 65536 = dg n k := by
  have := dg_lw n 1 4 k h
  rw [Int.mul_one, Int.mul_one] at this
  rw [← this]; unfold dg lw; rw [pw4]
theorem and_u64 (x : Int) : bits BinOp.and IntKind.u64 x 65535 = x % 65536 := by
  show IntKind.u64.wrap ((BitVec.ofInt 64 x &&& BitVec.ofInt 64 65535).toNat : Int) = _
  have e : (BitVec.ofInt 64 65535).toNat = 2 ^ 16 - 1 := by decide
  rw [BitVec.toNat_and, e, Nat.and_two_pow_sub_one_eq_mod, BitVec.toNat_ofInt, IntKind.wrap_u64]
  omega
theorem wrap64_dig (x : Int) : wrap64 (x % 65536) = x % 65536 := by unfold wrap64; omega
theorem shr_dig (n : Int) (k : Nat) (h : k < 4) : wrap64 (bits BinOp.and IntKind.u64 (IntKind.u64.wrap n / 2 ^ (16 * k)) 65535) = dg n k := by
  rw [and_u64, wrap64_dig, shift_pw, IntKind.wrap_u64, dg_low64 n k h]
/-- of a number that is not below 0 the wrap is none -/
theorem shr_dig' (n : Int) (k : Nat) (h : k < 4) (h0 : 0 ≤ n) (h1 : n ≤ 9223372036854775807) : wrap64 (bits BinOp.and IntKind.u64 (n / 2 ^ (16 * k)) 65535) = dg n k := by
  have := shr_dig n k h
  rwa [IntKind.wrap_u64, Int.emod_eq_of_lt h0 (by omega)] at this
theorem dg64_high {n : Int} {k : Nat} (h4 : 4 ≤ k) (h2 : n ≤ 9223372036854775807) (h0 : 0 ≤ n) : dg n k = 0 :=
  dg_high h0 (by have := pw_mono h4; rw [pw4] at this; omega)
theorem dg64_neg {n : Int} {k : Nat} (h4 : 4 ≤ k) (h2 : -9223372036854775808 ≤ n) (h0 : n < 0) : dg n k = 65535 :=
  dg_neg h0 (by have := pw_mono h4; rw [pw4] at this; omega)

set_option maxRecDepth 100000 in
set_option maxHeartbeats 1000000 in
theorem lofint_any (n : Int) (w : World) (h1 : -9223372036854775808 ≤ n) (h2 : n ≤ 9223372036854775807) :
    Calls Try.prog 20 #[.int .i64 n] w fun e w' => e = .returned (L n) ∧ Below w.heap.size w w' := by
  unfold L
  have hz := zero30
  have HR := Lib.hid ((At.new w (fun _ => 0) rfl).alloc (.cells (arr fun _ => 0) 30))
  have HO := Lib.hid (At.new (w.alloc (.cells (arr fun _ => 0) 30)) (fun _ => 0) (k := w.heap.size + 1) (by simp))
  have H0 := Lib.hid (show Below w.heap.size w ((w.alloc (.cells (arr fun _ => 0) 30)).alloc (.cells (arr fun _ => 0) 30)) from ((Below.refl _ _).alloc (Nat.le_refl _) _).alloc (by simp) _)
  go_enter Try.func20, Try.ntmps20
  go_wp2
  clear hz
  generalize (w.alloc (.cells (arr fun _ => 0) 30)).alloc (.cells (arr fun _ => 0) 30) = w0 at *
  go_loopw [4] (fun i wr => ∃ k : Nat, k ≤ 10 ∧ i = .int .i64 k ∧ At wr w.heap.size (fun _ => 0) ∧ At wr (w.heap.size + 1) (upTo n k) ∧ Below w.heap.size w wr) (fun i _ => 10 - (intOf i).toNat)
  case atStart => exact ⟨0, by omega, rfl, HR.out, HO.out.congr fun i _ => upTo_none _ i, H0.out⟩
  case round =>
    clear HR HO H0
    obtain ⟨k, hk, rfl, hR, hO, hb⟩ := hrel
    have HR := Lib.hid hR; have HO := Lib.hid hO; have H0 := Lib.hid hb
    clear hR hO hb
    by_cases hlt : k < 10
    · have co := HO.out.cell hlt
      have fo := HO.out.frozen k
      have i0 : (0 : Int) ≤ (k : Int) := by omega
      have i1 : (k : Int) < 10 := by omega
      have hB : w.heap.size ≤ w.heap.size + 1 := by omega
      by_cases hn : n < 0 <;> by_cases h4 : k < 4
      · go_wp2
        go_roundw
        case rel =>
          refine ⟨k + 1, by omega, by go_num, ((HR.out.other (by omega) _ _).other (by omega) _ _).other (by omega) _ _, (((HO.out.set _ _).set _ _).set _ _).congr fun i _ => ?_, ((H0.out.setCell hB _).setCell hB _).setCell hB _⟩
          rw [← upTo_succ n k _ (shr_dig n k h4) i]; by_cases e : i = k <;> simp [e]
        case measure => simp [intOf]; omega
      · go_wp2
        go_roundw
        case rel =>
          refine ⟨k + 1, by omega, by go_num, ((HR.out.other (by omega) _ _).other (by omega) _ _), (((HO.out.set _ _).set _ _)).congr fun i _ => ?_, ((H0.out.setCell hB _).setCell hB _)⟩
          rw [← upTo_succ n k _ (dg64_neg (by omega) h1 hn).symm i]; by_cases e : i = k <;> simp [e]
        case measure => simp [intOf]; omega
      · go_wp2
        go_roundw
        case rel =>
          refine ⟨k + 1, by omega, by go_num, ((HR.out.other (by omega) _ _).other (by omega) _ _), (((HO.out.set _ _).set _ _)).congr fun i _ => ?_, ((H0.out.setCell hB _).setCell hB _)⟩
          rw [← upTo_succ n k _ (shr_dig' n k h4 (by omega) h2) i]; by_cases e : i = k <;> simp [e]
        case measure => simp [intOf]; omega
      · go_wp2
        go_roundw
        case rel =>
          refine ⟨k + 1, by omega, by go_num, (HR.out.other (by omega) _ _), ((HO.out.set _ _)).congr fun i _ => ?_, (H0.out.setCell hB _)⟩
          rw [← upTo_succ n k _ (dg64_high (by omega) h2 (by omega)).symm i]
        case measure => simp [intOf]; omega
    · obtain rfl : k = 10 := by omega
      have HO2 := Lib.hid (HO.out.congr fun i hi => upTo_all n i hi)
      clear HO
      go_wp2_with (first | (refine wpList_load_row rfl 30 (.tmp 3) rfl (w.heap.size + 1) rfl 30 _ _ _ HO2.out Try.underlying30 rfl (by rw [arr_size]; exact info30) ?_) | (refine wpList_store_row rfl 30 (.tmp 2) (.tmp 27) rfl w.heap.size (arr (dg n)) rfl rfl 30 _ HR.out (by rw [arr_size]; exact info30) (by rw [arr_size, arr_size]) (arr_one _) ?_))
      refine bodyPost_ret (v := .agg (arr (dg n))) (results_cell_row rfl _ _ w.heap.size 30 _ _ _ rfl (HR.out.row _) Try.underlying30 rfl (by rw [arr_size]; exact info30)) rfl ⟨rfl, ?_⟩
      exact below_row H0.out (by omega) _
end Go.Proofs.Ytdamilkofdclbaa
