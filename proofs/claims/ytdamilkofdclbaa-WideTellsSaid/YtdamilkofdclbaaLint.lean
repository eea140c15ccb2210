/- Int of the reference. -/
import Derived.Test.YtdamilkofdclbaaLeq
import Derived.Test.YtdamilkofdclbaaLess
import Derived.Lib.QuietBelow
namespace Go.Proofs.Ytdamilkofdclbaa
open Go.RowKit
set_option linter.unusedVariables false

def sgn64 (a : Int) : Int := wrap64 (lw a 4)
theorem sgn64_small (a : Int) : Small (sgn64 a) := by unfold sgn64 wrap64 Small; omega
theorem sgn64_same {a : Int} (h : Small a) : sgn64 a = a := by unfold Small at h; unfold sgn64 lw wrap64; rw [pw4]; omega
theorem small_mid {a : Int} (h : Small a) : Mid a := by unfold Small at h; unfold Mid; omega
theorem smallV_yes {a : Int} (hm : Mid a) (h : ∀ i, i < 10 → dg (sgn64 a) i = dg a i) : smallV a = .tuple #[.int .i64 (sgn64 a), .bool true] := by
  have e := mid_tell (small_mid (sgn64_small a)) hm h
  have hf : Small a := e ▸ sgn64_small a
  unfold smallV
  rw [if_pos hf, decide_eq_true hf, e]
theorem smallV_no {a : Int} (hm : Mid a) (h : ¬ ∀ i, i < 10 → dg (sgn64 a) i = dg a i) : smallV a = .tuple #[.int .i64 0, .bool false] := by
  have hf : ¬ Small a := fun hf => h (by rw [sgn64_same hf]; intro _ _; rfl)
  unfold smallV
  rw [if_neg hf, decide_eq_false hf]
set_option maxRecDepth 100000 in
set_option maxHeartbeats 2000000 in
theorem lint_any (a : Int) (w : World) (h : Mid a) :
    Calls Try.prog 22 #[L a] w fun e w' => e = .returned (smallV a) ∧ Below w.heap.size w w' := by
  unfold L
  have HM := Lib.hid h; clear h
  have HA := Lib.hid (At.new w (dg a) rfl)
  have H0 := Lib.hid ((Below.refl w.heap.size w).alloc (Nat.le_refl _) (.cells (arr (dg a)) 30))
  go_enter Try.func22, Try.ntmps22
  go_wp2
  generalize w.alloc (.cells (arr (dg a)) 30) = w0 at *
  go_loop [4, 5] (fun hv i => ∃ k : Nat, k ≤ 4 ∧ i = .int .i64 k ∧ hv = .int .u64 (lw a k)) (fun _ i => 4 - (intOf i).toNat)
  case atStart => exact ⟨0, by omega, rfl, by rw [lw_zero]⟩
  case round =>
    obtain ⟨k, hk, rfl, rfl⟩ := hrel
    by_cases hlt : k < 4
    · have ca := HA.out.cell (show k < 10 by omega)
      have r1 := dg_range a k
      have i0 : (0 : Int) ≤ (k : Int) := by omega
      have i1 : (k : Int) < 10 := by omega
      have S1 := Lib.hid (or_pw a k hlt)
      go_wp2
      go_round
      case rel => exact ⟨k + 1, by omega, by go_num, by rw [S1.out]⟩
      case measure => simp [intOf]; omega
    · obtain rfl : k = 4 := by omega
      have hn := sgn64_small a
      have kof := fun w => lofint_any (sgn64 a) w hn.1 hn.2
      have hcmp := (show (¬ ∀ i, i < 10 → dg (sgn64 a) i = dg a i) ∨ (∀ i, i < 10 → dg (sgn64 a) i = dg a i) from by
        by_cases hh : ∀ i, i < 10 → dg (sgn64 a) i = dg a i
        · exact Or.inr hh
        · exact Or.inl hh)
      have hz : wrap64 (lw a 4) = sgn64 a := rfl
      have r1 : 0 ≤ lw a 4 ∧ lw a 4 ≤ 18446744073709551615 := by have := lw_range a 4; rw [pw4] at this; omega
      have HN := Lib.hid hn; clear hn
      generalize lw a 4 = u at *
      have HZ := Lib.hid hz; clear hz
      go_wp2
      have HC := Lib.hid (fun d os => Calls.regrown_of (kof (Sort.grow (redrawn w0 d) os)))
      rw [← HZ.out] at HC
      have a0 := cell_regrown (HA.out.cell (show 0 < 10 by omega))
      have a1 := cell_regrown (HA.out.cell (show 1 < 10 by omega))
      have a2 := cell_regrown (HA.out.cell (show 2 < 10 by omega))
      have a3 := cell_regrown (HA.out.cell (show 3 < 10 by omega))
      have a4 := cell_regrown (HA.out.cell (show 4 < 10 by omega))
      have a5 := cell_regrown (HA.out.cell (show 5 < 10 by omega))
      have a6 := cell_regrown (HA.out.cell (show 6 < 10 by omega))
      have a7 := cell_regrown (HA.out.cell (show 7 < 10 by omega))
      have a8 := cell_regrown (HA.out.cell (show 8 < 10 by omega))
      have a9 := cell_regrown (HA.out.cell (show 9 < 10 by omega))
      clear kof
      rcases hcmp with hcmp | hcmp
      · have hq : ∀ w, (Op.equalIn 10000 30 (.agg (arr (dg (sgn64 a)))) (.agg #[.int .i64 (dg a 0), .int .i64 (dg a 1), .int .i64 (dg a 2), .int .i64 (dg a 3), .int .i64 (dg a 4), .int .i64 (dg a 5), .int .i64 (dg a 6), .int .i64 (dg a 7), .int .i64 (dg a 8), .int .i64 (dg a 9)])).run Try.prog w = .ok false w := fun w => by rw [← arr_ten]; exact ne_arr hcmp w
        have HQ := Lib.hid hcmp; clear hcmp
        unfold L at HC
        rw [← HZ.out] at hq
        refine wp_region_quiet_below (by kernel_rfl) (by kernel_rfl) ?_
        repeat (go_big_quiet_step (with_reducible exact HC.out _ _))
        refine wpQuiet_nil ?_
        intro _ hw'
        obtain ⟨⟨dq, osq⟩, hw''⟩ := hw'
        subst hw''
        clear a0 a1 a2 a3 a4 a5 a6 a7 a8 a9 hq HC
        have hb3 := below_regrown w0 dq osq
        have HB3 := Lib.hid (H0.out.trans (hb3.mono H0.out.size))
        generalize Sort.grow (redrawn w0 dq) osq = W3 at *
        clear hb3
        go_wp2
        go_ret2
        exact ⟨by rw [smallV_no HM.out HQ.out]; rfl, HB3.out⟩
      · have hq : ∀ w, (Op.equalIn 10000 30 (.agg (arr (dg (sgn64 a)))) (.agg #[.int .i64 (dg a 0), .int .i64 (dg a 1), .int .i64 (dg a 2), .int .i64 (dg a 3), .int .i64 (dg a 4), .int .i64 (dg a 5), .int .i64 (dg a 6), .int .i64 (dg a 7), .int .i64 (dg a 8), .int .i64 (dg a 9)])).run Try.prog w = .ok true w := fun w => by rw [← arr_ten]; exact eq_arr hcmp w
        have HQ := Lib.hid hcmp; clear hcmp
        unfold L at HC
        rw [← HZ.out] at hq
        refine wp_region_quiet_below (by kernel_rfl) (by kernel_rfl) ?_
        repeat (go_big_quiet_step (with_reducible exact HC.out _ _))
        refine wpQuiet_nil ?_
        intro _ hw'
        obtain ⟨⟨dq, osq⟩, hw''⟩ := hw'
        subst hw''
        clear a0 a1 a2 a3 a4 a5 a6 a7 a8 a9 hq HC
        have hb3 := below_regrown w0 dq osq
        have HB3 := Lib.hid (H0.out.trans (hb3.mono H0.out.size))
        generalize Sort.grow (redrawn w0 dq) osq = W3 at *
        clear hb3
        go_wp2
        go_ret2
        exact ⟨by rw [smallV_yes HM.out HQ.out, ← HZ.out]; rfl, HB3.out⟩
end Go.Proofs.Ytdamilkofdclbaa
