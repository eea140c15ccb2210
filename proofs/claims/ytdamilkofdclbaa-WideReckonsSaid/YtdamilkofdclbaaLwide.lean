/- Wide, Int of the reference. -/
import Derived.Test.YtdamilkofdclbaaLeq
import Derived.Test.YtdamilkofdclbaaLess
import Derived.RegionTactic
import Derived.ChangeAlike
import Derived.Lib.QuietBelow
namespace Go.Proofs.Ytdamilkofdclbaa
open Go.RowKit
set_option linter.unusedVariables false

theorem lw_four_range (a : Int) : 0 ≤ lw a 4 ∧ lw a 4 ≤ 18446744073709551615 := by have := lw_range a 4; rw [pw4] at this; omega
theorem fitW_yes {a : Int} (hm : Mid a) (h : ∀ i, i < 10 → dg (sgn128 a) i = dg a i) : fitW a = .tuple #[.agg #[.int .i64 (hiOf (sgn128 a)), .int .u64 (loOf (sgn128 a))], .bool true] := by
  have e := mid_tell (fits_mid (sgn_fits a)) hm h
  have hf : Fits a := e ▸ sgn_fits a
  unfold fitW
  rw [if_pos hf, decide_eq_true hf, e]; rfl
theorem fitW_no {a : Int} (hm : Mid a) (h : ¬ ∀ i, i < 10 → dg (sgn128 a) i = dg a i) : fitW a = .tuple #[.agg #[.int .i64 0, .int .u64 0], .bool false] := by
  have hf : ¬ Fits a := fun hf => h (by rw [sgn_same hf]; intro _ _; rfl)
  unfold fitW
  rw [if_neg hf, decide_eq_false hf]; rfl
set_option maxRecDepth 100000 in
set_option maxHeartbeats 2000000 in
theorem lwide_any (a : Int) (w : World) (h : Mid a) :
    Calls Try.prog 14 #[L a] w fun e w' => e = .returned (fitW a) ∧ Below w.heap.size w w' := by
  unfold L
  have HM := Lib.hid h; clear h
  have HA := Lib.hid ((((At.new w (dg a) rfl).alloc (.cells #[.int .i64 0, .int .u64 0] 24)).alloc (.cells #[.int .i64 0, .int .u64 0] 24)))
  have H0 := Lib.hid (below_three w (.cells (arr (dg a)) 30) (.cells #[.int .i64 0, .int .u64 0] 24) (.cells #[.int .i64 0, .int .u64 0] 24))
  have HR := Lib.hid (show (((w.alloc (.cells (arr (dg a)) 30)).alloc (.cells #[.int .i64 0, .int .u64 0] 24)).alloc (.cells #[.int .i64 0, .int .u64 0] 24)).heap[w.heap.size + 1]? = some (.cells #[.int .i64 0, .int .u64 0] 24 (0, 0)) from by
    rw [heap_alloc_old _ _ (by simp)]
    have := heap_alloc_new (w.alloc (.cells (arr (dg a)) 30)) (.cells #[.int .i64 0, .int .u64 0] 24)
    simpa using this)
  have HO := Lib.hid (show (((w.alloc (.cells (arr (dg a)) 30)).alloc (.cells #[.int .i64 0, .int .u64 0] 24)).alloc (.cells #[.int .i64 0, .int .u64 0] 24)).heap[w.heap.size + 1 + 1]? = some (.cells #[.int .i64 0, .int .u64 0] 24 (0, 0)) from by
    have := heap_alloc_new ((w.alloc (.cells (arr (dg a)) 30)).alloc (.cells #[.int .i64 0, .int .u64 0] 24)) (.cells #[.int .i64 0, .int .u64 0] 24)
    simpa using this)
  go_enter Try.func14, Try.ntmps14
  go_wp2
  generalize ((w.alloc (.cells (arr (dg a)) 30)).alloc (.cells #[.int .i64 0, .int .u64 0] 24)).alloc (.cells #[.int .i64 0, .int .u64 0] 24) = w0 at *
  go_loopw [5, 6] (fun hv i wr => ∃ k : Nat, k ≤ 4 ∧ i = .int .i64 k ∧ hv = .int .u64 (lw (a / pw 4) k) ∧ At wr w.heap.size (dg a) ∧ wr.heap[w.heap.size + 1]? = some (.cells #[.int .i64 0, .int .u64 0] 24 (0, 0)) ∧ wr.heap[w.heap.size + 1 + 1]? = some (.cells #[.int .i64 0, .int .u64 (lw a k)] 24 (0, 0)) ∧ Below w.heap.size w wr) (fun _ i _ => 4 - (intOf i).toNat)
  case atStart => exact ⟨0, by omega, rfl, by rw [lw_zero], HA.out, HR.out, by rw [lw_zero]; exact HO.out, H0.out⟩
  case round =>
    clear HR H0 HA HO
    obtain ⟨k, hk, rfl, rfl, hA, hR, hO, hb⟩ := hrel
    have HA := Lib.hid hA; have HR := Lib.hid hR; have HO := Lib.hid hO; have H0 := Lib.hid hb
    clear hA hR hO hb
    have c0 : wr.cell? ⟨w.heap.size + 1 + 1, 0, none⟩ = some (.int .i64 0) := (cell_of_row _ _ _ _ _ _ HO.out).trans rfl
    have c1 : wr.cell? ⟨w.heap.size + 1 + 1, 1, none⟩ = some (.int .u64 (lw a k)) := (cell_of_row _ _ _ _ _ _ HO.out).trans rfl
    by_cases hlt : k < 4
    · have ca := HA.out.cell (show k < 10 by omega)
      have cb := HA.out.cell (show k + 4 < 10 by omega)
      have f1 : wr.frozen? ⟨w.heap.size + 1 + 1, 1, none⟩ = false := frozen_of_row _ _ _ _ _ HO.out
      have r1 := dg_range a k
      have r2 := dg_range a (k + 4)
      have i0 : (0 : Int) ≤ (k : Int) := by omega
      have i1 : (k : Int) < 10 := by omega
      have i2 : (k : Int) + 4 < 10 := by omega
      have S1 := Lib.hid (or_pw a k hlt)
      have S2 := Lib.hid (or_pw (a / pw 4) k hlt)
      rw [lw_hi] at S2
      go_wp2
      go_region
      go_wp2
      go_roundw
      case rel =>
        refine ⟨k + 1, by omega, by go_num, by rw [S2.out], HA.out.other (by omega) _ _, ?_, ?_, (H0.out.setCell (show w.heap.size ≤ w.heap.size + 1 + 1 by omega) _).drew⟩
        · exact (heap_setCell_other _ _ _ _ (by simp)).trans HR.out
        · have := heap_setCell_same _ _ 1 _ _ (Value.int .u64 (bits BinOp.or IntKind.u64 (lw a k) (IntKind.u64.wrap (dg a k * 2 ^ (16 * k))))) HO.out
          rw [S1.out] at this ⊢
          exact this
      case measure => simp [intOf]; omega
    · obtain rfl : k = 4 := by omega
      have hlo := sgn_lo a
      have hhi := sgn_hi a
      have f0 : wr.frozen? ⟨w.heap.size + 1 + 1, 0, none⟩ = false := frozen_of_row _ _ _ _ _ HO.out
      rw [← hlo] at HO c1
      have r1 := (lw_four_range (a / pw 4))
      have HH := Lib.hid hhi
      have hr := hi_range (sgn_fits a)
      have kof := fun w => lof_any (sgn128 a) w (sgn_fits a)
      have hcmp := (show (¬ ∀ i, i < 10 → dg (sgn128 a) i = dg a i) ∨ (∀ i, i < 10 → dg (sgn128 a) i = dg a i) from by
        by_cases hh : ∀ i, i < 10 → dg (sgn128 a) i = dg a i
        · exact Or.inr hh
        · exact Or.inl hh)
      clear hlo hhi
      generalize lw (a / pw 4) 4 = u at *
      unfold W at kof
      go_wp2
      have hO2 := heap_setCell_same _ _ 0 _ _ (Value.int .i64 (hiOf (sgn128 a))) HO.out
      have hO3 : (wr.setCell ⟨w.heap.size + 1 + 1, 0, none⟩ (.int .i64 (hiOf (sgn128 a)))).heap[w.heap.size + 1 + 1]? = some (.cells #[.int .i64 (hiOf (sgn128 a)), .int .u64 (loOf (sgn128 a))] 24 (0, 0)) := hO2
      have hA2 := HA.out.other (show w.heap.size ≠ w.heap.size + 1 + 1 by omega) 0 (.int .i64 (hiOf (sgn128 a)))
      have hR2 := (heap_setCell_other wr ⟨w.heap.size + 1 + 1, 0, none⟩ (w.heap.size + 1) (.int .i64 (hiOf (sgn128 a))) (by simp)).trans HR.out
      have hB2 := H0.out.setCell (show w.heap.size ≤ (⟨w.heap.size + 1 + 1, 0, none⟩ : Addr).block by simp; omega) (.int .i64 (hiOf (sgn128 a)))
      rw [← HH.out]
      clear hO2 HH c0 c1 f0 HO HA HR H0
      generalize wr.setCell ⟨w.heap.size + 1 + 1, 0, none⟩ (.int .i64 (hiOf (sgn128 a))) = W2 at *
      have HC := Lib.hid (fun d os => Calls.regrown_of (kof (Sort.grow (redrawn W2 d) os)))
      have c0 : W2.cell? ⟨w.heap.size + 1 + 1, 0, none⟩ = some (.int .i64 (hiOf (sgn128 a))) := (cell_of_row _ _ _ _ _ _ hO3).trans rfl
      have c1 : W2.cell? ⟨w.heap.size + 1 + 1, 1, none⟩ = some (.int .u64 (loOf (sgn128 a))) := (cell_of_row _ _ _ _ _ _ hO3).trans rfl
      have k0 := cell_regrown c0
      have k1 := cell_regrown c1
      have a0 := cell_regrown (hA2.cell (show 0 < 10 by omega))
      have a1 := cell_regrown (hA2.cell (show 1 < 10 by omega))
      have a2 := cell_regrown (hA2.cell (show 2 < 10 by omega))
      have a3 := cell_regrown (hA2.cell (show 3 < 10 by omega))
      have a4 := cell_regrown (hA2.cell (show 4 < 10 by omega))
      have a5 := cell_regrown (hA2.cell (show 5 < 10 by omega))
      have a6 := cell_regrown (hA2.cell (show 6 < 10 by omega))
      have a7 := cell_regrown (hA2.cell (show 7 < 10 by omega))
      have a8 := cell_regrown (hA2.cell (show 8 < 10 by omega))
      have a9 := cell_regrown (hA2.cell (show 9 < 10 by omega))
      have HO3 := Lib.hid hO3; have HA2 := Lib.hid hA2; have HR2 := Lib.hid hR2; have HB2 := Lib.hid hB2
      clear kof c0 c1 hO3 hA2 hR2 hB2
      rcases hcmp with hcmp | hcmp
      · have hq : ∀ w, (Op.equalIn 10000 30 (.agg (arr (dg (sgn128 a)))) (.agg #[.int .i64 (dg a 0), .int .i64 (dg a 1), .int .i64 (dg a 2), .int .i64 (dg a 3), .int .i64 (dg a 4), .int .i64 (dg a 5), .int .i64 (dg a 6), .int .i64 (dg a 7), .int .i64 (dg a 8), .int .i64 (dg a 9)])).run Try.prog w = .ok false w := fun w => by rw [← arr_ten]; exact ne_arr hcmp w
        have HQ := Lib.hid hcmp; clear hcmp
        unfold L at HC
        refine wp_region_quiet_below (by kernel_rfl) (by kernel_rfl) ?_
        repeat (go_big_quiet_step (with_reducible exact HC.out _ _))
        refine wpQuiet_nil ?_
        intro _ hw'
        obtain ⟨⟨dq, osq⟩, hw''⟩ := hw'
        subst hw''
        clear k0 k1 a0 a1 a2 a3 a4 a5 a6 a7 a8 a9 hq HC
        have hb3 := below_regrown W2 dq osq
        have hR3 := (hb3.block _ (lt_of_block HR2.out)).trans HR2.out
        have hO3 := (hb3.block _ (lt_of_block HO3.out)).trans HO3.out
        have HB3 := Lib.hid (HB2.out.trans (hb3.mono HB2.out.size))
        generalize Sort.grow (redrawn W2 dq) osq = W3 at *
        clear hb3 HB2 HA2 HR2 HO3
        have r0 : W3.cell? ⟨w.heap.size + 1, 0, none⟩ = some (.int .i64 0) := (cell_of_row _ _ _ _ _ _ hR3).trans rfl
        have r1 : W3.cell? ⟨w.heap.size + 1, 1, none⟩ = some (.int .u64 0) := (cell_of_row _ _ _ _ _ _ hR3).trans rfl
        have q0 : W3.frozen? ⟨w.heap.size + 1, 0, none⟩ = false := frozen_of_row _ _ _ _ _ hR3
        have q1 : W3.frozen? ⟨w.heap.size + 1, 1, none⟩ = false := frozen_of_row _ _ _ _ _ hR3
        have o0 : W3.cell? ⟨w.heap.size + 1 + 1, 0, none⟩ = some (.int .i64 (hiOf (sgn128 a))) := (cell_of_row _ _ _ _ _ _ hO3).trans rfl
        have o1 : W3.cell? ⟨w.heap.size + 1 + 1, 1, none⟩ = some (.int .u64 (loOf (sgn128 a))) := (cell_of_row _ _ _ _ _ _ hO3).trans rfl
        clear hR3 hO3
        go_wp2
        exact bodyPost_ret (v := .tuple #[.agg #[.int .i64 0, .int .u64 0], .bool false]) (by simp [results, Try.results14, go_sem, r0, r1]) rfl ⟨by rw [fitW_no HM.out HQ.out], (HB3.out.setCell (by simp) _).setCell (by simp) _⟩
      · have hq : ∀ w, (Op.equalIn 10000 30 (.agg (arr (dg (sgn128 a)))) (.agg #[.int .i64 (dg a 0), .int .i64 (dg a 1), .int .i64 (dg a 2), .int .i64 (dg a 3), .int .i64 (dg a 4), .int .i64 (dg a 5), .int .i64 (dg a 6), .int .i64 (dg a 7), .int .i64 (dg a 8), .int .i64 (dg a 9)])).run Try.prog w = .ok true w := fun w => by rw [← arr_ten]; exact eq_arr hcmp w
        have HQ := Lib.hid hcmp; clear hcmp
        unfold L at HC
        refine wp_region_quiet_below (by kernel_rfl) (by kernel_rfl) ?_
        repeat (go_big_quiet_step (with_reducible exact HC.out _ _))
        refine wpQuiet_nil ?_
        intro _ hw'
        obtain ⟨⟨dq, osq⟩, hw''⟩ := hw'
        subst hw''
        clear k0 k1 a0 a1 a2 a3 a4 a5 a6 a7 a8 a9 hq HC
        have hb3 := below_regrown W2 dq osq
        have hR3 := (hb3.block _ (lt_of_block HR2.out)).trans HR2.out
        have hO3 := (hb3.block _ (lt_of_block HO3.out)).trans HO3.out
        have HB3 := Lib.hid (HB2.out.trans (hb3.mono HB2.out.size))
        generalize Sort.grow (redrawn W2 dq) osq = W3 at *
        clear hb3 HB2 HA2 HR2 HO3
        have r0 : W3.cell? ⟨w.heap.size + 1, 0, none⟩ = some (.int .i64 0) := (cell_of_row _ _ _ _ _ _ hR3).trans rfl
        have r1 : W3.cell? ⟨w.heap.size + 1, 1, none⟩ = some (.int .u64 0) := (cell_of_row _ _ _ _ _ _ hR3).trans rfl
        have q0 : W3.frozen? ⟨w.heap.size + 1, 0, none⟩ = false := frozen_of_row _ _ _ _ _ hR3
        have q1 : W3.frozen? ⟨w.heap.size + 1, 1, none⟩ = false := frozen_of_row _ _ _ _ _ hR3
        have o0 : W3.cell? ⟨w.heap.size + 1 + 1, 0, none⟩ = some (.int .i64 (hiOf (sgn128 a))) := (cell_of_row _ _ _ _ _ _ hO3).trans rfl
        have o1 : W3.cell? ⟨w.heap.size + 1 + 1, 1, none⟩ = some (.int .u64 (loOf (sgn128 a))) := (cell_of_row _ _ _ _ _ _ hO3).trans rfl
        clear hR3 hO3
        go_wp2
        exact bodyPost_ret (v := .tuple #[.agg #[.int .i64 (hiOf (sgn128 a)), .int .u64 (loOf (sgn128 a))], .bool true]) (by simp [results, Try.results14, go_sem, r0, r1]) rfl ⟨by rw [fitW_yes HM.out HQ.out], (HB3.out.setCell (by simp) _).setCell (by simp) _⟩
end Go.Proofs.Ytdamilkofdclbaa
