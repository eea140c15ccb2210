/- WideTells walked. -/
import Derived.Test.YtdamilkofdclbaaShow
import Derived.Test.YtdamilkofdclbaaOrder0
import Derived.Test.YtdamilkofdclbaaLint
import Derived.Test.YtdamilkofdclbaaLtext
import Derived.Lib.QuietBelow
namespace Go.Proofs.Ytdamilkofdclbaa
open Go.RowKit
set_option linter.unusedVariables false

set_option maxRecDepth 100000 in
set_option maxHeartbeats 4000000 in
theorem tells_walk (a b : Int) (w : World) (ha : Fits a) (hb : Fits b) :
    Calls Try.prog 5 #[P2 (hiOf a) (loOf a), P2 (hiOf b) (loOf b)] w fun e w' => e = .returned (.bool true) ∧ Below w.heap.size w w' := by
  have k1 := int_any a
  have k2 := fun w => lint_any a w (fits_mid ha)
  have k3 := fun w => lof_any a w ha
  have k4 := fun w => lof_any b w hb
  have k5 := lminus_any b
  have k6 := lplus_any a (-b)
  have k7 := fun w => lbelow_any (a + -b) w (by unfold Fits at *; unfold Mid; omega)
  have k8 := fun w => text_any a w ha
  have k9 := fun w => ltext_any a w ha
  have k10 := less_any a b
  rw [show decide (a + -b < 0) = decide (a < b) from by congr 1; apply propext; omega] at k7
  obtain ⟨r, d, hs⟩ : ∃ r d, smallV a = .tuple #[.int .i64 r, .bool d] := ⟨_, _, rfl⟩
  obtain ⟨x, hx⟩ : ∃ x, textV a = .string x := ⟨_, rfl⟩
  rw [hs] at k1 k2
  rw [hx] at k8 k9
  unfold L at *
  unfold W at k1 k3 k4 k8 k10
  have K0 := Lib.hid shown_any
  have K1 := Lib.hid k1; have K2 := Lib.hid k2; have K3 := Lib.hid k3; have K4 := Lib.hid k4; have K5 := Lib.hid k5; have K6 := Lib.hid k6; have K7 := Lib.hid k7; have K8 := Lib.hid k8; have K9 := Lib.hid k9; have K10 := Lib.hid k10
  clear k1 k2 k3 k4 k5 k6 k7 k8 k9 k10 ha hb hs hx
  generalize decide (a < b) = p2 at *
  generalize hiOf a = ah at *
  generalize loOf a = al at *
  generalize hiOf b = bh at *
  generalize loOf b = bl at *
  have A0 := Lib.hid ((PAt.new w ah al rfl).alloc (.cells #[.int .i64 bh, .int .u64 bl] 24))
  have B0 := Lib.hid (PAt.new (w.alloc (.cells #[.int .i64 ah, .int .u64 al] 24)) bh bl (b := w.heap.size + 1) (by simp))
  have H0 := Lib.hid (show Below w.heap.size w ((w.alloc (.cells #[.int .i64 ah, .int .u64 al] 24)).alloc (.cells #[.int .i64 bh, .int .u64 bl] 24)) from ((Below.refl _ _).alloc (Nat.le_refl _) _).alloc (by simp) _)
  obtain ⟨g0, hg0⟩ : ∃ g, w.heap.size = g := ⟨_, rfl⟩
  obtain ⟨g1, hg1⟩ : ∃ g, w.heap.size + 1 = g := ⟨_, rfl⟩
  rw [hg1] at B0
  rw [hg0] at A0
  have G0 := Lib.hid hg0; have G1 := Lib.hid hg1
  clear hg0 hg1
  cases d <;> cases p2
  all_goals
    go_enter Try.func5, Try.ntmps5
    go_wp2_with fail
    rw [G1.out, G0.out]
    generalize ((w.alloc (.cells #[.int .i64 ah, .int .u64 al] 24)).alloc (.cells #[.int .i64 bh, .int .u64 bl] 24)) = w0 at *
    refine (K0.out _).mono ?_
    rintro e w1 ⟨rfl, hb1⟩
    have A1 := Lib.hid (A0.out.below hb1)
    have B1 := Lib.hid (B0.out.below hb1)
    have H1 := Lib.hid (H0.out.then hb1)
    clear A0 B0 H0 hb1
    have a0 := A1.out.c0
    have a1 := A1.out.c1
    go_wp2_with fail
    refine (K1.out _).mono ?_
    rintro e w2 ⟨rfl, hb2⟩
    clear a0 a1
    have A2 := Lib.hid (A1.out.below hb2)
    have B2 := Lib.hid (B1.out.below hb2)
    have H2 := Lib.hid (H1.out.then hb2)
    clear A1 B1 H1 hb2
    have a0 := A2.out.c0
    have a1 := A2.out.c1
    go_wp2_with fail
    refine (K3.out _).mono ?_
    rintro e w3 ⟨rfl, hb3⟩
    clear a0 a1
    have A3 := Lib.hid (A2.out.below hb3)
    have B3 := Lib.hid (B2.out.below hb3)
    have H3 := Lib.hid (H2.out.then hb3)
    clear A2 B2 H2 hb3
    go_wp2_with fail
    refine (K2.out _).mono ?_
    rintro e w4 ⟨rfl, hb4⟩
    have A4 := Lib.hid (A3.out.below hb4)
    have B4 := Lib.hid (B3.out.below hb4)
    have H4 := Lib.hid (H3.out.then hb4)
    clear A3 B3 H3 hb4
    go_wp2_with fail
    have a0 := cell_regrown A4.out.c0
    have a1 := cell_regrown A4.out.c1
    have b0 := cell_regrown B4.out.c0
    have b1 := cell_regrown B4.out.c1
    have Q3 := Lib.hid (fun d os => Calls.regrown_of (K3.out (Sort.grow (redrawn w4 d) os)))
    have Q4 := Lib.hid (fun d os => Calls.regrown_of (K4.out (Sort.grow (redrawn w4 d) os)))
    have Q5 := Lib.hid (fun d os => Calls.regrown_of (K5.out (Sort.grow (redrawn w4 d) os)))
    have Q6 := Lib.hid (fun d os => Calls.regrown_of (K6.out (Sort.grow (redrawn w4 d) os)))
    have Q7 := Lib.hid (fun d os => Calls.regrown_of (K7.out (Sort.grow (redrawn w4 d) os)))
    refine wp_region_quiet_below (by kernel_rfl) (by kernel_rfl) ?_
    repeat (go_big_quiet_step (first | with_reducible exact Q3.out _ _ | with_reducible exact Q4.out _ _ | with_reducible exact Q5.out _ _ | with_reducible exact Q6.out _ _ | with_reducible exact Q7.out _ _))
    refine wpQuiet_nil ?_
    intro _ hw'
    obtain ⟨⟨dq, osq⟩, hw''⟩ := hw'
    subst hw''
    clear a0 a1 b0 b1 Q3 Q4 Q5 Q6 Q7
    have hb5 := below_regrown w4 dq osq
    have A5 := Lib.hid (A4.out.below hb5)
    have B5 := Lib.hid (B4.out.below hb5)
    have H5 := Lib.hid (H4.out.then hb5)
    generalize Sort.grow (redrawn w4 dq) osq = w5 at *
    clear A4 B4 H4 hb5
    go_wp2_with fail
    have a0 := cell_regrown A5.out.c0
    have a1 := cell_regrown A5.out.c1
    have b0 := cell_regrown B5.out.c0
    have b1 := cell_regrown B5.out.c1
    have Q3 := Lib.hid (fun d os => Calls.regrown_of (K3.out (Sort.grow (redrawn w5 d) os)))
    have Q8 := Lib.hid (fun d os => Calls.regrown_of (K8.out (Sort.grow (redrawn w5 d) os)))
    have Q9 := Lib.hid (fun d os => Calls.regrown_of (K9.out (Sort.grow (redrawn w5 d) os)))
    have Q10 := Lib.hid (fun d os => Calls.regrown_of (K10.out (Sort.grow (redrawn w5 d) os)))
    refine wp_region_quiet_below (by kernel_rfl) (by kernel_rfl) ?_
    repeat (go_big_quiet_step (first | with_reducible exact Q3.out _ _ | with_reducible exact Q8.out _ _ | with_reducible exact Q9.out _ _ | with_reducible exact Q10.out _ _))
    refine wpQuiet_nil ?_
    intro _ hw'
    obtain ⟨⟨dq2, osq2⟩, hw''⟩ := hw'
    subst hw''
    have hb6 := below_regrown w5 dq2 osq2
    have H6 := Lib.hid (H5.out.then hb6)
    generalize Sort.grow (redrawn w5 dq2) osq2 = w6 at *
    clear a0 a1 b0 b1 Q3 Q8 Q9 Q10 hb6
    go_wp2
    go_ret
    exact ⟨rfl, H6.out⟩
end Go.Proofs.Ytdamilkofdclbaa
