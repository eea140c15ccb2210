/- WideTimes, WidePlus, WideSums walked. -/
import Derived.Test.YtdamilkofdclbaaShow
import Derived.Test.YtdamilkofdclbaaOrder0
import Derived.Test.YtdamilkofdclbaaLwide
import Derived.Test.YtdamilkofdclbaaLmul
import Derived.Test.YtdamilkofdclbaaLsum
namespace Go.Proofs.Ytdamilkofdclbaa
open Go.RowKit
set_option linter.unusedVariables false

set_option maxRecDepth 100000 in
set_option maxHeartbeats 1000000 in
theorem plus_walk (a b : Int) (w : World) (ha : Small a) (hb : Small b) :
    Calls Try.prog 7 #[.int .i64 a, .int .i64 b] w fun e w' => e = .returned (.bool true) ∧ Below w.heap.size w w' := by
  have k1 := fun w => plus_any a b w ha.1 ha.2 hb.1 hb.2
  have k2 := fun w => minus_any a b w ha.1 ha.2 hb.1 hb.2
  have k3 := fun w => ladd_any a b w ha hb
  have k4 := fun w => lofint_any a w ha.1 ha.2
  have k5 := fun w => lofint_any b w hb.1 hb.2
  have k6 := lminus_any b
  have k7 := lplus_any a (-b)
  have k8 := fun w => lint_any (a + -b) w (by unfold Small at *; unfold Mid; omega)
  rw [show a + -b = a - b by omega] at k7 k8
  obtain ⟨r1, d1, hs1⟩ : ∃ r d, smallV (a + b) = .tuple #[.int .i64 r, .bool d] := ⟨_, _, rfl⟩
  obtain ⟨r2, d2, hs2⟩ : ∃ r d, smallV (a - b) = .tuple #[.int .i64 r, .bool d] := ⟨_, _, rfl⟩
  rw [hs1] at k1 k3
  rw [hs2] at k2 k8
  unfold L at *
  have K1 := Lib.hid k1; have K2 := Lib.hid k2; have K3 := Lib.hid k3; have K4 := Lib.hid k4; have K5 := Lib.hid k5; have K6 := Lib.hid k6; have K7 := Lib.hid k7; have K8 := Lib.hid k8
  have K0 := Lib.hid shown_any
  clear k1 k2 k3 k4 k5 k6 k7 k8 hs1 hs2 ha hb
  go_enter Try.func7, Try.ntmps7
  go_wp2_with fail
  refine (K0.out _).mono ?_
  rintro e w1 ⟨rfl, hb1⟩
  have B1 := Lib.hid (hb1); clear hb1
  go_wp2_with fail
  refine (K1.out _).mono ?_
  rintro e w2 ⟨rfl, hb2⟩
  have B2 := Lib.hid (B1.out.then hb2); clear hb2 B1
  go_wp2_with fail
  refine (K2.out _).mono ?_
  rintro e w3 ⟨rfl, hb3⟩
  have B3 := Lib.hid (B2.out.then hb3); clear hb3 B2
  go_wp2_with fail
  refine (K3.out _).mono ?_
  rintro e w4 ⟨rfl, hb4⟩
  have B4 := Lib.hid (B3.out.then hb4); clear hb4 B3
  go_wp2_with fail
  refine (K4.out _).mono ?_
  rintro e w5 ⟨rfl, hb5⟩
  have B5 := Lib.hid (B4.out.then hb5); clear hb5 B4
  go_wp2_with fail
  refine (K5.out _).mono ?_
  rintro e w6 ⟨rfl, hb6⟩
  have B6 := Lib.hid (B5.out.then hb6); clear hb6 B5
  go_wp2_with fail
  refine (K6.out _).mono ?_
  rintro e w7 ⟨rfl, hb7⟩
  have B7 := Lib.hid (B6.out.then hb7); clear hb7 B6
  go_wp2_with fail
  refine (K7.out _).mono ?_
  rintro e w8 ⟨rfl, hb8⟩
  have B8 := Lib.hid (B7.out.then hb8); clear hb8 B7
  go_wp2_with fail
  refine (K8.out _).mono ?_
  rintro e w9 ⟨rfl, hb9⟩
  have B9 := Lib.hid (B8.out.then hb9); clear hb9 B8
  cases d1 <;> cases d2
  all_goals go_wp2
  all_goals go_ret
  all_goals exact ⟨rfl, B9.out⟩

set_option maxRecDepth 100000 in
set_option maxHeartbeats 1000000 in
theorem times_walk (a b : Int) (w : World) (ha : Small a) (hb : Small b) :
    Calls Try.prog 4 #[.int .i64 a, .int .i64 b] w fun e w' => e = .returned (.bool true) ∧ Below w.heap.size w w' := by
  have hp := prod_bound ha.1 ha.2 hb.1 hb.2
  have hf : Fits (a * b) := by unfold Fits; omega
  have k1 := fun w => times_any a b w ha.1 ha.2 hb.1 hb.2
  have k2 := fun w => lofint_any a w ha.1 ha.2
  have k3 := fun w => lofint_any b w hb.1 hb.2
  have k4 := lmul_any a b
  have k5 := fun w => lwide_any (a * b) w (fits_mid hf)
  rw [fitW_is hf rfl rfl] at k5
  unfold L at *
  unfold W at k1
  have K1 := Lib.hid k1; have K2 := Lib.hid k2; have K3 := Lib.hid k3; have K4 := Lib.hid k4; have K5 := Lib.hid k5
  have K0 := Lib.hid shown_any
  clear k1 k2 k3 k4 k5 hp hf ha hb
  generalize hiOf (a * b) = h at *
  generalize loOf (a * b) = l at *
  go_enter Try.func4, Try.ntmps4
  go_wp2_with fail
  refine (K0.out _).mono ?_
  rintro e w1 ⟨rfl, hb1⟩
  have B1 := Lib.hid (hb1); clear hb1
  go_wp2_with fail
  refine (K1.out _).mono ?_
  rintro e w2 ⟨rfl, hb2⟩
  have B2 := Lib.hid (B1.out.then hb2); clear hb2 B1
  go_wp2_with fail
  have X2 := Lib.hid (PAt.new w2 h l rfl)
  have B2 := Lib.hid (B2.out.alloc B2.out.size (.cells #[.int .i64 h, .int .u64 l] 24))
  generalize w2.heap.size = g at *
  generalize w2.alloc (.cells #[.int .i64 h, .int .u64 l] 24) = w2' at *
  refine (K2.out _).mono ?_
  rintro e w3 ⟨rfl, hb3⟩
  have X3 := Lib.hid (X2.out.below hb3)
  have B3 := Lib.hid (B2.out.then hb3); clear hb3 B2 X2
  go_wp2_with fail
  refine (K3.out _).mono ?_
  rintro e w4 ⟨rfl, hb4⟩
  have X4 := Lib.hid (X3.out.below hb4)
  have B4 := Lib.hid (B3.out.then hb4); clear hb4 B3 X3
  go_wp2_with fail
  refine (K4.out _).mono ?_
  rintro e w5 ⟨rfl, hb5⟩
  have X5 := Lib.hid (X4.out.below hb5)
  have B5 := Lib.hid (B4.out.then hb5); clear hb5 B4 X4
  go_wp2_with fail
  refine (K5.out _).mono ?_
  rintro e w6 ⟨rfl, hb6⟩
  have X6 := Lib.hid (X5.out.below hb6)
  have B6 := Lib.hid (B5.out.then hb6); clear hb6 B5 X5
  have X7 := X6.out.alloc (.cells #[.int .i64 h, .int .u64 l] 24)
  have Y7 := PAt.new w6 h l rfl
  have x0 := X7.c0
  have x1 := X7.c1
  have y0 := Y7.c0
  have y1 := Y7.c1
  have hq := pair_eq h l
  have B7 := Lib.hid (B6.out.alloc B6.out.size (.cells #[.int .i64 h, .int .u64 l] 24))
  clear X7 Y7
  go_wp2
  go_ret
  exact ⟨rfl, B7.out⟩

theorem info2 : (Try.prog.info? 2).map (fun i => (i.zero, i.size, i.bytes)) = some (some (.int .i64 0), 1, 8) := by kernel_rfl
theorem iv_one (l : List Int) : ∀ u ∈ l.map iv, u.oneCell' = true := by
  intro u hu
  obtain ⟨x, _, rfl⟩ := List.mem_map.1 hu
  rfl
set_option maxRecDepth 100000 in
set_option maxHeartbeats 1000000 in
theorem sums_walk (a : Option Addr) (len cap : Nat) (l : List Int) (w : World) (hl : Row w a len (l.map iv)) (hin : In64 l) (hcap : len ≤ cap) (hcm : cap ≤ 9223372036854775807) (hnil : a = none → cap = 0) :
    Calls Try.prog 6 #[.slice a len cap] w fun e w' => e = .returned (.bool true) ∧ Below w.heap.size w w' := by
  obtain ⟨i0, hi, hz0, hz1, hz2⟩ := info_parts info2
  have K0 := Lib.hid shown_any
  by_cases hle : len ≤ 1000
  · have hm : len * 8 ≤ 140737488355328 := by omega
    have hm2 : len ≤ maxLen := by unfold maxLen; omega
    have hl2 := hl
    generalize l = L at hl2 hin
    have hmin : min (len : Int) 1000 = (len : Int) := by omega
    have hone := iv_one L
    have k1 := fun g c w hr => sum_any L (some ⟨g, 0, none⟩) len c w hr hin (by omega)
    have k2 := fun g c w hr => lsum_any L (some ⟨g, 0, none⟩) len c w hr hin (by omega)
    obtain ⟨r, d, hs⟩ : ∃ r d, smallV (sm L) = .tuple #[.int .i64 r, .bool d] := ⟨_, _, rfl⟩
    rw [hs] at k1 k2
    have K1 := Lib.hid k1; have K2 := Lib.hid k2
    clear k1 k2 hs hin
    go_enter Try.func6, Try.ntmps6
    go_wp2_with (first | (go_at_call 11; refine (K0.out _).mono ?_; rintro e w1 ⟨rfl, hb1⟩) | (at_builtin; refine wpList_append_fresh rfl (.tmp 9) (.tmp 14) 44 rfl w1.heap.size 2 i0 (.int .i64 0) 8 Try.underlying44 hi hz0 hz1 hz2 rfl _ _ rfl (owns_empty w1 2) a len cap (L.map iv) rfl (hl2.below (hb1.alloc hb1.size _)) hnil hone hm2 hm (by simp) ?_))
    intro g c1 w2 hgB hnc hcm1 hrow hown hb2
    have B2 := Lib.hid ((hb1.alloc hb1.size _).trans (hb2.mono hb1.size))
    have HR := Lib.hid hrow
    clear hb2 hrow hown
    go_wp2_with fail
    refine (K1.out _ _ _ HR.out).mono ?_
    rintro e w3 ⟨rfl, hb3⟩
    have HR3 := Lib.hid (HR.out.below hb3)
    have B3 := Lib.hid (B2.out.then hb3); clear hb3
    go_wp2_with fail
    refine (K2.out _ _ _ HR3.out).mono ?_
    rintro e w4 ⟨rfl, hb4⟩
    have B4 := Lib.hid (B3.out.then hb4); clear hb4
    cases d
    all_goals go_wp2
    all_goals go_ret
    all_goals exact ⟨rfl, B4.out⟩
  · have hm : 1000 * 8 ≤ 140737488355328 := by omega
    have hm2 : 1000 ≤ maxLen := by unfold maxLen; omega
    obtain ⟨b, o, rfl, _⟩ := hl.some_of (by omega)
    have hgt : (1000 : Int) < (len : Int) := by omega
    have hl2 : Row w (some ⟨b, o, none⟩) 1000 ((l.take 1000).map iv) := by
      have := hl.take 1000 (by omega)
      rwa [← List.map_take] at this
    have hcc : 1000 ≤ cap := by omega
    have hin : In64 (l.take 1000) := fun x hx => hin x (List.mem_of_mem_take hx)
    generalize l.take 1000 = L at hl2 hin
    have hmin : min (len : Int) 1000 = 1000 := by omega
    have hone := iv_one L
    have k1 := fun g c w hr => sum_any L (some ⟨g, 0, none⟩) 1000 c w hr hin (by omega)
    have k2 := fun g c w hr => lsum_any L (some ⟨g, 0, none⟩) 1000 c w hr hin (by omega)
    obtain ⟨r, d, hs⟩ : ∃ r d, smallV (sm L) = .tuple #[.int .i64 r, .bool d] := ⟨_, _, rfl⟩
    rw [hs] at k1 k2
    have K1 := Lib.hid k1; have K2 := Lib.hid k2
    clear k1 k2 hs hin
    go_enter Try.func6, Try.ntmps6
    go_wp2_with (first | (go_at_call 11; refine (K0.out _).mono ?_; rintro e w1 ⟨rfl, hb1⟩) | (at_builtin; refine wpList_append_fresh rfl (.tmp 9) (.tmp 14) 44 rfl w1.heap.size 2 i0 (.int .i64 0) 8 Try.underlying44 hi hz0 hz1 hz2 rfl _ _ rfl (owns_empty w1 2) (some ⟨b, o, none⟩) 1000 cap (L.map iv) rfl (hl2.below (hb1.alloc hb1.size _)) (by simp) hone hm2 hm (by simp) ?_))
    intro g c1 w2 hgB hnc hcm1 hrow hown hb2
    have B2 := Lib.hid ((hb1.alloc hb1.size _).trans (hb2.mono hb1.size))
    have HR := Lib.hid hrow
    clear hb2 hrow hown
    go_wp2_with fail
    refine (K1.out _ _ _ HR.out).mono ?_
    rintro e w3 ⟨rfl, hb3⟩
    have HR3 := Lib.hid (HR.out.below hb3)
    have B3 := Lib.hid (B2.out.then hb3); clear hb3
    go_wp2_with fail
    refine (K2.out _ _ _ HR3.out).mono ?_
    rintro e w4 ⟨rfl, hb4⟩
    have B4 := Lib.hid (B3.out.then hb4); clear hb4
    cases d
    all_goals go_wp2
    all_goals go_ret
    all_goals exact ⟨rfl, B4.out⟩
end Go.Proofs.Ytdamilkofdclbaa
