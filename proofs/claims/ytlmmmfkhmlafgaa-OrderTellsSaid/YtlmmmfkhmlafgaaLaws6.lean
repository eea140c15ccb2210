import Derived.Test.YtlmmmfkhmlafgaaRefs
namespace Go.Proofs.Ytlmmmfkhmlafgaa
open Go.RowKit
set_option linter.unusedVariables false
set_option maxRecDepth 100000 in
set_option maxHeartbeats 1000000 in
theorem tells_walk (j : Int) (a : Option Addr) (len cap : Nat) (l : List Int) (w : World) (hl : Row w a len (l.map i64v)) (hcap : len ≤ cap) (hcm : cap ≤ 9223372036854775807) (hnil : a = none → cap = 0) :
    Calls Try.prog 3 #[.slice a len cap, .int .i64 j] w fun e w' => e = .returned (.bool true) ∧ Below w.heap.size w w' := by
  obtain ⟨i0, hi, hz0, hz1, hz2⟩ := info_parts info2
  by_cases hle : len ≤ 200
  · have hm : len * 8 ≤ 140737488355328 := by omega
    have hm2 : len ≤ maxLen := by unfold maxLen; omega
    have hl2 := hl
    generalize l = L at hl2
    have hone := i64v_one L
    have hLn : L.length = len := by have := hl2.1; simpa using this
    have HLn := Lib.hid hLn; clear hLn
    go_enter Try.func3, Try.ntmps3
    go_wp2_with (first | (go_at_call 9; refine (shown_any _).mono ?_; rintro e w1 ⟨rfl, hb1⟩) | (at_builtin; refine wpList_append_fresh rfl (.tmp 19) (.tmp 24) 22 rfl w1.heap.size 2 i0 (.int .i64 0) 8 Try.underlying22 hi hz0 hz1 hz2 rfl _ _ rfl (owns_empty w1 2) a len cap (L.map i64v) rfl (hl2.below (hb1.alloc hb1.size _)) hnil hone hm2 hm (by simp) ?_))
    intro g c1 w2 hgB hnc hcm1 hrow hown hb2
    have hbw := (hb1.alloc hb1.size _).trans (hb2.mono hb1.size)
    have HR := Lib.hid hrow
    clear hb2 hrow hown
    have hrw : ∀ w3, Below w2.heap.size w2 w3 → Row w3 (some ⟨g, 0, none⟩) len (L.map i64v) := fun w3 h => HR.out.below h
    have HRW := Lib.hid hrw; clear hrw
    have hb2 : Below w2.heap.size w2 w2 := Below.refl _ _
    have hL1 : len ≤ 1000 := by omega
    go_wp2_with fail
    refine (kth_any _ _ _ j L _ (HRW.out _ hb2) hL1).mono ?_
    rintro e w3 ⟨rfl, hb3'⟩
    have hb3 := hb2.trans (hb3'.mono hb2.size)
    clear hb3'
    go_wp2_with fail
    refine (min_any _ _ _ L _ (HRW.out _ hb3) hL1).mono ?_
    rintro e w4 ⟨rfl, hb4'⟩
    have hb4 := hb3.trans (hb4'.mono hb3.size)
    clear hb4'
    go_wp2_with fail
    refine (median_any _ _ _ L _ (HRW.out _ hb4) hL1).mono ?_
    rintro e w5 ⟨rfl, hb5'⟩
    have hb5 := hb4.trans (hb5'.mono hb4.size)
    clear hb5'
    go_wp2_with fail
    refine (refKth_any _ _ _ j L _ (HRW.out _ hb5) hL1).mono ?_
    rintro e w6 ⟨rfl, hb6'⟩
    have hb6 := hb5.trans (hb6'.mono hb5.size)
    clear hb6'
    go_wp2_with fail
    refine (refMin_any _ _ _ L _ (HRW.out _ hb6) hL1).mono ?_
    rintro e w7 ⟨rfl, hb7'⟩
    have hb7 := hb6.trans (hb7'.mono hb6.size)
    clear hb7'
    go_wp2_with fail
    refine (refMedian_any _ _ _ L _ (HRW.out _ hb7) hL1).mono ?_
    rintro e w8 ⟨rfl, hb8'⟩
    have hb8 := hb7.trans (hb8'.mono hb7.size)
    clear hb8'
    generalize kthOf L j = x1 at *
    generalize kthOk L j = x2 at *
    generalize kthOf L 0 = x3 at *
    generalize kthOk L 0 = x4 at *
    generalize kthOf L (mid len) = x5 at *
    generalize kthOk L (mid len) = x6 at *
    go_wp2
    go_ret
    exact ⟨by simp, hbw.trans (hb8.mono hbw.size)⟩
  · obtain ⟨b, o, rfl, _⟩ := hl.some_of (by omega)
    have hgt : (200 : Int) < (len : Int) := by omega
    have hm : 200 * 8 ≤ 140737488355328 := by omega
    have hm2 : 200 ≤ maxLen := by unfold maxLen; omega
    have hl2 : Row w (some ⟨b, o, none⟩) 200 ((l.take 200).map i64v) := by
      have := hl.take 200 (by omega)
      rwa [← List.map_take] at this
    have hcc : 200 ≤ cap := by omega
    generalize l.take 200 = L at hl2
    have hone := i64v_one L
    have hLn : L.length = 200 := by have := hl2.1; simpa using this
    have HLn := Lib.hid hLn; clear hLn
    go_enter Try.func3, Try.ntmps3
    go_wp2_with (first | (go_at_call 9; refine (shown_any _).mono ?_; rintro e w1 ⟨rfl, hb1⟩) | (at_builtin; refine wpList_append_fresh rfl (.tmp 19) (.tmp 24) 22 rfl w1.heap.size 2 i0 (.int .i64 0) 8 Try.underlying22 hi hz0 hz1 hz2 rfl _ _ rfl (owns_empty w1 2) (some ⟨b, o, none⟩) 200 cap (L.map i64v) rfl (hl2.below (hb1.alloc hb1.size _)) (by simp) hone hm2 hm (by simp) ?_))
    intro g c1 w2 hgB hnc hcm1 hrow hown hb2
    have hbw := (hb1.alloc hb1.size _).trans (hb2.mono hb1.size)
    have HR := Lib.hid hrow
    clear hb2 hrow hown
    have hrw : ∀ w3, Below w2.heap.size w2 w3 → Row w3 (some ⟨g, 0, none⟩) 200 (L.map i64v) := fun w3 h => HR.out.below h
    have HRW := Lib.hid hrw; clear hrw
    have hb2 : Below w2.heap.size w2 w2 := Below.refl _ _
    have hL1 : 200 ≤ 1000 := by omega
    go_wp2_with fail
    refine (kth_any _ _ _ j L _ (HRW.out _ hb2) hL1).mono ?_
    rintro e w3 ⟨rfl, hb3'⟩
    have hb3 := hb2.trans (hb3'.mono hb2.size)
    clear hb3'
    go_wp2_with fail
    refine (min_any _ _ _ L _ (HRW.out _ hb3) hL1).mono ?_
    rintro e w4 ⟨rfl, hb4'⟩
    have hb4 := hb3.trans (hb4'.mono hb3.size)
    clear hb4'
    go_wp2_with fail
    refine (median_any _ _ _ L _ (HRW.out _ hb4) hL1).mono ?_
    rintro e w5 ⟨rfl, hb5'⟩
    have hb5 := hb4.trans (hb5'.mono hb4.size)
    clear hb5'
    go_wp2_with fail
    refine (refKth_any _ _ _ j L _ (HRW.out _ hb5) hL1).mono ?_
    rintro e w6 ⟨rfl, hb6'⟩
    have hb6 := hb5.trans (hb6'.mono hb5.size)
    clear hb6'
    go_wp2_with fail
    refine (refMin_any _ _ _ L _ (HRW.out _ hb6) hL1).mono ?_
    rintro e w7 ⟨rfl, hb7'⟩
    have hb7 := hb6.trans (hb7'.mono hb6.size)
    clear hb7'
    go_wp2_with fail
    refine (refMedian_any _ _ _ L _ (HRW.out _ hb7) hL1).mono ?_
    rintro e w8 ⟨rfl, hb8'⟩
    have hb8 := hb7.trans (hb8'.mono hb7.size)
    clear hb8'
    generalize kthOf L j = x1 at *
    generalize kthOk L j = x2 at *
    generalize kthOf L 0 = x3 at *
    generalize kthOk L 0 = x4 at *
    generalize kthOf L (mid 200) = x5 at *
    generalize kthOk L (mid 200) = x6 at *
    go_wp2
    go_ret
    exact ⟨by simp, hbw.trans (hb8.mono hbw.size)⟩
end Go.Proofs.Ytlmmmfkhmlafgaa
