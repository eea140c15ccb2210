import Derived.Test.YtlmmmfkhmlafgaaLaws1
namespace Go.Proofs.Ytlmmmfkhmlafgaa
open Go.RowKit
set_option linter.unusedVariables false
set_option maxRecDepth 100000 in
set_option maxHeartbeats 1000000 in
theorem rises_walk (a : Option Addr) (len cap : Nat) (l : List Int) (w : World) (hl : Row w a len (l.map i64v)) (hcap : len ≤ cap) (hcm : cap ≤ 9223372036854775807) (hnil : a = none → cap = 0) :
    Calls Try.prog 8 #[.slice a len cap] w fun e w' => e = .returned (.bool true) ∧ Below w.heap.size w w' := by
  obtain ⟨i0, hi, hz0, hz1, hz2⟩ := info_parts info2
  by_cases hle : len ≤ 200
  · have hm : len * 8 ≤ 140737488355328 := by omega
    have hm2 : len ≤ maxLen := by unfold maxLen; omega
    have hl2 := hl
    generalize l = L at hl2
    have hone := i64v_one L
    have hLn : L.length = len := by have := hl2.1; simpa using this
    have HLn := Lib.hid hLn; clear hLn
    go_enter Try.func8, Try.ntmps8
    go_wp2_with (first | (go_at_call 9; refine (shown_any _).mono ?_; rintro e w1 ⟨rfl, hb1⟩) | (at_builtin; refine wpList_append_fresh rfl (.tmp 12) (.tmp 17) 22 rfl w1.heap.size 2 i0 (.int .i64 0) 8 Try.underlying22 hi hz0 hz1 hz2 rfl _ _ rfl (owns_empty w1 2) a len cap (L.map i64v) rfl (hl2.below (hb1.alloc hb1.size _)) hnil hone hm2 hm (by simp) ?_))
    intro g c1 w2 hgB hnc hcm1 hrow hown hb2
    have hbw := (hb1.alloc hb1.size _).trans (hb2.mono hb1.size)
    have HR := Lib.hid hrow
    clear hb2 hrow hown
    have hmin := min_any _ _ c1 L w2 HR.out (by omega)
    generalize hz : kthOf L 0 = z0 at hmin
    generalize kthOk L 0 = z1 at hmin
    have HM := Lib.hid hmin; clear hmin
    have HZ := Lib.hid hz; clear hz
    go_wp2_with (go_at_call 11; refine HM.out.mono ?_; rintro e w3 ⟨rfl, hb3⟩)
    go_loopw [4, 6] (fun ls i' wr => ∃ k : Nat, k ≤ len ∧ i' = .int .i64 k ∧ (∃ y : Int, ls = .int .i64 y ∧ y = kthOf L ((k - 1 : Nat) : Int)) ∧ Below w2.heap.size w2 wr) (fun _ i' _ => len - (intOf i').toNat)
    case atStart => exact ⟨0, by omega, rfl, ⟨z0, rfl, HZ.out.symm⟩, hb3⟩
    case round =>
      obtain ⟨k, hk, rfl, ⟨y, rfl, hy⟩, hbr⟩ := hrel
      have HY := Lib.hid hy; clear hy
      by_cases hlt : k < len
      · have hc := kth_any _ _ c1 (k : Int) L wr (HR.out.below hbr) (by omega)
        obtain ⟨q1, q2⟩ := kthIn HLn.out k hlt
        obtain ⟨q3, q4⟩ := kthIn HLn.out (k - 1) (by omega)
        rw [← HY.out] at q4
        have hyx := q4.le q2 (by omega)
        rw [q1] at hc
        have hk0 : k = 0 → kthOf L (k : Int) = y := fun e => by rw [HY.out, e]
        have HK0 := Lib.hid hk0; clear hk0
        generalize hx : kthOf L (k : Int) = x at *
        have HX := Lib.hid hx; clear hx
        have HC := Lib.hid hc; clear hc
        have hnx : ¬ x < y := by omega
        clear q1 q2 q3 q4
        by_cases hz : k = 0
        · obtain rfl := HK0.out hz
          have hkz : ((k : Int) == 0) = true := by simp; omega
          have hxx : (x != x) = false := by simp
          clear hz
          go_wp2_with (go_at_call 10; refine HC.out.mono ?_; rintro e w4 ⟨rfl, hb4⟩)
          go_roundw
          case rel => exact ⟨k + 1, by omega, by go_num, ⟨x, rfl, HX.out.symm⟩, hbr.trans (hb4.mono hbr.size)⟩
          case measure => simp [intOf]; omega
        · have hkz : ((k : Int) == 0) = false := by simp; omega
          go_wp2_with (go_at_call 10; refine HC.out.mono ?_; rintro e w4 ⟨rfl, hb4⟩)
          go_roundw
          case rel => exact ⟨k + 1, by omega, by go_num, ⟨x, rfl, HX.out.symm⟩, hbr.trans (hb4.mono hbr.size)⟩
          case measure => simp [intOf]; omega
      · have hc := kth_any _ _ c1 (len : Int) L wr (HR.out.below hbr) (by omega)
        obtain ⟨q1, q2⟩ := kthOut HLn.out (len : Int) (by omega)
        rw [q1, q2] at hc
        have HC := Lib.hid hc; clear hc
        go_wp2_with (go_at_call 10; refine HC.out.mono ?_; rintro e w4 ⟨rfl, hb4⟩)
        go_ret
        exact ⟨rfl, (hbw.trans (hbr.mono hbw.size)).trans (hb4.mono (Nat.le_trans hbw.size hbr.size))⟩
  · obtain ⟨b, o, rfl, _⟩ := hl.some_of (by omega)
    have hgt : (200 : Int) < (len : Int) := by omega
    have hm : 200 * 8 ≤ 140737488355328 := by omega
    have hm2 : 200 ≤ maxLen := by unfold maxLen; omega
    have hl2 : Row w (some ⟨b, o, none⟩) 200 ((l.take 200).map i64v) := by
      have := hl.take 200 (by omega)
      rwa [← List.map_take] at this
    have hcc : 200 ≤ cap := by omega
    generalize l.take 200 = L at hl2
    have hone := i64v_one L
    have hLn : L.length = 200 := by have := hl2.1; simpa using this
    have HLn := Lib.hid hLn; clear hLn
    go_enter Try.func8, Try.ntmps8
    go_wp2_with (first | (go_at_call 9; refine (shown_any _).mono ?_; rintro e w1 ⟨rfl, hb1⟩) | (at_builtin; refine wpList_append_fresh rfl (.tmp 12) (.tmp 17) 22 rfl w1.heap.size 2 i0 (.int .i64 0) 8 Try.underlying22 hi hz0 hz1 hz2 rfl _ _ rfl (owns_empty w1 2) (some ⟨b, o, none⟩) 200 cap (L.map i64v) rfl (hl2.below (hb1.alloc hb1.size _)) (by simp) hone hm2 hm (by simp) ?_))
    intro g c1 w2 hgB hnc hcm1 hrow hown hb2
    have hbw := (hb1.alloc hb1.size _).trans (hb2.mono hb1.size)
    have HR := Lib.hid hrow
    clear hb2 hrow hown
    have hmin := min_any _ _ c1 L w2 HR.out (by omega)
    generalize hz : kthOf L 0 = z0 at hmin
    generalize kthOk L 0 = z1 at hmin
    have HM := Lib.hid hmin; clear hmin
    have HZ := Lib.hid hz; clear hz
    go_wp2_with (go_at_call 11; refine HM.out.mono ?_; rintro e w3 ⟨rfl, hb3⟩)
    go_loopw [4, 6] (fun ls i' wr => ∃ k : Nat, k ≤ 200 ∧ i' = .int .i64 k ∧ (∃ y : Int, ls = .int .i64 y ∧ y = kthOf L ((k - 1 : Nat) : Int)) ∧ Below w2.heap.size w2 wr) (fun _ i' _ => 200 - (intOf i').toNat)
    case atStart => exact ⟨0, by omega, rfl, ⟨z0, rfl, HZ.out.symm⟩, hb3⟩
    case round =>
      obtain ⟨k, hk, rfl, ⟨y, rfl, hy⟩, hbr⟩ := hrel
      have HY := Lib.hid hy; clear hy
      by_cases hlt : k < 200
      · have hc := kth_any _ _ c1 (k : Int) L wr (HR.out.below hbr) (by omega)
        obtain ⟨q1, q2⟩ := kthIn HLn.out k hlt
        obtain ⟨q3, q4⟩ := kthIn HLn.out (k - 1) (by omega)
        rw [← HY.out] at q4
        have hyx := q4.le q2 (by omega)
        rw [q1] at hc
        have hk0 : k = 0 → kthOf L (k : Int) = y := fun e => by rw [HY.out, e]
        have HK0 := Lib.hid hk0; clear hk0
        generalize hx : kthOf L (k : Int) = x at *
        have HX := Lib.hid hx; clear hx
        have HC := Lib.hid hc; clear hc
        have hnx : ¬ x < y := by omega
        clear q1 q2 q3 q4
        by_cases hz : k = 0
        · obtain rfl := HK0.out hz
          have hkz : ((k : Int) == 0) = true := by simp; omega
          have hxx : (x != x) = false := by simp
          clear hz
          go_wp2_with (go_at_call 10; refine HC.out.mono ?_; rintro e w4 ⟨rfl, hb4⟩)
          go_roundw
          case rel => exact ⟨k + 1, by omega, by go_num, ⟨x, rfl, HX.out.symm⟩, hbr.trans (hb4.mono hbr.size)⟩
          case measure => simp [intOf]; omega
        · have hkz : ((k : Int) == 0) = false := by simp; omega
          go_wp2_with (go_at_call 10; refine HC.out.mono ?_; rintro e w4 ⟨rfl, hb4⟩)
          go_roundw
          case rel => exact ⟨k + 1, by omega, by go_num, ⟨x, rfl, HX.out.symm⟩, hbr.trans (hb4.mono hbr.size)⟩
          case measure => simp [intOf]; omega
      · have hc := kth_any _ _ c1 (200 : Int) L wr (HR.out.below hbr) (by omega)
        obtain ⟨q1, q2⟩ := kthOut HLn.out (200 : Int) (by omega)
        rw [q1, q2] at hc
        have HC := Lib.hid hc; clear hc
        go_wp2_with (go_at_call 10; refine HC.out.mono ?_; rintro e w4 ⟨rfl, hb4⟩)
        go_ret
        exact ⟨rfl, (hbw.trans (hbr.mono hbw.size)).trans (hb4.mono (Nat.le_trans hbw.size hbr.size))⟩
end Go.Proofs.Ytlmmmfkhmlafgaa
