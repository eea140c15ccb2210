import Derived.Test.YtlmmmfkhmlafgaaContr
namespace Go.Proofs.Ytlmmmfkhmlafgaa
open Go.RowKit
set_option linter.unusedVariables false
theorem ret_bool {b : Bool} (h : b = true) : Ending.returned (.bool b) = .returned (.bool true) := by rw [h]
theorem i64v_one (l : List Int) : ∀ u ∈ l.map i64v, u.oneCell' = true := by
  intro u hu
  obtain ⟨x, _, rfl⟩ := List.mem_map.1 hu
  rfl
theorem kthIn {l : List Int} {n : Nat} (hn : l.length = n) (k : Nat) (hk : k < n) : kthOk l (k : Int) = true ∧ Ord.Is l k (kthOf l (k : Int)) := by
  have := kthOf_is (l := l) (k := k) (by omega)
  exact ⟨(kthOf_eq this).2, this⟩
theorem kthOut {l : List Int} {n : Nat} (hn : l.length = n) (k : Int) (hk : k < 0 ∨ (n : Int) ≤ k) : kthOk l k = false ∧ kthOf l k = 0 := by
  have := kthOf_out (l := l) (k := k) (by omega)
  exact ⟨this.2, this.1⟩
set_option maxRecDepth 100000 in
set_option maxHeartbeats 1000000 in
theorem counts_walk (j : Int) (a : Option Addr) (len cap : Nat) (l : List Int) (w : World) (hl : Row w a len (l.map i64v)) (hcap : len ≤ cap) (hcm : cap ≤ 9223372036854775807) (hnil : a = none → cap = 0) :
    Calls Try.prog 5 #[.slice a len cap, .int .i64 j] w fun e w' => e = .returned (.bool true) ∧ Below w.heap.size w w' := by
  obtain ⟨i0, hi, hz0, hz1, hz2⟩ := info_parts info2
  by_cases hle : len ≤ 200
  · have hm : len * 8 ≤ 140737488355328 := by omega
    have hm2 : len ≤ maxLen := by unfold maxLen; omega
    have hl2 := hl
    generalize l = L at hl2
    have hone := i64v_one L
    have hLn : L.length = len := by have := hl2.1; simpa using this
    have HLn := Lib.hid hLn; clear hLn
    go_enter Try.func5, Try.ntmps5
    go_wp2_with (first | (go_at_call 9; refine (shown_any _).mono ?_; rintro e w1 ⟨rfl, hb1⟩) | (at_builtin; refine wpList_append_fresh rfl (.tmp 12) (.tmp 17) 22 rfl w1.heap.size 2 i0 (.int .i64 0) 8 Try.underlying22 hi hz0 hz1 hz2 rfl _ _ rfl (owns_empty w1 2) a len cap (L.map i64v) rfl (hl2.below (hb1.alloc hb1.size _)) hnil hone hm2 hm (by simp) ?_))
    intro g c1 w2 hgB hnc hcm1 hrow hown hb2
    have hbw := (hb1.alloc hb1.size _).trans (hb2.mono hb1.size)
    have HR := Lib.hid hrow
    clear hb2 hrow hown
    rcases (show j < 0 ∨ (len : Int) ≤ j ∨ (0 ≤ j ∧ j < (len : Int)) from by omega) with h | h | ⟨h0, h1⟩
    · obtain ⟨q1, q2⟩ := kthOut HLn.out j (.inl h)
      have hc := kth_any _ _ c1 j L w2 HR.out (by omega)
      rw [q1, q2] at hc
      have HC := Lib.hid hc; clear hc
      go_wp2_with (go_at_call 10; refine HC.out.mono ?_; rintro e w3 ⟨rfl, hb3⟩)
      go_ret
      exact ⟨rfl, hbw.trans (hb3.mono hbw.size)⟩
    · obtain ⟨q1, q2⟩ := kthOut HLn.out j (.inr h)
      have hc := kth_any _ _ c1 j L w2 HR.out (by omega)
      rw [q1, q2] at hc
      have HC := Lib.hid hc; clear hc
      have hge : 0 ≤ j := by omega
      go_wp2_with (go_at_call 10; refine HC.out.mono ?_; rintro e w3 ⟨rfl, hb3⟩)
      go_ret
      exact ⟨rfl, hbw.trans (hb3.mono hbw.size)⟩
    · obtain ⟨i, rfl⟩ := Int.eq_ofNat_of_zero_le h0
      obtain ⟨q1, q2⟩ := kthIn HLn.out i (by omega)
      have hc := kth_any _ _ c1 (i : Int) L w2 HR.out (by omega)
      rw [q1] at hc
      have hi1 : i < len := by omega
      generalize kthOf L (i : Int) = x0 at *
      have HC := Lib.hid hc; clear hc
      have hlo := q2.lo
      have hhi := q2.hi
      have hct := (Ord.counts L x0).2
      rw [hct] at hhi
      have HLO := Lib.hid hlo
      have HHI := Lib.hid hhi
      clear hlo hhi hct q1 q2 h0 h1
      go_wp2_with (go_at_call 10; refine HC.out.mono ?_; rintro e w3 ⟨rfl, hb3⟩)
      go_loopw [8, 9, 10] (fun ls sm i' wr => ∃ k : Nat, k ≤ len ∧ i' = .int .i64 k ∧ ls = .int .i64 (Ord.below (L.take k) x0 : Int) ∧ sm = .int .i64 (Ord.same (L.take k) x0 : Int) ∧ Below w2.heap.size w2 wr) (fun _ _ i' _ => len - (intOf i').toNat)
      case atStart => exact ⟨0, by omega, rfl, rfl, rfl, hb3⟩
      case round =>
        obtain ⟨k, hk, rfl, rfl, rfl, hbr⟩ := hrel
        by_cases hlt : k < len
        · obtain ⟨x, hx⟩ : ∃ x, L[k]? = some x := ⟨L[k]'(by rw [HLn.out]; exact hlt), by rw [List.getElem?_eq_getElem]⟩
          have hcx : wr.cell? ⟨g, k, none⟩ = some (.int .i64 x) := by
            obtain ⟨b', o', e', hc', hlt'⟩ := HR.out.2 k (i64v x) (by simp [hx])
            simp only [Option.some.injEq, Addr.mk.injEq, and_true] at e'
            obtain ⟨rfl, rfl⟩ := e'
            rw [Nat.zero_add] at hc'
            rw [hbr.cell (by exact hlt')]
            exact hc'
          have htake : L.take (k + 1) = L.take k ++ [x] := by rw [List.take_add_one, hx]; rfl
          have e1 : Ord.below (L.take (k + 1)) x0 = Ord.below (L.take k) x0 + if x < x0 then 1 else 0 := by rw [htake, Ord.below_append, Ord.below_cons, Ord.below_nil, Nat.zero_add]
          have e2 : Ord.same (L.take (k + 1)) x0 = Ord.same (L.take k) x0 + if x = x0 then 1 else 0 := by rw [htake]; exact Ord.same_snoc _ _ _
          have hL1 : Ord.below (L.take k) x0 ≤ k := Nat.le_trans (List.length_filter_le _ _) (List.length_take_le _ _)
          have hL2 : Ord.same (L.take k) x0 ≤ k := Nat.le_trans (List.length_filter_le _ _) (List.length_take_le _ _)
          have E1 := Lib.hid e1
          have E2 := Lib.hid e2
          clear e1 e2 htake hx
          rcases Int.lt_trichotomy x x0 with h | h | h
          · have hne : (x == x0) = false := by simp; omega
            go_wp2
            go_roundw
            case rel => exact ⟨k + 1, by omega, by go_num, by rw [E1.out, if_pos h]; go_num, by rw [E2.out, if_neg (by omega)]; go_num, hbr⟩
            case measure => simp [intOf]; omega
          · have hne : (x == x0) = true := by simp; omega
            have hnl : ¬ x < x0 := by omega
            clear h
            go_wp2
            go_roundw
            case rel => exact ⟨k + 1, by omega, by go_num, by rw [E1.out, if_neg hnl]; go_num, by rw [E2.out, if_pos (by simpa using hne)]; go_num, hbr⟩
            case measure => simp [intOf]; omega
          · have hne : (x == x0) = false := by simp; omega
            go_wp2
            go_roundw
            case rel => exact ⟨k + 1, by omega, by go_num, by rw [E1.out, if_neg (by omega)]; go_num, by rw [E2.out, if_neg (by omega)]; go_num, hbr⟩
            case measure => simp [intOf]; omega
        · have htk : L.take k = L := List.take_of_length_le (by rw [HLn.out]; omega)
          rw [htk]
          clear htk
          have hL1 : Ord.below L x0 ≤ i := HLO.out
          have hL2 : i < Ord.below L x0 + Ord.same L x0 := HHI.out
          have hL3 : Ord.same L x0 ≤ len := by have := List.length_filter_le (· == x0) L; rw [HLn.out] at this; exact this
          have hL4 : 0 < Ord.same L x0 := by omega
          go_wp2
          go_ret
          exact ⟨ret_bool (by simp; omega), hbw.trans (hbr.mono hbw.size)⟩
  · obtain ⟨b, o, rfl, _⟩ := hl.some_of (by omega)
    have hgt : (200 : Int) < (len : Int) := by omega
    have hm : 200 * 8 ≤ 140737488355328 := by omega
    have hm2 : 200 ≤ maxLen := by unfold maxLen; omega
    have hl2 : Row w (some ⟨b, o, none⟩) 200 ((l.take 200).map i64v) := by
      have := hl.take 200 (by omega)
      rwa [← List.map_take] at this
    have hcc : 200 ≤ cap := by omega
    generalize l.take 200 = L at hl2
    have hone := i64v_one L
    have hLn : L.length = 200 := by have := hl2.1; simpa using this
    have HLn := Lib.hid hLn; clear hLn
    go_enter Try.func5, Try.ntmps5
    go_wp2_with (first | (go_at_call 9; refine (shown_any _).mono ?_; rintro e w1 ⟨rfl, hb1⟩) | (at_builtin; refine wpList_append_fresh rfl (.tmp 12) (.tmp 17) 22 rfl w1.heap.size 2 i0 (.int .i64 0) 8 Try.underlying22 hi hz0 hz1 hz2 rfl _ _ rfl (owns_empty w1 2) (some ⟨b, o, none⟩) 200 cap (L.map i64v) rfl (hl2.below (hb1.alloc hb1.size _)) (by simp) hone hm2 hm (by simp) ?_))
    intro g c1 w2 hgB hnc hcm1 hrow hown hb2
    have hbw := (hb1.alloc hb1.size _).trans (hb2.mono hb1.size)
    have HR := Lib.hid hrow
    clear hb2 hrow hown
    rcases (show j < 0 ∨ (200 : Int) ≤ j ∨ (0 ≤ j ∧ j < (200 : Int)) from by omega) with h | h | ⟨h0, h1⟩
    · obtain ⟨q1, q2⟩ := kthOut HLn.out j (.inl h)
      have hc := kth_any _ _ c1 j L w2 HR.out (by omega)
      rw [q1, q2] at hc
      have HC := Lib.hid hc; clear hc
      go_wp2_with (go_at_call 10; refine HC.out.mono ?_; rintro e w3 ⟨rfl, hb3⟩)
      go_ret
      exact ⟨rfl, hbw.trans (hb3.mono hbw.size)⟩
    · obtain ⟨q1, q2⟩ := kthOut HLn.out j (.inr h)
      have hc := kth_any _ _ c1 j L w2 HR.out (by omega)
      rw [q1, q2] at hc
      have HC := Lib.hid hc; clear hc
      have hge : 0 ≤ j := by omega
      go_wp2_with (go_at_call 10; refine HC.out.mono ?_; rintro e w3 ⟨rfl, hb3⟩)
      go_ret
      exact ⟨rfl, hbw.trans (hb3.mono hbw.size)⟩
    · obtain ⟨i, rfl⟩ := Int.eq_ofNat_of_zero_le h0
      obtain ⟨q1, q2⟩ := kthIn HLn.out i (by omega)
      have hc := kth_any _ _ c1 (i : Int) L w2 HR.out (by omega)
      rw [q1] at hc
      have hi1 : i < 200 := by omega
      generalize kthOf L (i : Int) = x0 at *
      have HC := Lib.hid hc; clear hc
      have hlo := q2.lo
      have hhi := q2.hi
      have hct := (Ord.counts L x0).2
      rw [hct] at hhi
      have HLO := Lib.hid hlo
      have HHI := Lib.hid hhi
      clear hlo hhi hct q1 q2 h0 h1
      go_wp2_with (go_at_call 10; refine HC.out.mono ?_; rintro e w3 ⟨rfl, hb3⟩)
      go_loopw [8, 9, 10] (fun ls sm i' wr => ∃ k : Nat, k ≤ 200 ∧ i' = .int .i64 k ∧ ls = .int .i64 (Ord.below (L.take k) x0 : Int) ∧ sm = .int .i64 (Ord.same (L.take k) x0 : Int) ∧ Below w2.heap.size w2 wr) (fun _ _ i' _ => 200 - (intOf i').toNat)
      case atStart => exact ⟨0, by omega, rfl, rfl, rfl, hb3⟩
      case round =>
        obtain ⟨k, hk, rfl, rfl, rfl, hbr⟩ := hrel
        by_cases hlt : k < 200
        · obtain ⟨x, hx⟩ : ∃ x, L[k]? = some x := ⟨L[k]'(by rw [HLn.out]; exact hlt), by rw [List.getElem?_eq_getElem]⟩
          have hcx : wr.cell? ⟨g, k, none⟩ = some (.int .i64 x) := by
            obtain ⟨b', o', e', hc', hlt'⟩ := HR.out.2 k (i64v x) (by simp [hx])
            simp only [Option.some.injEq, Addr.mk.injEq, and_true] at e'
            obtain ⟨rfl, rfl⟩ := e'
            rw [Nat.zero_add] at hc'
            rw [hbr.cell (by exact hlt')]
            exact hc'
          have htake : L.take (k + 1) = L.take k ++ [x] := by rw [List.take_add_one, hx]; rfl
          have e1 : Ord.below (L.take (k + 1)) x0 = Ord.below (L.take k) x0 + if x < x0 then 1 else 0 := by rw [htake, Ord.below_append, Ord.below_cons, Ord.below_nil, Nat.zero_add]
          have e2 : Ord.same (L.take (k + 1)) x0 = Ord.same (L.take k) x0 + if x = x0 then 1 else 0 := by rw [htake]; exact Ord.same_snoc _ _ _
          have hL1 : Ord.below (L.take k) x0 ≤ k := Nat.le_trans (List.length_filter_le _ _) (List.length_take_le _ _)
          have hL2 : Ord.same (L.take k) x0 ≤ k := Nat.le_trans (List.length_filter_le _ _) (List.length_take_le _ _)
          have E1 := Lib.hid e1
          have E2 := Lib.hid e2
          clear e1 e2 htake hx
          rcases Int.lt_trichotomy x x0 with h | h | h
          · have hne : (x == x0) = false := by simp; omega
            go_wp2
            go_roundw
            case rel => exact ⟨k + 1, by omega, by go_num, by rw [E1.out, if_pos h]; go_num, by rw [E2.out, if_neg (by omega)]; go_num, hbr⟩
            case measure => simp [intOf]; omega
          · have hne : (x == x0) = true := by simp; omega
            have hnl : ¬ x < x0 := by omega
            clear h
            go_wp2
            go_roundw
            case rel => exact ⟨k + 1, by omega, by go_num, by rw [E1.out, if_neg hnl]; go_num, by rw [E2.out, if_pos (by simpa using hne)]; go_num, hbr⟩
            case measure => simp [intOf]; omega
          · have hne : (x == x0) = false := by simp; omega
            go_wp2
            go_roundw
            case rel => exact ⟨k + 1, by omega, by go_num, by rw [E1.out, if_neg (by omega)]; go_num, by rw [E2.out, if_neg (by omega)]; go_num, hbr⟩
            case measure => simp [intOf]; omega
        · have htk : L.take k = L := List.take_of_length_le (by rw [HLn.out]; omega)
          rw [htk]
          clear htk
          have hL1 : Ord.below L x0 ≤ i := HLO.out
          have hL2 : i < Ord.below L x0 + Ord.same L x0 := HHI.out
          have hL3 : Ord.same L x0 ≤ 200 := by have := List.length_filter_le (· == x0) L; rw [HLn.out] at this; exact this
          have hL4 : 0 < Ord.same L x0 := by omega
          go_wp2
          go_ret
          exact ⟨ret_bool (by simp; omega), hbw.trans (hbr.mono hbw.size)⟩
end Go.Proofs.Ytlmmmfkhmlafgaa
