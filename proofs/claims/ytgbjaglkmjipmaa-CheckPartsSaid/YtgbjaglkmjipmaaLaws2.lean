import Derived.Test.YtgbjaglkmjipmaaLaws1
import Derived.Lib.QuietBelow
namespace Go.Proofs.Ytgbjaglkmjipmaa
open Go.RowKit
set_option linter.unusedVariables false
set_option maxRecDepth 100000 in
set_option maxHeartbeats 1000000 in
theorem parts_walk (x : Int) (a : Option Addr) (len cap : Nat) (l : List (BitVec 8)) (w : World) (hl : Row w a len (l.map u8v)) (hcap : len ≤ cap) (hcm : cap ≤ 9223372036854775807) (hnil : a = none → cap = 0) :
    Calls Try.prog 5 #[.slice a len cap, .int .i64 x] w fun e w' => e = .returned (.bool true) ∧ Below w.heap.size w w' := by
  have kc := fun (w : World) (C : Array Value) (n c : Nat) => Lib.run_convert_bytes_const (P := Try.prog) w 23 5 C n c Try.underlying23 Try.underlying5
  obtain ⟨i0, hi, hz0, hz1, hz2⟩ := info_parts info5
  by_cases hle : len ≤ 1000
  · have hm : len * 1 ≤ 140737488355328 := by omega
    have hm2 : len ≤ maxLen := by unfold maxLen; omega
    have hl2 := hl
    generalize l = L at hl2
    have hone := u8v_one L
    go_enter Try.func5, Try.ntmps5
    go_wp2_with (first | (go_at_call 8; refine (shown_any _).mono ?_; rintro e w1 ⟨rfl, hb1⟩) | (at_builtin; refine wpList_append_fresh rfl (.tmp 7) (.tmp 12) 23 rfl w1.heap.size 5 i0 (.int .u8 0) 1 Try.underlying23 hi hz0 hz1 hz2 rfl _ _ rfl (owns_empty w1 5) a len cap (L.map u8v) rfl (hl2.below (hb1.alloc hb1.size _)) hnil hone hm2 hm (by simp) ?_))
    intro g c1 w2 hgB hnc hcm1 hrow hown hb2
    have hB : Bytes w2 (some ⟨g, 0, none⟩) len L := Bytes.of hrow (by omega)
    have hbw := (hb1.alloc hb1.size _).trans (hb2.mono hb1.size)
    clear hb2
    clear hown hrow
    obtain ⟨q, hq⟩ : ∃ q : Nat, (x % 65536).toNat = q := ⟨_, rfl⟩
    have hand := and_65535 x
    rw [hq] at hand
    clear hq
    have hk : q % (len + 1) ≤ len := by have := Nat.mod_lt q (show 0 < len + 1 by omega); omega
    have hrem : (q : Int) % ((len : Int) + 1) = ((q % (len + 1) : Nat) : Int) := by rw [Int.natCast_emod]; rfl
    generalize q % (len + 1) = k at *
    have HK := Lib.hid hrem; clear hrem
    go_wp2_with fail
    rw [HK.out]
    have hB1 : Bytes w2 (some ⟨g, 0, none⟩) k (L.take k) := hB.take k hk
    have hB2 : Bytes w2 (some ⟨g, 0 + k, none⟩) (len - k) (L.drop k) := hB.drop k hk
    rw [Nat.zero_add] at hB2
    have hB2 : Bytes w2 (if c1 = k then some ⟨g, 0, none⟩ else some ⟨g, k, none⟩) (len - k) (L.drop k) := by
      split
      · rename_i e
        have e2 : len - k = 0 := by omega
        have e3 : L.drop k = [] := List.drop_eq_nil_of_le (by rw [hB.1]; omega)
        rw [e2, e3]; exact Bytes.none _ _
      · exact hB2
    have C1 : ∀ d os, Calls Try.prog 9 #[.slice (some ⟨g, 0, none⟩) k c1] (Sort.grow (redrawn w2 d) os) fun e w'' => e = .returned (.int .u32 ((Crc.extend 0#32 (L.take k)).toNat : Int)) ∧ ∃ p : Regrown, w'' = Sort.grow (redrawn w2 p.d) p.os :=
      fun d os => Calls.regrown_of (sum_any _ _ _ _ _ (hB1.below (below_regrown w2 d os)))
    have C2 : ∀ c d os, Calls Try.prog 9 #[.slice (some ⟨g, 0, none⟩) len c] (Sort.grow (redrawn w2 d) os) fun e w'' => e = .returned (.int .u32 ((Crc.extend 0#32 L).toNat : Int)) ∧ ∃ p : Regrown, w'' = Sort.grow (redrawn w2 p.d) p.os :=
      fun c d os => Calls.regrown_of (sum_any _ _ _ _ _ (hB.below (below_regrown w2 d os)))
    have C3 : ∀ c d os, Calls Try.prog 11 #[.int .u32 ((Crc.extend 0#32 (L.take k)).toNat : Int), .slice (if c1 = k then some ⟨g, 0, none⟩ else some ⟨g, k, none⟩) (len - k) c] (Sort.grow (redrawn w2 d) os) fun e w'' => e = .returned (.int .u32 ((Crc.extend 0#32 L).toNat : Int)) ∧ ∃ p : Regrown, w'' = Sort.grow (redrawn w2 p.d) p.os := fun c d os => by
      have := extend_any (Crc.extend 0#32 (L.take k)) _ _ c _ _ (hB2.below (below_regrown w2 d os))
      rw [Crc.extend_append, List.take_append_drop] at this
      exact Calls.regrown_of this
    have C4 : ∀ c d os, Calls Try.prog 12 #[.int .u32 ((Crc.extend 0#32 L).toNat : Int), .slice (if c1 = k then some ⟨g, 0, none⟩ else some ⟨g, k, none⟩) (len - k) c] (Sort.grow (redrawn w2 d) os) fun e w'' => e = .returned (.int .u32 ((Crc.extend 0#32 (L.take k)).toNat : Int)) ∧ ∃ p : Regrown, w'' = Sort.grow (redrawn w2 p.d) p.os := fun c d os => by
      have := undo_any (Crc.extend 0#32 L) _ _ c _ _ (hB2.below (below_regrown w2 d os))
      have e : Crc.undo (Crc.extend 0#32 L) (L.drop k) = Crc.extend 0#32 (L.take k) := by
        have := Crc.undo_append 0#32 (L.take k) (L.drop k)
        rwa [List.take_append_drop] at this
      rw [e] at this
      exact Calls.regrown_of this
    have hkc : k ≤ c1 := by omega
    generalize Crc.extend 0#32 (L.take k) = s1 at *
    generalize Crc.extend 0#32 L = s2 at *
    have D1 := Lib.hid C1
    have D2 := Lib.hid C2
    have D3 := Lib.hid C3
    have D4 := Lib.hid C4
    clear C1 C2 C3 C4
    refine wp_region_quiet_below (by kernel_rfl) (by kernel_rfl) ?_
    repeat (go_big_quiet_step (first | with_reducible exact D1.out _ _ | with_reducible exact D2.out _ _ _ | with_reducible exact D3.out _ _ _ | with_reducible exact D4.out _ _ _))
    refine wpQuiet_nil ?_
    intro _ hw'
    obtain ⟨⟨dq, osq⟩, hw''⟩ := hw'
    subst hw''
    go_wp2
    all_goals (go_ret; exact ⟨rfl, hbw.trans ((below_regrown w2 dq osq).mono hbw.size)⟩)
  · obtain ⟨b, o, rfl, _⟩ := hl.some_of (by omega)
    have hgt : (1000 : Int) < (len : Int) := by omega
    have hm : 1000 * 1 ≤ 140737488355328 := by omega
    have hm2 : 1000 ≤ maxLen := by unfold maxLen; omega
    have hl2 : Row w (some ⟨b, o, none⟩) 1000 ((l.take 1000).map u8v) := by
      have := hl.take 1000 (by omega)
      rwa [← List.map_take] at this
    have hcc : 1000 ≤ cap := by omega
    generalize l.take 1000 = L at hl2
    have hone := u8v_one L
    go_enter Try.func5, Try.ntmps5
    go_wp2_with (first | (go_at_call 8; refine (shown_any _).mono ?_; rintro e w1 ⟨rfl, hb1⟩) | (at_builtin; refine wpList_append_fresh rfl (.tmp 7) (.tmp 12) 23 rfl w1.heap.size 5 i0 (.int .u8 0) 1 Try.underlying23 hi hz0 hz1 hz2 rfl _ _ rfl (owns_empty w1 5) (some ⟨b, o, none⟩) 1000 cap (L.map u8v) rfl (hl2.below (hb1.alloc hb1.size _)) (by simp) hone hm2 hm (by simp) ?_))
    intro g c1 w2 hgB hnc hcm1 hrow hown hb2
    have hB : Bytes w2 (some ⟨g, 0, none⟩) 1000 L := Bytes.of hrow (by omega)
    have hbw := (hb1.alloc hb1.size _).trans (hb2.mono hb1.size)
    clear hb2
    clear hown hrow
    obtain ⟨q, hq⟩ : ∃ q : Nat, (x % 65536).toNat = q := ⟨_, rfl⟩
    have hand := and_65535 x
    rw [hq] at hand
    clear hq
    have hk : q % (1000 + 1) ≤ 1000 := by have := Nat.mod_lt q (show 0 < 1000 + 1 by omega); omega
    have hrem : (q : Int) % 1001 = ((q % (1000 + 1) : Nat) : Int) := by rw [Int.natCast_emod]; rfl
    generalize q % (1000 + 1) = k at *
    have HK := Lib.hid hrem; clear hrem
    go_wp2_with fail
    rw [HK.out]
    have hB1 : Bytes w2 (some ⟨g, 0, none⟩) k (L.take k) := hB.take k hk
    have hB2 : Bytes w2 (some ⟨g, 0 + k, none⟩) (1000 - k) (L.drop k) := hB.drop k hk
    rw [Nat.zero_add] at hB2
    have hB2 : Bytes w2 (if c1 = k then some ⟨g, 0, none⟩ else some ⟨g, k, none⟩) (1000 - k) (L.drop k) := by
      split
      · rename_i e
        have e2 : 1000 - k = 0 := by omega
        have e3 : L.drop k = [] := List.drop_eq_nil_of_le (by rw [hB.1]; omega)
        rw [e2, e3]; exact Bytes.none _ _
      · exact hB2
    have C1 : ∀ d os, Calls Try.prog 9 #[.slice (some ⟨g, 0, none⟩) k c1] (Sort.grow (redrawn w2 d) os) fun e w'' => e = .returned (.int .u32 ((Crc.extend 0#32 (L.take k)).toNat : Int)) ∧ ∃ p : Regrown, w'' = Sort.grow (redrawn w2 p.d) p.os :=
      fun d os => Calls.regrown_of (sum_any _ _ _ _ _ (hB1.below (below_regrown w2 d os)))
    have C2 : ∀ c d os, Calls Try.prog 9 #[.slice (some ⟨g, 0, none⟩) 1000 c] (Sort.grow (redrawn w2 d) os) fun e w'' => e = .returned (.int .u32 ((Crc.extend 0#32 L).toNat : Int)) ∧ ∃ p : Regrown, w'' = Sort.grow (redrawn w2 p.d) p.os :=
      fun c d os => Calls.regrown_of (sum_any _ _ _ _ _ (hB.below (below_regrown w2 d os)))
    have C3 : ∀ c d os, Calls Try.prog 11 #[.int .u32 ((Crc.extend 0#32 (L.take k)).toNat : Int), .slice (if c1 = k then some ⟨g, 0, none⟩ else some ⟨g, k, none⟩) (1000 - k) c] (Sort.grow (redrawn w2 d) os) fun e w'' => e = .returned (.int .u32 ((Crc.extend 0#32 L).toNat : Int)) ∧ ∃ p : Regrown, w'' = Sort.grow (redrawn w2 p.d) p.os := fun c d os => by
      have := extend_any (Crc.extend 0#32 (L.take k)) _ _ c _ _ (hB2.below (below_regrown w2 d os))
      rw [Crc.extend_append, List.take_append_drop] at this
      exact Calls.regrown_of this
    have C4 : ∀ c d os, Calls Try.prog 12 #[.int .u32 ((Crc.extend 0#32 L).toNat : Int), .slice (if c1 = k then some ⟨g, 0, none⟩ else some ⟨g, k, none⟩) (1000 - k) c] (Sort.grow (redrawn w2 d) os) fun e w'' => e = .returned (.int .u32 ((Crc.extend 0#32 (L.take k)).toNat : Int)) ∧ ∃ p : Regrown, w'' = Sort.grow (redrawn w2 p.d) p.os := fun c d os => by
      have := undo_any (Crc.extend 0#32 L) _ _ c _ _ (hB2.below (below_regrown w2 d os))
      have e : Crc.undo (Crc.extend 0#32 L) (L.drop k) = Crc.extend 0#32 (L.take k) := by
        have := Crc.undo_append 0#32 (L.take k) (L.drop k)
        rwa [List.take_append_drop] at this
      rw [e] at this
      exact Calls.regrown_of this
    have hkc : k ≤ c1 := by omega
    generalize Crc.extend 0#32 (L.take k) = s1 at *
    generalize Crc.extend 0#32 L = s2 at *
    have D1 := Lib.hid C1
    have D2 := Lib.hid C2
    have D3 := Lib.hid C3
    have D4 := Lib.hid C4
    clear C1 C2 C3 C4
    refine wp_region_quiet_below (by kernel_rfl) (by kernel_rfl) ?_
    repeat (go_big_quiet_step (first | with_reducible exact D1.out _ _ | with_reducible exact D2.out _ _ _ | with_reducible exact D3.out _ _ _ | with_reducible exact D4.out _ _ _))
    refine wpQuiet_nil ?_
    intro _ hw'
    obtain ⟨⟨dq, osq⟩, hw''⟩ := hw'
    subst hw''
    go_wp2
    all_goals (go_ret; exact ⟨rfl, hbw.trans ((below_regrown w2 dq osq).mono hbw.size)⟩)
end Go.Proofs.Ytgbjaglkmjipmaa
