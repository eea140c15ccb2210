import Derived.Test.YtlmmmfkhmlafgaaLaws1
namespace Go.Proofs.Ytlmmmfkhmlafgaa
open Go.RowKit
set_option linter.unusedVariables false

namespace Ord
def between (lo hi : Int) (l : List Int) : Nat := (l.filter (fun x => decide (lo ≤ x) && decide (x ≤ hi))).length
theorem between_snoc (lo hi : Int) (l : List Int) (x : Int) : between lo hi (l ++ [x]) = between lo hi l + if lo ≤ x ∧ x ≤ hi then 1 else 0 := by
  unfold between
  rw [List.filter_append, List.length_append]
  by_cases h1 : lo ≤ x <;> by_cases h2 : x ≤ hi <;> simp [h1, h2]
theorem between_counts (lo hi : Int) (l : List Int) : between lo hi l + below l lo ≤ l.length ∧ between lo hi l ≤ upto l hi := by
  induction l with
  | nil => exact ⟨by simp [between, below], by simp [between]⟩
  | cons a l ih =>
    have e : between lo hi (a :: l) = between lo hi l + if lo ≤ a ∧ a ≤ hi then 1 else 0 := by
      unfold between; rw [List.filter_cons]; by_cases h1 : lo ≤ a <;> by_cases h2 : a ≤ hi <;> simp [h1, h2]
    rw [e, below_cons, upto_cons, List.length_cons]
    refine ⟨?_, ?_⟩
    · split <;> split <;> omega
    · split <;> split <;> omega
theorem near_mid {l : List Int} {lo hi m : Int} (h : l.length < 2 * between lo hi l) (hm : Is l ((l.length - 1) / 2) m) : lo ≤ m ∧ m ≤ hi := by
  have c := between_counts lo hi l
  have h1 := hm.lo; have h2 := hm.hi
  refine ⟨?_, ?_⟩
  · rcases Int.lt_or_le m lo with h' | h'
    · have := upto_below (l := l) h'; omega
    · exact h'
  · rcases Int.lt_or_le hi m with h' | h'
    · have := upto_below (l := l) h'; omega
    · exact h'
end Ord
set_option maxRecDepth 100000 in
set_option maxHeartbeats 1000000 in
theorem near_walk (p q : Int) (a : Option Addr) (len cap : Nat) (l : List Int) (w : World) (hl : Row w a len (l.map i64v)) (hcap : len ≤ cap) (hcm : cap ≤ 9223372036854775807) (hnil : a = none → cap = 0) :
    Calls Try.prog 4 #[.slice a len cap, .int .i64 p, .int .i64 q] w fun e w' => e = .returned (.bool true) ∧ Below w.heap.size w w' := by
  obtain ⟨i0, hi, hz0, hz1, hz2⟩ := info_parts info2
  by_cases hle : len ≤ 200
  · have hm : len * 8 ≤ 140737488355328 := by omega
    have hm2 : len ≤ maxLen := by unfold maxLen; omega
    have hl2 := hl
    generalize l = L at hl2
    have hone := i64v_one L
    have hLn : L.length = len := by have := hl2.1; simpa using this
    have HLn := Lib.hid hLn; clear hLn
    go_enter Try.func4, Try.ntmps4
    go_wp2_with (first | (go_at_call 9; refine (shown_any _).mono ?_; rintro e w1 ⟨rfl, hb1⟩) | (at_builtin; refine wpList_append_fresh rfl (.tmp 15) (.tmp 20) 22 rfl w1.heap.size 2 i0 (.int .i64 0) 8 Try.underlying22 hi hz0 hz1 hz2 rfl _ _ rfl (owns_empty w1 2) a len cap (L.map i64v) rfl (hl2.below (hb1.alloc hb1.size _)) hnil hone hm2 hm (by simp) ?_))
    intro g c1 w2 hgB hnc hcm1 hrow hown hb2
    have hbw := (hb1.alloc hb1.size _).trans (hb2.mono hb1.size)
    have HR := Lib.hid hrow
    clear hb2 hrow hown
    rcases Int.lt_trichotomy p q with hpq | hpq | hpq
    · have hqp : ¬ q < p := by omega
      go_wp2
      go_loopw [10, 11] (fun nr i' wr => ∃ k : Nat, k ≤ len ∧ i' = .int .i64 k ∧ nr = .int .i64 (Ord.between p q (L.take k) : Int) ∧ Below w2.heap.size w2 wr) (fun _ i' _ => len - (intOf i').toNat)
      case atStart => exact ⟨0, by omega, rfl, rfl, Below.refl _ _⟩
      case round =>
        obtain ⟨k, hk, rfl, rfl, hbr⟩ := hrel
        have hL1 : Ord.between p q (L.take k) ≤ k := Nat.le_trans (List.length_filter_le _ _) (List.length_take_le _ _)
        by_cases hlt : k < len
        · obtain ⟨x, hx⟩ : ∃ x, L[k]? = some x := ⟨L[k]'(by rw [HLn.out]; exact hlt), by rw [List.getElem?_eq_getElem]⟩
          have hcx : wr.cell? ⟨g, k, none⟩ = some (.int .i64 x) := by
            obtain ⟨b', o', e', hc', hlt'⟩ := HR.out.2 k (i64v x) (by simp [hx])
            simp only [Option.some.injEq, Addr.mk.injEq, and_true] at e'
            obtain ⟨rfl, rfl⟩ := e'
            rw [Nat.zero_add] at hc'
            rw [hbr.cell (by exact hlt')]
            exact hc'
          have htake : L.take (k + 1) = L.take k ++ [x] := by rw [List.take_add_one, hx]; rfl
          have e1 : Ord.between p q (L.take (k + 1)) = Ord.between p q (L.take k) + if p ≤ x ∧ x ≤ q then 1 else 0 := by rw [htake]; exact Ord.between_snoc _ _ _ _
          have E1 := Lib.hid e1
          clear e1 htake hx
          by_cases h1 : p ≤ x
          · by_cases h2 : x ≤ q
            · go_wp2
              go_roundw
              case rel => exact ⟨k + 1, by omega, by go_num, by rw [E1.out, if_pos ⟨h1, h2⟩]; go_num, hbr⟩
              case measure => simp [intOf]; omega
            · go_wp2
              go_roundw
              case rel => exact ⟨k + 1, by omega, by go_num, by rw [E1.out, if_neg (by omega)]; go_num, hbr⟩
              case measure => simp [intOf]; omega
          · go_wp2
            go_roundw
            case rel => exact ⟨k + 1, by omega, by go_num, by rw [E1.out, if_neg (by omega)]; go_num, hbr⟩
            case measure => simp [intOf]; omega
        · have htk : L.take k = L := List.take_of_length_le (by rw [HLn.out]; omega)
          have hc := median_any _ _ c1 L wr (HR.out.below hbr) (by omega)
          rw [mid_eq] at hc
          rw [htk] at hL1
          rw [htk]
          clear htk
          by_cases hnr : 2 * Ord.between p q L ≤ len
          · have HC := Lib.hid hc; clear hc
            go_wp2_with (go_at_call 12; refine HC.out.mono ?_; rintro e w3 ⟨rfl, hb3⟩)
            go_ret
            exact ⟨rfl, (hbw.trans (hbr.mono hbw.size)).trans (hb3.mono (Nat.le_trans hbw.size hbr.size))⟩
          · obtain ⟨q1, q2⟩ := kthIn HLn.out ((len - 1) / 2) (by omega)
            rw [q1] at hc
            generalize kthOf L (((len - 1) / 2 : Nat) : Int) = m at *
            have HC := Lib.hid hc; clear hc
            have hmm := Ord.near_mid (lo := p) (hi := q) (by rw [HLn.out]; omega) (by rw [HLn.out]; exact q2)
            obtain ⟨g1, g2⟩ := hmm
            clear q1 q2
            go_wp2_with (go_at_call 12; refine HC.out.mono ?_; rintro e w3 ⟨rfl, hb3⟩)
            go_ret
            exact ⟨rfl, (hbw.trans (hbr.mono hbw.size)).trans (hb3.mono (Nat.le_trans hbw.size hbr.size))⟩
    · subst hpq
      go_wp2
      go_loopw [10, 11] (fun nr i' wr => ∃ k : Nat, k ≤ len ∧ i' = .int .i64 k ∧ nr = .int .i64 (Ord.between p p (L.take k) : Int) ∧ Below w2.heap.size w2 wr) (fun _ i' _ => len - (intOf i').toNat)
      case atStart => exact ⟨0, by omega, rfl, rfl, Below.refl _ _⟩
      case round =>
        obtain ⟨k, hk, rfl, rfl, hbr⟩ := hrel
        have hL1 : Ord.between p p (L.take k) ≤ k := Nat.le_trans (List.length_filter_le _ _) (List.length_take_le _ _)
        by_cases hlt : k < len
        · obtain ⟨x, hx⟩ : ∃ x, L[k]? = some x := ⟨L[k]'(by rw [HLn.out]; exact hlt), by rw [List.getElem?_eq_getElem]⟩
          have hcx : wr.cell? ⟨g, k, none⟩ = some (.int .i64 x) := by
            obtain ⟨b', o', e', hc', hlt'⟩ := HR.out.2 k (i64v x) (by simp [hx])
            simp only [Option.some.injEq, Addr.mk.injEq, and_true] at e'
            obtain ⟨rfl, rfl⟩ := e'
            rw [Nat.zero_add] at hc'
            rw [hbr.cell (by exact hlt')]
            exact hc'
          have htake : L.take (k + 1) = L.take k ++ [x] := by rw [List.take_add_one, hx]; rfl
          have e1 : Ord.between p p (L.take (k + 1)) = Ord.between p p (L.take k) + if p ≤ x ∧ x ≤ p then 1 else 0 := by rw [htake]; exact Ord.between_snoc _ _ _ _
          have E1 := Lib.hid e1
          clear e1 htake hx
          by_cases h1 : p ≤ x
          · by_cases h2 : x ≤ p
            · go_wp2
              go_roundw
              case rel => exact ⟨k + 1, by omega, by go_num, by rw [E1.out, if_pos ⟨h1, h2⟩]; go_num, hbr⟩
              case measure => simp [intOf]; omega
            · go_wp2
              go_roundw
              case rel => exact ⟨k + 1, by omega, by go_num, by rw [E1.out, if_neg (by omega)]; go_num, hbr⟩
              case measure => simp [intOf]; omega
          · go_wp2
            go_roundw
            case rel => exact ⟨k + 1, by omega, by go_num, by rw [E1.out, if_neg (by omega)]; go_num, hbr⟩
            case measure => simp [intOf]; omega
        · have htk : L.take k = L := List.take_of_length_le (by rw [HLn.out]; omega)
          have hc := median_any _ _ c1 L wr (HR.out.below hbr) (by omega)
          rw [mid_eq] at hc
          rw [htk] at hL1
          rw [htk]
          clear htk
          by_cases hnr : 2 * Ord.between p p L ≤ len
          · have HC := Lib.hid hc; clear hc
            go_wp2_with (go_at_call 12; refine HC.out.mono ?_; rintro e w3 ⟨rfl, hb3⟩)
            go_ret
            exact ⟨rfl, (hbw.trans (hbr.mono hbw.size)).trans (hb3.mono (Nat.le_trans hbw.size hbr.size))⟩
          · obtain ⟨q1, q2⟩ := kthIn HLn.out ((len - 1) / 2) (by omega)
            rw [q1] at hc
            generalize kthOf L (((len - 1) / 2 : Nat) : Int) = m at *
            have HC := Lib.hid hc; clear hc
            have hmm := Ord.near_mid (lo := p) (hi := p) (by rw [HLn.out]; omega) (by rw [HLn.out]; exact q2)
            obtain ⟨g1, g2⟩ := hmm
            clear q1 q2
            go_wp2_with (go_at_call 12; refine HC.out.mono ?_; rintro e w3 ⟨rfl, hb3⟩)
            go_ret
            exact ⟨rfl, (hbw.trans (hbr.mono hbw.size)).trans (hb3.mono (Nat.le_trans hbw.size hbr.size))⟩
    · have hqp : ¬ p < q := by omega
      go_wp2
      go_loopw [10, 11] (fun nr i' wr => ∃ k : Nat, k ≤ len ∧ i' = .int .i64 k ∧ nr = .int .i64 (Ord.between q p (L.take k) : Int) ∧ Below w2.heap.size w2 wr) (fun _ i' _ => len - (intOf i').toNat)
      case atStart => exact ⟨0, by omega, rfl, rfl, Below.refl _ _⟩
      case round =>
        obtain ⟨k, hk, rfl, rfl, hbr⟩ := hrel
        have hL1 : Ord.between q p (L.take k) ≤ k := Nat.le_trans (List.length_filter_le _ _) (List.length_take_le _ _)
        by_cases hlt : k < len
        · obtain ⟨x, hx⟩ : ∃ x, L[k]? = some x := ⟨L[k]'(by rw [HLn.out]; exact hlt), by rw [List.getElem?_eq_getElem]⟩
          have hcx : wr.cell? ⟨g, k, none⟩ = some (.int .i64 x) := by
            obtain ⟨b', o', e', hc', hlt'⟩ := HR.out.2 k (i64v x) (by simp [hx])
            simp only [Option.some.injEq, Addr.mk.injEq, and_true] at e'
            obtain ⟨rfl, rfl⟩ := e'
            rw [Nat.zero_add] at hc'
            rw [hbr.cell (by exact hlt')]
            exact hc'
          have htake : L.take (k + 1) = L.take k ++ [x] := by rw [List.take_add_one, hx]; rfl
          have e1 : Ord.between q p (L.take (k + 1)) = Ord.between q p (L.take k) + if q ≤ x ∧ x ≤ p then 1 else 0 := by rw [htake]; exact Ord.between_snoc _ _ _ _
          have E1 := Lib.hid e1
          clear e1 htake hx
          by_cases h1 : q ≤ x
          · by_cases h2 : x ≤ p
            · go_wp2
              go_roundw
              case rel => exact ⟨k + 1, by omega, by go_num, by rw [E1.out, if_pos ⟨h1, h2⟩]; go_num, hbr⟩
              case measure => simp [intOf]; omega
            · go_wp2
              go_roundw
              case rel => exact ⟨k + 1, by omega, by go_num, by rw [E1.out, if_neg (by omega)]; go_num, hbr⟩
              case measure => simp [intOf]; omega
          · go_wp2
            go_roundw
            case rel => exact ⟨k + 1, by omega, by go_num, by rw [E1.out, if_neg (by omega)]; go_num, hbr⟩
            case measure => simp [intOf]; omega
        · have htk : L.take k = L := List.take_of_length_le (by rw [HLn.out]; omega)
          have hc := median_any _ _ c1 L wr (HR.out.below hbr) (by omega)
          rw [mid_eq] at hc
          rw [htk] at hL1
          rw [htk]
          clear htk
          by_cases hnr : 2 * Ord.between q p L ≤ len
          · have HC := Lib.hid hc; clear hc
            go_wp2_with (go_at_call 12; refine HC.out.mono ?_; rintro e w3 ⟨rfl, hb3⟩)
            go_ret
            exact ⟨rfl, (hbw.trans (hbr.mono hbw.size)).trans (hb3.mono (Nat.le_trans hbw.size hbr.size))⟩
          · obtain ⟨q1, q2⟩ := kthIn HLn.out ((len - 1) / 2) (by omega)
            rw [q1] at hc
            generalize kthOf L (((len - 1) / 2 : Nat) : Int) = m at *
            have HC := Lib.hid hc; clear hc
            have hmm := Ord.near_mid (lo := q) (hi := p) (by rw [HLn.out]; omega) (by rw [HLn.out]; exact q2)
            obtain ⟨g1, g2⟩ := hmm
            clear q1 q2
            go_wp2_with (go_at_call 12; refine HC.out.mono ?_; rintro e w3 ⟨rfl, hb3⟩)
            go_ret
            exact ⟨rfl, (hbw.trans (hbr.mono hbw.size)).trans (hb3.mono (Nat.le_trans hbw.size hbr.size))⟩
  · obtain ⟨b, o, rfl, _⟩ := hl.some_of (by omega)
    have hgt : (200 : Int) < (len : Int) := by omega
    have hm : 200 * 8 ≤ 140737488355328 := by omega
    have hm2 : 200 ≤ maxLen := by unfold maxLen; omega
    have hl2 : Row w (some ⟨b, o, none⟩) 200 ((l.take 200).map i64v) := by
      have := hl.take 200 (by omega)
      rwa [← List.map_take] at this
    have hcc : 200 ≤ cap := by omega
    generalize l.take 200 = L at hl2
    have hone := i64v_one L
    have hLn : L.length = 200 := by have := hl2.1; simpa using this
    have HLn := Lib.hid hLn; clear hLn
    go_enter Try.func4, Try.ntmps4
    go_wp2_with (first | (go_at_call 9; refine (shown_any _).mono ?_; rintro e w1 ⟨rfl, hb1⟩) | (at_builtin; refine wpList_append_fresh rfl (.tmp 15) (.tmp 20) 22 rfl w1.heap.size 2 i0 (.int .i64 0) 8 Try.underlying22 hi hz0 hz1 hz2 rfl _ _ rfl (owns_empty w1 2) (some ⟨b, o, none⟩) 200 cap (L.map i64v) rfl (hl2.below (hb1.alloc hb1.size _)) (by simp) hone hm2 hm (by simp) ?_))
    intro g c1 w2 hgB hnc hcm1 hrow hown hb2
    have hbw := (hb1.alloc hb1.size _).trans (hb2.mono hb1.size)
    have HR := Lib.hid hrow
    clear hb2 hrow hown
    rcases Int.lt_trichotomy p q with hpq | hpq | hpq
    · have hqp : ¬ q < p := by omega
      go_wp2
      go_loopw [10, 11] (fun nr i' wr => ∃ k : Nat, k ≤ 200 ∧ i' = .int .i64 k ∧ nr = .int .i64 (Ord.between p q (L.take k) : Int) ∧ Below w2.heap.size w2 wr) (fun _ i' _ => 200 - (intOf i').toNat)
      case atStart => exact ⟨0, by omega, rfl, rfl, Below.refl _ _⟩
      case round =>
        obtain ⟨k, hk, rfl, rfl, hbr⟩ := hrel
        have hL1 : Ord.between p q (L.take k) ≤ k := Nat.le_trans (List.length_filter_le _ _) (List.length_take_le _ _)
        by_cases hlt : k < 200
        · obtain ⟨x, hx⟩ : ∃ x, L[k]? = some x := ⟨L[k]'(by rw [HLn.out]; exact hlt), by rw [List.getElem?_eq_getElem]⟩
          have hcx : wr.cell? ⟨g, k, none⟩ = some (.int .i64 x) := by
            obtain ⟨b', o', e', hc', hlt'⟩ := HR.out.2 k (i64v x) (by simp [hx])
            simp only [Option.some.injEq, Addr.mk.injEq, and_true] at e'
            obtain ⟨rfl, rfl⟩ := e'
            rw [Nat.zero_add] at hc'
            rw [hbr.cell (by exact hlt')]
            exact hc'
          have htake : L.take (k + 1) = L.take k ++ [x] := by rw [List.take_add_one, hx]; rfl
          have e1 : Ord.between p q (L.take (k + 1)) = Ord.between p q (L.take k) + if p ≤ x ∧ x ≤ q then 1 else 0 := by rw [htake]; exact Ord.between_snoc _ _ _ _
          have E1 := Lib.hid e1
          clear e1 htake hx
          by_cases h1 : p ≤ x
          · by_cases h2 : x ≤ q
            · go_wp2
              go_roundw
              case rel => exact ⟨k + 1, by omega, by go_num, by rw [E1.out, if_pos ⟨h1, h2⟩]; go_num, hbr⟩
              case measure => simp [intOf]; omega
            · go_wp2
              go_roundw
              case rel => exact ⟨k + 1, by omega, by go_num, by rw [E1.out, if_neg (by omega)]; go_num, hbr⟩
              case measure => simp [intOf]; omega
          · go_wp2
            go_roundw
            case rel => exact ⟨k + 1, by omega, by go_num, by rw [E1.out, if_neg (by omega)]; go_num, hbr⟩
            case measure => simp [intOf]; omega
        · have htk : L.take k = L := List.take_of_length_le (by rw [HLn.out]; omega)
          have hc := median_any _ _ c1 L wr (HR.out.below hbr) (by omega)
          rw [mid_eq] at hc
          rw [htk] at hL1
          rw [htk]
          clear htk
          by_cases hnr : 2 * Ord.between p q L ≤ 200
          · have HC := Lib.hid hc; clear hc
            go_wp2_with (go_at_call 12; refine HC.out.mono ?_; rintro e w3 ⟨rfl, hb3⟩)
            go_ret
            exact ⟨rfl, (hbw.trans (hbr.mono hbw.size)).trans (hb3.mono (Nat.le_trans hbw.size hbr.size))⟩
          · obtain ⟨q1, q2⟩ := kthIn HLn.out ((200 - 1) / 2) (by omega)
            rw [q1] at hc
            generalize kthOf L (((200 - 1) / 2 : Nat) : Int) = m at *
            have HC := Lib.hid hc; clear hc
            have hmm := Ord.near_mid (lo := p) (hi := q) (by rw [HLn.out]; omega) (by rw [HLn.out]; exact q2)
            obtain ⟨g1, g2⟩ := hmm
            clear q1 q2
            go_wp2_with (go_at_call 12; refine HC.out.mono ?_; rintro e w3 ⟨rfl, hb3⟩)
            go_ret
            exact ⟨rfl, (hbw.trans (hbr.mono hbw.size)).trans (hb3.mono (Nat.le_trans hbw.size hbr.size))⟩
    · subst hpq
      go_wp2
      go_loopw [10, 11] (fun nr i' wr => ∃ k : Nat, k ≤ 200 ∧ i' = .int .i64 k ∧ nr = .int .i64 (Ord.between p p (L.take k) : Int) ∧ Below w2.heap.size w2 wr) (fun _ i' _ => 200 - (intOf i').toNat)
      case atStart => exact ⟨0, by omega, rfl, rfl, Below.refl _ _⟩
      case round =>
        obtain ⟨k, hk, rfl, rfl, hbr⟩ := hrel
        have hL1 : Ord.between p p (L.take k) ≤ k := Nat.le_trans (List.length_filter_le _ _) (List.length_take_le _ _)
        by_cases hlt : k < 200
        · obtain ⟨x, hx⟩ : ∃ x, L[k]? = some x := ⟨L[k]'(by rw [HLn.out]; exact hlt), by rw [List.getElem?_eq_getElem]⟩
          have hcx : wr.cell? ⟨g, k, none⟩ = some (.int .i64 x) := by
            obtain ⟨b', o', e', hc', hlt'⟩ := HR.out.2 k (i64v x) (by simp [hx])
            simp only [Option.some.injEq, Addr.mk.injEq, and_true] at e'
            obtain ⟨rfl, rfl⟩ := e'
            rw [Nat.zero_add] at hc'
            rw [hbr.cell (by exact hlt')]
            exact hc'
          have htake : L.take (k + 1) = L.take k ++ [x] := by rw [List.take_add_one, hx]; rfl
          have e1 : Ord.between p p (L.take (k + 1)) = Ord.between p p (L.take k) + if p ≤ x ∧ x ≤ p then 1 else 0 := by rw [htake]; exact Ord.between_snoc _ _ _ _
          have E1 := Lib.hid e1
          clear e1 htake hx
          by_cases h1 : p ≤ x
          · by_cases h2 : x ≤ p
            · go_wp2
              go_roundw
              case rel => exact ⟨k + 1, by omega, by go_num, by rw [E1.out, if_pos ⟨h1, h2⟩]; go_num, hbr⟩
              case measure => simp [intOf]; omega
            · go_wp2
              go_roundw
              case rel => exact ⟨k + 1, by omega, by go_num, by rw [E1.out, if_neg (by omega)]; go_num, hbr⟩
              case measure => simp [intOf]; omega
          · go_wp2
            go_roundw
            case rel => exact ⟨k + 1, by omega, by go_num, by rw [E1.out, if_neg (by omega)]; go_num, hbr⟩
            case measure => simp [intOf]; omega
        · have htk : L.take k = L := List.take_of_length_le (by rw [HLn.out]; omega)
          have hc := median_any _ _ c1 L wr (HR.out.below hbr) (by omega)
          rw [mid_eq] at hc
          rw [htk] at hL1
          rw [htk]
          clear htk
          by_cases hnr : 2 * Ord.between p p L ≤ 200
          · have HC := Lib.hid hc; clear hc
            go_wp2_with (go_at_call 12; refine HC.out.mono ?_; rintro e w3 ⟨rfl, hb3⟩)
            go_ret
            exact ⟨rfl, (hbw.trans (hbr.mono hbw.size)).trans (hb3.mono (Nat.le_trans hbw.size hbr.size))⟩
          · obtain ⟨q1, q2⟩ := kthIn HLn.out ((200 - 1) / 2) (by omega)
            rw [q1] at hc
            generalize kthOf L (((200 - 1) / 2 : Nat) : Int) = m at *
            have HC := Lib.hid hc; clear hc
            have hmm := Ord.near_mid (lo := p) (hi := p) (by rw [HLn.out]; omega) (by rw [HLn.out]; exact q2)
            obtain ⟨g1, g2⟩ := hmm
            clear q1 q2
            go_wp2_with (go_at_call 12; refine HC.out.mono ?_; rintro e w3 ⟨rfl, hb3⟩)
            go_ret
            exact ⟨rfl, (hbw.trans (hbr.mono hbw.size)).trans (hb3.mono (Nat.le_trans hbw.size hbr.size))⟩
    · have hqp : ¬ p < q := by omega
      go_wp2
      go_loopw [10, 11] (fun nr i' wr => ∃ k : Nat, k ≤ 200 ∧ i' = .int .i64 k ∧ nr = .int .i64 (Ord.between q p (L.take k) : Int) ∧ Below w2.heap.size w2 wr) (fun _ i' _ => 200 - (intOf i').toNat)
      case atStart => exact ⟨0, by omega, rfl, rfl, Below.refl _ _⟩
      case round =>
        obtain ⟨k, hk, rfl, rfl, hbr⟩ := hrel
        have hL1 : Ord.between q p (L.take k) ≤ k := Nat.le_trans (List.length_filter_le _ _) (List.length_take_le _ _)
        by_cases hlt : k < 200
        · obtain ⟨x, hx⟩ : ∃ x, L[k]? = some x := ⟨L[k]'(by rw [HLn.out]; exact hlt), by rw [List.getElem?_eq_getElem]⟩
          have hcx : wr.cell? ⟨g, k, none⟩ = some (.int .i64 x) := by
            obtain ⟨b', o', e', hc', hlt'⟩ := HR.out.2 k (i64v x) (by simp [hx])
            simp only [Option.some.injEq, Addr.mk.injEq, and_true] at e'
            obtain ⟨rfl, rfl⟩ := e'
            rw [Nat.zero_add] at hc'
            rw [hbr.cell (by exact hlt')]
            exact hc'
          have htake : L.take (k + 1) = L.take k ++ [x] := by rw [List.take_add_one, hx]; rfl
          have e1 : Ord.between q p (L.take (k + 1)) = Ord.between q p (L.take k) + if q ≤ x ∧ x ≤ p then 1 else 0 := by rw [htake]; exact Ord.between_snoc _ _ _ _
          have E1 := Lib.hid e1
          clear e1 htake hx
          by_cases h1 : q ≤ x
          · by_cases h2 : x ≤ p
            · go_wp2
              go_roundw
              case rel => exact ⟨k + 1, by omega, by go_num, by rw [E1.out, if_pos ⟨h1, h2⟩]; go_num, hbr⟩
              case measure => simp [intOf]; omega
            · go_wp2
              go_roundw
              case rel => exact ⟨k + 1, by omega, by go_num, by rw [E1.out, if_neg (by omega)]; go_num, hbr⟩
              case measure => simp [intOf]; omega
          · go_wp2
            go_roundw
            case rel => exact ⟨k + 1, by omega, by go_num, by rw [E1.out, if_neg (by omega)]; go_num, hbr⟩
            case measure => simp [intOf]; omega
        · have htk : L.take k = L := List.take_of_length_le (by rw [HLn.out]; omega)
          have hc := median_any _ _ c1 L wr (HR.out.below hbr) (by omega)
          rw [mid_eq] at hc
          rw [htk] at hL1
          rw [htk]
          clear htk
          by_cases hnr : 2 * Ord.between q p L ≤ 200
          · have HC := Lib.hid hc; clear hc
            go_wp2_with (go_at_call 12; refine HC.out.mono ?_; rintro e w3 ⟨rfl, hb3⟩)
            go_ret
            exact ⟨rfl, (hbw.trans (hbr.mono hbw.size)).trans (hb3.mono (Nat.le_trans hbw.size hbr.size))⟩
          · obtain ⟨q1, q2⟩ := kthIn HLn.out ((200 - 1) / 2) (by omega)
            rw [q1] at hc
            generalize kthOf L (((200 - 1) / 2 : Nat) : Int) = m at *
            have HC := Lib.hid hc; clear hc
            have hmm := Ord.near_mid (lo := q) (hi := p) (by rw [HLn.out]; omega) (by rw [HLn.out]; exact q2)
            obtain ⟨g1, g2⟩ := hmm
            clear q1 q2
            go_wp2_with (go_at_call 12; refine HC.out.mono ?_; rintro e w3 ⟨rfl, hb3⟩)
            go_ret
            exact ⟨rfl, (hbw.trans (hbr.mono hbw.size)).trans (hb3.mono (Nat.le_trans hbw.size hbr.size))⟩
end Go.Proofs.Ytlmmmfkhmlafgaa
