import Derived.Test.YtgbjaglkmjipmaaNear
namespace Go.Proofs.Ytgbjaglkmjipmaa
open Go.RowKit
set_option linter.unusedVariables false
set_option maxRecDepth 100000 in
set_option maxHeartbeats 1000000 in
theorem near_walk (y : Int) (x : BitVec 32) (a : Option Addr) (len cap : Nat) (l : List (BitVec 8)) (w : World) (hl : Row w a len (l.map u8v)) (hcap : len ≤ cap) (hcm : cap ≤ 9223372036854775807) (hnil : a = none → cap = 0) :
    Calls Try.prog 6 #[.slice a len cap, .int .i64 y, .int .u32 (x.toNat : Int)] w fun e w' => e = .returned (.bool true) ∧ Below w.heap.size w w' := by
  have kc := fun (w : World) (C : Array Value) (n c : Nat) => Lib.run_convert_bytes_const (P := Try.prog) w 23 5 C n c Try.underlying23 Try.underlying5
  obtain ⟨i0, hi, hz0, hz1, hz2⟩ := info_parts info5
  by_cases hle : len ≤ 1000
  · have hm : len * 1 ≤ 140737488355328 := by omega
    have hm2 : len ≤ maxLen := by unfold maxLen; omega
    have hl2 := hl
    generalize l = L at hl2
    have hone := u8v_one L
    go_enter Try.func6, Try.ntmps6
    go_wp2_with (first | (go_at_call 8; refine (shown_any _).mono ?_; rintro e w1 ⟨rfl, hb1⟩) | (at_builtin; refine wpList_append_fresh rfl (.tmp 11) (.tmp 16) 23 rfl w1.heap.size 5 i0 (.int .u8 0) 1 Try.underlying23 hi hz0 hz1 hz2 rfl _ _ rfl (owns_empty w1 5) a len cap (L.map u8v) rfl (hl2.below (hb1.alloc hb1.size _)) hnil hone hm2 hm (by simp) ?_))
    intro g c1 w2 hgB hnc hcm1 hrow hown hb2
    have hB : Bytes w2 (some ⟨g, 0, none⟩) len L := Bytes.of hrow (by omega)
    have hbw := (hb1.alloc hb1.size _).trans (hb2.mono hb1.size)
    clear hb2
    by_cases h4 : len < 4
    · go_wp2
      go_ret
      exact ⟨rfl, hbw⟩
    · have h4i : (4 : Int) ≤ (len : Int) := by omega
      obtain ⟨q, hq⟩ : ∃ q : Nat, (y % 65536).toNat = q := ⟨_, rfl⟩
      have hand := and_65535 y
      rw [hq] at hand
      clear hq
      have hk : q % (len - 3) + 4 ≤ len := by have := Nat.mod_lt q (show 0 < len - 3 by omega); omega
      have hrem : (q : Int) % ((len : Int) - 3) = ((q % (len - 3) : Nat) : Int) := by
        rw [Int.natCast_emod]
        (congr 1; try omega)
      generalize q % (len - 3) = k at *
      have HK := Lib.hid hrem; clear hrem
      have hone2 : ∀ u ∈ L.map u8v, u.oneCell' = true := u8v_one L
      have hL : L.length = len := hB.1
      have HLn := Lib.hid hL; clear hL
      clear hown
      go_wp2_with (first | (at_builtin; rw [HK.out]; refine wpList_append_fresh rfl (.tmp 28) (.tmp 29) 23 rfl w2.heap.size 5 i0 (.int .u8 0) 1 Try.underlying23 hi hz0 hz1 hz2 rfl _ _ rfl (owns_empty w2 5) (some ⟨g, 0, none⟩) len c1 (L.map u8v) rfl (hrow.below ((Below.refl _ _).alloc (Nat.le_refl _) _)) (by simp) hone2 hm2 hm (by simp) ?_))
      intro g2 c2 w3 hg2 hnc2 hcm2 hrow2 hown2 hb3
      have hb3 : Below w2.heap.size w2 w3 := ((Below.refl _ _).alloc (Nat.le_refl _) _).trans hb3
      have HO := Lib.hid hown2
      have HR := Lib.hid hrow
      clear hrow2 hown2 hrow
      have hb2s := hb3.size
      have hgl : g < w2.heap.size := by
        obtain ⟨b', o', e', hlt'⟩ := HR.out.some_of (by omega)
        simp only [Option.some.injEq, Addr.mk.injEq] at e'
        omega
      have hxl := x.isLt
      go_wp2_with fail
      go_loopw [9] (fun i wr => ∃ j : Nat, j ≤ 4 ∧ i = .int .i64 j ∧ wr.ownsRow w2.heap.size 5 1 (.slice (some ⟨g2, 0, none⟩) len c2) len ((xorTo L k x j).map u8v) ∧ Below w2.heap.size w2 wr) (fun i _ => 4 - (intOf i).toNat)
      case atStart => exact ⟨0, by omega, rfl, HO.out, hb3⟩
      case round =>
        obtain ⟨j, hj, rfl, hown, hbr⟩ := hrel
        clear HO hb3
        have HO := Lib.hid hown; clear hown
        by_cases hj4 : j < 4
        · have hlen : (xorTo L k x j).length = len := by rw [xorTo_length, HLn.out]
          have hc : wr.cell? ⟨g2, k + j, none⟩ = some (.int .u8 (((xorTo L k x j).getD (k + j) 0#8).toNat : Int)) := by
            rw [HO.out.cellAt (k + j) (by omega)]
            have : k + j < (xorTo L k x j).length := by omega
            simp [u8v, List.getD, this]
          have hf : wr.frozen? ⟨g2, k + j, none⟩ = false := HO.out.frozenAt _
          have hstep : xorTo L k x (j + 1) = (xorTo L k x j).set (k + j) ((xorTo L k x j).getD (k + j) 0#8 ^^^ byteOf j x) := rfl
          have hst := HO.out.stored (k + j) (u8v ((xorTo L k x j).getD (k + j) 0#8 ^^^ byteOf j x))
          rw [← List.map_set, ← hstep] at hst
          have kb := byte_num j x
          generalize (xorTo L k x j).getD (k + j) 0#8 = v at *
          have kx := xor88_num v (byteOf j x)
          generalize byteOf j x = y8 at *
          have HS := Lib.hid hst
          clear hst hstep hlen
          have hv := v.isLt
          have hy8 := y8.isLt
          generalize v ^^^ y8 = z at *
          have hg2s : w2.heap.size ≤ g2 := hg2
          clear hle
          go_wp2
          go_roundw
          case rel =>
            exact ⟨j + 1, by omega, by go_num, HS.out.1, hbr.setCell hg2s _⟩
          case measure => simp [intOf]; omega
        · obtain rfl : j = 4 := by omega
          have hB4 : Bytes wr (some ⟨g2, 0, none⟩) len (xorTo L k x 4) := by
            obtain ⟨a', c', e, hr⟩ := Row.own HO.out
            simp only [Value.slice.injEq, true_and] at e
            obtain ⟨rfl, rfl⟩ := e
            exact Bytes.of hr (by omega)
          have hBb : Bytes wr (some ⟨g, 0, none⟩) len L := by
            obtain ⟨h1, h2, h3⟩ := hB
            refine ⟨h1, h2, fun i v hv => ?_⟩
            obtain ⟨b', o', e', hc', hlt'⟩ := h3 i v hv
            simp only [Option.some.injEq, Addr.mk.injEq, and_true] at e'
            obtain ⟨rfl, rfl⟩ := e'
            exact ⟨g, 0, rfl, by rw [hbr.cell hgl]; exact hc', Nat.lt_of_lt_of_le hgl hbr.size⟩
          have hne := near_eq L k x (by rw [HLn.out]; omega)
          have HE := Lib.hid hne; clear hne
          have hbw4 := hbw.trans (hbr.mono hbw.size)
          clear hle
          go_wp2_with fail
          refine (sum_any _ _ _ _ _ hB4).mono ?_
          rintro e w5 ⟨rfl, hb5⟩
          have hBb5 := hBb.below hb5
          have hbw5 := hbw4.trans (hb5.mono hbw4.size)
          generalize Crc.extend 0#32 (xorTo L k x 4) = s1 at *
          go_wp2_with fail
          refine (sum_any _ _ _ _ _ hBb5).mono ?_
          rintro e w6 ⟨rfl, hb6⟩
          have hbw6 := hbw5.trans (hb6.mono hbw5.size)
          generalize Crc.extend 0#32 L = s2 at *
          go_wp2
          all_goals (go_ret; exact ⟨by have := HE.out; simpa using this, hbw6⟩)
  · obtain ⟨b, o, rfl, _⟩ := hl.some_of (by omega)
    have hgt : (1000 : Int) < (len : Int) := by omega
    have hm : 1000 * 1 ≤ 140737488355328 := by omega
    have hm2 : 1000 ≤ maxLen := by unfold maxLen; omega
    have hl2 : Row w (some ⟨b, o, none⟩) 1000 ((l.take 1000).map u8v) := by
      have := hl.take 1000 (by omega)
      rwa [← List.map_take] at this
    have hcc : 1000 ≤ cap := by omega
    generalize l.take 1000 = L at hl2
    have hone := u8v_one L
    go_enter Try.func6, Try.ntmps6
    go_wp2_with (first | (go_at_call 8; refine (shown_any _).mono ?_; rintro e w1 ⟨rfl, hb1⟩) | (at_builtin; refine wpList_append_fresh rfl (.tmp 11) (.tmp 16) 23 rfl w1.heap.size 5 i0 (.int .u8 0) 1 Try.underlying23 hi hz0 hz1 hz2 rfl _ _ rfl (owns_empty w1 5) (some ⟨b, o, none⟩) 1000 cap (L.map u8v) rfl (hl2.below (hb1.alloc hb1.size _)) (by simp) hone hm2 hm (by simp) ?_))
    intro g c1 w2 hgB hnc hcm1 hrow hown hb2
    have hB : Bytes w2 (some ⟨g, 0, none⟩) 1000 L := Bytes.of hrow (by omega)
    have hbw := (hb1.alloc hb1.size _).trans (hb2.mono hb1.size)
    clear hb2
    obtain ⟨q, hq⟩ : ∃ q : Nat, (y % 65536).toNat = q := ⟨_, rfl⟩
    have hand := and_65535 y
    rw [hq] at hand
    clear hq
    have hk : q % (1000 - 3) + 4 ≤ 1000 := by have := Nat.mod_lt q (show 0 < 1000 - 3 by omega); omega
    have hrem : (q : Int) % 997 = ((q % (1000 - 3) : Nat) : Int) := by
      rw [Int.natCast_emod]
      (congr 1; try omega)
    generalize q % (1000 - 3) = k at *
    have HK := Lib.hid hrem; clear hrem
    have hone2 : ∀ u ∈ L.map u8v, u.oneCell' = true := u8v_one L
    have hL : L.length = 1000 := hB.1
    have HLn := Lib.hid hL; clear hL
    clear hown
    go_wp2_with (first | (at_builtin; rw [HK.out]; refine wpList_append_fresh rfl (.tmp 28) (.tmp 29) 23 rfl w2.heap.size 5 i0 (.int .u8 0) 1 Try.underlying23 hi hz0 hz1 hz2 rfl _ _ rfl (owns_empty w2 5) (some ⟨g, 0, none⟩) 1000 c1 (L.map u8v) rfl (hrow.below ((Below.refl _ _).alloc (Nat.le_refl _) _)) (by simp) hone2 hm2 hm (by simp) ?_))
    intro g2 c2 w3 hg2 hnc2 hcm2 hrow2 hown2 hb3
    have hb3 : Below w2.heap.size w2 w3 := ((Below.refl _ _).alloc (Nat.le_refl _) _).trans hb3
    have HO := Lib.hid hown2
    have HR := Lib.hid hrow
    clear hrow2 hown2 hrow
    have hb2s := hb3.size
    have hgl : g < w2.heap.size := by
      obtain ⟨b', o', e', hlt'⟩ := HR.out.some_of (by omega)
      simp only [Option.some.injEq, Addr.mk.injEq] at e'
      omega
    have hxl := x.isLt
    go_wp2_with fail
    go_loopw [9] (fun i wr => ∃ j : Nat, j ≤ 4 ∧ i = .int .i64 j ∧ wr.ownsRow w2.heap.size 5 1 (.slice (some ⟨g2, 0, none⟩) 1000 c2) 1000 ((xorTo L k x j).map u8v) ∧ Below w2.heap.size w2 wr) (fun i _ => 4 - (intOf i).toNat)
    case atStart => exact ⟨0, by omega, rfl, HO.out, hb3⟩
    case round =>
      obtain ⟨j, hj, rfl, hown, hbr⟩ := hrel
      clear HO hb3
      have HO := Lib.hid hown; clear hown
      by_cases hj4 : j < 4
      · have hlen : (xorTo L k x j).length = 1000 := by rw [xorTo_length, HLn.out]
        have hc : wr.cell? ⟨g2, k + j, none⟩ = some (.int .u8 (((xorTo L k x j).getD (k + j) 0#8).toNat : Int)) := by
          rw [HO.out.cellAt (k + j) (by omega)]
          have : k + j < (xorTo L k x j).length := by omega
          simp [u8v, List.getD, this]
        have hf : wr.frozen? ⟨g2, k + j, none⟩ = false := HO.out.frozenAt _
        have hstep : xorTo L k x (j + 1) = (xorTo L k x j).set (k + j) ((xorTo L k x j).getD (k + j) 0#8 ^^^ byteOf j x) := rfl
        have hst := HO.out.stored (k + j) (u8v ((xorTo L k x j).getD (k + j) 0#8 ^^^ byteOf j x))
        rw [← List.map_set, ← hstep] at hst
        have kb := byte_num j x
        generalize (xorTo L k x j).getD (k + j) 0#8 = v at *
        have kx := xor88_num v (byteOf j x)
        generalize byteOf j x = y8 at *
        have HS := Lib.hid hst
        clear hst hstep hlen
        have hv := v.isLt
        have hy8 := y8.isLt
        generalize v ^^^ y8 = z at *
        have hg2s : w2.heap.size ≤ g2 := hg2
        clear hle
        go_wp2
        go_roundw
        case rel =>
          exact ⟨j + 1, by omega, by go_num, HS.out.1, hbr.setCell hg2s _⟩
        case measure => simp [intOf]; omega
      · obtain rfl : j = 4 := by omega
        have hB4 : Bytes wr (some ⟨g2, 0, none⟩) 1000 (xorTo L k x 4) := by
          obtain ⟨a', c', e, hr⟩ := Row.own HO.out
          simp only [Value.slice.injEq, true_and] at e
          obtain ⟨rfl, rfl⟩ := e
          exact Bytes.of hr (by omega)
        have hBb : Bytes wr (some ⟨g, 0, none⟩) 1000 L := by
          obtain ⟨h1, h2, h3⟩ := hB
          refine ⟨h1, h2, fun i v hv => ?_⟩
          obtain ⟨b', o', e', hc', hlt'⟩ := h3 i v hv
          simp only [Option.some.injEq, Addr.mk.injEq, and_true] at e'
          obtain ⟨rfl, rfl⟩ := e'
          exact ⟨g, 0, rfl, by rw [hbr.cell hgl]; exact hc', Nat.lt_of_lt_of_le hgl hbr.size⟩
        have hne := near_eq L k x (by rw [HLn.out]; omega)
        have HE := Lib.hid hne; clear hne
        have hbw4 := hbw.trans (hbr.mono hbw.size)
        clear hle
        go_wp2_with fail
        refine (sum_any _ _ _ _ _ hB4).mono ?_
        rintro e w5 ⟨rfl, hb5⟩
        have hBb5 := hBb.below hb5
        have hbw5 := hbw4.trans (hb5.mono hbw4.size)
        generalize Crc.extend 0#32 (xorTo L k x 4) = s1 at *
        go_wp2_with fail
        refine (sum_any _ _ _ _ _ hBb5).mono ?_
        rintro e w6 ⟨rfl, hb6⟩
        have hbw6 := hbw5.trans (hb6.mono hbw5.size)
        generalize Crc.extend 0#32 L = s2 at *
        go_wp2
        all_goals (go_ret; exact ⟨by have := HE.out; simpa using this, hbw6⟩)
end Go.Proofs.Ytgbjaglkmjipmaa
