import Derived.Test.YtgbjaglkmjipmaaShown
namespace Go.Proofs.Ytgbjaglkmjipmaa
open Go.RowKit
set_option linter.unusedVariables false
theorem info5 : (Try.prog.info? 5).map (fun i => (i.zero, i.size, i.bytes)) = some (some (.int .u8 0), 1, 1) := by kernel_rfl
theorem u8v_one (l : List (BitVec 8)) : ∀ u ∈ l.map u8v, u.oneCell' = true := by
  intro u hu
  obtain ⟨x, _, rfl⟩ := List.mem_map.1 hu
  rfl
theorem u8_wf {n : Int} (h : (Lit.int .u8 n).wf = true) : 0 ≤ n ∧ n ≤ 255 := by
  simp [Lit.wf, IntKind.min, IntKind.max, IntKind.signed, IntKind.bits] at h
  omega
theorem bytes_of {zs : List Int} (h : ∀ n ∈ zs, (Lit.int .u8 n).wf = true) : ∃ l : List (BitVec 8), zs.map (Value.int .u8) = l.map u8v := by
  refine ⟨zs.map (BitVec.ofInt 8), ?_⟩
  rw [List.map_map]
  apply List.map_congr_left
  intro n hn
  have := u8_wf (h n hn)
  show Value.int .u8 n = .int .u8 ((BitVec.ofInt 8 n).toNat : Int)
  obtain ⟨m, rfl⟩ := Int.eq_ofNat_of_zero_le this.1
  congr 1
  rw [BitVec.ofInt_natCast, BitVec.toNat_ofNat]
  omega
theorem u32_of {n : Int} (h : (Lit.int .u32 n).wf = true) : ∃ s : BitVec 32, n = (s.toNat : Int) := by
  have h1 : 0 ≤ n ∧ n ≤ 4294967295 := by
    simp [Lit.wf, IntKind.min, IntKind.max, IntKind.signed, IntKind.bits] at h
    omega
  refine ⟨BitVec.ofInt 32 n, ?_⟩
  obtain ⟨m, rfl⟩ := Int.eq_ofNat_of_zero_le h1.1
  rw [BitVec.ofInt_natCast, BitVec.toNat_ofNat]
  omega
theorem undo_extend (s : BitVec 32) (a : Option Addr) (len cap : Nat) (l : List (BitVec 8)) (w : World) (hl : Bytes w a len l) :
    Calls Try.prog 12 #[.int .u32 ((Crc.extend s l).toNat : Int), .slice a len cap] w fun e w' => e = .returned (.int .u32 (s.toNat : Int)) ∧ Below w.heap.size w w' := by
  refine (undo_any (Crc.extend s l) a len cap l w hl).mono fun e w' => ?_
  rw [Crc.undo_extend]; exact id
theorem extend_undo (s : BitVec 32) (a : Option Addr) (len cap : Nat) (l : List (BitVec 8)) (w : World) (hl : Bytes w a len l) :
    Calls Try.prog 11 #[.int .u32 ((Crc.undo s l).toNat : Int), .slice a len cap] w fun e w' => e = .returned (.int .u32 (s.toNat : Int)) ∧ Below w.heap.size w w' := by
  refine (extend_any (Crc.undo s l) a len cap l w hl).mono fun e w' => ?_
  rw [Crc.extend_undo]; exact id

set_option maxRecDepth 100000 in
set_option maxHeartbeats 1000000 in
theorem tells_walk (s : BitVec 32) (a : Option Addr) (len cap : Nat) (l : List (BitVec 8)) (w : World) (hl : Row w a len (l.map u8v)) (hcap : len ≤ cap) (hcm : cap ≤ 9223372036854775807) (hnil : a = none → cap = 0) :
    Calls Try.prog 3 #[.int .u32 (s.toNat : Int), .slice a len cap] w fun e w' => e = .returned (.bool true) ∧ Below w.heap.size w w' := by
  have kc := fun (w : World) (C : Array Value) (n c : Nat) => Lib.run_convert_bytes_const (P := Try.prog) w 23 5 C n c Try.underlying23 Try.underlying5
  obtain ⟨i0, hi, hz0, hz1, hz2⟩ := info_parts info5
  by_cases hle : len ≤ 1000
  · have hm : len * 1 ≤ 140737488355328 := by omega
    have hm2 : len ≤ maxLen := by unfold maxLen; omega
    have hl2 := hl
    generalize l = L at hl2
    have hone := u8v_one L
    go_enter Try.func3, Try.ntmps3
    go_wp2_with (first | (go_at_call 8; refine (shown_any _).mono ?_; rintro e w1 ⟨rfl, hb1⟩) | (at_builtin; refine wpList_append_fresh rfl (.tmp 7) (.tmp 12) 23 rfl w1.heap.size 5 i0 (.int .u8 0) 1 Try.underlying23 hi hz0 hz1 hz2 rfl _ _ rfl (owns_empty w1 5) a len cap (L.map u8v) rfl (hl2.below (hb1.alloc hb1.size _)) hnil hone hm2 hm (by simp) ?_))
    intro g c1 w2 hgB hnc hcm1 hrow hown hb2
    have hB : Bytes w2 (some ⟨g, 0, none⟩) len L := Bytes.of hrow (by omega)
    have hbw := (hb1.alloc hb1.size _).trans (hb2.mono hb1.size)
    clear hb2
    clear hown hrow
    have h0 := (Crc.extend 0#32 L).isLt
    go_wp2_with fail
    refine (sum_any _ _ _ L _ hB).mono ?_
    rintro e w3 ⟨rfl, hb3⟩
    have hB3 := hB.below hb3
    have hbw3 := hbw.trans (hb3.mono hbw.size)
    go_wp2_with fail
    refine (refExtend_any 0#32 _ _ _ L _ hB3).mono ?_
    rintro e w4 ⟨rfl, rfl⟩
    go_wp2_with fail
    refine (extend_any s _ _ _ L _ hB3).mono ?_
    rintro e w5 ⟨rfl, hb5⟩
    have hB5 := hB3.below hb5
    have hbw5 := hbw3.trans (hb5.mono hbw3.size)
    go_wp2_with fail
    refine (refExtend_any s _ _ _ L _ hB5).mono ?_
    rintro e w6 ⟨rfl, rfl⟩
    go_wp2_with fail
    refine (undo_any s _ _ _ L _ hB5).mono ?_
    rintro e w7 ⟨rfl, hb7⟩
    have hB7 := hB5.below hb7
    have hbw7 := hbw5.trans (hb7.mono hbw5.size)
    go_wp2_with fail
    refine (refUndo_any s _ _ _ L _ hB7).mono ?_
    rintro e w8 ⟨rfl, rfl⟩
    go_wp2
    go_ret
    exact ⟨rfl, hbw7⟩
  · obtain ⟨b, o, rfl, _⟩ := hl.some_of (by omega)
    have hgt : (1000 : Int) < (len : Int) := by omega
    have hm : 1000 * 1 ≤ 140737488355328 := by omega
    have hm2 : 1000 ≤ maxLen := by unfold maxLen; omega
    have hl2 : Row w (some ⟨b, o, none⟩) 1000 ((l.take 1000).map u8v) := by
      have := hl.take 1000 (by omega)
      rwa [← List.map_take] at this
    have hcc : 1000 ≤ cap := by omega
    generalize l.take 1000 = L at hl2
    have hone := u8v_one L
    go_enter Try.func3, Try.ntmps3
    go_wp2_with (first | (go_at_call 8; refine (shown_any _).mono ?_; rintro e w1 ⟨rfl, hb1⟩) | (at_builtin; refine wpList_append_fresh rfl (.tmp 7) (.tmp 12) 23 rfl w1.heap.size 5 i0 (.int .u8 0) 1 Try.underlying23 hi hz0 hz1 hz2 rfl _ _ rfl (owns_empty w1 5) (some ⟨b, o, none⟩) 1000 cap (L.map u8v) rfl (hl2.below (hb1.alloc hb1.size _)) (by simp) hone hm2 hm (by simp) ?_))
    intro g c1 w2 hgB hnc hcm1 hrow hown hb2
    have hB : Bytes w2 (some ⟨g, 0, none⟩) 1000 L := Bytes.of hrow (by omega)
    have hbw := (hb1.alloc hb1.size _).trans (hb2.mono hb1.size)
    clear hb2
    clear hown hrow
    have h0 := (Crc.extend 0#32 L).isLt
    go_wp2_with fail
    refine (sum_any _ _ _ L _ hB).mono ?_
    rintro e w3 ⟨rfl, hb3⟩
    have hB3 := hB.below hb3
    have hbw3 := hbw.trans (hb3.mono hbw.size)
    go_wp2_with fail
    refine (refExtend_any 0#32 _ _ _ L _ hB3).mono ?_
    rintro e w4 ⟨rfl, rfl⟩
    go_wp2_with fail
    refine (extend_any s _ _ _ L _ hB3).mono ?_
    rintro e w5 ⟨rfl, hb5⟩
    have hB5 := hB3.below hb5
    have hbw5 := hbw3.trans (hb5.mono hbw3.size)
    go_wp2_with fail
    refine (refExtend_any s _ _ _ L _ hB5).mono ?_
    rintro e w6 ⟨rfl, rfl⟩
    go_wp2_with fail
    refine (undo_any s _ _ _ L _ hB5).mono ?_
    rintro e w7 ⟨rfl, hb7⟩
    have hB7 := hB5.below hb7
    have hbw7 := hbw5.trans (hb7.mono hbw5.size)
    go_wp2_with fail
    refine (refUndo_any s _ _ _ L _ hB7).mono ?_
    rintro e w8 ⟨rfl, rfl⟩
    go_wp2
    go_ret
    exact ⟨rfl, hbw7⟩

set_option maxRecDepth 100000 in
set_option maxHeartbeats 1000000 in
theorem back_walk (s : BitVec 32) (a : Option Addr) (len cap : Nat) (l : List (BitVec 8)) (w : World) (hl : Row w a len (l.map u8v)) (hcap : len ≤ cap) (hcm : cap ≤ 9223372036854775807) (hnil : a = none → cap = 0) :
    Calls Try.prog 4 #[.int .u32 (s.toNat : Int), .slice a len cap] w fun e w' => e = .returned (.bool true) ∧ Below w.heap.size w w' := by
  have kc := fun (w : World) (C : Array Value) (n c : Nat) => Lib.run_convert_bytes_const (P := Try.prog) w 23 5 C n c Try.underlying23 Try.underlying5
  obtain ⟨i0, hi, hz0, hz1, hz2⟩ := info_parts info5
  by_cases hle : len ≤ 1000
  · have hm : len * 1 ≤ 140737488355328 := by omega
    have hm2 : len ≤ maxLen := by unfold maxLen; omega
    have hl2 := hl
    generalize l = L at hl2
    have hone := u8v_one L
    go_enter Try.func4, Try.ntmps4
    go_wp2_with (first | (go_at_call 8; refine (shown_any _).mono ?_; rintro e w1 ⟨rfl, hb1⟩) | (at_builtin; refine wpList_append_fresh rfl (.tmp 7) (.tmp 12) 23 rfl w1.heap.size 5 i0 (.int .u8 0) 1 Try.underlying23 hi hz0 hz1 hz2 rfl _ _ rfl (owns_empty w1 5) a len cap (L.map u8v) rfl (hl2.below (hb1.alloc hb1.size _)) hnil hone hm2 hm (by simp) ?_))
    intro g c1 w2 hgB hnc hcm1 hrow hown hb2
    have hB : Bytes w2 (some ⟨g, 0, none⟩) len L := Bytes.of hrow (by omega)
    have hbw := (hb1.alloc hb1.size _).trans (hb2.mono hb1.size)
    clear hb2
    clear hown hrow
    go_wp2_with fail
    refine (extend_any s _ _ _ L _ hB).mono ?_
    rintro e w3 ⟨rfl, hb3⟩
    have hB3 := hB.below hb3
    have hbw3 := hbw.trans (hb3.mono hbw.size)
    go_wp2_with fail
    refine (undo_extend s _ _ _ L _ hB3).mono ?_
    rintro e w4 ⟨rfl, hb4⟩
    have hB4 := hB3.below hb4
    have hbw4 := hbw3.trans (hb4.mono hbw3.size)
    go_wp2_with fail
    refine (undo_any s _ _ _ L _ hB4).mono ?_
    rintro e w5 ⟨rfl, hb5⟩
    have hB5 := hB4.below hb5
    have hbw5 := hbw4.trans (hb5.mono hbw4.size)
    go_wp2_with fail
    refine (extend_undo s _ _ _ L _ hB5).mono ?_
    rintro e w6 ⟨rfl, hb6⟩
    have hB6 := hB5.below hb6
    have hbw6 := hbw5.trans (hb6.mono hbw5.size)
    go_wp2
    go_ret
    exact ⟨rfl, hbw6⟩
  · obtain ⟨b, o, rfl, _⟩ := hl.some_of (by omega)
    have hgt : (1000 : Int) < (len : Int) := by omega
    have hm : 1000 * 1 ≤ 140737488355328 := by omega
    have hm2 : 1000 ≤ maxLen := by unfold maxLen; omega
    have hl2 : Row w (some ⟨b, o, none⟩) 1000 ((l.take 1000).map u8v) := by
      have := hl.take 1000 (by omega)
      rwa [← List.map_take] at this
    have hcc : 1000 ≤ cap := by omega
    generalize l.take 1000 = L at hl2
    have hone := u8v_one L
    go_enter Try.func4, Try.ntmps4
    go_wp2_with (first | (go_at_call 8; refine (shown_any _).mono ?_; rintro e w1 ⟨rfl, hb1⟩) | (at_builtin; refine wpList_append_fresh rfl (.tmp 7) (.tmp 12) 23 rfl w1.heap.size 5 i0 (.int .u8 0) 1 Try.underlying23 hi hz0 hz1 hz2 rfl _ _ rfl (owns_empty w1 5) (some ⟨b, o, none⟩) 1000 cap (L.map u8v) rfl (hl2.below (hb1.alloc hb1.size _)) (by simp) hone hm2 hm (by simp) ?_))
    intro g c1 w2 hgB hnc hcm1 hrow hown hb2
    have hB : Bytes w2 (some ⟨g, 0, none⟩) 1000 L := Bytes.of hrow (by omega)
    have hbw := (hb1.alloc hb1.size _).trans (hb2.mono hb1.size)
    clear hb2
    clear hown hrow
    go_wp2_with fail
    refine (extend_any s _ _ _ L _ hB).mono ?_
    rintro e w3 ⟨rfl, hb3⟩
    have hB3 := hB.below hb3
    have hbw3 := hbw.trans (hb3.mono hbw.size)
    go_wp2_with fail
    refine (undo_extend s _ _ _ L _ hB3).mono ?_
    rintro e w4 ⟨rfl, hb4⟩
    have hB4 := hB3.below hb4
    have hbw4 := hbw3.trans (hb4.mono hbw3.size)
    go_wp2_with fail
    refine (undo_any s _ _ _ L _ hB4).mono ?_
    rintro e w5 ⟨rfl, hb5⟩
    have hB5 := hB4.below hb5
    have hbw5 := hbw4.trans (hb5.mono hbw4.size)
    go_wp2_with fail
    refine (extend_undo s _ _ _ L _ hB5).mono ?_
    rintro e w6 ⟨rfl, hb6⟩
    have hB6 := hB5.below hb6
    have hbw6 := hbw5.trans (hb6.mono hbw5.size)
    go_wp2
    go_ret
    exact ⟨rfl, hbw6⟩
end Go.Proofs.Ytgbjaglkmjipmaa
