/- TakeRow of the reference walked. -/
import Derived.Test.YtnkndpgaoplamaaTakeRow
namespace Go.Proofs.Ytnkndpgaoplamaa
open Go.RowKit
set_option linter.unusedVariables false

set_option maxRecDepth 100000 in
set_option maxHeartbeats 2000000 in
theorem rtakerow_any (xs : List Int) (g n c : Nat) (q : Int) (w : World) (hr : Row w (some ⟨g, 0, none⟩) n (xs.map bv)) (hc : n ≤ c) (hb : Bytes xs) (hn : n ≤ 65536) (hq1 : -9223372036854775808 ≤ q) (hq2 : q ≤ 9223372036854775807) :
    Calls Try.prog 21 #[.slice (some ⟨g, 0, none⟩) n c, .int .i64 q] w (TakenRow w (rowOf q xs)) := by
  obtain ⟨i0, hi, hz0, hz1, hz2⟩ := info_parts info2
  have HL := Lib.hid (show xs.length = n from by simpa using hr.1)
  have HR := Lib.hid hr; clear hr
  have HB := Lib.hid hb; clear hb
  have O1 := Lib.hid (owns_empty w 2)
  have B1 := Lib.hid ((Below.refl w.heap.size w).alloc (Nat.le_refl _) (.cells #[] 2))
  by_cases hneg : q < 0
  · have HN := Lib.hid (show rowOf q xs = none from by rw [rowOf, if_pos hneg])
    go_enter Try.func21, Try.ntmps21
    go_wp2
    go_ret3
    exact ⟨B1.out, by rw [HN.out]; rfl⟩
  · obtain ⟨N, rfl⟩ : ∃ N : Nat, q = N := ⟨q.toNat, by omega⟩
    have HN := Lib.hid (show rowOf N xs = decs N xs from by rw [rowOf, if_neg hneg, Int.toNat_natCast])
    have hneg' : (0 : Int) ≤ (N : Int) := by omega
    clear hneg
    go_enter Try.func21, Try.ntmps21
    go_wp2
    go_loopw [7, 8] (fun v at_ wr => ∃ (k m : Nat) (ds : List Nat) (va : Option Addr) (vc : Nat), v = .slice va k vc ∧ at_ = .int .i64 m ∧ Rest xs N k m ds ∧ wr.ownsRow w.heap.size 2 1 v k ((rowV ds).map iv) ∧ Below w.heap.size w wr) (fun _ at_ _ => n - (intOf at_).toNat)
    case atStart => exact ⟨0, 0, [], _, _, rfl, rfl, rest_zero _ _, O1.out, B1.out⟩
    case round =>
      obtain ⟨k, m, ds, va, vc, rfl, rfl, hrest, hown, hbel⟩ := hrel
      have HO := Lib.hid hown; have HW := Lib.hid hbel; have HS := Lib.hid hrest
      obtain ⟨hkN, hdl, hkm, hml, _⟩ := hrest
      rw [HL.out] at hml
      clear hown hbel O1 B1
      by_cases hlt : k < N
      · have hml' : (m : Int) ≤ (n : Int) := by omega
        have hmc : m ≤ c := by omega
        have HT := Lib.hid (row_tail (HR.out.below HW.out) hml hc)
        have T0 := Lib.hid (fun h : c = m => (by have := HT.out; rwa [if_pos h] at this : Row wr (some ⟨g, 0, none⟩) (n - m) ((xs.drop m).map bv)))
        have T1 := Lib.hid (fun h : ¬ c = m => (by have := HT.out; rwa [if_neg h] at this : Row wr (some ⟨g, m, none⟩) (n - m) ((xs.drop m).map bv)))
        have KT := Lib.hid (fun a' c' ww hrr => rtake_any (xs.drop m) a' (n - m) c' ww hrr (HB.out.drop m) (by omega))
        clear HT
        cases hd : dec (xs.drop m) with
        | none =>
          rw [hd] at KT
          have HF := Lib.hid (rest_none HS.out hlt hd)
          clear hd
          go_wp2_with fail
          · refine (KT.out _ _ _ (T0.out ‹_›)).mono ?_
            rintro e w2 ⟨rfl, hb2⟩
            have HB2 := Lib.hid hb2; clear hb2
            unfold takeV
            go_wp2
            go_ret3
            exact ⟨HW.out.then HB2.out, by rw [HN.out, HF.out]; rfl⟩
          · refine (KT.out _ _ _ (T1.out ‹_›)).mono ?_
            rintro e w2 ⟨rfl, hb2⟩
            have HB2 := Lib.hid hb2; clear hb2
            unfold takeV
            go_wp2
            go_ret3
            exact ⟨HW.out.then HB2.out, by rw [HN.out, HF.out]; rfl⟩
        | some p =>
          obtain ⟨v, s⟩ := p
          rw [hd] at KT
          obtain ⟨r1, r2, r3, r4⟩ := rest_some HB.out HS.out hlt hd
          rw [HL.out] at r4
          have HF := Lib.hid r1
          have KZ := Lib.hid (fun w => rzag_any (v : Int) w (by omega) (by omega))
          clear hd r1 r2
          have hcm : ¬ c = m := by omega
          have hone : ∀ u ∈ [Value.int .i64 (zu (v : Int))], u.oneCell' = true := one_int _ _
          have hm1 : k + 1 ≤ maxLen := by unfold maxLen; omega
          have hm2 : (k + 1) * 8 ≤ 140737488355328 := by omega
          go_wp2_with fail
          refine (KT.out _ _ _ (T1.out hcm)).mono ?_
          rintro e w2 ⟨rfl, hb2⟩
          have HWW := Lib.hid (HW.out.then hb2)
          have HOO := Lib.hid (own_below HO.out hb2)
          clear hb2
          simp only [takeV]
          go_wp2_with fail
          refine (KZ.out _).mono ?_
          rintro e w3 ⟨rfl, rfl⟩
          have HO2 := Lib.hid (own_below HOO.out ((Below.refl w2.heap.size w2).alloc (Nat.le_refl _) (.cells #[.int .i64 (zu (v : Int))] 2)))
          have HW2 := Lib.hid (HWW.out.then ((Below.refl w2.heap.size w2).alloc (Nat.le_refl _) (.cells #[.int .i64 (zu (v : Int))] 2)))
          have R2 := Lib.hid (row_one w2 2 (.int .i64 (zu (v : Int))))
          go_wp2_with (at_builtin; refine wpList_append_copy rfl (.tmp 30) (.tmp 33) 28 rfl w.heap.size 2 i0 (.int .i64 0) 8 Try.underlying28 hi hz0 hz1 hz2 rfl _ k ((rowV ds).map iv) rfl HO2.out (some ⟨w2.heap.size, 0, none⟩) 1 1 [.int .i64 (zu (v : Int))] rfl R2.out (by simp) hone hm1 hm2 HW2.out.size ?_; intro v3 w3 hown3 hb3 hnil3)
          obtain ⟨a3, c3, rfl, _⟩ := Row.own hown3
          have HO3 := Lib.hid hown3
          have HW3 := Lib.hid (HW2.out.trans hb3)
          clear hown3 hb3 hnil3
          go_wp2
          go_roundw
          case rel => exact ⟨k + 1, m + s, ds ++ [v], _, _, rfl, by go_num, HF.out, by rw [rowV_snoc, List.map_append]; exact HO3.out, HW3.out⟩
          case measure => simp [intOf]; omega
      · obtain rfl : k = N := by omega
        have HF := Lib.hid (rest_end HS.out)
        go_wp2
        go_ret3
        exact ⟨HW.out, by rw [HN.out, HF.out]; exact ⟨_, rfl, by rw [hdl]; exact HO.out⟩⟩
end Go.Proofs.Ytnkndpgaoplamaa
