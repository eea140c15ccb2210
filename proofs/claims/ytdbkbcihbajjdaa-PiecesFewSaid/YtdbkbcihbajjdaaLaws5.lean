/- PiecesFew walked. -/
import Derived.Test.YtdbkbcihbajjdaaLaws4
namespace Go.Proofs.Ytdbkbcihbajjdaa
open Go.RowKit
set_option linter.unusedVariables false

/-- Sixty numbers. -/
def arr (f : Nat → Nat) : Array Value := ((List.range 60).map fun i => Value.int .i64 (f i)).toArray
theorem arr_size (f : Nat → Nat) : (arr f).size = 60 := by simp [arr]
theorem arr_get (f : Nat → Nat) (i : Nat) (h : i < 60) : (arr f)[i]? = some (.int .i64 (f i)) := by simp [arr, h]
theorem arr_congr {f g : Nat → Nat} (h : ∀ i, i < 60 → f i = g i) : arr f = arr g := by
  unfold arr
  congr 1
  apply List.map_congr_left
  intro i hi
  rw [h i (List.mem_range.1 hi)]
theorem arr_set (f : Nat → Nat) (k : Nat) (x : Nat) : (arr f).setIfInBounds k (.int .i64 x) = arr (fun i => if i = k then x else f i) := by
  apply Array.ext_getElem?
  intro i
  by_cases hi : i < 60
  · rw [Array.getElem?_setIfInBounds, arr_get _ _ hi, arr_get _ _ hi, arr_size]
    by_cases hk : k = i
    · subst hk; simp [hi]
    · simp [hk, Ne.symm hk]
  · rw [Array.getElem?_eq_none (by simp [arr_size]; omega), Array.getElem?_eq_none (by simp [arr_size]; omega)]
theorem zero38 (w : World) : (zeroValue 38).run Try.prog w = .ok (.agg (arr fun _ => 0)) w := by kernel_rfl
attribute [irreducible] arr
/-- Block k holds sixty numbers. -/
def LAt (w : World) (k : Nat) (f : Nat → Nat) : Prop := w.heap[k]? = some (.cells (arr f) 38 (0, 0))
theorem LAt.cell {w k f} (h : LAt w k f) {i : Nat} (hi : i < 60) : w.cell? ⟨k, i, none⟩ = some (.int .i64 (f i)) := by rw [cell_of_row _ _ _ _ _ _ h, arr_get _ _ hi]
theorem LAt.frozen {w k f} (h : LAt w k f) (i : Nat) : w.frozen? ⟨k, i, none⟩ = false := frozen_of_row _ _ _ _ _ h
theorem LAt.new (w : World) (f : Nat → Nat) : LAt (w.alloc (.cells (arr f) 38)) w.heap.size f := heap_alloc_new w _
theorem LAt.set {w k f} (h : LAt w k f) (i : Nat) (x : Nat) : LAt (w.setCell ⟨k, i, none⟩ (.int .i64 x)) k (fun j => if j = i then x else f j) := by
  unfold LAt; rw [heap_setCell_same _ _ _ _ _ _ h, arr_set]
theorem LAt.congr {w k f g} (h : LAt w k f) (hfg : ∀ i, i < 60 → f i = g i) : LAt w k g := by unfold LAt at *; rw [h, arr_congr hfg]
theorem LAt.draw {w k f} (h : LAt w k f) (n : Nat) : LAt (w.drewN n) k f := h
/-- How many of the first j pieces have each level. -/
def cnt (L : List (Nat × Nat)) (j : Nat) (k : Nat) : Nat := (L.take j).countP fun p => p.1 == k
theorem cnt_le (L : List (Nat × Nat)) (j k : Nat) : cnt L j k ≤ L.countP fun p => p.1 == k := by
  unfold cnt
  exact List.Sublist.countP_le (List.take_sublist j L)
theorem cnt_succ {L : List (Nat × Nat)} {j : Nat} {p : Nat × Nat} (h : L[j]? = some p) (k : Nat) : cnt L (j + 1) k = if k = p.1 then cnt L j p.1 + 1 else cnt L j k := by
  unfold cnt
  rw [List.take_add_one, h, List.countP_append]
  by_cases hk : k = p.1
  · subst hk; simp
  · rw [if_neg hk]
    have : (p.1 == k) = false := by rw [beq_eq_false_iff_ne]; exact fun e => hk e.symm
    simp [this]
theorem noHalf_drop {L : List (Nat × Nat)} (h : noHalf L) (j : Nat) : noHalf (L.drop j) := by
  induction j generalizing L with
  | zero => exact h
  | succ j ih =>
    match L, h with
    | [], _ => simp; trivial
    | [p], _ => simp; trivial
    | p :: q :: r, h => exact ih (L := q :: r) h.2
set_option maxRecDepth 100000 in
set_option maxHeartbeats 2000000 in
theorem lawFew (b : Int) (x y : Nat) (w : World) (hx : x < 18446744073709551616) (hy : y < 18446744073709551616) :
    Calls Try.prog 6 #[.int .i64 b, .int .u64 x, .int .u64 y] w fun e w' => e = .returned (.bool true) ∧ Below w.heap.size w w' := by
  obtain ⟨N, lo, hi, h1, h2, h3, h4, KR⟩ := right_some b x y hx hy
  have KR := Lib.hid KR
  have KC := Lib.hid (fun w => cover_cv N lo hi w h1 h2 h3 h4)
  have hne := cv_ne 0 lo hi h3
  have hsh := (cv_shape 0 lo hi h3).1
  have hct := cv_count 0 lo hi h3
  have hva := (gr_chain N lo (hi + 1) (by omega) (by omega)).2
  rw [← cv_gr 0 lo hi h3] at hva
  have hlen := cv_len 0 lo hi h3 N h4
  rw [if_neg (by omega)] at hlen
  have hlen1 : 0 < (cv 0 lo hi).length := List.length_pos_iff.2 hne
  clear h4 hne
  generalize cv 0 lo hi = L at *
  have HSH := Lib.hid (noHalf_drop hsh)
  have HCT := Lib.hid (fun j k => Nat.le_trans (cnt_le L j k) (hct k))
  have HV := Lib.hid hva
  clear hsh hct hva
  generalize hm : L.length = m at *
  have HM := Lib.hid hm; clear hm
  have hz := zero38
  go_enter Try.func6, Try.ntmps6
  go_wp2_with fail
  refine (shown_any _).mono ?_
  rintro e w1 ⟨rfl, hb1⟩
  have B1 := Lib.hid hb1; clear hb1
  go_wp2_with fail
  refine (KR.out _).mono ?_
  rintro e w2 ⟨rfl, hb2⟩
  have B2 := Lib.hid (B1.out.then hb2); clear hb2 B1 KR
  go_wp2_with fail
  refine (KC.out _).mono ?_
  rintro e w3 ⟨a1, c1, rfl, hr, hb3⟩
  have hba : Below w3.heap.size w3 (w3.alloc (.cells (arr fun _ => 0) 38)) := (Below.refl _ _).alloc (Nat.le_refl _) _
  have R3 := Lib.hid hr
  have A3 := Lib.hid (LAt.new w3 fun _ => 0)
  have BA := Lib.hid hba
  have B3 := Lib.hid (B2.out.then hb3); clear hb3 B2 KC hr hba
  have hbi : w3.heap.size ≤ w3.heap.size := Nat.le_refl _
  have hbi : w3.heap.size ≤ w3.heap.size := Nat.le_refl _
  have hbi : w3.heap.size ≤ w3.heap.size := Nat.le_refl _
  have hbi : w3.heap.size ≤ w3.heap.size := Nat.le_refl _
  go_wp2_with fail
  generalize w3.alloc (.cells (arr fun _ => 0) 38) = wa at *
  go_loopw [13] (fun u13 wr => ∃ j : Nat, j ≤ m ∧ u13 = .int .i64 j ∧ LAt wr w3.heap.size (cnt L j) ∧ Below w3.heap.size w3 wr) (fun i _ => m - (intOf i).toNat)
  case atStart => exact ⟨0, by omega, rfl, A3.out.congr (fun i _ => by simp [cnt]), BA.out⟩
  case round =>
    obtain ⟨j, hk, rfl, hat, hbr⟩ := hrel
    have HBR := Lib.hid hbr; clear hbr
    have HAT := Lib.hid hat; clear hat A3 BA
    by_cases hkm : j < m
    · obtain ⟨⟨p1, p2⟩, hp⟩ : ∃ p, L[j]? = some p := ⟨L[j]'(by rw [HM.out]; exact hkm), by rw [List.getElem?_eq_getElem]⟩
      have hva := HV.out (p1, p2) (List.mem_of_getElem? hp)
      obtain ⟨hv1, hv2⟩ := hva
      simp only at hv1 hv2
      have hv3 : p2 < 576460752303423489 := by
        have := pow_le59 (show N - p1 ≤ 59 by omega)
        omega
      have hp59 : p1 < 60 := by omega
      have hct := HCT.out (j + 1) p1
      rw [cnt_succ hp, if_pos rfl] at hct
      simp only at hct
      have hw1 := HAT.out.set p1 (cnt L j p1 + 1)
      have AW := Lib.hid (hw1.congr (g := cnt L (j + 1)) (fun i _ => by rw [cnt_succ hp]))
      have HBW := Lib.hid (HBR.out.setCell (p := ⟨w3.heap.size, p1, none⟩) (Nat.le_refl _) (.int .i64 ((cnt L j p1 + 1 : Nat) : Int)))
      have hcc := HAT.out.cell hp59
      have hff := HAT.out.frozen p1
      have hcc2 := hw1.cell hp59
      rw [if_pos rfl] at hcc2
      obtain ⟨g, rfl, hd1, hd2⟩ := (R3.out.below HBR.out).cells hp
      obtain ⟨g', e', hd3, hd4⟩ := (R3.out.below HBW.out).cells hp
      simp only [Option.some.injEq, Addr.mk.injEq, and_true] at e'
      subst e'
      simp only at hd1 hd2 hd3 hd4
      have hkn : (j : Int) < (m : Int) := by omega
      clear hv2 hw1
      generalize hc : cnt L j p1 = C at *
      clear hc
      have hn0 : decide ((p1 : Int) < 0) = false := by simp
      have hp60 : (p1 : Int) < 60 := by omega
      have hpn : (0 : Int) ≤ (p1 : Int) := by omega
      have hjn : (0 : Int) ≤ (j : Int) := by omega
      have hn1 : decide (59 < (p1 : Int)) = false := by simp; omega
      have hn2 : decide (2 < ((C + 1 : Nat) : Int)) = false := by simp; omega
      have hCi : ((C + 1 : Nat) : Int) = (C : Int) + 1 := by omega
      rw [hCi] at hcc2 HBW AW hn2 hd3 hd4
      go_wp2_with fail
      generalize wr.setCell ⟨w3.heap.size, p1, none⟩ (.int .i64 ((C : Int) + 1)) = ws at *
      by_cases hj0 : j = 0
      · have hd0 : decide (0 < j) = false := by simp; omega
        clear hd1 hd2 hcc hff hj0
        go_wp2_with fail
        go_quiet (fail)
        go_wp2_with fail
        go_roundw
        case rel => exact ⟨j + 1, by omega, by go_num, AW.out.draw _, below_drewN HBW.out _⟩
        case measure => simp [intOf]; omega
      · obtain ⟨i, rfl⟩ : ∃ i, j = i + 1 := ⟨j - 1, by omega⟩
        have hd0 : decide (0 < i + 1) = true := by simp
        obtain ⟨⟨q1, q2⟩, p', hq, hp', hdr, _⟩ := drop_two (L := L) (j := i) (by rw [HM.out]; exact hkm)
        have hno := HSH.out i
        rw [hdr] at hno
        rw [hp] at hp'
        cases hp'
        have hno1 := hno.1
        simp only at hno1
        have hqv := HV.out (q1, q2) (List.mem_of_getElem? hq)
        have hqv2 := hqv.2
        simp only at hqv2
        have hqv3 : q2 < 576460752303423489 := by
          have := pow_le59 (show N - q1 ≤ 59 by omega)
          omega
        obtain ⟨g', e', he1, he2⟩ := (R3.out.below HBW.out).cells hq
        simp only [Option.some.injEq, Addr.mk.injEq, and_true] at e'
        subst e'
        simp only at he1 he2
        have hwi : IntKind.i64.wrap (i : Int) = (i : Int) := by rw [IntKind.wrap_i64]; omega
        have hwi2 : IntKind.i64.wrap (((i + 1 : Nat) : Int) - 1) = (i : Int) := by rw [IntKind.wrap_i64]; omega
        have hwq : IntKind.u64.wrap ((q2 : Int) + 1) = (q2 : Int) + 1 := by rw [IntKind.wrap_u64]; omega
        have hin : (0 : Int) ≤ (i : Int) := by omega
        have hin2 : (0 : Int) ≤ (i : Int) + 1 := by omega
        have hin3 : (i : Int) + 1 < (m : Int) := by omega
        have hd9 : decide (0 < (i : Int) + 1) = true := by simp <;> omega
        have him : (i : Int) < (m : Int) := by omega
        clear hno hdr hq hp hqv hqv2 hd1 hd2 hcc hff hj0
        by_cases hx1 : q1 = p1
        · have hb1 : ((q1 : Int) == (p1 : Int)) = true := by simp; omega
          by_cases hx2 : p2 = q2 + 1
          · have hb2 : ((p2 : Int) == (q2 : Int) + 1) = true := by simp; omega
            have hb3 : p2 % 2 = 0 := by omega
            have hb4 : (p2 : Int) % 2 = 0 := by omega
            clear hno1 hx1 hx2
            go_wp2_with fail
            go_quiet (fail)
            go_wp2_with fail
            go_roundw
            case rel => exact ⟨i + 1 + 1, by omega, by go_num, AW.out.draw _, below_drewN HBW.out _⟩
            case measure => simp [intOf]; omega
          · have hb2 : ((p2 : Int) == (q2 : Int) + 1) = false := by simp; omega
            clear hno1 hx1 hx2
            go_wp2_with fail
            go_quiet (fail)
            go_wp2_with fail
            go_roundw
            case rel => exact ⟨i + 1 + 1, by omega, by go_num, AW.out.draw _, below_drewN HBW.out _⟩
            case measure => simp [intOf]; omega
        · have hb1 : ((q1 : Int) == (p1 : Int)) = false := by simp; omega
          clear hno1 hx1
          go_wp2_with fail
          go_quiet (fail)
          go_wp2_with fail
          go_roundw
          case rel => exact ⟨i + 1 + 1, by omega, by go_num, AW.out.draw _, below_drewN HBW.out _⟩
          case measure => simp [intOf]; omega
    · obtain rfl : j = m := by omega
      have B4 := Lib.hid (B3.out.then HBR.out)
      clear hkm
      have hl0 : decide (0 < j) = true := by simp; omega
      have hl1 : decide ((j : Int) ≤ 2 * (N : Int)) = true := by simp; omega
      go_wp2_with fail
      go_ret
      exact ⟨rfl, B4.out⟩
end Go.Proofs.Ytdbkbcihbajjdaa
