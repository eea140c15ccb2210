/- TakeRow of both sides walked. -/
import Derived.Test.YtnkndpgaoplamaaTake
import Derived.Test.YtnkndpgaoplamaaRTake
import Derived.OwnWalk
namespace Go.Proofs.Ytnkndpgaoplamaa
open Go.RowKit
set_option linter.unusedVariables false

/-- A row as it was taken. -/
def rowV (l : List Nat) : List Int := l.map fun d : Nat => zu (d : Int)
def TakenRow (w : World) (r : Option (List Nat × Nat)) (e : Ending) (w' : World) : Prop :=
  Below w.heap.size w w' ∧ match r with
  | none => e = .returned (.tuple #[.slice none 0 0, .int .i64 0, .int .i64 8])
  | some p => ∃ v, e = .returned (.tuple #[v, .int .i64 (p.2 : Int), .int .i64 0]) ∧ w'.ownsRow w.heap.size 2 1 v p.1.length ((rowV p.1).map iv)
def rowOf (q : Int) (xs : List Int) : Option (List Nat × Nat) := if q < 0 then none else decs q.toNat xs
/-- What is still to be taken. -/
def Rest (xs : List Int) (N k m : Nat) (ds : List Nat) : Prop := k ≤ N ∧ ds.length = k ∧ k ≤ m ∧ m ≤ xs.length ∧ decs N xs = (decs (N - k) (xs.drop m)).map fun p => (ds ++ p.1, m + p.2)
theorem rest_zero (xs : List Int) (N : Nat) : Rest xs N 0 0 [] := by
  refine ⟨by omega, rfl, by omega, by omega, ?_⟩
  rw [Nat.sub_zero, List.drop_zero]
  cases decs N xs <;> simp
theorem rest_end {xs : List Int} {N m : Nat} {ds : List Nat} (h : Rest xs N N m ds) : decs N xs = some (ds, m) := by
  obtain ⟨_, _, _, _, h⟩ := h
  rw [h, Nat.sub_self]
  simp [decs]
theorem rest_none {xs : List Int} {N k m : Nat} {ds : List Nat} (h : Rest xs N k m ds) (hk : k < N) (hd : dec (xs.drop m) = none) : decs N xs = none := by
  obtain ⟨_, _, _, _, h⟩ := h
  rw [h, show N - k = (N - k - 1) + 1 by omega]
  simp [decs, hd]
theorem rest_some {xs : List Int} {N k m v s : Nat} {ds : List Nat} (hb : Bytes xs) (h : Rest xs N k m ds) (hk : k < N) (hd : dec (xs.drop m) = some (v, s)) :
    Rest xs N (k + 1) (m + s) (ds ++ [v]) ∧ v < 18446744073709551616 ∧ 1 ≤ s ∧ m + s ≤ xs.length := by
  obtain ⟨h1, h2, h3, h4, h5⟩ := h
  obtain ⟨d1, d2, d3⟩ := dec_is (hb.drop m) hd
  have e := congrArg List.length d3
  rw [List.length_take, List.length_drop] at e
  have hp := enc_pos v
  refine ⟨⟨by omega, by simp [h2], by omega, by omega, ?_⟩, d1, by omega, by omega⟩
  rw [h5, show N - k = (N - (k + 1)) + 1 by omega]
  simp only [decs, hd, List.drop_drop]
  cases decs (N - (k + 1)) (xs.drop (m + s)) with
  | none => rfl
  | some p => simp [Nat.add_assoc]
theorem row_tail {w : World} {g n c m : Nat} {xs : List Int} (h : Row w (some ⟨g, 0, none⟩) n (xs.map bv)) (hm : m ≤ n) (hc : n ≤ c) :
    Row w (if c = m then some ⟨g, 0, none⟩ else some ⟨g, m, none⟩) (n - m) ((xs.drop m).map bv) := by
  have hl : xs.length = n := by simpa using h.1
  split
  · have e2 : n - m = 0 := by omega
    have e3 : xs.drop m = [] := List.drop_eq_nil_of_le (by omega)
    rw [e2, e3]; exact Row.nil _ _
  · have := h.drop m hm
    rw [Nat.zero_add, ← List.map_drop] at this
    exact this
theorem rowV_snoc (ds : List Nat) (v : Nat) : rowV (ds ++ [v]) = rowV ds ++ [zu (v : Int)] := by simp [rowV]
theorem rowV_len (ds : List Nat) : (rowV ds).length = ds.length := by simp [rowV]

set_option maxRecDepth 100000 in
set_option maxHeartbeats 2000000 in
theorem takerow_any (xs : List Int) (g n c : Nat) (q : Int) (w : World) (hr : Row w (some ⟨g, 0, none⟩) n (xs.map bv)) (hc : n ≤ c) (hb : Bytes xs) (hn : n ≤ 65536) (hq1 : -9223372036854775808 ≤ q) (hq2 : q ≤ 9223372036854775807) :
    Calls Try.prog 20 #[.slice (some ⟨g, 0, none⟩) n c, .int .i64 q] w (TakenRow w (rowOf q xs)) := by
  obtain ⟨i0, hi, hz0, hz1, hz2⟩ := info_parts info2
  have HL := Lib.hid (show xs.length = n from by simpa using hr.1)
  have HR := Lib.hid hr; clear hr
  have HB := Lib.hid hb; clear hb
  by_cases hneg : q < 0
  · have HN := Lib.hid (show rowOf q xs = none from by rw [rowOf, if_pos hneg])
    go_enter Try.func20, Try.ntmps20
    go_wp2
    go_ret3
    exact ⟨Below.refl _ _, by rw [HN.out]; rfl⟩
  · obtain ⟨N, rfl⟩ : ∃ N : Nat, q = N := ⟨q.toNat, by omega⟩
    by_cases hbig : (n : Int) < (N : Int)
    · have HN := Lib.hid (show rowOf N xs = none from by
        rw [rowOf, if_neg hneg, Int.toNat_natCast]
        cases hd : decs N xs with
        | none => rfl
        | some p => obtain ⟨l, m⟩ := p; have := decs_len N HB.out hd; have := HL.out; omega)
      have hneg' : (0 : Int) ≤ (N : Int) := by omega
      go_enter Try.func20, Try.ntmps20
      go_wp2
      go_ret3
      exact ⟨Below.refl _ _, by rw [HN.out]; rfl⟩
    · have HN := Lib.hid (show rowOf N xs = decs N xs from by rw [rowOf, if_neg hneg, Int.toNat_natCast])
      have hneg' : (0 : Int) ≤ (N : Int) := by omega
      have hle : (N : Int) ≤ (n : Int) := by omega
      have hb2 : i0.bytes * N ≤ 281474976710656 := by rw [hz2]; omega
      have hb3 : N ≤ maxLen := by unfold maxLen; omega
      clear hneg hbig
      go_enter Try.func20, Try.ntmps20
      go_wp2_with (at_make; refine wpList_make_own _ rfl _ _ 28 rfl w.heap.size 2 i0 (.int .i64 0) 1 Try.underlying28 hi hz0 hz1 _ _ _ N rfl rfl rfl hb2 hb3 (Nat.le_refl _) ?_; intro w1 hown1 hgrow1)
      have O1 := Lib.hid hown1
      have B1 := Lib.hid ((Below.refl w.heap.size w).grown hgrow1 (Nat.le_refl _) (by simp))
      clear hown1 hgrow1
      go_wp2
      go_loopw [7, 8, 23] (fun v at_ i wr => ∃ (k m : Nat) (ds : List Nat), i = .int .i64 k ∧ at_ = .int .i64 m ∧ Rest xs N k m ds ∧ wr.ownsRow w.heap.size 2 1 v k ((rowV ds).map iv) ∧ Below w.heap.size w wr) (fun _ _ i _ => N - (intOf i).toNat)
      case atStart => exact ⟨0, 0, [], rfl, rfl, rest_zero _ _, O1.out, B1.out⟩
      case round =>
        obtain ⟨k, m, ds, rfl, rfl, hrest, hown, hbel⟩ := hrel
        have HO := Lib.hid hown; have HW := Lib.hid hbel; have HS := Lib.hid hrest
        obtain ⟨va, vc, rfl, _⟩ := Row.own hown
        obtain ⟨hkN, hdl, hkm, hml, _⟩ := hrest
        rw [HL.out] at hml
        clear hown hbel O1 B1
        by_cases hlt : k < N
        · have hml' : (m : Int) ≤ (n : Int) := by omega
          have hmc : m ≤ c := by omega
          have HT := Lib.hid (row_tail (HR.out.below HW.out) hml hc)
          have T0 := Lib.hid (fun h : c = m => (by have := HT.out; rwa [if_pos h] at this : Row wr (some ⟨g, 0, none⟩) (n - m) ((xs.drop m).map bv)))
          have T1 := Lib.hid (fun h : ¬ c = m => (by have := HT.out; rwa [if_neg h] at this : Row wr (some ⟨g, m, none⟩) (n - m) ((xs.drop m).map bv)))
          have KT := Lib.hid (fun a' c' ww hrr => take_any (xs.drop m) a' (n - m) c' ww hrr (HB.out.drop m) (by omega))
          clear HT
          cases hd : dec (xs.drop m) with
          | none =>
            rw [hd] at KT
            have HF := Lib.hid (rest_none HS.out hlt hd)
            clear hd
            go_wp2_with fail
            · refine (KT.out _ _ _ (T0.out ‹_›)).mono ?_
              rintro e w2 ⟨rfl, rfl⟩
              unfold takeV
              go_wp2
              go_ret3
              exact ⟨HW.out, by rw [HN.out, HF.out]; rfl⟩
            · refine (KT.out _ _ _ (T1.out ‹_›)).mono ?_
              rintro e w2 ⟨rfl, rfl⟩
              unfold takeV
              go_wp2
              go_ret3
              exact ⟨HW.out, by rw [HN.out, HF.out]; rfl⟩
          | some p =>
            obtain ⟨v, s⟩ := p
            rw [hd] at KT
            obtain ⟨r1, r2, r3, r4⟩ := rest_some HB.out HS.out hlt hd
            rw [HL.out] at r4
            have HF := Lib.hid r1
            have KZ := Lib.hid (fun w => zag_any (v : Int) w (by omega) (by omega))
            clear hd r1 r2
            have hcm : ¬ c = m := by omega
            have hone : ∀ u ∈ [Value.int .i64 (zu (v : Int))], u.oneCell' = true := one_int _ _
            have hm1 : k + 1 ≤ maxLen := by unfold maxLen; omega
            have hm2 : (k + 1) * 8 ≤ 140737488355328 := by omega
            go_wp2_with fail
            refine (KT.out _ _ _ (T1.out hcm)).mono ?_
            rintro e w2 ⟨rfl, rfl⟩
            simp only [takeV]
            go_wp2_with fail
            refine (KZ.out _).mono ?_
            rintro e w3 ⟨rfl, rfl⟩
            have HO2 := Lib.hid (own_below HO.out ((Below.refl wr.heap.size wr).alloc (Nat.le_refl _) (.cells #[.int .i64 (zu (v : Int))] 2)))
            have HW2 := Lib.hid (HW.out.then ((Below.refl wr.heap.size wr).alloc (Nat.le_refl _) (.cells #[.int .i64 (zu (v : Int))] 2)))
            have R2 := Lib.hid (row_one wr 2 (.int .i64 (zu (v : Int))))
            go_wp2_with (at_builtin; refine wpList_append_copy rfl (.tmp 36) (.tmp 39) 28 rfl w.heap.size 2 i0 (.int .i64 0) 8 Try.underlying28 hi hz0 hz1 hz2 rfl _ k ((rowV ds).map iv) rfl HO2.out (some ⟨wr.heap.size, 0, none⟩) 1 1 [.int .i64 (zu (v : Int))] rfl R2.out (by simp) hone hm1 hm2 HW2.out.size ?_; intro v3 w3 hown3 hb3 hnil3)
            have HO3 := Lib.hid hown3
            have HW3 := Lib.hid (HW2.out.trans hb3)
            clear hown3 hb3 hnil3
            go_wp2
            go_roundw
            case rel => exact ⟨k + 1, m + s, ds ++ [v], by go_num, by go_num, HF.out, by rw [rowV_snoc, List.map_append]; exact HO3.out, HW3.out⟩
            case measure => simp [intOf]; omega
        · obtain rfl : k = N := by omega
          have HF := Lib.hid (rest_end HS.out)
          go_wp2
          go_ret3
          exact ⟨HW.out, by rw [HN.out, HF.out]; exact ⟨_, rfl, by rw [hdl]; exact HO.out⟩⟩
end Go.Proofs.Ytnkndpgaoplamaa
