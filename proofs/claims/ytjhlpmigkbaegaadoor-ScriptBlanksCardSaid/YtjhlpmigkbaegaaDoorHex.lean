/- bytes walked. -/
import Derived.Test.YtjhlpmigkbaegaaDoorNum
import Derived.Deep.QuietTactic
import Derived.BigQuiet
namespace Go.Proofs.YtjhlpmigkbaegaaDoor
open Go.RowKit
set_option linter.unusedVariables false

/-- A byte's digit to base sixteen; -1: it is none. -/
def hexI (c : Int) : Int := Lib.indexByte [48, 49, 50, 51, 52, 53, 54, 55, 56, 57, 97, 98, 99, 100, 101, 102] c.toNat.toUInt8
theorem hexI_ge (c : Int) : -1 ≤ hexI c ∧ hexI c ≤ 15 := by
  unfold hexI
  refine ⟨Lib.indexByte_ge _ _, ?_⟩
  rcases Int.lt_or_le (Lib.indexByte [48, 49, 50, 51, 52, 53, 54, 55, 56, 57, 97, 98, 99, 100, 101, 102] c.toNat.toUInt8) 0 with h | h
  · omega
  · obtain ⟨i, hi⟩ := Int.eq_ofNat_of_zero_le h
    have h1 := (Lib.indexByte_some hi).1
    have hlt := (List.getElem?_eq_some_iff.1 h1).1
    simp at hlt
    omega
theorem hex_q (c : Int) (W : World) (n : Nat) : Calls Tryd.prog 31 #[.string ⟨#[48, 49, 50, 51, 52, 53, 54, 55, 56, 57, 97, 98, 99, 100, 101, 102]⟩, .int .u8 c] (W.drewN n) fun e w' => e = .returned (.int .i64 (hexI c)) ∧ ∃ m, w' = W.drewN m :=
  (ib_any _ c (W.drewN n)).mono fun _ _ h => ⟨h.1, n, h.2.symm⟩
attribute [irreducible] hexI
/-- The bytes that digits say, from a place on. -/
def hexAt (s : ByteArray) (i : Nat) : Option (List Nat) :=
  if i + 1 < s.size then
    (if hexI (bAt s i : Int) < 0 ∨ hexI (bAt s (i + 1) : Int) < 0 then none
     else (hexAt s (i + 2)).map fun l => ((hexI (bAt s i : Int)).toNat * 16 + (hexI (bAt s (i + 1) : Int)).toNat) :: l)
  else some []
termination_by s.size - i
def hexL (s : ByteArray) : List Nat := (hexAt s 0).getD []
def hexB (s : ByteArray) : Bool := (hexAt s 0).isSome && decide (0 < s.size) && decide (s.size % 2 = 0)
def u8v (n : Nat) : Value := .int .u8 n
theorem info5 : (Tryd.prog.info? 5).map (fun i => (i.zero, i.size, i.bytes)) = some (some (.int .u8 0), 1, 1) := by kernel_rfl
/-- What bytes answers. -/
def HexPost (s : ByteArray) (w : World) (e : Ending) (w' : World) : Prop :=
  ∃ a c, e = .returned (.tuple #[.slice a (hexL s).length c, .bool (hexB s)]) ∧ Row w' a (hexL s).length ((hexL s).map u8v) ∧ Below w.heap.size w w'
/-- What a round of bytes meets. -/
def RelH (s : ByteArray) (w : World) (u4 u5 : Value) (wr : World) : Prop :=
  ∃ (i m : Nat) (xs : List Nat), i ≤ s.size + 1 ∧ i % 2 = 0 ∧ u5 = .int .i64 i ∧ m ≤ i ∧ Hid (wr.ownsRow w.heap.size 5 1 u4 m (xs.map u8v)) ∧ xs.length = m ∧
    Hid ((hexAt s i).map (fun l => xs ++ l) = hexAt s 0) ∧ Hid (Below w.heap.size w wr)
theorem below_drewN {B : Nat} {w w' : World} (h : Below B w w') (n : Nat) : Below B w (w'.drewN n) := ⟨h.os, h.tape, h.output, h.size, h.block⟩
theorem or_hex {x y : Int} (h1 : 0 ≤ x) (h2 : x ≤ 15) (h3 : 0 ≤ y) (h4 : y ≤ 15) : bits BinOp.or IntKind.i64 (x * 16) y = x * 16 + y :=
  bits_join .i64 63 (by decide) (fun n a b => IntWalk.i64_in n ⟨by omega, by omega⟩) 4 _ _ (by omega) (by omega) (by omega) (by omega) (by omega) (by omega)
set_option maxRecDepth 100000 in
set_option maxHeartbeats 2000000 in
theorem bytes_any (s : ByteArray) (w : World) (hs : s.size ≤ 1048576) : Calls Tryd.prog 36 #[.string s] w (HexPost s w) := by
  obtain ⟨i0, hi0, hz0, hz1, hz2⟩ := info_parts info5
  go_enter Tryd.func36, Tryd.ntmps36
  go_wp2
  go_loopw [4, 5] (fun u4 u5 wr => RelH s w u4 u5 wr) (fun _ u5 _ => s.size + 2 - (intOf u5).toNat)
  case atStart => exact ⟨0, 0, [], by omega, by omega, rfl, by omega, Lib.hid (World.ownsRow_nil _ _ _ _), rfl, Lib.hid (by cases hexAt s 0 <;> simp), Lib.hid (Below.refl _ _)⟩
  case round =>
    obtain ⟨i, m, xs, hp, hp2, rfl, hm, HO, hxl, HCV, HBR⟩ := hrel
    have HX := Lib.hid hxl; clear hxl
    have HP2 := Lib.hid hp2; clear hp2
    obtain ⟨a4, k4, rfl, hr4⟩ := Row.own HO.out
    have HR4 := Lib.hid hr4; clear hr4
    by_cases hlt : i + 1 < s.size
    · have hb0 := bAt_get s i (by omega)
      have hb1 := bAt_get s (i + 1) hlt
      have q0 : (0 : Int) ≤ (i : Int) := by omega
      have q1 : (i : Int) < (s.size : Int) := by omega
      have q2 : (0 : Int) ≤ (i : Int) + 1 := by omega
      have q3 : (i : Int) + 1 < (s.size : Int) := by omega
      have q4 : IntKind.i64.wrap ((i : Int) + 1) = (i : Int) + 1 := by rw [IntKind.wrap_i64]; omega
      have q5 : ((i : Int) + 1).toNat = i + 1 := by omega
      obtain ⟨g0, g1⟩ := hexI_ge (bAt s i : Int)
      obtain ⟨g2, g3⟩ := hexI_ge (bAt s (i + 1) : Int)
      have HST := Lib.hid (show hexAt s i = (if hexI (bAt s i : Int) < 0 ∨ hexI (bAt s (i + 1) : Int) < 0 then none
     else (hexAt s (i + 2)).map fun l => ((hexI (bAt s i : Int)).toNat * 16 + (hexI (bAt s (i + 1) : Int)).toNat) :: l) by conv => lhs; rw [hexAt, if_pos hlt])
      have KQ := Lib.hid hex_q
      obtain ⟨b0, hbb0⟩ : ∃ b0, bAt s i = b0 := ⟨_, rfl⟩
      obtain ⟨b1, hbb1⟩ : ∃ b1, bAt s (i + 1) = b1 := ⟨_, rfl⟩
      rw [hbb0, hbb1] at HST
      rw [hbb0] at hb0 g0 g1
      rw [hbb1] at hb1 g2 g3
      clear hbb0 hbb1
      obtain ⟨x, hx⟩ : ∃ x, hexI (b0 : Int) = x := ⟨_, rfl⟩
      obtain ⟨y, hy⟩ : ∃ y, hexI (b1 : Int) = y := ⟨_, rfl⟩
      rw [hx, hy] at HST
      rw [hx] at g0 g1
      rw [hy] at g2 g3
      go_wp2_with fail
      go_quiet (exact KQ.out _ _ _)
      rw [hx, hy]
      have HBD := Lib.hid (below_drewN HBR.out nq)
      have HOD := Lib.hid (show (wr.drewN nq).ownsRow w.heap.size 5 1 (.slice a4 m k4) m (xs.map u8v) from HO.out)
      clear hx hy KQ hb0 hb1
      generalize wr.drewN nq = wq at *
      by_cases hx0 : x < 0
      · have HN := Lib.hid (show hexAt s 0 = none by rw [← HCV.out, HST.out, if_pos (.inl hx0)]; rfl)
        have g : decide (x < 0) = true := by simpa using hx0
        clear hx0
        go_wp2_with fail
        go_ret2
        refine ⟨none, 0, ?_, ?_, HBD.out⟩
        · unfold hexL hexB; rw [HN.out]; rfl
        · unfold hexL; rw [HN.out]; exact Row.nil _ _
      · have gx : decide (x < 0) = false := by simpa using hx0
        by_cases hy0 : y < 0
        · have HN := Lib.hid (show hexAt s 0 = none by rw [← HCV.out, HST.out, if_pos (.inr hy0)]; rfl)
          have g : decide (y < 0) = true := by simpa using hy0
          clear hx0 hy0
          go_wp2_with fail
          go_ret2
          refine ⟨none, 0, ?_, ?_, HBD.out⟩
          · unfold hexL hexB; rw [HN.out]; rfl
          · unfold hexL; rw [HN.out]; exact Row.nil _ _
        · have gy : decide (y < 0) = false := by simpa using hy0
          have x0 : 0 ≤ x := by omega
          have y0 : 0 ≤ y := by omega
          have hor := or_hex x0 g1 y0 g3
          have hsh : IntKind.i64.wrap (x * 16) = x * 16 := by rw [IntKind.wrap_i64]; omega
          have hw8 : IntKind.u8.wrap (x * 16 + y) = x * 16 + y := by rw [IntKind.wrap_u8]; omega
          obtain ⟨z, hz⟩ : ∃ z : Nat, x.toNat * 16 + y.toNat = z := ⟨_, rfl⟩
          have hzi : x * 16 + y = (z : Int) := by omega
          have HSTEP := Lib.hid (show (hexAt s (i + 2)).map (fun l => (xs ++ [z]) ++ l) = hexAt s 0 by
            rw [← HCV.out, HST.out, if_neg (by omega), hz, Option.map_map]
            congr 1
            funext l
            simp)
          have HBS := Lib.hid (show w.heap.size ≤ wq.heap.size from HBD.out.size)
          have hm4 : m + 1 ≤ maxLen := by unfold maxLen; omega
          have hn4 : (m + 1) * 1 ≤ 140737488355328 := by omega
          have HZ := Lib.hid hz
          clear hx0 hy0 hz
          go_wp2_with (at_builtin; refine wpList_append_own _ rfl (.tmp 30) (.tmp 36) 67 rfl w.heap.size 5 i0 _ 1 1 Tryd.underlying67 hi0 hz0 hz1 hz2 rfl (by decide) _ _ _ rfl (HOD.out.alloc _) ⟨wq.heap.size, 0, none⟩ 1 1 [u8v z] rfl rfl (news_one wq (u8v z) 5) (one_int .u8 z) hm4 hn4 (le_alloc HBS.out _) ?_; intro v1 w1 hown' hg' _; have HB1 := Lib.hid ((HBD.out.alloc HBS.out _).grown hg' (le_alloc HBS.out _) (fun k hk => (HOD.out.lt k hk).1)); obtain ⟨a1, c1, hv', _⟩ := Row.own hown'; subst hv'; have HO1 := Lib.hid (show w1.ownsRow w.heap.size 5 1 (.slice a1 (m + 1) c1) (m + 1) ((xs ++ [z]).map u8v) from by rw [List.map_append]; exact hown'); clear hown' hg')
          go_roundw
          case rel => exact ⟨i + 2, m + 1, xs ++ [z], by omega, by have := HP2.out; omega, by go_num, by omega, HO1, by simp; exact HX.out, HSTEP, HB1⟩
          case measure => simp [intOf]; omega
    · have hfin : hexAt s 0 = some xs := by rw [← HCV.out, hexAt, if_neg hlt]; simp
      have HF := Lib.hid hfin
      clear hfin
      have g : decide ((i : Int) + 1 < (s.size : Int)) = false := by simp; omega
      have hlen : (hexL s).length = m := by unfold hexL; rw [HF.out]; exact HX.out
      have hrow : (hexL s) = xs := by unfold hexL; rw [HF.out]; rfl
      have HL := Lib.hid hlen
      have HRW := Lib.hid hrow
      clear hlen hrow
      by_cases h0 : 0 < s.size
      · have g0 : decide (0 < (s.size : Int)) = true := by rw [decide_eq_true_eq]; omega
        have g00 : decide (0 < s.size) = true := by rw [decide_eq_true_eq]; omega
        by_cases h2 : s.size % 2 = 0
        · have HBV := Lib.hid (show hexB s = true by unfold hexB; rw [HF.out]; simp [h0, h2])
          have g2 : (s.size : Int) % 2 = 0 := by omega
          clear h0 h2
          go_wp2_with fail
          go_ret2
          refine ⟨a4, k4, ?_, ?_, HBR.out⟩
          · rw [HL.out, HBV.out]; rfl
          · rw [HL.out, HRW.out]; exact HR4.out
        · have HBV := Lib.hid (show hexB s = false by unfold hexB; simp [h2])
          have g2 : (s.size : Int) % 2 = 1 := by omega
          clear h0 h2
          go_wp2_with fail
          go_ret2
          refine ⟨a4, k4, ?_, ?_, HBR.out⟩
          · rw [HL.out, HBV.out]; rfl
          · rw [HL.out, HRW.out]; exact HR4.out
      · have HBV := Lib.hid (show hexB s = false by unfold hexB; simp [h0])
        have g0 : decide (0 < (s.size : Int)) = false := by rw [decide_eq_false_iff_not]; omega
        have g00 : decide (0 < s.size) = false := by rw [decide_eq_false_iff_not]; omega
        clear h0
        go_wp2_with fail
        go_ret2
        refine ⟨a4, k4, ?_, ?_, HBR.out⟩
        · rw [HL.out, HBV.out]; rfl
        · rw [HL.out, HRW.out]; exact HR4.out
end Go.Proofs.YtjhlpmigkbaegaaDoor
