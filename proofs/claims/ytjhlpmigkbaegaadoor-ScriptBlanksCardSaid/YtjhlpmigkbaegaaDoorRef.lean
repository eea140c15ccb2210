/- Torn, Chars, Key of the reference walked. -/
import Derived.Test.YtjhlpmigkbaegaaDoorChar
namespace Go.Proofs.YtjhlpmigkbaegaaDoor
open Go.RowKit
set_option linter.unusedVariables false

theorem chV_bad {s : ByteArray} {i : Nat} (h : Utf8.decode s i = (65533, 1)) : chV s i = (0, 0) := by unfold chV; rw [if_pos h]
theorem chV_good {s : ByteArray} {i : Nat} (h : Utf8.decode s i ≠ (65533, 1)) : chV s i = Utf8.decode s i := by unfold chV; rw [if_neg h]
set_option maxRecDepth 100000 in
set_option maxHeartbeats 1000000 in
theorem rtorn_any (s : ByteArray) (w : World) (hs : s.size ≤ 1048576) :
    Calls Tryd.prog 12 #[.string s] w fun e w' => e = .returned (.int .i64 (tornI s)) ∧ w = w' := by
  go_enter Tryd.func12, Tryd.ntmps12
  go_wp2
  go_loop [3] (fun u3 => ∃ pos : Nat, pos ≤ s.size ∧ u3 = .int .i64 pos ∧ Hid (tornAt s pos = tornAt s 0)) (fun u3 => s.size - (intOf u3).toNat)
  case atStart => exact ⟨0, by omega, rfl, Lib.hid rfl⟩
  case round =>
    obtain ⟨pos, hp, rfl, HR⟩ := hrel
    by_cases hlt : pos < s.size
    · have KC := Lib.hid (char_any s pos w hs hlt)
      by_cases hbad : Utf8.decode s pos = (65533, 1)
      · rw [chV_bad hbad] at KC
        have HS := Lib.hid (show tornI s = (pos : Int) by unfold tornI; rw [← HR.out, tornAt, if_pos hlt, if_pos hbad])
        clear hbad
        go_wp2_with fail
        refine KC.out.mono ?_
        rintro e w2 ⟨rfl, rfl⟩
        go_wp2_with fail
        go_ret
        exact ⟨by rw [HS.out]; rfl, rfl⟩
      · rw [chV_good hbad] at KC
        have HS := Lib.hid (show tornAt s (pos + (Utf8.decode s pos).2) = tornAt s 0 by rw [← HR.out]; conv => rhs; rw [tornAt, if_pos hlt, if_neg hbad])
        have hle := dec_le s pos hlt
        have hd1 := dec_pos s pos
        clear hbad
        obtain ⟨c, n, hcn⟩ : ∃ c n, Utf8.decode s pos = (c, n) := ⟨_, _, rfl⟩
        rw [hcn] at KC HS hle hd1
        simp only at KC HS hle hd1
        clear hcn
        have hn0 : ((n : Int) == 0) = false := by simp; omega
        go_wp2_with fail
        refine KC.out.mono ?_
        rintro e w2 ⟨rfl, rfl⟩
        go_wp2_with fail
        go_round
        case rel => exact ⟨pos + n, hle, by go_num, HS⟩
        case measure => simp [intOf]; omega
    · have HS := Lib.hid (show tornI s = -1 by unfold tornI; rw [← HR.out, tornAt, if_neg hlt])
      go_wp2_with fail
      go_ret
      exact ⟨by rw [HS.out]; rfl, rfl⟩
/-- How many characters a text has from place i on. -/
def charsAt (s : ByteArray) (i : Nat) : Nat :=
  if i < s.size then (if Utf8.decode s i = (65533, 1) then 0 else charsAt s (i + (Utf8.decode s i).2) + 1) else 0
termination_by s.size - i
decreasing_by (have := dec_pos s i; omega)
theorem charsAt_le (s : ByteArray) (i : Nat) : charsAt s i ≤ s.size - i := by
  induction i using charsAt.induct (s := s) with
  | case1 i h1 h2 => rw [charsAt, if_pos h1, if_pos h2]; omega
  | case2 i h1 h2 ih => rw [charsAt, if_pos h1, if_neg h2]; have := dec_pos s i; omega
  | case3 i h1 => rw [charsAt, if_neg h1]; omega
set_option maxRecDepth 100000 in
set_option maxHeartbeats 1000000 in
theorem rchars_any (s : ByteArray) (w : World) (hs : s.size ≤ 1048576) :
    Calls Tryd.prog 15 #[.string s] w fun e w' => e = .returned (.int .i64 (charsAt s 0 : Nat)) ∧ w = w' := by
  go_enter Tryd.func15, Tryd.ntmps15
  go_wp2
  go_loop [3, 4] (fun u3 u4 => ∃ pos m : Nat, pos ≤ s.size ∧ u4 = .int .i64 pos ∧ u3 = .int .i64 m ∧ m ≤ pos ∧ Hid (m + charsAt s pos = charsAt s 0)) (fun _ u4 => s.size - (intOf u4).toNat)
  case atStart => exact ⟨0, 0, by omega, rfl, rfl, by omega, Lib.hid (by omega)⟩
  case round =>
    obtain ⟨pos, m, hp, rfl, rfl, hm, HR⟩ := hrel
    by_cases hlt : pos < s.size
    · have KC := Lib.hid (char_any s pos w hs hlt)
      by_cases hbad : Utf8.decode s pos = (65533, 1)
      · rw [chV_bad hbad] at KC
        have HS := Lib.hid (show m = charsAt s 0 by rw [← HR.out, charsAt, if_pos hlt, if_pos hbad]; rfl)
        clear hbad
        go_wp2_with fail
        refine KC.out.mono ?_
        rintro e w2 ⟨rfl, rfl⟩
        go_wp2_with fail
        go_ret
        exact ⟨by rw [← HS.out]; rfl, rfl⟩
      · rw [chV_good hbad] at KC
        have hch : (m + 1) + charsAt s (pos + (Utf8.decode s pos).2) = charsAt s 0 := by
          have := HR.out
          rw [charsAt, if_pos hlt, if_neg hbad] at this
          omega
        have HS := Lib.hid hch; clear hch
        have hle := dec_le s pos hlt
        have hd1 := dec_pos s pos
        clear hbad
        obtain ⟨c, n, hcn⟩ : ∃ c n, Utf8.decode s pos = (c, n) := ⟨_, _, rfl⟩
        rw [hcn] at KC HS hle hd1
        simp only at KC HS hle hd1
        clear hcn
        have hn0 : ((n : Int) == 0) = false := by simp; omega
        go_wp2_with fail
        refine KC.out.mono ?_
        rintro e w2 ⟨rfl, rfl⟩
        go_wp2_with fail
        go_round
        case rel => exact ⟨pos + n, m + 1, hle, by go_num, by go_num, by omega, HS⟩
        case measure => simp [intOf]; omega
    · have HS := Lib.hid (show m = charsAt s 0 by rw [← HR.out, charsAt, if_neg hlt]; rfl)
      go_wp2_with fail
      go_ret
      exact ⟨by rw [← HS.out]; rfl, rfl⟩
set_option maxRecDepth 100000 in
set_option maxHeartbeats 1000000 in
theorem rkey_any (s : ByteArray) (w : World) (hs : s.size ≤ 1048576) :
    Calls Tryd.prog 9 #[.string s] w fun e w' => e = .returned (.tuple #[.int .u64 (keyV s), .int .i64 (errV s)]) ∧ w = w' := by
  have KT := Lib.hid (rtorn_any s w hs)
  cases ht : tornAt s 0 with
  | some i =>
    have e1 : tornI s = (i : Int) := by unfold tornI; rw [ht]
    have e2 : keyV s = 0 := by unfold keyV; rw [ht]
    have e3 : errV s = 13 := by unfold errV; rw [ht]
    rw [e1] at KT
    rw [e2, e3]
    clear e1 e2 e3 ht
    have hi : decide ((0 : Int) ≤ (i : Int)) = true := by simp
    go_enter Tryd.func9, Tryd.ntmps9
    go_wp2_with fail
    refine KT.out.mono ?_
    rintro e w1 ⟨rfl, rfl⟩
    go_wp2_with fail
    go_ret2
    exact ⟨rfl, rfl⟩
  | none =>
    have e1 : tornI s = -1 := by unfold tornI; rw [ht]
    have e2 : keyV s = keyAt s 0 0 := by unfold keyV; rw [ht]
    have e3 : errV s = 0 := by unfold errV; rw [ht]
    rw [e1] at KT
    rw [e2, e3]
    have HT := Lib.hid ht
    clear e1 e2 e3 ht
    go_enter Tryd.func9, Tryd.ntmps9
    go_wp2_with fail
    refine KT.out.mono ?_
    rintro e w1 ⟨rfl, rfl⟩
    go_wp2_with fail
    go_loop [4, 5] (fun u4 u5 => ∃ pos k : Nat, pos ≤ s.size ∧ u5 = .int .i64 pos ∧ u4 = .int .u64 k ∧ Hid (k < PR) ∧ Hid (tornAt s pos = none) ∧ Hid (keyAt s pos k = keyAt s 0 0)) (fun _ u5 => s.size - (intOf u5).toNat)
    case atStart => exact ⟨0, 0, by omega, rfl, rfl, Lib.hid PR_pos, HT, Lib.hid rfl⟩
    case round =>
      obtain ⟨pos, k, hp, rfl, rfl, HKK, HN, HR⟩ := hrel
      by_cases hlt : pos < s.size
      · have KC := Lib.hid (char_any s pos w hs hlt)
        have hbad : Utf8.decode s pos ≠ (65533, 1) := fun h => by
          have := HN.out
          rw [tornAt, if_pos hlt, if_pos h] at this
          cases this
        rw [chV_good hbad] at KC
        have HN2 := Lib.hid (show tornAt s (pos + (Utf8.decode s pos).2) = none by
          have := HN.out
          rw [tornAt, if_pos hlt, if_neg hbad] at this
          exact this)
        have HST := Lib.hid (show keyAt s (pos + (Utf8.decode s pos).2) ((k * 1114112 + ((Utf8.decode s pos).1 + 1)) % PR) = keyAt s 0 0 by
          rw [← HR.out]; conv => rhs; rw [keyAt, if_pos hlt])
        have hle := dec_le s pos hlt
        have hd1 := dec_pos s pos
        have hcl := dec_lt s pos
        clear hbad
        obtain ⟨c, n, hcn⟩ : ∃ c n, Utf8.decode s pos = (c, n) := ⟨_, _, rfl⟩
        rw [hcn] at HST KC HN2 hle hd1 hcl
        clear hcn
        simp only at KC HN2 hle hd1 hcl
        have hpl := PR_lt
        have hkk := HKK.out
        have KM := Lib.hid (fun w => rmul_any k 1114112 w (by omega) (by omega))
        have KA := fun w => radd_any ((k * 1114112) % PR) (c + 1) w (by have := Nat.mod_lt (k * 1114112) PR_pos; omega) (by omega)
        rw [key_round] at KA
        have HM := Lib.hid (Nat.mod_lt (k * 1114112 + (c + 1)) PR_pos)
        have hc1 : ((c + 1 : Nat) : Int) = (c : Int) + 1 := by omega
        rw [hc1] at KA
        have KA := Lib.hid KA
        obtain ⟨k2, hk2⟩ : ∃ k2, (k * 1114112 + (c + 1)) % PR = k2 := ⟨_, rfl⟩
        obtain ⟨k1, hk1⟩ : ∃ k1, (k * 1114112) % PR = k1 := ⟨_, rfl⟩
        rw [hk2] at KA HM HST
        rw [hk1] at KA KM
        clear hk1 hk2
        have hw1 : IntKind.u64.wrap ((c : Int) + 1) = (c : Int) + 1 := by rw [IntKind.wrap_u64]; omega
        have hw2 : IntKind.i64.wrap ((c : Int) + 1) = (c : Int) + 1 := by rw [IntKind.wrap_i64]; omega
        have hw3 : wrap64 ((c : Int) + 1) = (c : Int) + 1 := IntWalk.wrap64_in _ ⟨by omega, by omega⟩
        clear hpl hkk hc1 hcl
        go_wp2_with fail
        refine KC.out.mono ?_
        rintro e w3 ⟨rfl, rfl⟩
        go_wp2_with fail
        refine (KM.out _).mono ?_
        rintro e w3 ⟨rfl, rfl⟩
        go_wp2_with fail
        refine (KA.out _).mono ?_
        rintro e w3 ⟨rfl, rfl⟩
        go_wp2_with fail
        go_round
        case rel => exact ⟨pos + n, k2, hle, by go_num, rfl, HM, HN2, HST⟩
        case measure => simp [intOf]; omega
      · have hfin : k = keyAt s 0 0 := by rw [← HR.out, keyAt, if_neg hlt]
        have HF := Lib.hid hfin
        clear hfin
        go_wp2_with fail
        go_ret2
        exact ⟨by rw [← HF.out]; rfl, rfl⟩
end Go.Proofs.YtjhlpmigkbaegaaDoor
