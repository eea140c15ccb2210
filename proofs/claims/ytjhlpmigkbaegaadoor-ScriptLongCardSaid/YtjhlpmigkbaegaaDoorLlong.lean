/- ScriptLong walked. -/
import Derived.Test.YtjhlpmigkbaegaaDoorLkeys
import Derived.Test.YtjhlpmigkbaegaaDoorCat
import Derived.Test.YtjhlpmigkbaegaaDoorPow
namespace Go.Proofs.YtjhlpmigkbaegaaDoor
open Go.RowKit
set_option linter.unusedVariables false
set_option maxRecDepth 100000 in
set_option maxHeartbeats 1000000 in
theorem long_tt (s t : ByteArray) (w : World) (hT : Tabs w) (i : Nat) (hs : tornAt (s.extract 0 (min (s.size : Int) 100).toNat) 0 = some i) (j : Nat) (ht : tornAt (t.extract 0 (min (t.size : Int) 100).toNat) 0 = some j) : Calls Tryd.prog 6 #[.string s, .string t] w fun e w' => e = .returned (.bool true) ∧ Below w.heap.size w w' := by
  have KS := Lib.hid (shown_any w hT)
  have HT := Lib.hid hT
  have hs1 := cut_size s 100
  have hs2 := cut_size t 100
  clear hT
  go_enter Tryd.func6, Tryd.ntmps6
  go_wp2_with fail
  refine KS.out.mono ?_
  rintro e w1 ⟨rfl, b1⟩
  have T1 := Lib.hid (HT.out.below b1); have B1 := Lib.hid b1; clear b1
  go_wp2_with fail
  generalize s.extract 0 (min (s.size : Int) 100).toNat = x at *
  generalize t.extract 0 (min (t.size : Int) 100).toNat = y at *
  have es : errV x = 13 := by unfold errV; rw [hs]
  have ks : keyV x = 0 := by unfold keyV; rw [hs]
  have et : errV y = 13 := by unfold errV; rw [ht]
  have kt : keyV y = 0 := by unfold keyV; rw [ht]
  have KA := key_any x w1 (by omega) T1.out
  have KB := fun w (h : Tabs w) => key_any y w (by omega) h
  rw [es, ks] at KA
  simp only [et, kt] at KB
  have KA := Lib.hid KA
  have KB := Lib.hid KB
  go_wp2_with fail
  refine KA.out.mono ?_
  rintro e w2 ⟨rfl, b2⟩
  have T2 := Lib.hid (T1.out.below b2); have B2 := Lib.hid (B1.out.then b2); clear b2
  go_wp2_with fail
  refine (KB.out _ T2.out).mono ?_
  rintro e w3 ⟨rfl, b3⟩
  have T3 := Lib.hid (T2.out.below b3); have B3 := Lib.hid (B2.out.then b3); clear b3
  go_wp2_with fail
  go_ret
  exact ⟨rfl, B3.out⟩
set_option maxRecDepth 100000 in
set_option maxHeartbeats 1000000 in
theorem long_tn (s t : ByteArray) (w : World) (hT : Tabs w) (i : Nat) (hs : tornAt (s.extract 0 (min (s.size : Int) 100).toNat) 0 = some i) (ht : tornAt (t.extract 0 (min (t.size : Int) 100).toNat) 0 = none) : Calls Tryd.prog 6 #[.string s, .string t] w fun e w' => e = .returned (.bool true) ∧ Below w.heap.size w w' := by
  have KS := Lib.hid (shown_any w hT)
  have HT := Lib.hid hT
  have hs1 := cut_size s 100
  have hs2 := cut_size t 100
  clear hT
  go_enter Tryd.func6, Tryd.ntmps6
  go_wp2_with fail
  refine KS.out.mono ?_
  rintro e w1 ⟨rfl, b1⟩
  have T1 := Lib.hid (HT.out.below b1); have B1 := Lib.hid b1; clear b1
  go_wp2_with fail
  generalize s.extract 0 (min (s.size : Int) 100).toNat = x at *
  generalize t.extract 0 (min (t.size : Int) 100).toNat = y at *
  have es : errV x = 13 := by unfold errV; rw [hs]
  have ks : keyV x = 0 := by unfold keyV; rw [hs]
  have et : errV y = 0 := by unfold errV; rw [ht]
  have KA := key_any x w1 (by omega) T1.out
  have KB := fun w (h : Tabs w) => key_any y w (by omega) h
  rw [es, ks] at KA
  simp only [et] at KB
  have KA := Lib.hid KA
  have KB := Lib.hid KB
  go_wp2_with fail
  refine KA.out.mono ?_
  rintro e w2 ⟨rfl, b2⟩
  have T2 := Lib.hid (T1.out.below b2); have B2 := Lib.hid (B1.out.then b2); clear b2
  go_wp2_with fail
  refine (KB.out _ T2.out).mono ?_
  rintro e w3 ⟨rfl, b3⟩
  have T3 := Lib.hid (T2.out.below b3); have B3 := Lib.hid (B2.out.then b3); clear b3
  go_wp2_with fail
  go_ret
  exact ⟨rfl, B3.out⟩
set_option maxRecDepth 100000 in
set_option maxHeartbeats 1000000 in
theorem long_nt (s t : ByteArray) (w : World) (hT : Tabs w) (hs : tornAt (s.extract 0 (min (s.size : Int) 100).toNat) 0 = none) (j : Nat) (ht : tornAt (t.extract 0 (min (t.size : Int) 100).toNat) 0 = some j) : Calls Tryd.prog 6 #[.string s, .string t] w fun e w' => e = .returned (.bool true) ∧ Below w.heap.size w w' := by
  have KS := Lib.hid (shown_any w hT)
  have HT := Lib.hid hT
  have hs1 := cut_size s 100
  have hs2 := cut_size t 100
  clear hT
  go_enter Tryd.func6, Tryd.ntmps6
  go_wp2_with fail
  refine KS.out.mono ?_
  rintro e w1 ⟨rfl, b1⟩
  have T1 := Lib.hid (HT.out.below b1); have B1 := Lib.hid b1; clear b1
  go_wp2_with fail
  generalize s.extract 0 (min (s.size : Int) 100).toNat = x at *
  generalize t.extract 0 (min (t.size : Int) 100).toNat = y at *
  have es : errV x = 0 := by unfold errV; rw [hs]
  have et : errV y = 13 := by unfold errV; rw [ht]
  have kt : keyV y = 0 := by unfold keyV; rw [ht]
  have KA := key_any x w1 (by omega) T1.out
  have KB := fun w (h : Tabs w) => key_any y w (by omega) h
  rw [es] at KA
  simp only [et, kt] at KB
  have KA := Lib.hid KA
  have KB := Lib.hid KB
  go_wp2_with fail
  refine KA.out.mono ?_
  rintro e w2 ⟨rfl, b2⟩
  have T2 := Lib.hid (T1.out.below b2); have B2 := Lib.hid (B1.out.then b2); clear b2
  go_wp2_with fail
  refine (KB.out _ T2.out).mono ?_
  rintro e w3 ⟨rfl, b3⟩
  have T3 := Lib.hid (T2.out.below b3); have B3 := Lib.hid (B2.out.then b3); clear b3
  go_wp2_with fail
  go_ret
  exact ⟨rfl, B3.out⟩
set_option maxRecDepth 100000 in
set_option maxHeartbeats 1000000 in
theorem long_nn (s t : ByteArray) (w : World) (hT : Tabs w) (hs : tornAt (s.extract 0 (min (s.size : Int) 100).toNat) 0 = none) (ht : tornAt (t.extract 0 (min (t.size : Int) 100).toNat) 0 = none) : Calls Tryd.prog 6 #[.string s, .string t] w fun e w' => e = .returned (.bool true) ∧ Below w.heap.size w w' := by
  have KS := Lib.hid (shown_any w hT)
  have HT := Lib.hid hT
  have hs1 := cut_size s 100
  have hs2 := cut_size t 100
  clear hT
  go_enter Tryd.func6, Tryd.ntmps6
  go_wp2_with fail
  refine KS.out.mono ?_
  rintro e w1 ⟨rfl, b1⟩
  have T1 := Lib.hid (HT.out.below b1); have B1 := Lib.hid b1; clear b1
  go_wp2_with fail
  generalize s.extract 0 (min (s.size : Int) 100).toNat = x at *
  generalize t.extract 0 (min (t.size : Int) 100).toNat = y at *
  have es : errV x = 0 := by unfold errV; rw [hs]
  have et : errV y = 0 := by unfold errV; rw [ht]
  have KA := key_any x w1 (by omega) T1.out
  have KB := fun w (h : Tabs w) => key_any y w (by omega) h
  rw [es] at KA
  simp only [et] at KB
  have KA := Lib.hid KA
  have KB := Lib.hid KB
  have KC := fun w (h : Tabs w) => key_any (x ++ y) w (by rw [ByteArray.size_append]; omega) h
  have ex : errV (x ++ y) = 0 := by unfold errV; rw [torn_app x y hs, ht]; rfl
  have hk : keyV x < PR := by unfold keyV; rw [hs]; exact keyAt_lt x 0 0 PR_pos
  have hkb : keyV y < PR := by unfold keyV; rw [ht]; exact keyAt_lt y 0 0 PR_pos
  have kx : keyV (x ++ y) = (keyV x * 1114112 ^ charsAt y 0 + keyV y) % PR := by
    unfold keyV
    rw [torn_app x y hs, ht, hs]
    simp only [Option.map_none]
    rw [key_app x y 0 hs]
    exact key_pow y 0 _ (keyAt_lt x 0 0 PR_pos) ht
  simp only [ex] at KC
  have KC := Lib.hid KC
  have KH := Lib.hid (fun w => rchars_any y w (by omega))
  have hcl := charsAt_le y 0
  have KP := (fun w => pow_any 1114112 (charsAt y 0) w (by rw [PR_eq]; omega) (by omega))
  have h64 := pr_64
  have hpm := Nat.mod_lt (1114112 ^ charsAt y 0) (show PR > 0 from PR_pos)
  have KM := (fun w => mul_any (keyV x) (1114112 ^ charsAt y 0 % PR) w (by omega) (by omega))
  have hmm := Nat.mod_lt (keyV x * (1114112 ^ charsAt y 0 % PR)) (show PR > 0 from PR_pos)
  have KD := fun w => add_any (keyV x * (1114112 ^ charsAt y 0 % PR) % PR) (keyV y) w (by omega) (by omega)
  have hq : (keyV x * (1114112 ^ charsAt y 0 % PR) % PR + keyV y) % PR = keyV (x ++ y) := by
    rw [kx, Nat.mod_add_mod, ← Nat.mod_add_mod (keyV x * 1114112 ^ charsAt y 0)]
    rw [← Nat.mod_add_mod, Nat.mul_mod, Nat.mod_mod, ← Nat.mul_mod]
  simp only [hq] at KD
  have hlt : decide ((keyV x : Int) < 2305843009213693951) = true := by
    rw [decide_eq_true_eq]; rw [PR_eq] at hk; omega
  have hcw : IntKind.u64.wrap ((charsAt y 0 : Nat) : Int) = ((charsAt y 0 : Nat) : Int) := by rw [IntKind.wrap_u64]; omega
  clear kx hq hkb hk hmm hpm
  obtain ⟨PWM, hPWM⟩ : ∃ z, 1114112 ^ charsAt y 0 % PR = z := ⟨_, rfl⟩
  simp only [hPWM] at KP KM KD
  clear hPWM
  obtain ⟨MM, hMM⟩ : ∃ z, keyV x * PWM % PR = z := ⟨_, rfl⟩
  simp only [hMM] at KM KD
  clear hMM
  have KM := Lib.hid KM
  have KD := Lib.hid KD
  have KP := Lib.hid KP
  go_wp2_with fail
  refine KA.out.mono ?_
  rintro e w2 ⟨rfl, b2⟩
  have T2 := Lib.hid (T1.out.below b2); have B2 := Lib.hid (B1.out.then b2); clear b2
  go_wp2_with fail
  refine (KB.out _ T2.out).mono ?_
  rintro e w3 ⟨rfl, b3⟩
  have T3 := Lib.hid (T2.out.below b3); have B3 := Lib.hid (B2.out.then b3); clear b3
  go_wp2_with fail
  refine (KC.out _ T3.out).mono ?_
  rintro e w4 ⟨rfl, b4⟩
  have B4 := Lib.hid (B3.out.then b4); clear b4
  go_wp2_with fail
  refine (KH.out _).mono ?_
  rintro e w5 ⟨rfl, rfl⟩
  go_wp2_with fail
  refine (KP.out _).mono ?_
  rintro e w5 ⟨rfl, rfl⟩
  go_wp2_with fail
  refine (KM.out _).mono ?_
  rintro e w5 ⟨rfl, rfl⟩
  go_wp2_with fail
  refine (KD.out _).mono ?_
  rintro e w5 ⟨rfl, rfl⟩
  go_wp2_with fail
  go_ret
  exact ⟨rfl, B4.out⟩
theorem lawLong (s t : ByteArray) (w : World) (hT : Tabs w) : Calls Tryd.prog 6 #[.string s, .string t] w fun e w' => e = .returned (.bool true) ∧ Below w.heap.size w w' := by
  cases hs : tornAt (s.extract 0 (min (s.size : Int) 100).toNat) 0 with
  | some i =>
    cases ht : tornAt (t.extract 0 (min (t.size : Int) 100).toNat) 0 with
    | some j => exact long_tt s t w hT i hs j ht
    | none => exact long_tn s t w hT i hs ht
  | none =>
    cases ht : tornAt (t.extract 0 (min (t.size : Int) 100).toNat) 0 with
    | some j => exact long_nt s t w hT hs j ht
    | none => exact long_nn s t w hT hs ht
end Go.Proofs.YtjhlpmigkbaegaaDoor
