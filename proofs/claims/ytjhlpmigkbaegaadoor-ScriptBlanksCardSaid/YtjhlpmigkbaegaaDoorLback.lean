/- ScriptBack walked. -/
import Derived.Test.YtjhlpmigkbaegaaDoorLkeys
import Derived.Test.YtjhlpmigkbaegaaDoorBack
namespace Go.Proofs.YtjhlpmigkbaegaaDoor
open Go.RowKit
set_option linter.unusedVariables false
/-- Commands that are values of type T, whose first word function fn tells. -/
def Kind (T : TypeId) (fn : FuncId) (c : Cmd) : Prop := ∀ w v, CmdV w v c → ∃ u, v = .iface T u ∧ ∀ w, Calls Tryd.prog fn #[u] w (TPost w (verbC c))
theorem kind_create (l : List Int) : Kind 53 84 (.create l) := fun w v h => by obtain ⟨x0, x1, x2, x3, x4, rfl, rfl⟩ := h; exact ⟨_, rfl, fun w => verb_create w _ _ _ _ _⟩
theorem kind_open (l : List Int) : Kind 56 85 (.open_ l) := fun w v h => by obtain ⟨x0, x1, x2, x3, x4, rfl, rfl⟩ := h; exact ⟨_, rfl, fun w => verb_open w _ _ _ _ _ _⟩
theorem kind_add (r : AddR) : Kind 58 86 (.add r) := fun w v h => ⟨_, h, fun w => verb_add w r⟩
theorem kind_tick : Kind 61 87 .tick := fun w v h => ⟨_, h, fun w => verb_tick w⟩
theorem kind_query (s : ByteArray) (x : Int) (l : List Int) : Kind 64 88 (.query s x l) := fun w v h => by obtain ⟨a, c, rfl, _⟩ := h; exact ⟨_, rfl, fun w => verb_query w _ _ _ _ _⟩
theorem kind_pair (s : ByteArray) (a b : Int) : Kind 66 89 (.pair s a b) := fun w v h => ⟨_, h, fun w => verb_pair w _ _ _⟩
theorem kind_imp (l : List Nat) : Kind 69 90 (.imp l) := fun w v h => by obtain ⟨a, c, rfl, _⟩ := h; exact ⟨_, rfl, fun w => verb_import w _ _ _⟩
def PN (w : World) (i e : Int) (x : Ending) (w' : World) : Prop := x = .returned (.tuple #[.nilIface, .int .i64 i, .int .i64 e]) ∧ Below w.heap.size w w'
theorem parse_no {s : ByteArray} {i e : Int} (h : parseV s = (none, i, e)) (hs : s.size ≤ 1048576) (w : World) (hT : Tabs w) : Calls Tryd.prog 10 #[.string s] w (PN w i e) := by
  have k := parse_any s w hs hT
  rw [h] at k
  refine k.mono fun x w' q => ?_
  obtain ⟨v, rfl, hv, hb⟩ := q
  obtain rfl : v = .nilIface := hv
  exact ⟨rfl, hb⟩
/-- A parse that tells a command. -/
def PY (T : TypeId) (fn : FuncId) (w : World) (c : Cmd) (i e : Int) (x : Ending) (w' : World) : Prop :=
  ∃ u, x = .returned (.tuple #[.iface T u, .int .i64 i, .int .i64 e]) ∧ CmdV w' (.iface T u) c ∧ Below w.heap.size w w' ∧ ∀ w, Calls Tryd.prog fn #[u] w (TPost w (verbC c))
theorem parse_yes {T : TypeId} {fn : FuncId} {s : ByteArray} {c : Cmd} {i e : Int} (hk : Kind T fn c) (h : parseV s = (some c, i, e)) (hs : s.size ≤ 1048576) (w : World) (hT : Tabs w) : Calls Tryd.prog 10 #[.string s] w (PY T fn w c i e) := by
  have k := parse_any s w hs hT
  rw [h] at k
  refine k.mono fun x w' q => ?_
  obtain ⟨v, rfl, hv, hb⟩ := q
  obtain ⟨u, rfl, h3⟩ := hk w' v hv
  exact ⟨u, rfl, hv, hb, h3⟩
theorem nonempty_list {X : ByteArray} (h : X.size ≠ 0) : X.toList.isEmpty = false := by
  rw [ByteArray.toList_eq]
  have : X.data.toList.length = X.size := rfl
  cases hl : X.data.toList with
  | nil => rw [hl] at this; exact absurd this.symm h
  | cons a l => rfl
set_option maxRecDepth 100000 in
set_option maxHeartbeats 2000000 in
theorem back_no (s : ByteArray) (w : World) (hT : Tabs w) (i e : Int) (hp : parseV (s.extract 0 (min (s.size : Int) 500).toNat) = (none, i, e)) : Calls Tryd.prog 4 #[.string s] w fun e w' => e = .returned (.bool true) ∧ Below w.heap.size w w' := by
  have KS := Lib.hid (shown_any w hT)
  have HT := Lib.hid hT
  have hs1 := cut_size s 500
  clear hT
  go_enter Tryd.func4, Tryd.ntmps4
  go_wp2_with fail
  refine KS.out.mono ?_
  rintro x w1 ⟨rfl, b1⟩
  have T1 := Lib.hid (HT.out.below b1); have B1 := Lib.hid b1; clear b1
  go_wp2_with fail
  generalize s.extract 0 (min (s.size : Int) 500).toNat = t at *
  refine (parse_no hp (by omega) _ T1.out).mono ?_
  rintro x w2 ⟨rfl, b2⟩
  have B2 := Lib.hid (B1.out.then b2); clear b2
  clear hp
  by_cases he : e = 0
  · subst he
    go_wp2_with fail
    go_ret
    exact ⟨rfl, B2.out⟩
  · have g1 : decide (e = 0) = false := by simpa using he
    go_wp2_with fail
    go_ret
    exact ⟨rfl, B2.out⟩
set_option maxRecDepth 100000 in
set_option maxHeartbeats 4000000 in
theorem back_yes_84 (s : ByteArray) (w : World) (hT : Tabs w) (i e : Int) (c : Cmd) (hk : Kind 53 84 c) (hp : parseV (s.extract 0 (min (s.size : Int) 500).toNat) = (some c, i, e)) : Calls Tryd.prog 4 #[.string s] w fun e w' => e = .returned (.bool true) ∧ Below w.heap.size w w' := by
  have KS := Lib.hid (shown_any w hT)
  have HT := Lib.hid hT
  have hs1 := cut_size s 500
  clear hT
  go_enter Tryd.func4, Tryd.ntmps4
  go_wp2_with fail
  refine KS.out.mono ?_
  rintro x w1 ⟨rfl, b1⟩
  have T1 := Lib.hid (HT.out.below b1); have B1 := Lib.hid b1; clear b1
  go_wp2_with fail
  generalize s.extract 0 (min (s.size : Int) 500).toNat = t at *
  obtain ⟨rfl, hok, hp2, hle, hpos⟩ := back hp
  refine (parse_yes hk hp (by omega) _ T1.out).mono ?_
  rintro x w2 ⟨u, rfl, hv, b2, z1⟩
  have T2 := Lib.hid (T1.out.below b2); have B2 := Lib.hid (B1.out.then b2); clear b2
  have KX := Lib.hid (text_cmd w2 T2.out _ c hv hok)
  have KP := Lib.hid (fun W (hT : Tabs W) => parse_yes hk hp2 (by omega) W hT)
  have KT := Lib.hid (fun W (hT : Tabs W) v (hv : CmdV W v c) => text_cmd W hT v c hv hok)
  have ZV := Lib.hid z1
  clear hp hp2 hok hv z1 hk
  have hne : (textC c).toList.isEmpty = false := nonempty_list (by omega)
  have hgl : decide ((textC c).size ≤ t.size) = true := by simpa using hle
  obtain ⟨X, hX⟩ : ∃ X, textC c = X := ⟨_, rfl⟩
  rw [hX] at KX KP hne hgl hle hpos
  simp only [hX] at KT
  clear hX
  unfold TPost at KX KT ZV
  unfold PY TPost at KP
  generalize verbC c = vb at *
  go_wp2_with fail
  refine KX.out.mono ?_
  rintro x w3 ⟨rfl, b3⟩
  have T3 := Lib.hid (T2.out.below b3); have B3 := Lib.hid (B2.out.then b3); clear b3
  go_wp2_with fail
  refine (KP.out _ T3.out).mono ?_
  rintro x w4 ⟨u', rfl, hv', b4, z2⟩
  have HV' := Lib.hid hv'
  have ZV' := Lib.hid z2
  have T4 := Lib.hid (T3.out.below b4); have B4 := Lib.hid (B3.out.then b4); clear b4 hv' z2
  go_wp2_with fail
  refine (ZV'.out _).mono ?_
  rintro x w5 ⟨rfl, b5⟩
  have HV5 := Lib.hid (HV'.out.below b5); have T5 := Lib.hid (T4.out.below b5); have B5 := Lib.hid (B4.out.then b5); clear b5
  go_wp2_with fail
  refine (ZV.out _).mono ?_
  rintro x w6 ⟨rfl, b6⟩
  have HV6 := Lib.hid (HV5.out.below b6); have T6 := Lib.hid (T5.out.below b6); have B6 := Lib.hid (B5.out.then b6); clear b6
  go_wp2_with fail
  refine (KT.out _ T6.out _ HV6.out).mono ?_
  rintro x w7 ⟨rfl, b7⟩
  have B7 := Lib.hid (B6.out.then b7); clear b7
  go_wp2_with fail
  go_ret
  exact ⟨rfl, B7.out⟩
set_option maxRecDepth 100000 in
set_option maxHeartbeats 4000000 in
theorem back_yes_85 (s : ByteArray) (w : World) (hT : Tabs w) (i e : Int) (c : Cmd) (hk : Kind 56 85 c) (hp : parseV (s.extract 0 (min (s.size : Int) 500).toNat) = (some c, i, e)) : Calls Tryd.prog 4 #[.string s] w fun e w' => e = .returned (.bool true) ∧ Below w.heap.size w w' := by
  have KS := Lib.hid (shown_any w hT)
  have HT := Lib.hid hT
  have hs1 := cut_size s 500
  clear hT
  go_enter Tryd.func4, Tryd.ntmps4
  go_wp2_with fail
  refine KS.out.mono ?_
  rintro x w1 ⟨rfl, b1⟩
  have T1 := Lib.hid (HT.out.below b1); have B1 := Lib.hid b1; clear b1
  go_wp2_with fail
  generalize s.extract 0 (min (s.size : Int) 500).toNat = t at *
  obtain ⟨rfl, hok, hp2, hle, hpos⟩ := back hp
  refine (parse_yes hk hp (by omega) _ T1.out).mono ?_
  rintro x w2 ⟨u, rfl, hv, b2, z1⟩
  have T2 := Lib.hid (T1.out.below b2); have B2 := Lib.hid (B1.out.then b2); clear b2
  have KX := Lib.hid (text_cmd w2 T2.out _ c hv hok)
  have KP := Lib.hid (fun W (hT : Tabs W) => parse_yes hk hp2 (by omega) W hT)
  have KT := Lib.hid (fun W (hT : Tabs W) v (hv : CmdV W v c) => text_cmd W hT v c hv hok)
  have ZV := Lib.hid z1
  clear hp hp2 hok hv z1 hk
  have hne : (textC c).toList.isEmpty = false := nonempty_list (by omega)
  have hgl : decide ((textC c).size ≤ t.size) = true := by simpa using hle
  obtain ⟨X, hX⟩ : ∃ X, textC c = X := ⟨_, rfl⟩
  rw [hX] at KX KP hne hgl hle hpos
  simp only [hX] at KT
  clear hX
  unfold TPost at KX KT ZV
  unfold PY TPost at KP
  generalize verbC c = vb at *
  go_wp2_with fail
  refine KX.out.mono ?_
  rintro x w3 ⟨rfl, b3⟩
  have T3 := Lib.hid (T2.out.below b3); have B3 := Lib.hid (B2.out.then b3); clear b3
  go_wp2_with fail
  refine (KP.out _ T3.out).mono ?_
  rintro x w4 ⟨u', rfl, hv', b4, z2⟩
  have HV' := Lib.hid hv'
  have ZV' := Lib.hid z2
  have T4 := Lib.hid (T3.out.below b4); have B4 := Lib.hid (B3.out.then b4); clear b4 hv' z2
  go_wp2_with fail
  refine (ZV'.out _).mono ?_
  rintro x w5 ⟨rfl, b5⟩
  have HV5 := Lib.hid (HV'.out.below b5); have T5 := Lib.hid (T4.out.below b5); have B5 := Lib.hid (B4.out.then b5); clear b5
  go_wp2_with fail
  refine (ZV.out _).mono ?_
  rintro x w6 ⟨rfl, b6⟩
  have HV6 := Lib.hid (HV5.out.below b6); have T6 := Lib.hid (T5.out.below b6); have B6 := Lib.hid (B5.out.then b6); clear b6
  go_wp2_with fail
  refine (KT.out _ T6.out _ HV6.out).mono ?_
  rintro x w7 ⟨rfl, b7⟩
  have B7 := Lib.hid (B6.out.then b7); clear b7
  go_wp2_with fail
  go_ret
  exact ⟨rfl, B7.out⟩
set_option maxRecDepth 100000 in
set_option maxHeartbeats 4000000 in
theorem back_yes_86 (s : ByteArray) (w : World) (hT : Tabs w) (i e : Int) (c : Cmd) (hk : Kind 58 86 c) (hp : parseV (s.extract 0 (min (s.size : Int) 500).toNat) = (some c, i, e)) : Calls Tryd.prog 4 #[.string s] w fun e w' => e = .returned (.bool true) ∧ Below w.heap.size w w' := by
  have KS := Lib.hid (shown_any w hT)
  have HT := Lib.hid hT
  have hs1 := cut_size s 500
  clear hT
  go_enter Tryd.func4, Tryd.ntmps4
  go_wp2_with fail
  refine KS.out.mono ?_
  rintro x w1 ⟨rfl, b1⟩
  have T1 := Lib.hid (HT.out.below b1); have B1 := Lib.hid b1; clear b1
  go_wp2_with fail
  generalize s.extract 0 (min (s.size : Int) 500).toNat = t at *
  obtain ⟨rfl, hok, hp2, hle, hpos⟩ := back hp
  refine (parse_yes hk hp (by omega) _ T1.out).mono ?_
  rintro x w2 ⟨u, rfl, hv, b2, z1⟩
  have T2 := Lib.hid (T1.out.below b2); have B2 := Lib.hid (B1.out.then b2); clear b2
  have KX := Lib.hid (text_cmd w2 T2.out _ c hv hok)
  have KP := Lib.hid (fun W (hT : Tabs W) => parse_yes hk hp2 (by omega) W hT)
  have KT := Lib.hid (fun W (hT : Tabs W) v (hv : CmdV W v c) => text_cmd W hT v c hv hok)
  have ZV := Lib.hid z1
  clear hp hp2 hok hv z1 hk
  have hne : (textC c).toList.isEmpty = false := nonempty_list (by omega)
  have hgl : decide ((textC c).size ≤ t.size) = true := by simpa using hle
  obtain ⟨X, hX⟩ : ∃ X, textC c = X := ⟨_, rfl⟩
  rw [hX] at KX KP hne hgl hle hpos
  simp only [hX] at KT
  clear hX
  unfold TPost at KX KT ZV
  unfold PY TPost at KP
  generalize verbC c = vb at *
  go_wp2_with fail
  refine KX.out.mono ?_
  rintro x w3 ⟨rfl, b3⟩
  have T3 := Lib.hid (T2.out.below b3); have B3 := Lib.hid (B2.out.then b3); clear b3
  go_wp2_with fail
  refine (KP.out _ T3.out).mono ?_
  rintro x w4 ⟨u', rfl, hv', b4, z2⟩
  have HV' := Lib.hid hv'
  have ZV' := Lib.hid z2
  have T4 := Lib.hid (T3.out.below b4); have B4 := Lib.hid (B3.out.then b4); clear b4 hv' z2
  go_wp2_with fail
  refine (ZV'.out _).mono ?_
  rintro x w5 ⟨rfl, b5⟩
  have HV5 := Lib.hid (HV'.out.below b5); have T5 := Lib.hid (T4.out.below b5); have B5 := Lib.hid (B4.out.then b5); clear b5
  go_wp2_with fail
  refine (ZV.out _).mono ?_
  rintro x w6 ⟨rfl, b6⟩
  have HV6 := Lib.hid (HV5.out.below b6); have T6 := Lib.hid (T5.out.below b6); have B6 := Lib.hid (B5.out.then b6); clear b6
  go_wp2_with fail
  refine (KT.out _ T6.out _ HV6.out).mono ?_
  rintro x w7 ⟨rfl, b7⟩
  have B7 := Lib.hid (B6.out.then b7); clear b7
  go_wp2_with fail
  go_ret
  exact ⟨rfl, B7.out⟩
set_option maxRecDepth 100000 in
set_option maxHeartbeats 4000000 in
theorem back_yes_87 (s : ByteArray) (w : World) (hT : Tabs w) (i e : Int) (c : Cmd) (hk : Kind 61 87 c) (hp : parseV (s.extract 0 (min (s.size : Int) 500).toNat) = (some c, i, e)) : Calls Tryd.prog 4 #[.string s] w fun e w' => e = .returned (.bool true) ∧ Below w.heap.size w w' := by
  have KS := Lib.hid (shown_any w hT)
  have HT := Lib.hid hT
  have hs1 := cut_size s 500
  clear hT
  go_enter Tryd.func4, Tryd.ntmps4
  go_wp2_with fail
  refine KS.out.mono ?_
  rintro x w1 ⟨rfl, b1⟩
  have T1 := Lib.hid (HT.out.below b1); have B1 := Lib.hid b1; clear b1
  go_wp2_with fail
  generalize s.extract 0 (min (s.size : Int) 500).toNat = t at *
  obtain ⟨rfl, hok, hp2, hle, hpos⟩ := back hp
  refine (parse_yes hk hp (by omega) _ T1.out).mono ?_
  rintro x w2 ⟨u, rfl, hv, b2, z1⟩
  have T2 := Lib.hid (T1.out.below b2); have B2 := Lib.hid (B1.out.then b2); clear b2
  have KX := Lib.hid (text_cmd w2 T2.out _ c hv hok)
  have KP := Lib.hid (fun W (hT : Tabs W) => parse_yes hk hp2 (by omega) W hT)
  have KT := Lib.hid (fun W (hT : Tabs W) v (hv : CmdV W v c) => text_cmd W hT v c hv hok)
  have ZV := Lib.hid z1
  clear hp hp2 hok hv z1 hk
  have hne : (textC c).toList.isEmpty = false := nonempty_list (by omega)
  have hgl : decide ((textC c).size ≤ t.size) = true := by simpa using hle
  obtain ⟨X, hX⟩ : ∃ X, textC c = X := ⟨_, rfl⟩
  rw [hX] at KX KP hne hgl hle hpos
  simp only [hX] at KT
  clear hX
  unfold TPost at KX KT ZV
  unfold PY TPost at KP
  generalize verbC c = vb at *
  go_wp2_with fail
  refine KX.out.mono ?_
  rintro x w3 ⟨rfl, b3⟩
  have T3 := Lib.hid (T2.out.below b3); have B3 := Lib.hid (B2.out.then b3); clear b3
  go_wp2_with fail
  refine (KP.out _ T3.out).mono ?_
  rintro x w4 ⟨u', rfl, hv', b4, z2⟩
  have HV' := Lib.hid hv'
  have ZV' := Lib.hid z2
  have T4 := Lib.hid (T3.out.below b4); have B4 := Lib.hid (B3.out.then b4); clear b4 hv' z2
  go_wp2_with fail
  refine (ZV'.out _).mono ?_
  rintro x w5 ⟨rfl, b5⟩
  have HV5 := Lib.hid (HV'.out.below b5); have T5 := Lib.hid (T4.out.below b5); have B5 := Lib.hid (B4.out.then b5); clear b5
  go_wp2_with fail
  refine (ZV.out _).mono ?_
  rintro x w6 ⟨rfl, b6⟩
  have HV6 := Lib.hid (HV5.out.below b6); have T6 := Lib.hid (T5.out.below b6); have B6 := Lib.hid (B5.out.then b6); clear b6
  go_wp2_with fail
  refine (KT.out _ T6.out _ HV6.out).mono ?_
  rintro x w7 ⟨rfl, b7⟩
  have B7 := Lib.hid (B6.out.then b7); clear b7
  go_wp2_with fail
  go_ret
  exact ⟨rfl, B7.out⟩
set_option maxRecDepth 100000 in
set_option maxHeartbeats 4000000 in
theorem back_yes_88 (s : ByteArray) (w : World) (hT : Tabs w) (i e : Int) (c : Cmd) (hk : Kind 64 88 c) (hp : parseV (s.extract 0 (min (s.size : Int) 500).toNat) = (some c, i, e)) : Calls Tryd.prog 4 #[.string s] w fun e w' => e = .returned (.bool true) ∧ Below w.heap.size w w' := by
  have KS := Lib.hid (shown_any w hT)
  have HT := Lib.hid hT
  have hs1 := cut_size s 500
  clear hT
  go_enter Tryd.func4, Tryd.ntmps4
  go_wp2_with fail
  refine KS.out.mono ?_
  rintro x w1 ⟨rfl, b1⟩
  have T1 := Lib.hid (HT.out.below b1); have B1 := Lib.hid b1; clear b1
  go_wp2_with fail
  generalize s.extract 0 (min (s.size : Int) 500).toNat = t at *
  obtain ⟨rfl, hok, hp2, hle, hpos⟩ := back hp
  refine (parse_yes hk hp (by omega) _ T1.out).mono ?_
  rintro x w2 ⟨u, rfl, hv, b2, z1⟩
  have T2 := Lib.hid (T1.out.below b2); have B2 := Lib.hid (B1.out.then b2); clear b2
  have KX := Lib.hid (text_cmd w2 T2.out _ c hv hok)
  have KP := Lib.hid (fun W (hT : Tabs W) => parse_yes hk hp2 (by omega) W hT)
  have KT := Lib.hid (fun W (hT : Tabs W) v (hv : CmdV W v c) => text_cmd W hT v c hv hok)
  have ZV := Lib.hid z1
  clear hp hp2 hok hv z1 hk
  have hne : (textC c).toList.isEmpty = false := nonempty_list (by omega)
  have hgl : decide ((textC c).size ≤ t.size) = true := by simpa using hle
  obtain ⟨X, hX⟩ : ∃ X, textC c = X := ⟨_, rfl⟩
  rw [hX] at KX KP hne hgl hle hpos
  simp only [hX] at KT
  clear hX
  unfold TPost at KX KT ZV
  unfold PY TPost at KP
  generalize verbC c = vb at *
  go_wp2_with fail
  refine KX.out.mono ?_
  rintro x w3 ⟨rfl, b3⟩
  have T3 := Lib.hid (T2.out.below b3); have B3 := Lib.hid (B2.out.then b3); clear b3
  go_wp2_with fail
  refine (KP.out _ T3.out).mono ?_
  rintro x w4 ⟨u', rfl, hv', b4, z2⟩
  have HV' := Lib.hid hv'
  have ZV' := Lib.hid z2
  have T4 := Lib.hid (T3.out.below b4); have B4 := Lib.hid (B3.out.then b4); clear b4 hv' z2
  go_wp2_with fail
  refine (ZV'.out _).mono ?_
  rintro x w5 ⟨rfl, b5⟩
  have HV5 := Lib.hid (HV'.out.below b5); have T5 := Lib.hid (T4.out.below b5); have B5 := Lib.hid (B4.out.then b5); clear b5
  go_wp2_with fail
  refine (ZV.out _).mono ?_
  rintro x w6 ⟨rfl, b6⟩
  have HV6 := Lib.hid (HV5.out.below b6); have T6 := Lib.hid (T5.out.below b6); have B6 := Lib.hid (B5.out.then b6); clear b6
  go_wp2_with fail
  refine (KT.out _ T6.out _ HV6.out).mono ?_
  rintro x w7 ⟨rfl, b7⟩
  have B7 := Lib.hid (B6.out.then b7); clear b7
  go_wp2_with fail
  go_ret
  exact ⟨rfl, B7.out⟩
set_option maxRecDepth 100000 in
set_option maxHeartbeats 4000000 in
theorem back_yes_89 (s : ByteArray) (w : World) (hT : Tabs w) (i e : Int) (c : Cmd) (hk : Kind 66 89 c) (hp : parseV (s.extract 0 (min (s.size : Int) 500).toNat) = (some c, i, e)) : Calls Tryd.prog 4 #[.string s] w fun e w' => e = .returned (.bool true) ∧ Below w.heap.size w w' := by
  have KS := Lib.hid (shown_any w hT)
  have HT := Lib.hid hT
  have hs1 := cut_size s 500
  clear hT
  go_enter Tryd.func4, Tryd.ntmps4
  go_wp2_with fail
  refine KS.out.mono ?_
  rintro x w1 ⟨rfl, b1⟩
  have T1 := Lib.hid (HT.out.below b1); have B1 := Lib.hid b1; clear b1
  go_wp2_with fail
  generalize s.extract 0 (min (s.size : Int) 500).toNat = t at *
  obtain ⟨rfl, hok, hp2, hle, hpos⟩ := back hp
  refine (parse_yes hk hp (by omega) _ T1.out).mono ?_
  rintro x w2 ⟨u, rfl, hv, b2, z1⟩
  have T2 := Lib.hid (T1.out.below b2); have B2 := Lib.hid (B1.out.then b2); clear b2
  have KX := Lib.hid (text_cmd w2 T2.out _ c hv hok)
  have KP := Lib.hid (fun W (hT : Tabs W) => parse_yes hk hp2 (by omega) W hT)
  have KT := Lib.hid (fun W (hT : Tabs W) v (hv : CmdV W v c) => text_cmd W hT v c hv hok)
  have ZV := Lib.hid z1
  clear hp hp2 hok hv z1 hk
  have hne : (textC c).toList.isEmpty = false := nonempty_list (by omega)
  have hgl : decide ((textC c).size ≤ t.size) = true := by simpa using hle
  obtain ⟨X, hX⟩ : ∃ X, textC c = X := ⟨_, rfl⟩
  rw [hX] at KX KP hne hgl hle hpos
  simp only [hX] at KT
  clear hX
  unfold TPost at KX KT ZV
  unfold PY TPost at KP
  generalize verbC c = vb at *
  go_wp2_with fail
  refine KX.out.mono ?_
  rintro x w3 ⟨rfl, b3⟩
  have T3 := Lib.hid (T2.out.below b3); have B3 := Lib.hid (B2.out.then b3); clear b3
  go_wp2_with fail
  refine (KP.out _ T3.out).mono ?_
  rintro x w4 ⟨u', rfl, hv', b4, z2⟩
  have HV' := Lib.hid hv'
  have ZV' := Lib.hid z2
  have T4 := Lib.hid (T3.out.below b4); have B4 := Lib.hid (B3.out.then b4); clear b4 hv' z2
  go_wp2_with fail
  refine (ZV'.out _).mono ?_
  rintro x w5 ⟨rfl, b5⟩
  have HV5 := Lib.hid (HV'.out.below b5); have T5 := Lib.hid (T4.out.below b5); have B5 := Lib.hid (B4.out.then b5); clear b5
  go_wp2_with fail
  refine (ZV.out _).mono ?_
  rintro x w6 ⟨rfl, b6⟩
  have HV6 := Lib.hid (HV5.out.below b6); have T6 := Lib.hid (T5.out.below b6); have B6 := Lib.hid (B5.out.then b6); clear b6
  go_wp2_with fail
  refine (KT.out _ T6.out _ HV6.out).mono ?_
  rintro x w7 ⟨rfl, b7⟩
  have B7 := Lib.hid (B6.out.then b7); clear b7
  go_wp2_with fail
  go_ret
  exact ⟨rfl, B7.out⟩
set_option maxRecDepth 100000 in
set_option maxHeartbeats 4000000 in
theorem back_yes_90 (s : ByteArray) (w : World) (hT : Tabs w) (i e : Int) (c : Cmd) (hk : Kind 69 90 c) (hp : parseV (s.extract 0 (min (s.size : Int) 500).toNat) = (some c, i, e)) : Calls Tryd.prog 4 #[.string s] w fun e w' => e = .returned (.bool true) ∧ Below w.heap.size w w' := by
  have KS := Lib.hid (shown_any w hT)
  have HT := Lib.hid hT
  have hs1 := cut_size s 500
  clear hT
  go_enter Tryd.func4, Tryd.ntmps4
  go_wp2_with fail
  refine KS.out.mono ?_
  rintro x w1 ⟨rfl, b1⟩
  have T1 := Lib.hid (HT.out.below b1); have B1 := Lib.hid b1; clear b1
  go_wp2_with fail
  generalize s.extract 0 (min (s.size : Int) 500).toNat = t at *
  obtain ⟨rfl, hok, hp2, hle, hpos⟩ := back hp
  refine (parse_yes hk hp (by omega) _ T1.out).mono ?_
  rintro x w2 ⟨u, rfl, hv, b2, z1⟩
  have T2 := Lib.hid (T1.out.below b2); have B2 := Lib.hid (B1.out.then b2); clear b2
  have KX := Lib.hid (text_cmd w2 T2.out _ c hv hok)
  have KP := Lib.hid (fun W (hT : Tabs W) => parse_yes hk hp2 (by omega) W hT)
  have KT := Lib.hid (fun W (hT : Tabs W) v (hv : CmdV W v c) => text_cmd W hT v c hv hok)
  have ZV := Lib.hid z1
  clear hp hp2 hok hv z1 hk
  have hne : (textC c).toList.isEmpty = false := nonempty_list (by omega)
  have hgl : decide ((textC c).size ≤ t.size) = true := by simpa using hle
  obtain ⟨X, hX⟩ : ∃ X, textC c = X := ⟨_, rfl⟩
  rw [hX] at KX KP hne hgl hle hpos
  simp only [hX] at KT
  clear hX
  unfold TPost at KX KT ZV
  unfold PY TPost at KP
  generalize verbC c = vb at *
  go_wp2_with fail
  refine KX.out.mono ?_
  rintro x w3 ⟨rfl, b3⟩
  have T3 := Lib.hid (T2.out.below b3); have B3 := Lib.hid (B2.out.then b3); clear b3
  go_wp2_with fail
  refine (KP.out _ T3.out).mono ?_
  rintro x w4 ⟨u', rfl, hv', b4, z2⟩
  have HV' := Lib.hid hv'
  have ZV' := Lib.hid z2
  have T4 := Lib.hid (T3.out.below b4); have B4 := Lib.hid (B3.out.then b4); clear b4 hv' z2
  go_wp2_with fail
  refine (ZV'.out _).mono ?_
  rintro x w5 ⟨rfl, b5⟩
  have HV5 := Lib.hid (HV'.out.below b5); have T5 := Lib.hid (T4.out.below b5); have B5 := Lib.hid (B4.out.then b5); clear b5
  go_wp2_with fail
  refine (ZV.out _).mono ?_
  rintro x w6 ⟨rfl, b6⟩
  have HV6 := Lib.hid (HV5.out.below b6); have T6 := Lib.hid (T5.out.below b6); have B6 := Lib.hid (B5.out.then b6); clear b6
  go_wp2_with fail
  refine (KT.out _ T6.out _ HV6.out).mono ?_
  rintro x w7 ⟨rfl, b7⟩
  have B7 := Lib.hid (B6.out.then b7); clear b7
  go_wp2_with fail
  go_ret
  exact ⟨rfl, B7.out⟩
theorem lawBack (s : ByteArray) (w : World) (hT : Tabs w) : Calls Tryd.prog 4 #[.string s] w fun e w' => e = .returned (.bool true) ∧ Below w.heap.size w w' := by
  obtain ⟨⟨o, i, e⟩, hp⟩ : ∃ r, parseV (s.extract 0 (min (s.size : Int) 500).toNat) = r := ⟨_, rfl⟩
  cases o with
  | none => exact back_no s w hT i e hp
  | some c =>
    cases c with
    | create l => exact back_yes_84 s w hT i e _ (kind_create l) hp
    | open_ l => exact back_yes_85 s w hT i e _ (kind_open l) hp
    | add r => exact back_yes_86 s w hT i e _ (kind_add r) hp
    | tick => exact back_yes_87 s w hT i e _ (kind_tick) hp
    | query x y l => exact back_yes_88 s w hT i e _ (kind_query x y l) hp
    | pair x a b => exact back_yes_89 s w hT i e _ (kind_pair x a b) hp
    | imp l => exact back_yes_90 s w hT i e _ (kind_imp l) hp
end Go.Proofs.YtjhlpmigkbaegaaDoor
