/- named, number walked. -/
import Derived.Test.YtjhlpmigkbaegaaDoorWords
namespace Go.Proofs.YtjhlpmigkbaegaaDoor
open Go.RowKit
set_option linter.unusedVariables false

/-- A text between quotes. -/
def namedB (s : ByteArray) : Bool := decide (2 ≤ s.size) && decide (bAt s 0 = 34) && decide (quoteAt s 0 = (s.size : Int) - 2)
def namedV (s : ByteArray) : Value := if namedB s then .tuple #[.string (s.extract 1 (s.size - 1)), .bool true] else .tuple #[.string ⟨#[]⟩, .bool false]
set_option maxRecDepth 100000 in
set_option maxHeartbeats 1000000 in
theorem named_any (s : ByteArray) (w : World) (hs : s.size ≤ 1048576) : Calls Tryd.prog 40 #[.string s] w fun e w' => e = .returned (namedV s) ∧ w = w' := by
  by_cases h1 : 2 ≤ s.size
  · have hb := bAt_get s 0 (by omega)
    have g1 : decide ((s.size : Int) < 2) = false := by simp; omega
    by_cases h2 : bAt s 0 = 34
    · have KI := Lib.hid (fun w => ib_any (s.extract 1 s.size) 34 w)
      have hq : Lib.indexByte (s.extract 1 s.size).data.toList ((34 : Int).toNat.toUInt8) = quoteAt s 0 := rfl
      rw [hq] at KI
      rw [h2] at hb
      by_cases h3 : quoteAt s 0 = (s.size : Int) - 2
      · have HV := Lib.hid (show namedV s = .tuple #[.string (s.extract 1 (s.size - 1)), .bool true] by unfold namedV namedB; simp [h1, h2, h3])
        rw [h3] at KI
        clear h3 h2 hq
        have g3 : (((s.size : Int) - 2) != (s.size : Int) - 2) = false := by simp
        go_enter Tryd.func40, Tryd.ntmps40
        go_wp2_with fail
        refine (KI.out _).mono ?_
        rintro e w1 ⟨rfl, rfl⟩
        go_wp2_with fail
        go_ret2
        exact ⟨by rw [HV.out]; rfl, rfl⟩
      · have HV := Lib.hid (show namedV s = .tuple #[.string ⟨#[]⟩, .bool false] by unfold namedV namedB; simp [h3])
        have g3 : (quoteAt s 0 != (s.size : Int) - 2) = true := by simpa using h3
        clear h3 h2 hq
        go_enter Tryd.func40, Tryd.ntmps40
        go_wp2_with fail
        refine (KI.out _).mono ?_
        rintro e w1 ⟨rfl, rfl⟩
        go_wp2_with fail
        go_ret2
        exact ⟨by rw [HV.out]; rfl, rfl⟩
    · have HV := Lib.hid (show namedV s = .tuple #[.string ⟨#[]⟩, .bool false] by unfold namedV namedB; simp [h2])
      obtain ⟨b0, hb0⟩ : ∃ b0, bAt s 0 = b0 := ⟨_, rfl⟩
      rw [hb0] at h2 hb
      have g2 : ((b0 : Int) != 34) = true := by simp; omega
      clear h2 hb0
      go_enter Tryd.func40, Tryd.ntmps40
      go_wp2_with fail
      go_ret2
      exact ⟨by rw [HV.out]; rfl, rfl⟩
  · have HV := Lib.hid (show namedV s = .tuple #[.string ⟨#[]⟩, .bool false] by unfold namedV namedB; simp [h1])
    have g1 : decide ((s.size : Int) < 2) = true := by simp; omega
    go_enter Tryd.func40, Tryd.ntmps40
    go_wp2_with fail
    go_ret2
    exact ⟨by rw [HV.out]; rfl, rfl⟩
/-- A number, as it must be written. -/
def numB (s : ByteArray) : Bool := match Lib.parseIntB 64 s.data.toList with | .ok v => decide (Lib.itoa v = s.data.toList) | _ => false
def numI (s : ByteArray) : Int := match Lib.parseIntB 64 s.data.toList with | .ok v => v | .range => Lib.intSat 64 s.data.toList | _ => 0
theorem parse_bounds {l : List UInt8} {v : Int} (h : Lib.parseIntB 64 l = .ok v) : -9223372036854775808 ≤ v ∧ v ≤ 9223372036854775807 := by
  unfold Lib.parseIntB at h
  split at h
  · cases h
  · simp only at h
    split at h
    · cases h
    · cases h
    · rename_i u hu
      split at h
      · cases h
      · split at h
        · cases h
        · rename_i h1 h2
          cases h
          have e : 2 ^ (64 - 1) = 9223372036854775808 := by decide
          rw [e] at h1 h2
          split <;> omega
theorem below_grow (w : World) (k : Nat) (os : Array Obj) : Below w.heap.size w (Go.Sort.grow (w.drewN k) os) := by
  refine ⟨rfl, rfl, rfl, by simp [Go.Sort.grow], fun i hi => ?_⟩
  have e : (w.drewN k).heap = w.heap := rfl
  simp only [Go.Sort.grow]
  rw [e, Array.getElem?_append_left hi]
set_option maxRecDepth 100000 in
set_option maxHeartbeats 1000000 in
theorem number_any (s : ByteArray) (w : World) (hs : s.size ≤ 1048576) (hT : Tabs w) : Calls Tryd.prog 41 #[.string s] w fun e w' => e = .returned (.tuple #[.int .i64 (numI s), .bool (numB s)]) ∧ Below w.heap.size w w' := by
  have HT := Lib.hid hT; clear hT
  cases hp : Lib.parseIntB 64 s.data.toList
  · rename_i v
    have hv := parse_bounds hp
    have KP := Lib.hid (Tryd.strconv_ParseInt_10_at64_ok s (by omega) v hp w)
    have KF := Lib.hid (fun w (h : Tabs w) => Tryd.strconv_FormatInt_10 v hv.1 hv.2 w h.pow)
    have e1 : numI s = v := by unfold numI; rw [hp]
    have e2 : numB s = decide (Lib.itoa v = s.data.toList) := by unfold numB; rw [hp]
    rw [e1, e2]
    clear hv e1 e2 hp
    go_enter Tryd.func41, Tryd.ntmps41
    go_wp2_with fail
    refine KP.out.mono ?_
    rintro e w1 ⟨rfl, hw1⟩
    have hb1 : Below w.heap.size w w1 := by
      rcases hw1 with rfl | ⟨t, rfl⟩
      · exact Below.refl _ _
      · exact Lib.bytesWorld_below _ _ _
    have HB1 := Lib.hid hb1
    clear hw1 hb1
    go_wp2_with fail
    refine (KF.out _ (HT.out.below HB1.out)).mono ?_
    rintro e w2 ⟨rfl, k, os, hw2⟩
    have HB2 := Lib.hid (HB1.out.then (hw2 ▸ below_grow w1 k os : Below w1.heap.size w1 w2))
    clear hw2
    by_cases hq : Lib.itoa v = s.data.toList
    · have g1 : (Lib.itoa v == s.toList) = true := by
        rw [beq_iff_eq, ByteArray.toList_eq]; exact hq
      have HD := Lib.hid (decide_eq_true hq)
      clear hq
      go_wp2_with fail
      go_ret2
      exact ⟨by rw [HD.out]; rfl, HB2.out⟩
    · have g1 : (Lib.itoa v == s.toList) = false := by
        rw [beq_eq_false_iff_ne, ByteArray.toList_eq]; exact hq
      have HD := Lib.hid (decide_eq_false hq)
      clear hq
      go_wp2_with fail
      go_ret2
      exact ⟨by rw [HD.out]; rfl, HB2.out⟩
  · obtain ⟨te, pe, hes⟩ := HT.out.es
    have KP := Lib.hid (Any.strconv_ParseInt_10_at64_syntax Tryd.laysC174 s (by omega) hp _ w hes (.inr ⟨te, pe, rfl⟩))
    have e1 : numI s = 0 := by unfold numI; rw [hp]
    have e2 : numB s = false := by unfold numB; rw [hp]
    rw [e1, e2]
    clear e1 e2 hp hes
    go_enter Tryd.func41, Tryd.ntmps41
    go_wp2_with fail
    refine KP.out.mono ?_
    rintro e w1 ⟨N, rfl, _, _, hb1⟩
    have HB1 := Lib.hid hb1
    clear hb1
    go_wp2_with fail
    go_ret2
    exact ⟨rfl, HB1.out⟩
  · obtain ⟨te, pe, hes⟩ := HT.out.er
    have KP := Lib.hid (Tryd.strconv_ParseInt_10_at64_range s (by omega) hp _ w hes (.inr ⟨te, pe, rfl⟩))
    have e1 : numI s = Lib.intSat 64 s.data.toList := by unfold numI; rw [hp]
    have e2 : numB s = false := by unfold numB; rw [hp]
    rw [e1, e2]
    clear e1 e2 hp hes
    go_enter Tryd.func41, Tryd.ntmps41
    go_wp2_with fail
    refine KP.out.mono ?_
    rintro e w1 ⟨N, rfl, _, _, hb1⟩
    have HB1 := Lib.hid hb1
    clear hb1
    go_wp2_with fail
    go_ret2
    exact ⟨rfl, HB1.out⟩
end Go.Proofs.YtjhlpmigkbaegaaDoor
