/- Are two rows of numbers the same? -/
import Derived.Test.YtnkndpgaoplamaaRTake
namespace Go.Proofs.Ytnkndpgaoplamaa
open Go.RowKit
set_option linter.unusedVariables false

set_option maxRecDepth 100000 in
set_option maxHeartbeats 2000000 in
theorem same_any (l m : List Int) (a1 a2 : Option Addr) (n1 c1 n2 c2 : Nat) (w : World) (hr1 : Row w a1 n1 (l.map iv)) (hr2 : Row w a2 n2 (m.map iv)) (hn1 : n1 ≤ 1048576) (hn2 : n2 ≤ 1048576) :
    Calls Try.prog 22 #[.slice a1 n1 c1, .slice a2 n2 c2] w fun e w' => e = .returned (.bool (decide (l = m))) ∧ Below w.heap.size w w' := by
  have HL1 := Lib.hid (show l.length = n1 from by simpa using hr1.1)
  have HL2 := Lib.hid (show m.length = n2 from by simpa using hr2.1)
  have R1 := Lib.hid hr1; have R2 := Lib.hid hr2; clear hr1 hr2
  by_cases hlen : n1 = n2
  · subst hlen
    have e1 : ((n1 : Int) == (n1 : Int)) = true := by simp
    go_enter Try.func22, Try.ntmps22
    go_wp2
    go_loopw [5] (fun i wr => ∃ k : Nat, k ≤ n1 ∧ i = .int .i64 k ∧ (∀ j, j < k → l[j]? = m[j]?) ∧ Below w.heap.size w wr) (fun i _ => n1 - (intOf i).toNat)
    case atStart => exact ⟨0, by omega, rfl, fun j hj => by omega, Below.refl _ _⟩
    case round =>
      obtain ⟨k, hk, rfl, hsame, hbr⟩ := hrel
      have HSM := Lib.hid hsame; clear hsame
      have HBR := Lib.hid hbr; clear hbr
      by_cases hkl : k < n1
      · obtain ⟨y, hy⟩ : ∃ y, l[k]? = some y := ⟨l[k]'(by rw [HL1.out]; omega), by rw [List.getElem?_eq_getElem]⟩
        obtain ⟨z, hz⟩ : ∃ z, m[k]? = some z := ⟨m[k]'(by rw [HL2.out]; omega), by rw [List.getElem?_eq_getElem]⟩
        have H1 := R1.out.below HBR.out
        have H2 := R2.out.below HBR.out
        obtain ⟨b1, o1, rfl, hc1, _⟩ := H1.2 k (iv y) (by simp [hy])
        obtain ⟨b2, o2, rfl, hc2, _⟩ := H2.2 k (iv z) (by simp [hz])
        have hcy : wr.cell? ⟨b1, o1 + k, none⟩ = some (.int .i64 y) := hc1
        have hcz : wr.cell? ⟨b2, o2 + k, none⟩ = some (.int .i64 z) := hc2
        have HY := Lib.hid hy; have HZ := Lib.hid hz
        have hkn : (k : Int) < (n1 : Int) := by omega
        have hk0 : (0 : Int) ≤ (k : Int) := by omega
        clear hc1 hc2 hy hz H1 H2
        by_cases hyz : y = z
        · subst hyz
          go_wp2
          go_quiet (fail)
          go_wp2
          go_roundw
          case rel =>
            refine ⟨k + 1, by omega, by go_num, fun j hj => ?_, below_drewN HBR.out _⟩
            rcases Nat.lt_or_ge j k with h | h
            · exact HSM.out j h
            · have : j = k := by omega
              subst this; rw [HY.out, HZ.out]
          case measure => simp [intOf]; omega
        · have e3 : (y == z) = false := by rw [beq_eq_false_iff_ne]; exact hyz
          have e2 : (y != z) = true := by rw [bne_iff_ne]; exact hyz
          have hne : decide (l = m) = false := by
            rw [decide_eq_false_iff_not]
            rintro rfl
            have := HY.out
            rw [HZ.out] at this
            simp at this
            exact hyz this.symm
          have HNN := Lib.hid hne
          clear hyz hne
          go_wp2
          go_quiet (fail)
          go_wp2
          go_ret
          exact ⟨by rw [HNN.out]; rfl, below_drewN HBR.out _⟩
      · obtain rfl : k = n1 := by omega
        have heq : decide (l = m) = true := by
          rw [decide_eq_true_iff]
          apply List.ext_getElem?
          intro j
          rcases Nat.lt_or_ge j k with h | h
          · exact HSM.out j h
          · rw [List.getElem?_eq_none (by rw [HL1.out]; exact h), List.getElem?_eq_none (by rw [HL2.out]; exact h)]
        have HE := Lib.hid heq; clear heq
        go_wp2
        go_ret
        exact ⟨by rw [HE.out]; rfl, HBR.out⟩
  · have e1 : ((n1 : Int) == (n2 : Int)) = false := by rw [beq_eq_false_iff_ne]; omega
    have e2 : ((n1 : Int) != (n2 : Int)) = true := by rw [bne_iff_ne]; omega
    have hne : decide (l = m) = false := by
      rw [decide_eq_false_iff_not]
      rintro rfl
      exact hlen (HL1.out.symm.trans HL2.out)
    have HNN := Lib.hid hne
    clear hlen hne
    go_enter Try.func22, Try.ntmps22
    go_wp2
    go_ret
    exact ⟨by rw [HNN.out]; rfl, Below.refl _ _⟩
end Go.Proofs.Ytnkndpgaoplamaa
