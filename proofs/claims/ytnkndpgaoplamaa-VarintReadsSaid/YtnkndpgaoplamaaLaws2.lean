/- VarintTakes walked. -/
import Derived.Test.YtnkndpgaoplamaaLaws1
namespace Go.Proofs.Ytnkndpgaoplamaa
open Go.RowKit
set_option linter.unusedVariables false

theorem taken_rows (q : Int) {xs : List Int} (hb : Bytes xs) : ∃ (L : List Int) (M E : Int), L.length ≤ xs.length ∧ ∀ w e w', TakenRow w (rowOf q xs) e w' → ∃ v, e = .returned (.tuple #[v, .int .i64 M, .int .i64 E]) ∧ w'.ownsRow w.heap.size 2 1 v L.length (L.map iv) ∧ Below w.heap.size w w' := by
  cases hr : rowOf q xs with
  | none => exact ⟨[], 0, 8, by simp, fun w e w' h => ⟨.slice none 0 0, h.2, own_nil _ _ _ _, h.1⟩⟩
  | some p =>
    obtain ⟨l, m⟩ := p
    refine ⟨rowV l, m, 0, ?_, fun w e w' h => ?_⟩
    · rw [rowV_len]
      unfold rowOf at hr
      split at hr
      · cases hr
      · have := decs_len _ hb hr; omega
    · obtain ⟨hb, v, he, ho⟩ := h
      exact ⟨v, he, by rw [rowV_len]; exact ho, hb⟩
theorem takeV_is (r : Option (Nat × Nat)) : ∃ U S E, takeV r = .tuple #[.int .u64 U, .int .i64 S, .int .i64 E] := by
  cases r with
  | none => exact ⟨_, _, _, rfl⟩
  | some p => exact ⟨_, _, _, rfl⟩
theorem same_self (L : List Int) (a1 a2 : Option Addr) (n1 c1 n2 c2 : Nat) (w : World) (hr1 : Row w a1 n1 (L.map iv)) (hr2 : Row w a2 n2 (L.map iv)) (hn : L.length ≤ 1048576) :
    Calls Try.prog 22 #[.slice a1 n1 c1, .slice a2 n2 c2] w fun e w' => e = .returned (.bool true) ∧ Below w.heap.size w w' := by
  have e1 : L.length = n1 := by simpa using hr1.1
  have e2 : L.length = n2 := by simpa using hr2.1
  exact (same_any L L a1 a2 n1 c1 n2 c2 w hr1 hr2 (by omega) (by omega)).mono fun e w' h => ⟨by rw [h.1]; simp, h.2⟩
set_option maxRecDepth 100000 in
set_option maxHeartbeats 2000000 in
theorem takes_walk (q : Int) (a : Option Addr) (len cap : Nat) (l : List Int) (w : World) (hl : Row w a len (l.map bv)) (hcap : len ≤ cap) (hcm : cap ≤ 9223372036854775807) (hnil : a = none → cap = 0) (hby : Bytes l) (hq1 : -9223372036854775808 ≤ q) (hq2 : q ≤ 9223372036854775807) :
    Calls Try.prog 5 #[.slice a len cap, .int .i64 q] w fun e w' => e = .returned (.bool true) ∧ Below w.heap.size w w' := by
  obtain ⟨i0, hi, hz0, hz1, hz2⟩ := info_parts info5
  have hR := cut_row hl 500
  have hB := hby.take 500
  have hmin : min (len : Int) 500 = ((min len 500 : Nat) : Int) := by omega
  have hm1 : min len 500 ≤ cap := by omega
  have hm2 : min len 500 ≤ 500 := by omega
  generalize l.take 500 = xs at hR hB
  generalize min len 500 = m at *
  have hLn : xs.length = m := by simpa using hR.1
  obtain ⟨U, S, E, hT⟩ := takeV_is (dec xs)
  obtain ⟨L, M, F, hLL, hTR⟩ := taken_rows q hB
  have k1 := fun a c w hr => take_b xs a m c w hr hB (by omega)
  have k2 := fun a c w hr => rtake_any xs a m c w hr hB (by omega)
  rw [hT] at k1 k2
  have K3 := Lib.hid (fun g c w hr hc => (takerow_any xs g m c q w hr hc hB (by omega) hq1 hq2).mono (hTR w))
  have K4 := Lib.hid (fun g c w hr hc => (rtakerow_any xs g m c q w hr hc hB (by omega) hq1 hq2).mono (hTR w))
  have K5 := Lib.hid (fun a1 a2 c1 c2 w hr1 hr2 => same_self L a1 a2 L.length c1 L.length c2 w hr1 hr2 (by omega))
  have K1 := Lib.hid k1; have K2 := Lib.hid k2
  clear k1 k2
  have hone := bv_one xs
  have HR := Lib.hid hR
  have hb1 : m * 1 ≤ 140737488355328 := by omega
  have hb2 : m ≤ maxLen := by unfold maxLen; omega
  have hmc : (m : Int) ≤ (cap : Int) := by omega
  clear hR hTR hT hl hcap hcm hby hB hLn hq1 hq2 hm2 hLL
  go_enter Try.func5, Try.ntmps5
  go_wp2_with fail
  refine (shown_any _).mono ?_
  rintro e w1 ⟨rfl, h1⟩
  have R1 := Lib.hid (HR.out.below (h1.alloc h1.size (.cells #[] 5)))
  have H1 := Lib.hid h1
  clear h1
  go_wp2_with (at_builtin; refine wpList_append_fresh rfl (.tmp 19) (.tmp 24) 27 rfl w1.heap.size 5 i0 (.int .u8 0) 1 Try.underlying27 hi hz0 hz1 hz2 rfl _ _ rfl (owns_empty w1 5) a m cap (xs.map bv) rfl R1.out hnil hone hb2 hb1 (by simp) ?_)
  intro g c' w2 hg hmc' hcm' hrow hown hb2
  have R2 := Lib.hid hrow
  have H2 := Lib.hid ((H1.out.alloc H1.out.size (.cells #[] 5)).trans (hb2.mono H1.out.size))
  clear hrow hown hb2 R1 H1 HR
  go_wp2_with fail
  refine (K1.out _ _ _ R2.out).mono ?_
  rintro e w3 ⟨rfl, h3⟩
  have R3 := Lib.hid (R2.out.below h3); have H3 := Lib.hid (H2.out.then h3); clear R2 H2 h3
  go_wp2_with fail
  refine (K2.out _ _ _ R3.out).mono ?_
  rintro e w4 ⟨rfl, h4⟩
  have R4 := Lib.hid (R3.out.below h4); have H4 := Lib.hid (H3.out.then h4); clear R3 H3 h4
  go_wp2_with fail
  refine (K3.out _ _ _ R4.out hmc').mono ?_
  rintro e w5 ⟨v5, rfl, o5, h5⟩
  obtain ⟨a5, c5, rfl, _⟩ := Row.own o5
  have R5 := Lib.hid (R4.out.below h5); have H5 := Lib.hid (H4.out.then h5); have O5 := Lib.hid o5; clear R4 H4 h5 o5
  go_wp2_with fail
  refine (K4.out _ _ _ R5.out hmc').mono ?_
  rintro e w6 ⟨v6, rfl, o6, h6⟩
  obtain ⟨a6, c6, rfl, r6⟩ := Row.own o6
  have H6 := Lib.hid (H5.out.then h6); have O6 := Lib.hid (own_below O5.out h6)
  obtain ⟨a5', c5', e5, r5⟩ := Row.own O6.out
  obtain ⟨rfl, _, rfl⟩ : a5 = a5' ∧ True ∧ c5 = c5' := by simpa using e5
  have P5 := Lib.hid r5; have P6 := Lib.hid r6
  clear R5 H5 h6 o6 O5 O6 r5 r6 e5
  go_wp2_with fail
  refine (K5.out _ _ _ _ _ P5.out P6.out).mono ?_
  rintro e w7 ⟨rfl, h7⟩
  have H7 := Lib.hid (H6.out.then h7); clear h7 H6
  go_wp2
  go_ret
  exact ⟨by simp, H7.out⟩
end Go.Proofs.Ytnkndpgaoplamaa
