/- PiecesRise walked. -/
import Derived.Test.YtdbkbcihbajjdaaLaws3
namespace Go.Proofs.Ytdbkbcihbajjdaa
open Go.RowKit
set_option linter.unusedVariables false

theorem drop_two {L : List (Nat × Nat)} {j : Nat} (h : j + 1 < L.length) : ∃ p q, L[j]? = some p ∧ L[j + 1]? = some q ∧ L.drop j = p :: q :: L.drop (j + 2) ∧ L.drop (j + 1) = q :: L.drop (j + 2) := by
  refine ⟨L[j], L[j + 1], List.getElem?_eq_getElem _, List.getElem?_eq_getElem _, ?_, List.drop_eq_getElem_cons h⟩
  rw [List.drop_eq_getElem_cons (by omega), List.drop_eq_getElem_cons h]
/-- Before a round of PiecesRise. -/
def Falls (f : Bool) (l : List (Nat × Nat)) : Prop := if f then down l else hill l
set_option maxRecDepth 100000 in
set_option maxHeartbeats 1000000 in
theorem lawRise (b : Int) (x y : Nat) (w : World) (hx : x < 18446744073709551616) (hy : y < 18446744073709551616) :
    Calls Try.prog 7 #[.int .i64 b, .int .u64 x, .int .u64 y] w fun e w' => e = .returned (.bool true) ∧ Below w.heap.size w w' := by
  obtain ⟨N, lo, hi, h1, h2, h3, h4, KR⟩ := right_some b x y hx hy
  have KR := Lib.hid KR
  have KC := Lib.hid (fun w => cover_cv N lo hi w h1 h2 h3 h4)
  have hne := cv_ne 0 lo hi h3
  have hsh := (cv_shape 0 lo hi h3).2
  have hlen := cv_len 0 lo hi h3 N h4
  have hlen2 : (cv 0 lo hi).length ≤ 119 := by split at hlen <;> omega
  have hlen1 : 0 < (cv 0 lo hi).length := List.length_pos_iff.2 hne
  clear hlen h4 hne
  generalize cv 0 lo hi = L at *
  have HSH := Lib.hid hsh
  clear hsh
  generalize hm : L.length = m at *
  have HM := Lib.hid hm; clear hm
  go_enter Try.func7, Try.ntmps7
  go_wp2_with fail
  refine (shown_any _).mono ?_
  rintro e w1 ⟨rfl, hb1⟩
  have B1 := Lib.hid hb1; clear hb1
  go_wp2_with fail
  refine (KR.out _).mono ?_
  rintro e w2 ⟨rfl, hb2⟩
  have B2 := Lib.hid (B1.out.then hb2); clear hb2 B1 KR
  go_wp2_with fail
  refine (KC.out _).mono ?_
  rintro e w3 ⟨a1, c1, rfl, hr, hb3⟩
  have R3 := Lib.hid hr
  have B3 := Lib.hid (B2.out.then hb3); clear hb3 B2 KC hr
  go_wp2_with fail
  go_loopw [12, 13] (fun u12 u13 wr => ∃ (j : Nat) (f : Bool), j + 1 ≤ m ∧ u13 = .int .i64 ((j : Int) + 1) ∧ u12 = .bool f ∧ Falls f (L.drop j) ∧ Below w3.heap.size w3 wr) (fun _ i _ => m - (intOf i).toNat)
  case atStart => exact ⟨0, false, by omega, rfl, rfl, HSH.out, Below.refl _ _⟩
  case round =>
    obtain ⟨j, f, hk, rfl, rfl, hca, hbr⟩ := hrel
    have HBR := Lib.hid hbr; clear hbr
    by_cases hkm : j + 1 < m
    · obtain ⟨⟨p1, p2⟩, ⟨q1, q2⟩, hp, hq, hd1, hd2⟩ := drop_two (L := L) (j := j) (by rw [HM.out]; exact hkm)
      have R4 := R3.out.below HBR.out
      obtain ⟨g, rfl, hc1, _⟩ := R4.cells hp
      obtain ⟨g', e', hc2, _⟩ := R4.cells hq
      simp only [Option.some.injEq, Addr.mk.injEq, and_true] at e'
      subst e'
      simp only at hc1 hc2
      rw [hd1] at hca
      have HD2 := Lib.hid hd2
      have hkn : (j : Int) + 1 < (m : Int) := by omega
      clear R4 hp hq hd1 hd2
      cases f with
      | true =>
        obtain ⟨e1, e2⟩ := (hca : down _)
        have hup : decide (p1 < q1) = false := by simp at e1 ⊢; exact e1
        have HE := Lib.hid e2
        clear e1 e2
        go_wp2_with fail
        go_quiet (fail)
        go_wp2_with fail
        go_roundw
        case rel => exact ⟨j + 1, true, by omega, by go_num, rfl, by unfold Falls; rw [HD2.out]; exact HE.out, below_drewN HBR.out _⟩
        case measure => simp [intOf]; omega
      | false =>
        rcases (hca : hill _) with ⟨e1, e2⟩ | ⟨e1, e2⟩
        · have hup : decide (p1 < q1) = true := by simp at e1 ⊢; exact e1
          have HE := Lib.hid e2
          clear e1 e2
          go_wp2_with fail
          go_quiet (fail)
          go_wp2_with fail
          go_roundw
          case rel => exact ⟨j + 1, false, by omega, by go_num, rfl, by unfold Falls; rw [HD2.out]; exact HE.out, below_drewN HBR.out _⟩
          case measure => simp [intOf]; omega
        · have hup : decide (p1 < q1) = false := by simp at e1 ⊢; exact e1
          have HE := Lib.hid e2
          clear e1 e2
          go_wp2_with fail
          go_quiet (fail)
          go_wp2_with fail
          go_roundw
          case rel => exact ⟨j + 1, true, by omega, by go_num, rfl, by unfold Falls; rw [HD2.out]; exact HE.out, below_drewN HBR.out _⟩
          case measure => simp [intOf]; omega
    · obtain rfl : m = j + 1 := by omega
      have B4 := Lib.hid (B3.out.then HBR.out)
      clear hca hkm
      go_wp2_with fail
      go_ret
      exact ⟨rfl, B4.out⟩
end Go.Proofs.Ytdbkbcihbajjdaa
