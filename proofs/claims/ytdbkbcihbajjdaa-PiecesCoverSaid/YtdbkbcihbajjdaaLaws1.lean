/- PiecesCover, PiecesSpan walked. -/
import Derived.Test.YtdbkbcihbajjdaaShow
namespace Go.Proofs.Ytdbkbcihbajjdaa
open Go.RowKit
set_option linter.unusedVariables false

theorem covL_len (n : Int) (lo hi : Nat) : (covL n lo hi).length ≤ 119 := by
  unfold covL
  split
  · rename_i h
    obtain ⟨k, rfl, h1, h2, h3, h4⟩ := ok_nat h
    have := cv_len 0 lo hi h3 k h4
    split at this <;> omega
  · simp
set_option maxRecDepth 100000 in
set_option maxHeartbeats 1000000 in
theorem lawCover (n : Int) (lo hi : Nat) (w : World) (hlo : lo < 18446744073709551616) (hhi : hi < 18446744073709551616) :
    Calls Try.prog 3 #[.int .i64 n, .int .u64 lo, .int .u64 hi] w fun e w' => e = .returned (.bool true) ∧ Below w.heap.size w w' := by
  have K1 := Lib.hid (fun w => cover_any n lo hi w hlo hhi)
  have K2 := Lib.hid (fun w => rcover_any n lo hi w hlo hhi)
  have hl := covL_len n lo hi
  unfold Cov at K1 K2
  generalize covL n lo hi = L at *
  generalize okC n lo hi = b at *
  go_enter Try.func3, Try.ntmps3
  go_wp2_with fail
  refine (shown_any _).mono ?_
  rintro e w1 ⟨rfl, hb1⟩
  have B1 := Lib.hid hb1; clear hb1
  go_wp2_with fail
  refine (K1.out _).mono ?_
  rintro e w2 ⟨a1, c1, rfl, hr1, hb2⟩
  have R1 := Lib.hid hr1; have B2 := Lib.hid (B1.out.then hb2); clear hr1 hb2 B1 K1
  go_wp2_with fail
  refine (K2.out _).mono ?_
  rintro e w3 ⟨a2, c2, rfl, hr2, hb3⟩
  have R3 := Lib.hid (R1.out.below hb3); have R4 := Lib.hid hr2; have B3 := Lib.hid (B2.out.then hb3); clear hr2 hb3 B2 K2 R1
  have HL := Lib.hid hl; clear hl
  have hbb : (b == b) = true := by cases b <;> rfl
  go_wp2_with fail
  refine (same_any L L a1 a2 _ c1 _ c2 _ R3.out R4.out (by have := HL.out; omega) (by have := HL.out; omega)).mono ?_
  rintro e w4 ⟨rfl, hb4⟩
  have B4 := Lib.hid (B3.out.then hb4); clear hb4
  rw [decide_eq_true rfl]
  go_wp2
  go_ret
  exact ⟨rfl, B4.out⟩
end Go.Proofs.Ytdbkbcihbajjdaa
