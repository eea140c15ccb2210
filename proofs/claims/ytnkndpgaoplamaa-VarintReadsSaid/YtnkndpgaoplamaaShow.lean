/- shown walked. -/
import Derived.Test.YtnkndpgaoplamaaShow0
import Derived.Deep.RegionHeld3
import Derived.Deep.DeepCutAuto
namespace Go.Proofs.Ytnkndpgaoplamaa
open Go.RowKit
set_option linter.unusedVariables false

set_option maxRecDepth 100000 in
set_option maxHeartbeats 4000000 in
theorem shown_any (w : World) : Calls Try.prog 9 #[] w fun e w' => e = .returned (.bool true) ∧ Below w.heap.size w w' := by
  go_enter Try.func9, Try.ntmps9
  go_wp2_with fail
  refine (put300 w).mono ?_
  rintro e w1 ⟨v1, rfl, ho1, hb1⟩
  obtain ⟨a1, c1, rfl, r1⟩ := Row.own ho1
  have O1 := Lib.hid ho1
  have H1 := Lib.hid (show Below w.heap.size w w1 from then_make (Below.refl _ _) hb1)
  clear ho1 hb1 r1
  go_wp2_with fail
  refine (take300 w1).mono ?_
  rintro e w2 ⟨rfl, rfl⟩
  have O2 := Lib.hid (own_below O1.out ((Below.refl w1.heap.size w1).alloc (Nat.le_refl _) (.cells #[.int .u8 172, .int .u8 2, .int .u8 7] 5)))
  have H2 := Lib.hid (H1.out.alloc H1.out.size (.cells #[.int .u8 172, .int .u8 2, .int .u8 7] 5))
  clear O1 H1
  generalize w1.alloc (.cells #[.int .u8 172, .int .u8 2, .int .u8 7] 5) = w3 at *
  go_wp2_with fail
  refine (take80 w3).mono ?_
  rintro e w4 ⟨rfl, rfl⟩
  have O3 := Lib.hid (own_below O2.out ((Below.refl w3.heap.size w3).alloc (Nat.le_refl _) (.cells #[.int .u8 128, .int .u8 0] 5)))
  have H3 := Lib.hid (H2.out.alloc H2.out.size (.cells #[.int .u8 128, .int .u8 0] 5))
  clear O2 H2
  generalize w3.alloc (.cells #[.int .u8 128, .int .u8 0] 5) = w5 at *
  go_wp2_with fail
  refine (putrow3 w5).mono ?_
  rintro e w6 ⟨v6, rfl, ho6, hb6⟩
  obtain ⟨a6, c6, rfl, r6⟩ := Row.own ho6
  have hb5 := (Below.refl w5.heap.size w5).alloc (Nat.le_refl _) (.cells #[.int .i64 (-3), .int .i64 64] 2)
  have O4 := Lib.hid (own_below (own_below O3.out hb5) hb6)
  have P4 := Lib.hid ho6
  have H4 := Lib.hid ((H3.out.then hb5).then hb6)
  clear O3 H3 hb5 hb6 r6 ho6
  go_wp2_with fail
  refine (takerow3 w6).mono ?_
  rintro e w7 ⟨⟨v7, rfl, ho7⟩, hb7⟩
  obtain ⟨a7, c7, rfl, r7⟩ := Row.own ho7
  have hb5 := (Below.refl w6.heap.size w6).alloc (Nat.le_refl _) (.cells #[.int .u8 5, .int .u8 128, .int .u8 1, .int .u8 9] 5)
  have O5 := Lib.hid (own_below (own_below O4.out hb5) hb7)
  have P5 := Lib.hid (own_below (own_below P4.out hb5) hb7)
  have R5 := Lib.hid r7
  have H5 := Lib.hid ((H4.out.then hb5).then hb7)
  clear O4 P4 H4 hb5 hb7 r7 ho7
  have C1 : ∀ w', Below w7.heap.size w7 w' → (convert 27 9 (.slice a1 3 c1)).run Try.prog w' = .ok (.string (strOfNums [9, 172, 2])) w' := fun w' hb => conv_own (n := 3) (own_below O5.out hb)
  have C2 : ∀ w', Below w7.heap.size w7 w' → (convert 27 9 (.slice a6 3 c6)).run Try.prog w' = .ok (.string (strOfNums [5, 128, 1])) w' := fun w' hb => conv_own (n := 3) (own_below P5.out hb)
  rw [show strOfNums [9, 172, 2] = (⟨#[9, 172, 2]⟩ : ByteArray) from rfl] at C1
  rw [show strOfNums [5, 128, 1] = (⟨#[5, 128, 1]⟩ : ByteArray) from rfl] at C2
  have K1 := Lib.hid C1; have K2 := Lib.hid C2
  have K3 := Lib.hid (same2 w7 a7 c7 R5.out)
  clear C1 C2 O5 P5 R5
  have c1 := K1.out _ (Below.refl _ _)
  have c2 := K2.out _ (Below.refl _ _)
  clear K1 K2
  go_wp2_with fail
  refine (K3.out _ (Below.refl _ _) 0).mono ?_
  rintro e w8 ⟨rfl, hb8⟩
  have H6 := Lib.hid (then_make H5.out hb8)
  clear hb8 H5
  go_wp2_with fail
  refine (zig2 _).mono ?_
  rintro e w9 ⟨rfl, hb9⟩
  have H7 := Lib.hid (H6.out.then hb9)
  clear hb9 H6
  go_wp2_with fail
  refine (zag4 _).mono ?_
  rintro e w10 ⟨rfl, hb10⟩
  have H8 := Lib.hid (H7.out.then hb10)
  clear hb10 H7
  go_wp2
  go_ret
  exact ⟨rfl, H8.out⟩
end Go.Proofs.Ytnkndpgaoplamaa
