/- The small case walked. -/
import Derived.Test.YtjhlpmigkbaegaaDoorTany
namespace Go.Proofs.YtjhlpmigkbaegaaDoor
open Go.RowKit
set_option linter.unusedVariables false
def r3 : AddR := { h := 3, named := true, name := ⟨#[97, 98]⟩, key := 109183075, d := -5, at_ := 4, bad := -1 }
set_option maxRecDepth 100000 in
theorem parse_c : parseV ⟨#[32, 97, 100, 100, 32, 51, 32, 32, 34, 97, 98, 34, 32, 45, 53]⟩ = (some (.add r3), 0, 0) := by kernel_rfl
set_option maxRecDepth 100000 in
theorem text_c : textC (.add r3) = ⟨#[97, 100, 100, 32, 51, 32, 34, 97, 98, 34, 32, 45, 53]⟩ := by kernel_rfl
theorem key_a : keyV ⟨#[97]⟩ = 98 ∧ errV ⟨#[97]⟩ = 0 := ⟨by kernel_rfl, by kernel_rfl⟩
theorem key_b : keyV ⟨#[255]⟩ = 0 ∧ errV ⟨#[255]⟩ = 13 := ⟨by kernel_rfl, by kernel_rfl⟩
theorem sk_a (w : World) (hT : Tabs w) : Calls Tryd.prog 8 #[.string ⟨#[97]⟩] w fun e w' => e = .returned (.tuple #[.int .u64 98, .int .i64 0]) ∧ Tabs w' ∧ Below w.heap.size w w' := by
  have h := key_any ⟨#[97]⟩ w (by decide) hT
  rw [key_a.1, key_a.2] at h
  exact h.mono fun _ _ q => ⟨q.1, hT.below q.2, q.2⟩
theorem sk_b (w : World) (hT : Tabs w) : Calls Tryd.prog 8 #[.string ⟨#[255]⟩] w fun e w' => e = .returned (.tuple #[.int .u64 0, .int .i64 13]) ∧ Tabs w' ∧ Below w.heap.size w w' := by
  have h := key_any ⟨#[255]⟩ w (by decide) hT
  rw [key_b.1, key_b.2] at h
  exact h.mono fun _ _ q => ⟨q.1, hT.below q.2, q.2⟩
theorem sp_a (w : World) (hT : Tabs w) : Calls Tryd.prog 10 #[.string ⟨#[32, 97, 100, 100, 32, 51, 32, 32, 34, 97, 98, 34, 32, 45, 53]⟩] w fun e w' => e = .returned (.tuple #[.iface 58 (addV r3), .int .i64 0, .int .i64 0]) ∧ Tabs w' ∧ Below w.heap.size w w' := by
  have h := parse_any ⟨#[32, 97, 100, 100, 32, 51, 32, 32, 34, 97, 98, 34, 32, 45, 53]⟩ w (by decide) hT
  rw [parse_c] at h
  refine h.mono fun e w' q => ?_
  obtain ⟨v, rfl, hv, hb⟩ := q
  obtain rfl : v = .iface 58 (addV r3) := hv
  exact ⟨rfl, hT.below hb, hb⟩
theorem sp_b (w : World) (hT : Tabs w) : Calls Tryd.prog 10 #[.string ⟨#[97, 100, 100, 32, 51, 32, 48, 55, 32, 49]⟩] w fun e w' => e = .returned (.tuple #[.nilIface, .int .i64 6, .int .i64 12]) ∧ Tabs w' ∧ Below w.heap.size w w' := by
  have h := parse_any ⟨#[97, 100, 100, 32, 51, 32, 48, 55, 32, 49]⟩ w (by decide) hT
  rw [parse_b] at h
  refine h.mono fun e w' q => ?_
  obtain ⟨v, rfl, hv, hb⟩ := q
  obtain rfl : v = .nilIface := hv
  exact ⟨rfl, hT.below hb, hb⟩
theorem sp_c (w : World) (hT : Tabs w) : Calls Tryd.prog 10 #[.string ⟨#[32, 32]⟩] w fun e w' => e = .returned (.tuple #[.nilIface, .int .i64 0, .int .i64 0]) ∧ Tabs w' ∧ Below w.heap.size w w' := by
  have h := parse_any ⟨#[32, 32]⟩ w (by decide) hT
  rw [parse_a] at h
  refine h.mono fun e w' q => ?_
  obtain ⟨v, rfl, hv, hb⟩ := q
  obtain rfl : v = .nilIface := hv
  exact ⟨rfl, hT.below hb, hb⟩
theorem st_a (w : World) (hT : Tabs w) : Calls Tryd.prog 11 #[.iface 58 (addV r3)] w fun e w' => e = .returned (.string ⟨#[97, 100, 100, 32, 51, 32, 34, 97, 98, 34, 32, 45, 53]⟩) ∧ Below w.heap.size w w' := by
  have h := text_any w hT (.iface 58 (addV r3)) (some (.add r3)) rfl (fun c hc => by
    cases hc
    exact ⟨⟨by decide, by decide⟩, ⟨by decide, by decide⟩, by decide⟩)
  rw [show textO (some (.add r3)) = textC (.add r3) from rfl, text_c] at h
  exact h
def v3 : Value := addV r3
set_option maxRecDepth 100000 in
set_option maxHeartbeats 4000000 in
theorem shown_any (w : World) (hT : Tabs w) : Calls Tryd.prog 7 #[] w fun e w' => e = .returned (.bool true) ∧ Below w.heap.size w w' := by
  have KA := Lib.hid (sk_a w hT)
  have PA := Lib.hid sp_a
  have PB := Lib.hid sp_b
  have PC := Lib.hid sp_c
  have ST := Lib.hid st_a
  have KB := Lib.hid sk_b
  have VB := Lib.hid (fun w => verb_add w r3)
  unfold TPost at VB
  generalize addV r3 = v3 at *
  clear hT
  go_enter Tryd.func7, Tryd.ntmps7
  go_wp2_with fail
  refine KA.out.mono ?_
  rintro e w1 ⟨rfl, t1, b1⟩
  have T1 := Lib.hid t1; have B1 := Lib.hid b1; clear t1 b1
  go_wp2_with fail
  refine (KB.out _ T1.out).mono ?_
  rintro e w2 ⟨rfl, t2, b2⟩
  have T2 := Lib.hid t2; have B2 := Lib.hid (B1.out.then b2); clear t2 b2
  go_wp2_with fail
  refine (PA.out _ T2.out).mono ?_
  rintro e w3 ⟨rfl, t3, b3⟩
  have T3 := Lib.hid t3; have B3 := Lib.hid (B2.out.then b3); clear t3 b3
  go_wp2_with fail
  refine (PB.out _ T3.out).mono ?_
  rintro e w4 ⟨rfl, t4, b4⟩
  have T4 := Lib.hid t4; have B4 := Lib.hid (B3.out.then b4); clear t4 b4
  go_wp2_with fail
  refine (PC.out _ T4.out).mono ?_
  rintro e w5 ⟨rfl, t5, b5⟩
  have T5 := Lib.hid t5; have B5 := Lib.hid (B4.out.then b5); clear t5 b5
  go_wp2_with fail
  refine (VB.out _).mono ?_
  rintro e w6 ⟨rfl, b6⟩
  have T6 := Lib.hid (T5.out.below b6); have B6 := Lib.hid (B5.out.then b6); clear b6
  go_wp2_with fail
  refine (ST.out _ T6.out).mono ?_
  rintro e w7 ⟨rfl, b7⟩
  have B7 := Lib.hid (B6.out.then b7); clear b7
  go_wp2_with fail
  go_ret
  exact ⟨rfl, B7.out⟩
end Go.Proofs.YtjhlpmigkbaegaaDoor
