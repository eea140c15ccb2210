/- The reader: command walked. -/
import Derived.Test.YtjhlpmigkbaegaaDoorAdd
namespace Go.Proofs.YtjhlpmigkbaegaaDoor
open Go.RowKit
set_option linter.unusedVariables false

/-- What a line says. -/
inductive Cmd where
  | create (l : List Int)
  | open_ (l : List Int)
  | add (r : AddR)
  | tick
  | query (what : ByteArray) (h : Int) (l : List Int)
  | pair (what : ByteArray) (a b : Int)
  | imp (l : List Nat)
/-- A value that is a command. -/
def CmdV (w : World) (v : Value) : Cmd → Prop
  | .create l => ∃ x0 x1 x2 x3 x4, l = [x0, x1, x2, x3, x4] ∧ v = .iface 53 (.agg #[.int .i64 x0, .int .i64 x1, .int .i64 x2, .int .i64 x3, .int .u64 (IntKind.u64.wrap x4)])
  | .open_ l => ∃ x0 x1 x2 x3 x4, l = [x0, x1, x2, x3, x4] ∧ v = .iface 56 (.agg #[.int .i64 x0, .int .i64 x1, .int .i64 x2, .int .i64 1, .int .u64 (IntKind.u64.wrap x3), .int .i64 x4])
  | .add r => v = .iface 58 (addV r)
  | .tick => v = .iface 61 (.agg #[])
  | .query s h l => ∃ a c, v = .iface 64 (.agg #[.string s, .int .i64 h, .slice a l.length c]) ∧ Row w a l.length (l.map i64v)
  | .pair s a b => v = .iface 66 (.agg #[.string s, .int .i64 a, .int .i64 b])
  | .imp l => ∃ a c, v = .iface 69 (.agg #[.slice a l.length c]) ∧ Row w a l.length (l.map u8v)
theorem CmdV.below {w w' : World} {v : Value} {k : Cmd} (h : CmdV w v k) (hb : Below w.heap.size w w') : CmdV w' v k := by
  cases k with
  | query s x l => obtain ⟨a, c, e, hr⟩ := h; exact ⟨a, c, e, hr.below hb⟩
  | imp l => obtain ⟨a, c, e, hr⟩ := h; exact ⟨a, c, e, hr.below hb⟩
  | create l => exact h
  | open_ l => exact h
  | add r => exact h
  | tick => exact h
  | pair s a b => exact h
/-- Behind a call that tells a command. -/
def CPost (w : World) (R g c : Nat) (L : List (ByteArray × Nat)) (k : Cmd) (at_ : Nat) (bad : Int) (fin : Nat) (e : Ending) (w' : World) : Prop :=
  ∃ v, e = .returned v ∧ CmdV w' v k ∧ Turn R w w' ∧ RS w' R g c L at_ bad fin
theorem mk5 (w : World) : (Instr.makeSlice 62 (.int .i64 ((5 : Nat) : Int)) (.int .i64 ((5 : Nat) : Int))).run Tryd.prog w = .ok (.slice (some ⟨w.heap.size, 0, none⟩) 5 5) (w.alloc (.cells (Array.replicate 5 (i64v 0)) 2)) := by kernel_rfl
theorem mk3 (w : World) : (Instr.makeSlice 62 (.int .i64 ((3 : Nat) : Int)) (.int .i64 ((3 : Nat) : Int))).run Tryd.prog w = .ok (.slice (some ⟨w.heap.size, 0, none⟩) 3 3) (w.alloc (.cells (Array.replicate 3 (i64v 0)) 2)) := by kernel_rfl
theorem mk2 (w : World) : (Instr.makeSlice 62 (.int .i64 ((2 : Nat) : Int)) (.int .i64 ((2 : Nat) : Int))).run Tryd.prog w = .ok (.slice (some ⟨w.heap.size, 0, none⟩) 2 2) (w.alloc (.cells (Array.replicate 2 (i64v 0)) 2)) := by kernel_rfl
theorem len5 {l : List Int} (h : l.length = 5) : ∃ x0 x1 x2 x3 x4, l = [x0, x1, x2, x3, x4] := by
  match l, h with
  | [x0, x1, x2, x3, x4], _ => exact ⟨x0, x1, x2, x3, x4, rfl⟩
theorem len3 {l : List Int} (h : l.length = 3) : ∃ x0 x1 x2, l = [x0, x1, x2] := by
  match l, h with
  | [x0, x1, x2], _ => exact ⟨x0, x1, x2, rfl⟩
theorem len2 {l : List Int} (h : l.length = 2) : ∃ x0 x1, l = [x0, x1] := by
  match l, h with
  | [x0, x1], _ => exact ⟨x0, x1, rfl⟩
theorem nextS_zero {L : List (ByteArray × Nat)} {p : ByteArray × Nat} (h : L[0]? = some p) : nextS L 0 (-1) = p.1 := by unfold nextS; rw [if_neg (by omega), h]
theorem nextB_zero {L : List (ByteArray × Nat)} {p : ByteArray × Nat} (h : L[0]? = some p) (fin : Nat) : nextB L 0 (-1) fin = -1 := by unfold nextB; rw [if_neg (by omega), h]
set_option maxRecDepth 100000 in
set_option maxHeartbeats 2000000 in
theorem cmd_create {w : World} {R g c : Nat} {L : List (ByteArray × Nat)} {fin : Nat} (h : RS w R g c L 0 (-1) fin) {k : Nat} (hL : L[0]? = some (⟨#[99, 114, 101, 97, 116, 101]⟩, k)) :
    Calls Tryd.prog 24 #[.pointer (some ⟨R, 0, none⟩)] w (CPost w R g c L (.create (runNums L fin 5 1 (-1)).1) (runNums L fin 5 1 (-1)).2.1 (runNums L fin 5 1 (-1)).2.2 fin) := by
  have K1 := Lib.hid (next_any h)
  rw [nextS_zero hL, nextB_zero hL] at K1
  clear hL h
  simp only at K1
  go_enter Tryd.func24, Tryd.ntmps24
  go_wp2_with fail
  refine K1.out.mono ?_
  rintro e w1 ⟨rfl, ht1, hr1⟩
  have r1 := hr1.c1
  have r2 := hr1.f 1
  have R2 := Lib.hid (hr1.set1 1 (by omega))
  have T2 := Lib.hid (ht1.trans (Turn.of_only (Only.store w1 R 1 (.int .i64 ((1 : Nat) : Int)))))
  clear K1 ht1 hr1
  have KN := Lib.hid (nums_any 5 (by omega) mk5 R2.out (by omega))
  have HL := Lib.hid (runNums_len L fin 5 1 (-1))
  generalize hrn : runNums L fin 5 1 (-1) = st at *
  clear hrn
  obtain ⟨l, a, b⟩ := st
  simp only at KN HL
  go_wp2_with fail
  refine KN.out.mono ?_
  clear r1 r2
  rintro e w3 ⟨B, rfl, hB1, hBR, hBB, ht3, hr3⟩
  have T3 := Lib.hid (T2.out.trans ht3)
  have R3 := Lib.hid hr3
  clear ht3 hr3 KN T2 R2
  obtain ⟨x0, x1, x2, x3, x4, rfl⟩ := len5 HL.out
  have HBB := Lib.hid hBB
  have c0 : w3.cell? ⟨B, 0, none⟩ = some (.int .i64 x0) := (cell_of_row _ _ _ _ _ _ hBB).trans rfl
  have c1 : w3.cell? ⟨B, 1, none⟩ = some (.int .i64 x1) := (cell_of_row _ _ _ _ _ _ hBB).trans rfl
  have c2 : w3.cell? ⟨B, 2, none⟩ = some (.int .i64 x2) := (cell_of_row _ _ _ _ _ _ hBB).trans rfl
  have c3 : w3.cell? ⟨B, 3, none⟩ = some (.int .i64 x3) := (cell_of_row _ _ _ _ _ _ hBB).trans rfl
  have c4 : w3.cell? ⟨B, 4, none⟩ = some (.int .i64 x4) := (cell_of_row _ _ _ _ _ _ hBB).trans rfl
  clear hBB
  go_wp2_with fail
  go_quiet (fail)
  go_wp2_with fail
  go_ret
  exact ⟨_, rfl, ⟨x0, x1, x2, x3, x4, rfl, rfl⟩, T3.out.drewN _, R3.out.drewN _⟩
set_option maxRecDepth 100000 in
set_option maxHeartbeats 2000000 in
theorem cmd_window {w : World} {R g c : Nat} {L : List (ByteArray × Nat)} {fin : Nat} (h : RS w R g c L 0 (-1) fin) {k : Nat} (hL : L[0]? = some (⟨#[119, 105, 110, 100, 111, 119]⟩, k)) :
    Calls Tryd.prog 24 #[.pointer (some ⟨R, 0, none⟩)] w (CPost w R g c L (.open_ (runNums L fin 5 1 (-1)).1) (runNums L fin 5 1 (-1)).2.1 (runNums L fin 5 1 (-1)).2.2 fin) := by
  have K1 := Lib.hid (next_any h)
  rw [nextS_zero hL, nextB_zero hL] at K1
  clear hL h
  simp only at K1
  go_enter Tryd.func24, Tryd.ntmps24
  go_wp2_with fail
  refine K1.out.mono ?_
  rintro e w1 ⟨rfl, ht1, hr1⟩
  have r1 := hr1.c1
  have r2 := hr1.f 1
  have R2 := Lib.hid (hr1.set1 1 (by omega))
  have T2 := Lib.hid (ht1.trans (Turn.of_only (Only.store w1 R 1 (.int .i64 ((1 : Nat) : Int)))))
  clear K1 ht1 hr1
  have KN := Lib.hid (nums_any 5 (by omega) mk5 R2.out (by omega))
  have HL := Lib.hid (runNums_len L fin 5 1 (-1))
  generalize hrn : runNums L fin 5 1 (-1) = st at *
  clear hrn
  obtain ⟨l, a, b⟩ := st
  simp only at KN HL
  go_wp2_with fail
  refine KN.out.mono ?_
  clear r1 r2
  rintro e w3 ⟨B, rfl, hB1, hBR, hBB, ht3, hr3⟩
  have T3 := Lib.hid (T2.out.trans ht3)
  have R3 := Lib.hid hr3
  clear ht3 hr3 KN T2 R2
  obtain ⟨x0, x1, x2, x3, x4, rfl⟩ := len5 HL.out
  have HBB := Lib.hid hBB
  have c0 : w3.cell? ⟨B, 0, none⟩ = some (.int .i64 x0) := (cell_of_row _ _ _ _ _ _ hBB).trans rfl
  have c1 : w3.cell? ⟨B, 1, none⟩ = some (.int .i64 x1) := (cell_of_row _ _ _ _ _ _ hBB).trans rfl
  have c2 : w3.cell? ⟨B, 2, none⟩ = some (.int .i64 x2) := (cell_of_row _ _ _ _ _ _ hBB).trans rfl
  have c3 : w3.cell? ⟨B, 3, none⟩ = some (.int .i64 x3) := (cell_of_row _ _ _ _ _ _ hBB).trans rfl
  have c4 : w3.cell? ⟨B, 4, none⟩ = some (.int .i64 x4) := (cell_of_row _ _ _ _ _ _ hBB).trans rfl
  clear hBB
  go_wp2_with fail
  go_quiet (fail)
  go_wp2_with fail
  go_ret
  exact ⟨_, rfl, ⟨x0, x1, x2, x3, x4, rfl, rfl⟩, T3.out.drewN _, R3.out.drewN _⟩
set_option maxRecDepth 100000 in
set_option maxHeartbeats 2000000 in
theorem cmd_add {w : World} {R g c : Nat} {L : List (ByteArray × Nat)} {fin : Nat} (h : RS w R g c L 0 (-1) fin) {k : Nat} (hL : L[0]? = some (⟨#[97, 100, 100]⟩, k)) :
    Calls Tryd.prog 24 #[.pointer (some ⟨R, 0, none⟩)] w (CPost w R g c L (.add (runAdd L fin 1 (-1))) (runAdd L fin 1 (-1)).at_ (runAdd L fin 1 (-1)).bad fin) := by
  have K1 := Lib.hid (next_any h)
  rw [nextS_zero hL, nextB_zero hL] at K1
  clear hL h
  simp only at K1
  go_enter Tryd.func24, Tryd.ntmps24
  go_wp2_with fail
  refine K1.out.mono ?_
  rintro e w1 ⟨rfl, ht1, hr1⟩
  have r1 := hr1.c1
  have r2 := hr1.f 1
  have R2 := Lib.hid (hr1.set1 1 (by omega))
  have T2 := Lib.hid (ht1.trans (Turn.of_only (Only.store w1 R 1 (.int .i64 ((1 : Nat) : Int)))))
  clear K1 ht1 hr1
  have KA := Lib.hid (addr_any R2.out (by omega))
  generalize runAdd L fin 1 (-1) = r at *
  unfold addV at KA
  go_wp2_with fail
  refine KA.out.mono ?_
  clear r1 r2
  rintro e w3 ⟨rfl, ht3, hr3⟩
  have T3 := Lib.hid (T2.out.trans ht3)
  have R3 := Lib.hid hr3
  clear ht3 hr3 KA T2 R2
  go_wp2_with fail
  go_ret
  exact ⟨_, rfl, rfl, T3.out, R3.out⟩
set_option maxRecDepth 100000 in
set_option maxHeartbeats 2000000 in
theorem cmd_tick {w : World} {R g c : Nat} {L : List (ByteArray × Nat)} {fin : Nat} (h : RS w R g c L 0 (-1) fin) {k : Nat} (hL : L[0]? = some (⟨#[116, 105, 99, 107]⟩, k)) :
    Calls Tryd.prog 24 #[.pointer (some ⟨R, 0, none⟩)] w (CPost w R g c L .tick 1 (-1) fin) := by
  have K1 := Lib.hid (next_any h)
  rw [nextS_zero hL, nextB_zero hL] at K1
  clear hL h
  simp only at K1
  go_enter Tryd.func24, Tryd.ntmps24
  go_wp2_with fail
  refine K1.out.mono ?_
  rintro e w1 ⟨rfl, ht1, hr1⟩
  have r1 := hr1.c1
  have r2 := hr1.f 1
  have R2 := Lib.hid (hr1.set1 1 (by omega))
  have T2 := Lib.hid (ht1.trans (Turn.of_only (Only.store w1 R 1 (.int .i64 ((1 : Nat) : Int)))))
  clear K1 ht1 hr1
  go_wp2_with fail
  go_ret
  exact ⟨_, rfl, rfl, T2.out, R2.out⟩
set_option maxRecDepth 100000 in
set_option maxHeartbeats 2000000 in
theorem cmd_total {w : World} {R g c : Nat} {L : List (ByteArray × Nat)} {fin : Nat} (h : RS w R g c L 0 (-1) fin) {k : Nat} (hL : L[0]? = some (⟨#[116, 111, 116, 97, 108]⟩, k)) :
    Calls Tryd.prog 24 #[.pointer (some ⟨R, 0, none⟩)] w (CPost w R g c L (.query ⟨#[116, 111, 116, 97, 108]⟩ (numR L 1 (-1)) []) (numA L 1 (-1)) (numE L 1 (-1) fin) fin) := by
  have K1 := Lib.hid (next_any h)
  rw [nextS_zero hL, nextB_zero hL] at K1
  clear hL h
  simp only at K1
  go_enter Tryd.func24, Tryd.ntmps24
  go_wp2_with fail
  refine K1.out.mono ?_
  rintro e w1 ⟨rfl, ht1, hr1⟩
  have r1 := hr1.c1
  have r2 := hr1.f 1
  have R2 := Lib.hid (hr1.set1 1 (by omega))
  have T2 := Lib.hid (ht1.trans (Turn.of_only (Only.store w1 R 1 (.int .i64 ((1 : Nat) : Int)))))
  clear K1 ht1 hr1
  have KN := Lib.hid (num_any R2.out (by omega))
  go_wp2_with fail
  refine KN.out.mono ?_
  clear r1 r2
  rintro e w3 ⟨rfl, ht3, hr3⟩
  have T3 := Lib.hid (T2.out.trans ht3)
  have R3 := Lib.hid hr3
  clear ht3 hr3 KN T2 R2
  go_wp2_with fail
  go_ret
  exact ⟨_, rfl, ⟨none, 0, rfl, Row.nil _ _⟩, T3.out, R3.out⟩
set_option maxRecDepth 100000 in
set_option maxHeartbeats 2000000 in
theorem cmd_export {w : World} {R g c : Nat} {L : List (ByteArray × Nat)} {fin : Nat} (h : RS w R g c L 0 (-1) fin) {k : Nat} (hL : L[0]? = some (⟨#[101, 120, 112, 111, 114, 116]⟩, k)) :
    Calls Tryd.prog 24 #[.pointer (some ⟨R, 0, none⟩)] w (CPost w R g c L (.query ⟨#[101, 120, 112, 111, 114, 116]⟩ (numR L 1 (-1)) []) (numA L 1 (-1)) (numE L 1 (-1) fin) fin) := by
  have K1 := Lib.hid (next_any h)
  rw [nextS_zero hL, nextB_zero hL] at K1
  clear hL h
  simp only at K1
  go_enter Tryd.func24, Tryd.ntmps24
  go_wp2_with fail
  refine K1.out.mono ?_
  rintro e w1 ⟨rfl, ht1, hr1⟩
  have r1 := hr1.c1
  have r2 := hr1.f 1
  have R2 := Lib.hid (hr1.set1 1 (by omega))
  have T2 := Lib.hid (ht1.trans (Turn.of_only (Only.store w1 R 1 (.int .i64 ((1 : Nat) : Int)))))
  clear K1 ht1 hr1
  have KN := Lib.hid (num_any R2.out (by omega))
  go_wp2_with fail
  refine KN.out.mono ?_
  clear r1 r2
  rintro e w3 ⟨rfl, ht3, hr3⟩
  have T3 := Lib.hid (T2.out.trans ht3)
  have R3 := Lib.hid hr3
  clear ht3 hr3 KN T2 R2
  go_wp2_with fail
  go_ret
  exact ⟨_, rfl, ⟨none, 0, rfl, Row.nil _ _⟩, T3.out, R3.out⟩
set_option maxRecDepth 100000 in
set_option maxHeartbeats 2000000 in
theorem cmd_drop {w : World} {R g c : Nat} {L : List (ByteArray × Nat)} {fin : Nat} (h : RS w R g c L 0 (-1) fin) {k : Nat} (hL : L[0]? = some (⟨#[100, 114, 111, 112]⟩, k)) :
    Calls Tryd.prog 24 #[.pointer (some ⟨R, 0, none⟩)] w (CPost w R g c L (.query ⟨#[100, 114, 111, 112]⟩ (numR L 1 (-1)) []) (numA L 1 (-1)) (numE L 1 (-1) fin) fin) := by
  have K1 := Lib.hid (next_any h)
  rw [nextS_zero hL, nextB_zero hL] at K1
  clear hL h
  simp only at K1
  go_enter Tryd.func24, Tryd.ntmps24
  go_wp2_with fail
  refine K1.out.mono ?_
  rintro e w1 ⟨rfl, ht1, hr1⟩
  have r1 := hr1.c1
  have r2 := hr1.f 1
  have R2 := Lib.hid (hr1.set1 1 (by omega))
  have T2 := Lib.hid (ht1.trans (Turn.of_only (Only.store w1 R 1 (.int .i64 ((1 : Nat) : Int)))))
  clear K1 ht1 hr1
  have KN := Lib.hid (num_any R2.out (by omega))
  go_wp2_with fail
  refine KN.out.mono ?_
  clear r1 r2
  rintro e w3 ⟨rfl, ht3, hr3⟩
  have T3 := Lib.hid (T2.out.trans ht3)
  have R3 := Lib.hid hr3
  clear ht3 hr3 KN T2 R2
  go_wp2_with fail
  go_ret
  exact ⟨_, rfl, ⟨none, 0, rfl, Row.nil _ _⟩, T3.out, R3.out⟩
/-- The first and the other numbers. -/
def hd0 (l : List Int) : Int := l.headD 0
set_option maxRecDepth 100000 in
set_option maxHeartbeats 2000000 in
theorem cmd_quantile {w : World} {R g c : Nat} {L : List (ByteArray × Nat)} {fin : Nat} (h : RS w R g c L 0 (-1) fin) {k : Nat} (hL : L[0]? = some (⟨#[113, 117, 97, 110, 116, 105, 108, 101]⟩, k)) :
    Calls Tryd.prog 24 #[.pointer (some ⟨R, 0, none⟩)] w (CPost w R g c L (.query ⟨#[113, 117, 97, 110, 116, 105, 108, 101]⟩ (hd0 (runNums L fin 2 1 (-1)).1) (runNums L fin 2 1 (-1)).1.tail) (runNums L fin 2 1 (-1)).2.1 (runNums L fin 2 1 (-1)).2.2 fin) := by
  have K1 := Lib.hid (next_any h)
  rw [nextS_zero hL, nextB_zero hL] at K1
  clear hL h
  simp only at K1
  go_enter Tryd.func24, Tryd.ntmps24
  go_wp2_with fail
  refine K1.out.mono ?_
  rintro e w1 ⟨rfl, ht1, hr1⟩
  have r1 := hr1.c1
  have r2 := hr1.f 1
  have R2 := Lib.hid (hr1.set1 1 (by omega))
  have T2 := Lib.hid (ht1.trans (Turn.of_only (Only.store w1 R 1 (.int .i64 ((1 : Nat) : Int)))))
  clear K1 ht1 hr1
  have KN := Lib.hid (nums_any 2 (by omega) mk2 R2.out (by omega))
  have HL := Lib.hid (runNums_len L fin 2 1 (-1))
  generalize hrn : runNums L fin 2 1 (-1) = st at *
  clear hrn
  obtain ⟨l, a, b⟩ := st
  simp only at KN HL
  go_wp2_with fail
  refine KN.out.mono ?_
  clear r1 r2
  rintro e w3 ⟨B, rfl, hB1, hBR, hBB, ht3, hr3⟩
  have T3 := Lib.hid (T2.out.trans ht3)
  have R3 := Lib.hid hr3
  clear ht3 hr3 KN T2 R2
  obtain ⟨x0, x1, rfl⟩ := len2 HL.out
  have HBB := Lib.hid hBB
  have c0 : w3.cell? ⟨B, 0, none⟩ = some (.int .i64 x0) := (cell_of_row _ _ _ _ _ _ hBB).trans rfl
  have c1 : w3.cell? ⟨B, 1, none⟩ = some (.int .i64 x1) := (cell_of_row _ _ _ _ _ _ hBB).trans rfl
  clear hBB
  have hrow : ∀ nq, Row (w3.drewN nq) (some ⟨B, 1, none⟩) 1 ([x1].map i64v) := by
    intro nq
    refine ⟨rfl, fun i x hx => ⟨B, 1, rfl, ?_, lt_of_block HBB.out⟩⟩
    have h1 : w3.cell? ⟨B, 1 + i, none⟩ = _ := cell_of_row _ _ _ _ _ _ HBB.out
    refine h1.trans ?_
    rw [← hx]
    match i with
    | 0 => rfl
    | i + 1 => rw [show 1 + (i + 1) = i + 2 by omega]; rfl
  have HROW := Lib.hid hrow; clear hrow
  go_wp2_with fail
  go_quiet (fail)
  go_wp2_with fail
  go_ret
  exact ⟨_, rfl, ⟨_, _, rfl, HROW.out _⟩, T3.out.drewN _, R3.out.drewN _⟩
set_option maxRecDepth 100000 in
set_option maxHeartbeats 2000000 in
theorem cmd_point {w : World} {R g c : Nat} {L : List (ByteArray × Nat)} {fin : Nat} (h : RS w R g c L 0 (-1) fin) {k : Nat} (hL : L[0]? = some (⟨#[112, 111, 105, 110, 116]⟩, k)) :
    Calls Tryd.prog 24 #[.pointer (some ⟨R, 0, none⟩)] w (CPost w R g c L (.query ⟨#[112, 111, 105, 110, 116]⟩ (hd0 (runNums L fin 3 1 (-1)).1) (runNums L fin 3 1 (-1)).1.tail) (runNums L fin 3 1 (-1)).2.1 (runNums L fin 3 1 (-1)).2.2 fin) := by
  have K1 := Lib.hid (next_any h)
  rw [nextS_zero hL, nextB_zero hL] at K1
  clear hL h
  simp only at K1
  go_enter Tryd.func24, Tryd.ntmps24
  go_wp2_with fail
  refine K1.out.mono ?_
  rintro e w1 ⟨rfl, ht1, hr1⟩
  have r1 := hr1.c1
  have r2 := hr1.f 1
  have R2 := Lib.hid (hr1.set1 1 (by omega))
  have T2 := Lib.hid (ht1.trans (Turn.of_only (Only.store w1 R 1 (.int .i64 ((1 : Nat) : Int)))))
  clear K1 ht1 hr1
  have KN := Lib.hid (nums_any 3 (by omega) mk3 R2.out (by omega))
  have HL := Lib.hid (runNums_len L fin 3 1 (-1))
  generalize hrn : runNums L fin 3 1 (-1) = st at *
  clear hrn
  obtain ⟨l, a, b⟩ := st
  simp only at KN HL
  go_wp2_with fail
  refine KN.out.mono ?_
  clear r1 r2
  rintro e w3 ⟨B, rfl, hB1, hBR, hBB, ht3, hr3⟩
  have T3 := Lib.hid (T2.out.trans ht3)
  have R3 := Lib.hid hr3
  clear ht3 hr3 KN T2 R2
  obtain ⟨x0, x1, x2, rfl⟩ := len3 HL.out
  have HBB := Lib.hid hBB
  have c0 : w3.cell? ⟨B, 0, none⟩ = some (.int .i64 x0) := (cell_of_row _ _ _ _ _ _ hBB).trans rfl
  have c1 : w3.cell? ⟨B, 1, none⟩ = some (.int .i64 x1) := (cell_of_row _ _ _ _ _ _ hBB).trans rfl
  have c2 : w3.cell? ⟨B, 2, none⟩ = some (.int .i64 x2) := (cell_of_row _ _ _ _ _ _ hBB).trans rfl
  clear hBB
  have hrow : ∀ nq, Row (w3.drewN nq) (some ⟨B, 1, none⟩) 2 ([x1, x2].map i64v) := by
    intro nq
    refine ⟨rfl, fun i x hx => ⟨B, 1, rfl, ?_, lt_of_block HBB.out⟩⟩
    have h1 : w3.cell? ⟨B, 1 + i, none⟩ = _ := cell_of_row _ _ _ _ _ _ HBB.out
    refine h1.trans ?_
    rw [← hx]
    match i with
    | 0 => rfl
    | 1 => rfl
    | i + 2 => rw [show 1 + (i + 2) = i + 3 by omega]; rfl
  have HROW := Lib.hid hrow; clear hrow
  go_wp2_with fail
  go_quiet (fail)
  go_wp2_with fail
  go_ret
  exact ⟨_, rfl, ⟨_, _, rfl, HROW.out _⟩, T3.out.drewN _, R3.out.drewN _⟩
set_option maxRecDepth 100000 in
set_option maxHeartbeats 2000000 in
theorem cmd_range {w : World} {R g c : Nat} {L : List (ByteArray × Nat)} {fin : Nat} (h : RS w R g c L 0 (-1) fin) {k : Nat} (hL : L[0]? = some (⟨#[114, 97, 110, 103, 101]⟩, k)) :
    Calls Tryd.prog 24 #[.pointer (some ⟨R, 0, none⟩)] w (CPost w R g c L (.query ⟨#[114, 97, 110, 103, 101]⟩ (hd0 (runNums L fin 3 1 (-1)).1) (runNums L fin 3 1 (-1)).1.tail) (runNums L fin 3 1 (-1)).2.1 (runNums L fin 3 1 (-1)).2.2 fin) := by
  have K1 := Lib.hid (next_any h)
  rw [nextS_zero hL, nextB_zero hL] at K1
  clear hL h
  simp only at K1
  go_enter Tryd.func24, Tryd.ntmps24
  go_wp2_with fail
  refine K1.out.mono ?_
  rintro e w1 ⟨rfl, ht1, hr1⟩
  have r1 := hr1.c1
  have r2 := hr1.f 1
  have R2 := Lib.hid (hr1.set1 1 (by omega))
  have T2 := Lib.hid (ht1.trans (Turn.of_only (Only.store w1 R 1 (.int .i64 ((1 : Nat) : Int)))))
  clear K1 ht1 hr1
  have KN := Lib.hid (nums_any 3 (by omega) mk3 R2.out (by omega))
  have HL := Lib.hid (runNums_len L fin 3 1 (-1))
  generalize hrn : runNums L fin 3 1 (-1) = st at *
  clear hrn
  obtain ⟨l, a, b⟩ := st
  simp only at KN HL
  go_wp2_with fail
  refine KN.out.mono ?_
  clear r1 r2
  rintro e w3 ⟨B, rfl, hB1, hBR, hBB, ht3, hr3⟩
  have T3 := Lib.hid (T2.out.trans ht3)
  have R3 := Lib.hid hr3
  clear ht3 hr3 KN T2 R2
  obtain ⟨x0, x1, x2, rfl⟩ := len3 HL.out
  have HBB := Lib.hid hBB
  have c0 : w3.cell? ⟨B, 0, none⟩ = some (.int .i64 x0) := (cell_of_row _ _ _ _ _ _ hBB).trans rfl
  have c1 : w3.cell? ⟨B, 1, none⟩ = some (.int .i64 x1) := (cell_of_row _ _ _ _ _ _ hBB).trans rfl
  have c2 : w3.cell? ⟨B, 2, none⟩ = some (.int .i64 x2) := (cell_of_row _ _ _ _ _ _ hBB).trans rfl
  clear hBB
  have hrow : ∀ nq, Row (w3.drewN nq) (some ⟨B, 1, none⟩) 2 ([x1, x2].map i64v) := by
    intro nq
    refine ⟨rfl, fun i x hx => ⟨B, 1, rfl, ?_, lt_of_block HBB.out⟩⟩
    have h1 : w3.cell? ⟨B, 1 + i, none⟩ = _ := cell_of_row _ _ _ _ _ _ HBB.out
    refine h1.trans ?_
    rw [← hx]
    match i with
    | 0 => rfl
    | 1 => rfl
    | i + 2 => rw [show 1 + (i + 2) = i + 3 by omega]; rfl
  have HROW := Lib.hid hrow; clear hrow
  go_wp2_with fail
  go_quiet (fail)
  go_wp2_with fail
  go_ret
  exact ⟨_, rfl, ⟨_, _, rfl, HROW.out _⟩, T3.out.drewN _, R3.out.drewN _⟩
set_option maxRecDepth 100000 in
set_option maxHeartbeats 2000000 in
theorem cmd_heavy {w : World} {R g c : Nat} {L : List (ByteArray × Nat)} {fin : Nat} (h : RS w R g c L 0 (-1) fin) {k : Nat} (hL : L[0]? = some (⟨#[104, 101, 97, 118, 121]⟩, k)) :
    Calls Tryd.prog 24 #[.pointer (some ⟨R, 0, none⟩)] w (CPost w R g c L (.query ⟨#[104, 101, 97, 118, 121]⟩ (hd0 (runNums L fin 3 1 (-1)).1) (runNums L fin 3 1 (-1)).1.tail) (runNums L fin 3 1 (-1)).2.1 (runNums L fin 3 1 (-1)).2.2 fin) := by
  have K1 := Lib.hid (next_any h)
  rw [nextS_zero hL, nextB_zero hL] at K1
  clear hL h
  simp only at K1
  go_enter Tryd.func24, Tryd.ntmps24
  go_wp2_with fail
  refine K1.out.mono ?_
  rintro e w1 ⟨rfl, ht1, hr1⟩
  have r1 := hr1.c1
  have r2 := hr1.f 1
  have R2 := Lib.hid (hr1.set1 1 (by omega))
  have T2 := Lib.hid (ht1.trans (Turn.of_only (Only.store w1 R 1 (.int .i64 ((1 : Nat) : Int)))))
  clear K1 ht1 hr1
  have KN := Lib.hid (nums_any 3 (by omega) mk3 R2.out (by omega))
  have HL := Lib.hid (runNums_len L fin 3 1 (-1))
  generalize hrn : runNums L fin 3 1 (-1) = st at *
  clear hrn
  obtain ⟨l, a, b⟩ := st
  simp only at KN HL
  go_wp2_with fail
  refine KN.out.mono ?_
  clear r1 r2
  rintro e w3 ⟨B, rfl, hB1, hBR, hBB, ht3, hr3⟩
  have T3 := Lib.hid (T2.out.trans ht3)
  have R3 := Lib.hid hr3
  clear ht3 hr3 KN T2 R2
  obtain ⟨x0, x1, x2, rfl⟩ := len3 HL.out
  have HBB := Lib.hid hBB
  have c0 : w3.cell? ⟨B, 0, none⟩ = some (.int .i64 x0) := (cell_of_row _ _ _ _ _ _ hBB).trans rfl
  have c1 : w3.cell? ⟨B, 1, none⟩ = some (.int .i64 x1) := (cell_of_row _ _ _ _ _ _ hBB).trans rfl
  have c2 : w3.cell? ⟨B, 2, none⟩ = some (.int .i64 x2) := (cell_of_row _ _ _ _ _ _ hBB).trans rfl
  clear hBB
  have hrow : ∀ nq, Row (w3.drewN nq) (some ⟨B, 1, none⟩) 2 ([x1, x2].map i64v) := by
    intro nq
    refine ⟨rfl, fun i x hx => ⟨B, 1, rfl, ?_, lt_of_block HBB.out⟩⟩
    have h1 : w3.cell? ⟨B, 1 + i, none⟩ = _ := cell_of_row _ _ _ _ _ _ HBB.out
    refine h1.trans ?_
    rw [← hx]
    match i with
    | 0 => rfl
    | 1 => rfl
    | i + 2 => rw [show 1 + (i + 2) = i + 3 by omega]; rfl
  have HROW := Lib.hid hrow; clear hrow
  go_wp2_with fail
  go_quiet (fail)
  go_wp2_with fail
  go_ret
  exact ⟨_, rfl, ⟨_, _, rfl, HROW.out _⟩, T3.out.drewN _, R3.out.drewN _⟩
set_option maxRecDepth 100000 in
set_option maxHeartbeats 2000000 in
theorem cmd_inner {w : World} {R g c : Nat} {L : List (ByteArray × Nat)} {fin : Nat} (h : RS w R g c L 0 (-1) fin) {k : Nat} (hL : L[0]? = some (⟨#[105, 110, 110, 101, 114]⟩, k)) :
    Calls Tryd.prog 24 #[.pointer (some ⟨R, 0, none⟩)] w (CPost w R g c L (.pair ⟨#[105, 110, 110, 101, 114]⟩ (hd0 (runNums L fin 2 1 (-1)).1) (hd0 (runNums L fin 2 1 (-1)).1.tail)) (runNums L fin 2 1 (-1)).2.1 (runNums L fin 2 1 (-1)).2.2 fin) := by
  have K1 := Lib.hid (next_any h)
  rw [nextS_zero hL, nextB_zero hL] at K1
  clear hL h
  simp only at K1
  go_enter Tryd.func24, Tryd.ntmps24
  go_wp2_with fail
  refine K1.out.mono ?_
  rintro e w1 ⟨rfl, ht1, hr1⟩
  have r1 := hr1.c1
  have r2 := hr1.f 1
  have R2 := Lib.hid (hr1.set1 1 (by omega))
  have T2 := Lib.hid (ht1.trans (Turn.of_only (Only.store w1 R 1 (.int .i64 ((1 : Nat) : Int)))))
  clear K1 ht1 hr1
  have KN := Lib.hid (nums_any 2 (by omega) mk2 R2.out (by omega))
  have HL := Lib.hid (runNums_len L fin 2 1 (-1))
  generalize hrn : runNums L fin 2 1 (-1) = st at *
  clear hrn
  obtain ⟨l, a, b⟩ := st
  simp only at KN HL
  go_wp2_with fail
  refine KN.out.mono ?_
  clear r1 r2
  rintro e w3 ⟨B, rfl, hB1, hBR, hBB, ht3, hr3⟩
  have T3 := Lib.hid (T2.out.trans ht3)
  have R3 := Lib.hid hr3
  clear ht3 hr3 KN T2 R2
  obtain ⟨x0, x1, rfl⟩ := len2 HL.out
  have HBB := Lib.hid hBB
  have c0 : w3.cell? ⟨B, 0, none⟩ = some (.int .i64 x0) := (cell_of_row _ _ _ _ _ _ hBB).trans rfl
  have c1 : w3.cell? ⟨B, 1, none⟩ = some (.int .i64 x1) := (cell_of_row _ _ _ _ _ _ hBB).trans rfl
  clear hBB
  go_wp2_with fail
  go_quiet (fail)
  go_wp2_with fail
  go_ret
  exact ⟨_, rfl, rfl, T3.out.drewN _, R3.out.drewN _⟩
set_option maxRecDepth 100000 in
set_option maxHeartbeats 2000000 in
theorem cmd_merge {w : World} {R g c : Nat} {L : List (ByteArray × Nat)} {fin : Nat} (h : RS w R g c L 0 (-1) fin) {k : Nat} (hL : L[0]? = some (⟨#[109, 101, 114, 103, 101]⟩, k)) :
    Calls Tryd.prog 24 #[.pointer (some ⟨R, 0, none⟩)] w (CPost w R g c L (.pair ⟨#[109, 101, 114, 103, 101]⟩ (hd0 (runNums L fin 2 1 (-1)).1) (hd0 (runNums L fin 2 1 (-1)).1.tail)) (runNums L fin 2 1 (-1)).2.1 (runNums L fin 2 1 (-1)).2.2 fin) := by
  have K1 := Lib.hid (next_any h)
  rw [nextS_zero hL, nextB_zero hL] at K1
  clear hL h
  simp only at K1
  go_enter Tryd.func24, Tryd.ntmps24
  go_wp2_with fail
  refine K1.out.mono ?_
  rintro e w1 ⟨rfl, ht1, hr1⟩
  have r1 := hr1.c1
  have r2 := hr1.f 1
  have R2 := Lib.hid (hr1.set1 1 (by omega))
  have T2 := Lib.hid (ht1.trans (Turn.of_only (Only.store w1 R 1 (.int .i64 ((1 : Nat) : Int)))))
  clear K1 ht1 hr1
  have KN := Lib.hid (nums_any 2 (by omega) mk2 R2.out (by omega))
  have HL := Lib.hid (runNums_len L fin 2 1 (-1))
  generalize hrn : runNums L fin 2 1 (-1) = st at *
  clear hrn
  obtain ⟨l, a, b⟩ := st
  simp only at KN HL
  go_wp2_with fail
  refine KN.out.mono ?_
  clear r1 r2
  rintro e w3 ⟨B, rfl, hB1, hBR, hBB, ht3, hr3⟩
  have T3 := Lib.hid (T2.out.trans ht3)
  have R3 := Lib.hid hr3
  clear ht3 hr3 KN T2 R2
  obtain ⟨x0, x1, rfl⟩ := len2 HL.out
  have HBB := Lib.hid hBB
  have c0 : w3.cell? ⟨B, 0, none⟩ = some (.int .i64 x0) := (cell_of_row _ _ _ _ _ _ hBB).trans rfl
  have c1 : w3.cell? ⟨B, 1, none⟩ = some (.int .i64 x1) := (cell_of_row _ _ _ _ _ _ hBB).trans rfl
  clear hBB
  go_wp2_with fail
  go_quiet (fail)
  go_wp2_with fail
  go_ret
  exact ⟨_, rfl, rfl, T3.out.drewN _, R3.out.drewN _⟩
set_option maxRecDepth 100000 in
set_option maxHeartbeats 2000000 in
theorem cmd_subtract {w : World} {R g c : Nat} {L : List (ByteArray × Nat)} {fin : Nat} (h : RS w R g c L 0 (-1) fin) {k : Nat} (hL : L[0]? = some (⟨#[115, 117, 98, 116, 114, 97, 99, 116]⟩, k)) :
    Calls Tryd.prog 24 #[.pointer (some ⟨R, 0, none⟩)] w (CPost w R g c L (.pair ⟨#[115, 117, 98, 116, 114, 97, 99, 116]⟩ (hd0 (runNums L fin 2 1 (-1)).1) (hd0 (runNums L fin 2 1 (-1)).1.tail)) (runNums L fin 2 1 (-1)).2.1 (runNums L fin 2 1 (-1)).2.2 fin) := by
  have K1 := Lib.hid (next_any h)
  rw [nextS_zero hL, nextB_zero hL] at K1
  clear hL h
  simp only at K1
  go_enter Tryd.func24, Tryd.ntmps24
  go_wp2_with fail
  refine K1.out.mono ?_
  rintro e w1 ⟨rfl, ht1, hr1⟩
  have r1 := hr1.c1
  have r2 := hr1.f 1
  have R2 := Lib.hid (hr1.set1 1 (by omega))
  have T2 := Lib.hid (ht1.trans (Turn.of_only (Only.store w1 R 1 (.int .i64 ((1 : Nat) : Int)))))
  clear K1 ht1 hr1
  have KN := Lib.hid (nums_any 2 (by omega) mk2 R2.out (by omega))
  have HL := Lib.hid (runNums_len L fin 2 1 (-1))
  generalize hrn : runNums L fin 2 1 (-1) = st at *
  clear hrn
  obtain ⟨l, a, b⟩ := st
  simp only at KN HL
  go_wp2_with fail
  refine KN.out.mono ?_
  clear r1 r2
  rintro e w3 ⟨B, rfl, hB1, hBR, hBB, ht3, hr3⟩
  have T3 := Lib.hid (T2.out.trans ht3)
  have R3 := Lib.hid hr3
  clear ht3 hr3 KN T2 R2
  obtain ⟨x0, x1, rfl⟩ := len2 HL.out
  have HBB := Lib.hid hBB
  have c0 : w3.cell? ⟨B, 0, none⟩ = some (.int .i64 x0) := (cell_of_row _ _ _ _ _ _ hBB).trans rfl
  have c1 : w3.cell? ⟨B, 1, none⟩ = some (.int .i64 x1) := (cell_of_row _ _ _ _ _ _ hBB).trans rfl
  clear hBB
  go_wp2_with fail
  go_quiet (fail)
  go_wp2_with fail
  go_ret
  exact ⟨_, rfl, rfl, T3.out.drewN _, R3.out.drewN _⟩
theorem u8_cells {l : List Nat} {i : Nat} {x : Value} (h : (l.map u8v)[i]? = some x) : ∃ n : Int, x = .int .u8 n := by
  rw [List.getElem?_map, Option.map_eq_some_iff] at h
  obtain ⟨n, _, rfl⟩ := h
  exact ⟨n, rfl⟩
theorem hrow_turn {w w' : World} {R g c : Nat} {L : List (ByteArray × Nat)} {at_ : Nat} {bad : Int} {fin : Nat} {a : Option Addr} {n : Nat} {l : List Nat} (h : Row w a n (l.map u8v)) (hr : RS w R g c L at_ bad fin) (ht : Turn R w w') : Row w' a n (l.map u8v) := by
  refine ⟨h.1, fun i x hx => ?_⟩
  obtain ⟨b, o, e, hc, hlt⟩ := h.2 i x hx
  obtain ⟨z, rfl⟩ := u8_cells hx
  by_cases hb : b = R
  · subst hb
    exfalso
    rw [cell_of_row _ _ _ _ _ _ hr.blk] at hc
    rcases hoi : o + i with _ | _ | _ | _ | k
    · rw [hoi] at hc; simp at hc
    · rw [hoi] at hc; simp at hc
    · rw [hoi] at hc; simp at hc
    · rw [hoi] at hc; simp at hc
    · rw [hoi] at hc; simp at hc
  · exact ⟨b, o, e, by rw [World.cell?_of_block (ht.block b hlt hb)]; exact hc, Nat.lt_of_lt_of_le hlt ht.size⟩
theorem hrow_set {w : World} {R g c : Nat} {L : List (ByteArray × Nat)} {at_ : Nat} {bad : Int} {fin : Nat} {a : Option Addr} {n : Nat} {l : List Nat} (h : Row w a n (l.map u8v)) (hr : RS w R g c L at_ bad fin) (x : Nat) : Row (w.setCell ⟨R, 1, none⟩ (.int .i64 x)) a n (l.map u8v) :=
  hrow_turn h hr (Turn.of_only (Only.store w R 1 _))
set_option maxRecDepth 100000 in
set_option maxHeartbeats 2000000 in
theorem cmd_import_yes {w : World} {R g c : Nat} {L : List (ByteArray × Nat)} {fin : Nat} (h : RS w R g c L 0 (-1) fin) {k : Nat} (hL : L[0]? = some (⟨#[105, 109, 112, 111, 114, 116]⟩, k)) (hB : hexB (nextS L 1 (-1)) = true) :
    Calls Tryd.prog 24 #[.pointer (some ⟨R, 0, none⟩)] w (CPost w R g c L (.imp (hexL (nextS L 1 (-1)))) 2 (nextB L 1 (-1) fin) fin) := by
  have K1 := Lib.hid (next_any h)
  rw [nextS_zero hL, nextB_zero hL] at K1
  clear hL h
  simp only at K1
  go_enter Tryd.func24, Tryd.ntmps24
  go_wp2_with fail
  refine K1.out.mono ?_
  rintro e w1 ⟨rfl, ht1, hr1⟩
  have r1 := hr1.c1
  have r2 := hr1.f 1
  have R2 := Lib.hid (hr1.set1 1 (by omega))
  have T2 := Lib.hid (ht1.trans (Turn.of_only (Only.store w1 R 1 (.int .i64 ((1 : Nat) : Int)))))
  clear K1 ht1 hr1
  have KX := Lib.hid (next_any R2.out)
  have hsz := nextS_size R2.out
  have KB := Lib.hid (fun w => bytes_any (nextS L 1 (-1)) w hsz)
  unfold HexPost at KB
  rw [hB] at KB
  clear hB hsz
  generalize nextB L 1 (-1) fin = nb at *
  generalize nextS L 1 (-1) = ns at *
  generalize hexL ns = hl at *
  go_wp2_with fail
  refine KX.out.mono ?_
  clear r1 r2
  rintro e w3 ⟨rfl, ht3, hr3⟩
  have T3 := Lib.hid (T2.out.trans ht3)
  have R3 := Lib.hid hr3
  clear ht3 hr3 KX T2 R2
  go_wp2_with fail
  refine (KB.out _).mono ?_
  rintro e w4 ⟨ha, hc, rfl, hrow, hb4⟩
  have T4 := Lib.hid (T3.out.trans (Turn.of_below hb4))
  have R4 := Lib.hid (R3.out.below hb4)
  have HROW := Lib.hid hrow
  clear hb4 hrow T3 R3 KB
  have r1 := R4.out.c1
  have r2 := R4.out.f 1
  have R5 := Lib.hid (R4.out.set1 2 (by omega))
  have HRW := Lib.hid (hrow_set HROW.out R4.out 2)
  go_wp2_with fail
  go_ret
  exact ⟨_, rfl, ⟨ha, hc, rfl, HRW.out⟩, T4.out.trans (Turn.of_only (Only.store _ R 1 (.int .i64 ((2 : Nat) : Int)))), R5.out⟩
set_option maxRecDepth 100000 in
set_option maxHeartbeats 2000000 in
theorem cmd_import_no {w : World} {R g c : Nat} {L : List (ByteArray × Nat)} {fin : Nat} (h : RS w R g c L 0 (-1) fin) {k : Nat} (hL : L[0]? = some (⟨#[105, 109, 112, 111, 114, 116]⟩, k)) (hB : hexB (nextS L 1 (-1)) = false) :
    Calls Tryd.prog 24 #[.pointer (some ⟨R, 0, none⟩)] w (CPost w R g c L (.imp (hexL (nextS L 1 (-1)))) 2 (badOf L 1 (nextB L 1 (-1) fin) fin) fin) := by
  have K1 := Lib.hid (next_any h)
  rw [nextS_zero hL, nextB_zero hL] at K1
  clear hL h
  simp only at K1
  go_enter Tryd.func24, Tryd.ntmps24
  go_wp2_with fail
  refine K1.out.mono ?_
  rintro e w1 ⟨rfl, ht1, hr1⟩
  have r1 := hr1.c1
  have r2 := hr1.f 1
  have R2 := Lib.hid (hr1.set1 1 (by omega))
  have T2 := Lib.hid (ht1.trans (Turn.of_only (Only.store w1 R 1 (.int .i64 ((1 : Nat) : Int)))))
  clear K1 ht1 hr1
  have KX := Lib.hid (next_any R2.out)
  have hsz := nextS_size R2.out
  have KB := Lib.hid (fun w => bytes_any (nextS L 1 (-1)) w hsz)
  unfold HexPost at KB
  rw [hB] at KB
  clear hB hsz
  generalize nextB L 1 (-1) fin = nb at *
  generalize nextS L 1 (-1) = ns at *
  generalize hexL ns = hl at *
  go_wp2_with fail
  refine KX.out.mono ?_
  clear r1 r2
  rintro e w3 ⟨rfl, ht3, hr3⟩
  have T3 := Lib.hid (T2.out.trans ht3)
  have R3 := Lib.hid hr3
  clear ht3 hr3 KX T2 R2
  go_wp2_with fail
  refine (KB.out _).mono ?_
  rintro e w4 ⟨ha, hc, rfl, hrow, hb4⟩
  have T4 := Lib.hid (T3.out.trans (Turn.of_below hb4))
  have R4 := Lib.hid (R3.out.below hb4)
  have HROW := Lib.hid hrow
  clear hb4 hrow T3 R3 KB
  have KF := Lib.hid (fail_any R4.out)
  go_wp2_with fail
  refine KF.out.mono ?_
  rintro e w5 ⟨rfl, ht5, hr5⟩
  have HRW0 := Lib.hid (hrow_turn HROW.out R4.out ht5)
  have T5 := Lib.hid (T4.out.trans ht5)
  have R5 := Lib.hid hr5
  clear ht5 hr5 KF
  have r1 := R5.out.c1
  have r2 := R5.out.f 1
  have R6 := Lib.hid (R5.out.set1 2 (by omega))
  have HRW := Lib.hid (hrow_set HRW0.out R5.out 2)
  go_wp2_with fail
  go_ret
  exact ⟨_, rfl, ⟨ha, hc, rfl, HRW.out⟩, T5.out.trans (Turn.of_only (Only.store _ R 1 (.int .i64 ((2 : Nat) : Int)))), R6.out⟩
/-- The first words. -/
def verbs : List (List UInt8) := [[99, 114, 101, 97, 116, 101], [119, 105, 110, 100, 111, 119], [97, 100, 100], [116, 105, 99, 107], [116, 111, 116, 97, 108], [101, 120, 112, 111, 114, 116], [100, 114, 111, 112], [113, 117, 97, 110, 116, 105, 108, 101], [112, 111, 105, 110, 116], [114, 97, 110, 103, 101], [104, 101, 97, 118, 121], [105, 110, 110, 101, 114], [109, 101, 114, 103, 101], [115, 117, 98, 116, 114, 97, 99, 116], [105, 109, 112, 111, 114, 116]]
set_option maxRecDepth 100000 in
set_option maxHeartbeats 2000000 in
theorem cmd_none {w : World} {R g c : Nat} {L : List (ByteArray × Nat)} {fin : Nat} (h : RS w R g c L 0 (-1) fin) {s : ByteArray} {k : Nat} (hL : L[0]? = some (s, k)) (hv : s.data.toList ∉ verbs) :
    Calls Tryd.prog 24 #[.pointer (some ⟨R, 0, none⟩)] w (RPost .nilIface w R g c L 0 (k : Int) fin) := by
  have K1 := Lib.hid (next_any h)
  rw [nextS_zero hL, nextB_zero hL] at K1
  simp only at K1
  have v0 : (s.toList == [99, 114, 101, 97, 116, 101]) = false := by rw [beq_eq_false_iff_ne, ByteArray.toList_eq]; intro hh; exact hv (by rw [hh]; decide)
  have v1 : (s.toList == [119, 105, 110, 100, 111, 119]) = false := by rw [beq_eq_false_iff_ne, ByteArray.toList_eq]; intro hh; exact hv (by rw [hh]; decide)
  have v2 : (s.toList == [97, 100, 100]) = false := by rw [beq_eq_false_iff_ne, ByteArray.toList_eq]; intro hh; exact hv (by rw [hh]; decide)
  have v3 : (s.toList == [116, 105, 99, 107]) = false := by rw [beq_eq_false_iff_ne, ByteArray.toList_eq]; intro hh; exact hv (by rw [hh]; decide)
  have v4 : (s.toList == [116, 111, 116, 97, 108]) = false := by rw [beq_eq_false_iff_ne, ByteArray.toList_eq]; intro hh; exact hv (by rw [hh]; decide)
  have v5 : (s.toList == [101, 120, 112, 111, 114, 116]) = false := by rw [beq_eq_false_iff_ne, ByteArray.toList_eq]; intro hh; exact hv (by rw [hh]; decide)
  have v6 : (s.toList == [100, 114, 111, 112]) = false := by rw [beq_eq_false_iff_ne, ByteArray.toList_eq]; intro hh; exact hv (by rw [hh]; decide)
  have v7 : (s.toList == [113, 117, 97, 110, 116, 105, 108, 101]) = false := by rw [beq_eq_false_iff_ne, ByteArray.toList_eq]; intro hh; exact hv (by rw [hh]; decide)
  have v8 : (s.toList == [112, 111, 105, 110, 116]) = false := by rw [beq_eq_false_iff_ne, ByteArray.toList_eq]; intro hh; exact hv (by rw [hh]; decide)
  have v9 : (s.toList == [114, 97, 110, 103, 101]) = false := by rw [beq_eq_false_iff_ne, ByteArray.toList_eq]; intro hh; exact hv (by rw [hh]; decide)
  have v10 : (s.toList == [104, 101, 97, 118, 121]) = false := by rw [beq_eq_false_iff_ne, ByteArray.toList_eq]; intro hh; exact hv (by rw [hh]; decide)
  have v11 : (s.toList == [105, 110, 110, 101, 114]) = false := by rw [beq_eq_false_iff_ne, ByteArray.toList_eq]; intro hh; exact hv (by rw [hh]; decide)
  have v12 : (s.toList == [109, 101, 114, 103, 101]) = false := by rw [beq_eq_false_iff_ne, ByteArray.toList_eq]; intro hh; exact hv (by rw [hh]; decide)
  have v13 : (s.toList == [115, 117, 98, 116, 114, 97, 99, 116]) = false := by rw [beq_eq_false_iff_ne, ByteArray.toList_eq]; intro hh; exact hv (by rw [hh]; decide)
  have v14 : (s.toList == [105, 109, 112, 111, 114, 116]) = false := by rw [beq_eq_false_iff_ne, ByteArray.toList_eq]; intro hh; exact hv (by rw [hh]; decide)
  have HBD := Lib.hid (show badOf L 0 (-1) fin = (k : Int) by unfold badOf; rw [if_neg (by omega), hL])
  clear hL h hv
  go_enter Tryd.func24, Tryd.ntmps24
  go_wp2_with fail
  refine K1.out.mono ?_
  rintro e w1 ⟨rfl, ht1, hr1⟩
  have r1 := hr1.c1
  have r2 := hr1.f 1
  have R2 := Lib.hid ((hr1.set1 1 (by omega)).set1 0 (by omega))
  have T2 := Lib.hid ((ht1.trans (Turn.of_only (Only.store w1 R 1 (.int .i64 ((1 : Nat) : Int))))).trans (Turn.of_only (Only.store _ R 1 (.int .i64 ((0 : Nat) : Int)))))
  clear K1 ht1 hr1
  have KF := Lib.hid (fail_any R2.out)
  rw [HBD.out] at KF
  go_wp2_with fail
  refine KF.out.mono ?_
  clear r1 r2
  rintro e w3 ⟨rfl, ht3, hr3⟩
  have T3 := Lib.hid (T2.out.trans ht3)
  have R3 := Lib.hid hr3
  clear ht3 hr3 KF T2 R2
  go_wp2_with fail
  go_ret
  exact ⟨rfl, T3.out, R3.out⟩
end Go.Proofs.YtjhlpmigkbaegaaDoor
