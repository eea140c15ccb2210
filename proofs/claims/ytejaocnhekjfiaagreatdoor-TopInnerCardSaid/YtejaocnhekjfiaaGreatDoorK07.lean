/- Walks and plain laws, part 7: S25Cmd S25Parse S25Join Say Ag9 Round St8. -/
import Derived.Test.YtejaocnhekjfiaaGreatDoorK04
import Derived.Test.YtejaocnhekjfiaaGreatDoorK05
import Derived.Test.YtejaocnhekjfiaaGreatDoorK06
import Derived.Lib.ItoaLen
import Derived.WalkSpells
import Derived.Deep.RegionHeld3
namespace Go.Proofs.YtejaocnhekjfiaaGreatDoor.S25
open Go.RowKit
set_option linter.unusedVariables false
inductive Cmd where
 | create (l : List Int)
 | open_ (l : List Int)
 | add (r : AddR)
 | tick
 | query (what : ByteArray) (h : Int) (l : List Int)
 | pair (what : ByteArray) (a b : Int)
 | imp (l : List Nat)
def CmdV (w : World) (v : Value) : Cmd → Prop
 | .create l => ∃ x0 x1 x2 x3 x4,l = [x0,x1,x2,x3,x4] ∧ v = .iface 107 (.agg #[.int .i64 x0,.int .i64 x1,.int .i64 x2,.int .i64 x3,.int .u64 (IntKind.u64.wrap x4)])
 | .open_ l => ∃ x0 x1 x2 x3 x4,l = [x0,x1,x2,x3,x4] ∧ v = .iface 116 (.agg #[.int .i64 x0,.int .i64 x1,.int .i64 x2,.int .i64 1,.int .u64 (IntKind.u64.wrap x3),.int .i64 x4])
 | .add r => v = .iface 120 (addV r)
 | .tick => v = .iface 123 (.agg #[])
 | .query s h l => ∃ a c,v = .iface 127 (.agg #[.string s,.int .i64 h,.slice a l.length c]) ∧ Row w a l.length (l.map i64v)
 | .pair s a b => v = .iface 130 (.agg #[.string s,.int .i64 a,.int .i64 b])
 | .imp l => ∃ a c,v = .iface 133 (.agg #[.slice a l.length c]) ∧ Row w a l.length (l.map u8v)
theorem CmdV.below {w w' : World} {v : Value} {k : Cmd} (h : CmdV w v k) (hb : Below w.heap.size w w') : CmdV w' v k:=by
 cases k with
 | query s x l => obtain ⟨a,c,e,hr⟩:=h; exact ⟨a,c,e,hr.below hb⟩
 | imp l => obtain ⟨a,c,e,hr⟩:=h; exact ⟨a,c,e,hr.below hb⟩
 | create l => exact h
 | open_ l => exact h
 | add r => exact h
 | tick => exact h
 | pair s a b => exact h
def CPost (w : World) (R g c : Nat) (L : List (ByteArray × Nat)) (k : Cmd) (at_ : Nat) (bad : Int) (fin : Nat) (e : Ending) (w' : World) : Prop:=
 ∃ v,e = .returned v ∧ CmdV w' v k ∧ Turn R w w' ∧ RS w' R g c L at_ bad fin
theorem mk5 (w : World) : (Instr.makeSlice 125 (.int .i64 ((5 : Nat) : Int)) (.int .i64 ((5 : Nat) : Int))).run Tryz.prog w = .ok (.slice (some ⟨w.heap.size,0,none⟩) 5 5) (w.alloc (.cells (Array.replicate 5 (i64v 0)) 2)):=by kernel_rfl
theorem mk3 (w : World) : (Instr.makeSlice 125 (.int .i64 ((3 : Nat) : Int)) (.int .i64 ((3 : Nat) : Int))).run Tryz.prog w = .ok (.slice (some ⟨w.heap.size,0,none⟩) 3 3) (w.alloc (.cells (Array.replicate 3 (i64v 0)) 2)):=by kernel_rfl
theorem mk2 (w : World) : (Instr.makeSlice 125 (.int .i64 ((2 : Nat) : Int)) (.int .i64 ((2 : Nat) : Int))).run Tryz.prog w = .ok (.slice (some ⟨w.heap.size,0,none⟩) 2 2) (w.alloc (.cells (Array.replicate 2 (i64v 0)) 2)):=by kernel_rfl
theorem len5 {l : List Int} (h : l.length = 5) : ∃ x0 x1 x2 x3 x4,l = [x0,x1,x2,x3,x4]:=by
 match l,h with
 | [x0,x1,x2,x3,x4],_ => exact ⟨x0,x1,x2,x3,x4,rfl⟩
theorem len3 {l : List Int} (h : l.length = 3) : ∃ x0 x1 x2,l = [x0,x1,x2]:=by
 match l,h with
 | [x0,x1,x2],_ => exact ⟨x0,x1,x2,rfl⟩
theorem len2 {l : List Int} (h : l.length = 2) : ∃ x0 x1,l = [x0,x1]:=by
 match l,h with
 | [x0,x1],_ => exact ⟨x0,x1,rfl⟩
theorem nextS_zero {L : List (ByteArray × Nat)} {p : ByteArray × Nat} (h : L[0]? = some p) : nextS L 0 (-1) = p.1:=by unfold nextS; rw [if_neg (by omega),h]
theorem nextB_zero {L : List (ByteArray × Nat)} {p : ByteArray × Nat} (h : L[0]? = some p) (fin : Nat) : nextB L 0 (-1) fin = -1:=by unfold nextB; rw [if_neg (by omega),h]
set_option maxRecDepth 100000 in
set_option maxHeartbeats 2000000 in
theorem cmd_create {w : World} {R g c : Nat} {L : List (ByteArray × Nat)} {fin : Nat} (h : RS w R g c L 0 (-1) fin) {k : Nat} (hL : L[0]? = some (⟨#[99,114,101,97,116,101]⟩,k)) :
   Calls Tryz.prog 46 #[.pointer (some ⟨R,0,none⟩)] w (CPost w R g c L (.create (runNums L fin 5 1 (-1)).1) (runNums L fin 5 1 (-1)).2.1 (runNums L fin 5 1 (-1)).2.2 fin):=by
 have K1:=Lib.hid (next_any h)
 rw [nextS_zero hL,nextB_zero hL] at K1
 clear hL h
 simp only at K1
 go_enter Tryz.func46,Tryz.ntmps46
 go_wp2_with fail
 refine K1.out.mono ?_
 rintro e w1 ⟨rfl,ht1,hr1⟩
 have r1:=hr1.c1
 have r2:=hr1.f 1
 have R2:=Lib.hid (hr1.set1 1 (by omega))
 have T2:=Lib.hid (ht1.trans (Turn.of_only (Only.store w1 R 1 (.int .i64 ((1 : Nat) : Int)))))
 clear K1 ht1 hr1
 have KN:=Lib.hid (nums_any 5 (by omega) mk5 R2.out (by omega))
 have HL:=Lib.hid (runNums_len L fin 5 1 (-1))
 generalize hrn : runNums L fin 5 1 (-1) = st at *
 clear hrn
 obtain ⟨l,a,b⟩:=st
 simp only at KN HL
 go_wp2_with fail
 refine KN.out.mono ?_
 clear r1 r2
 rintro e w3 ⟨B,rfl,hB1,hBR,hBB,ht3,hr3⟩
 have T3:=Lib.hid (T2.out.trans ht3)
 have R3:=Lib.hid hr3
 clear ht3 hr3 KN T2 R2
 obtain ⟨x0,x1,x2,x3,x4,rfl⟩:=len5 HL.out
 have HBB:=Lib.hid hBB
 have c0 : w3.cell? ⟨B,0,none⟩ = some (.int .i64 x0):=(cell_of_row _ _ _ _ _ _ hBB).trans rfl
 have c1 : w3.cell? ⟨B,1,none⟩ = some (.int .i64 x1):=(cell_of_row _ _ _ _ _ _ hBB).trans rfl
 have c2 : w3.cell? ⟨B,2,none⟩ = some (.int .i64 x2):=(cell_of_row _ _ _ _ _ _ hBB).trans rfl
 have c3 : w3.cell? ⟨B,3,none⟩ = some (.int .i64 x3):=(cell_of_row _ _ _ _ _ _ hBB).trans rfl
 have c4 : w3.cell? ⟨B,4,none⟩ = some (.int .i64 x4):=(cell_of_row _ _ _ _ _ _ hBB).trans rfl
 clear hBB
 go_wp2_with fail
 go_quiet (fail)
 go_wp2_with fail
 go_ret
 exact ⟨_,rfl,⟨x0,x1,x2,x3,x4,rfl,rfl⟩,T3.out.drewN _,R3.out.drewN _⟩
set_option maxRecDepth 100000 in
set_option maxHeartbeats 2000000 in
theorem cmd_window {w : World} {R g c : Nat} {L : List (ByteArray × Nat)} {fin : Nat} (h : RS w R g c L 0 (-1) fin) {k : Nat} (hL : L[0]? = some (⟨#[119,105,110,100,111,119]⟩,k)) :
   Calls Tryz.prog 46 #[.pointer (some ⟨R,0,none⟩)] w (CPost w R g c L (.open_ (runNums L fin 5 1 (-1)).1) (runNums L fin 5 1 (-1)).2.1 (runNums L fin 5 1 (-1)).2.2 fin):=by
 have K1:=Lib.hid (next_any h)
 rw [nextS_zero hL,nextB_zero hL] at K1
 clear hL h
 simp only at K1
 go_enter Tryz.func46,Tryz.ntmps46
 go_wp2_with fail
 refine K1.out.mono ?_
 rintro e w1 ⟨rfl,ht1,hr1⟩
 have r1:=hr1.c1
 have r2:=hr1.f 1
 have R2:=Lib.hid (hr1.set1 1 (by omega))
 have T2:=Lib.hid (ht1.trans (Turn.of_only (Only.store w1 R 1 (.int .i64 ((1 : Nat) : Int)))))
 clear K1 ht1 hr1
 have KN:=Lib.hid (nums_any 5 (by omega) mk5 R2.out (by omega))
 have HL:=Lib.hid (runNums_len L fin 5 1 (-1))
 generalize hrn : runNums L fin 5 1 (-1) = st at *
 clear hrn
 obtain ⟨l,a,b⟩:=st
 simp only at KN HL
 go_wp2_with fail
 refine KN.out.mono ?_
 clear r1 r2
 rintro e w3 ⟨B,rfl,hB1,hBR,hBB,ht3,hr3⟩
 have T3:=Lib.hid (T2.out.trans ht3)
 have R3:=Lib.hid hr3
 clear ht3 hr3 KN T2 R2
 obtain ⟨x0,x1,x2,x3,x4,rfl⟩:=len5 HL.out
 have HBB:=Lib.hid hBB
 have c0 : w3.cell? ⟨B,0,none⟩ = some (.int .i64 x0):=(cell_of_row _ _ _ _ _ _ hBB).trans rfl
 have c1 : w3.cell? ⟨B,1,none⟩ = some (.int .i64 x1):=(cell_of_row _ _ _ _ _ _ hBB).trans rfl
 have c2 : w3.cell? ⟨B,2,none⟩ = some (.int .i64 x2):=(cell_of_row _ _ _ _ _ _ hBB).trans rfl
 have c3 : w3.cell? ⟨B,3,none⟩ = some (.int .i64 x3):=(cell_of_row _ _ _ _ _ _ hBB).trans rfl
 have c4 : w3.cell? ⟨B,4,none⟩ = some (.int .i64 x4):=(cell_of_row _ _ _ _ _ _ hBB).trans rfl
 clear hBB
 go_wp2_with fail
 go_quiet (fail)
 go_wp2_with fail
 go_ret
 exact ⟨_,rfl,⟨x0,x1,x2,x3,x4,rfl,rfl⟩,T3.out.drewN _,R3.out.drewN _⟩
set_option maxRecDepth 100000 in
set_option maxHeartbeats 2000000 in
theorem cmd_add {w : World} {R g c : Nat} {L : List (ByteArray × Nat)} {fin : Nat} (h : RS w R g c L 0 (-1) fin) {k : Nat} (hL : L[0]? = some (⟨#[97,100,100]⟩,k)) :
   Calls Tryz.prog 46 #[.pointer (some ⟨R,0,none⟩)] w (CPost w R g c L (.add (runAdd L fin 1 (-1))) (runAdd L fin 1 (-1)).at_ (runAdd L fin 1 (-1)).bad fin):=by
 have K1:=Lib.hid (next_any h)
 rw [nextS_zero hL,nextB_zero hL] at K1
 clear hL h
 simp only at K1
 go_enter Tryz.func46,Tryz.ntmps46
 go_wp2_with fail
 refine K1.out.mono ?_
 rintro e w1 ⟨rfl,ht1,hr1⟩
 have r1:=hr1.c1
 have r2:=hr1.f 1
 have R2:=Lib.hid (hr1.set1 1 (by omega))
 have T2:=Lib.hid (ht1.trans (Turn.of_only (Only.store w1 R 1 (.int .i64 ((1 : Nat) : Int)))))
 clear K1 ht1 hr1
 have KA:=Lib.hid (addr_any R2.out (by omega))
 generalize runAdd L fin 1 (-1) = r at *
 unfold addV at KA
 go_wp2_with fail
 refine KA.out.mono ?_
 clear r1 r2
 rintro e w3 ⟨rfl,ht3,hr3⟩
 have T3:=Lib.hid (T2.out.trans ht3)
 have R3:=Lib.hid hr3
 clear ht3 hr3 KA T2 R2
 go_wp2_with fail
 go_ret
 exact ⟨_,rfl,rfl,T3.out,R3.out⟩
set_option maxRecDepth 100000 in
set_option maxHeartbeats 2000000 in
theorem cmd_tick {w : World} {R g c : Nat} {L : List (ByteArray × Nat)} {fin : Nat} (h : RS w R g c L 0 (-1) fin) {k : Nat} (hL : L[0]? = some (⟨#[116,105,99,107]⟩,k)) :
   Calls Tryz.prog 46 #[.pointer (some ⟨R,0,none⟩)] w (CPost w R g c L .tick 1 (-1) fin):=by
 have K1:=Lib.hid (next_any h)
 rw [nextS_zero hL,nextB_zero hL] at K1
 clear hL h
 simp only at K1
 go_enter Tryz.func46,Tryz.ntmps46
 go_wp2_with fail
 refine K1.out.mono ?_
 rintro e w1 ⟨rfl,ht1,hr1⟩
 have r1:=hr1.c1
 have r2:=hr1.f 1
 have R2:=Lib.hid (hr1.set1 1 (by omega))
 have T2:=Lib.hid (ht1.trans (Turn.of_only (Only.store w1 R 1 (.int .i64 ((1 : Nat) : Int)))))
 clear K1 ht1 hr1
 go_wp2_with fail
 go_ret
 exact ⟨_,rfl,rfl,T2.out,R2.out⟩
set_option maxRecDepth 100000 in
set_option maxHeartbeats 2000000 in
theorem cmd_total {w : World} {R g c : Nat} {L : List (ByteArray × Nat)} {fin : Nat} (h : RS w R g c L 0 (-1) fin) {k : Nat} (hL : L[0]? = some (⟨#[116,111,116,97,108]⟩,k)) :
   Calls Tryz.prog 46 #[.pointer (some ⟨R,0,none⟩)] w (CPost w R g c L (.query ⟨#[116,111,116,97,108]⟩ (numR L 1 (-1)) []) (numA L 1 (-1)) (numE L 1 (-1) fin) fin):=by
 have K1:=Lib.hid (next_any h)
 rw [nextS_zero hL,nextB_zero hL] at K1
 clear hL h
 simp only at K1
 go_enter Tryz.func46,Tryz.ntmps46
 go_wp2_with fail
 refine K1.out.mono ?_
 rintro e w1 ⟨rfl,ht1,hr1⟩
 have r1:=hr1.c1
 have r2:=hr1.f 1
 have R2:=Lib.hid (hr1.set1 1 (by omega))
 have T2:=Lib.hid (ht1.trans (Turn.of_only (Only.store w1 R 1 (.int .i64 ((1 : Nat) : Int)))))
 clear K1 ht1 hr1
 have KN:=Lib.hid (num_any R2.out (by omega))
 go_wp2_with fail
 refine KN.out.mono ?_
 clear r1 r2
 rintro e w3 ⟨rfl,ht3,hr3⟩
 have T3:=Lib.hid (T2.out.trans ht3)
 have R3:=Lib.hid hr3
 clear ht3 hr3 KN T2 R2
 go_wp2_with fail
 go_ret
 exact ⟨_,rfl,⟨none,0,rfl,Row.nil _ _⟩,T3.out,R3.out⟩
set_option maxRecDepth 100000 in
set_option maxHeartbeats 2000000 in
theorem cmd_export {w : World} {R g c : Nat} {L : List (ByteArray × Nat)} {fin : Nat} (h : RS w R g c L 0 (-1) fin) {k : Nat} (hL : L[0]? = some (⟨#[101,120,112,111,114,116]⟩,k)) :
   Calls Tryz.prog 46 #[.pointer (some ⟨R,0,none⟩)] w (CPost w R g c L (.query ⟨#[101,120,112,111,114,116]⟩ (numR L 1 (-1)) []) (numA L 1 (-1)) (numE L 1 (-1) fin) fin):=by
 have K1:=Lib.hid (next_any h)
 rw [nextS_zero hL,nextB_zero hL] at K1
 clear hL h
 simp only at K1
 go_enter Tryz.func46,Tryz.ntmps46
 go_wp2_with fail
 refine K1.out.mono ?_
 rintro e w1 ⟨rfl,ht1,hr1⟩
 have r1:=hr1.c1
 have r2:=hr1.f 1
 have R2:=Lib.hid (hr1.set1 1 (by omega))
 have T2:=Lib.hid (ht1.trans (Turn.of_only (Only.store w1 R 1 (.int .i64 ((1 : Nat) : Int)))))
 clear K1 ht1 hr1
 have KN:=Lib.hid (num_any R2.out (by omega))
 go_wp2_with fail
 refine KN.out.mono ?_
 clear r1 r2
 rintro e w3 ⟨rfl,ht3,hr3⟩
 have T3:=Lib.hid (T2.out.trans ht3)
 have R3:=Lib.hid hr3
 clear ht3 hr3 KN T2 R2
 go_wp2_with fail
 go_ret
 exact ⟨_,rfl,⟨none,0,rfl,Row.nil _ _⟩,T3.out,R3.out⟩
set_option maxRecDepth 100000 in
set_option maxHeartbeats 2000000 in
theorem cmd_drop {w : World} {R g c : Nat} {L : List (ByteArray × Nat)} {fin : Nat} (h : RS w R g c L 0 (-1) fin) {k : Nat} (hL : L[0]? = some (⟨#[100,114,111,112]⟩,k)) :
   Calls Tryz.prog 46 #[.pointer (some ⟨R,0,none⟩)] w (CPost w R g c L (.query ⟨#[100,114,111,112]⟩ (numR L 1 (-1)) []) (numA L 1 (-1)) (numE L 1 (-1) fin) fin):=by
 have K1:=Lib.hid (next_any h)
 rw [nextS_zero hL,nextB_zero hL] at K1
 clear hL h
 simp only at K1
 go_enter Tryz.func46,Tryz.ntmps46
 go_wp2_with fail
 refine K1.out.mono ?_
 rintro e w1 ⟨rfl,ht1,hr1⟩
 have r1:=hr1.c1
 have r2:=hr1.f 1
 have R2:=Lib.hid (hr1.set1 1 (by omega))
 have T2:=Lib.hid (ht1.trans (Turn.of_only (Only.store w1 R 1 (.int .i64 ((1 : Nat) : Int)))))
 clear K1 ht1 hr1
 have KN:=Lib.hid (num_any R2.out (by omega))
 go_wp2_with fail
 refine KN.out.mono ?_
 clear r1 r2
 rintro e w3 ⟨rfl,ht3,hr3⟩
 have T3:=Lib.hid (T2.out.trans ht3)
 have R3:=Lib.hid hr3
 clear ht3 hr3 KN T2 R2
 go_wp2_with fail
 go_ret
 exact ⟨_,rfl,⟨none,0,rfl,Row.nil _ _⟩,T3.out,R3.out⟩
def hd0 (l : List Int) : Int:=l.headD 0
set_option maxRecDepth 100000 in
set_option maxHeartbeats 2000000 in
theorem cmd_quantile {w : World} {R g c : Nat} {L : List (ByteArray × Nat)} {fin : Nat} (h : RS w R g c L 0 (-1) fin) {k : Nat} (hL : L[0]? = some (⟨#[113,117,97,110,116,105,108,101]⟩,k)) :
   Calls Tryz.prog 46 #[.pointer (some ⟨R,0,none⟩)] w (CPost w R g c L (.query ⟨#[113,117,97,110,116,105,108,101]⟩ (hd0 (runNums L fin 2 1 (-1)).1) (runNums L fin 2 1 (-1)).1.tail) (runNums L fin 2 1 (-1)).2.1 (runNums L fin 2 1 (-1)).2.2 fin):=by
 have K1:=Lib.hid (next_any h)
 rw [nextS_zero hL,nextB_zero hL] at K1
 clear hL h
 simp only at K1
 go_enter Tryz.func46,Tryz.ntmps46
 go_wp2_with fail
 refine K1.out.mono ?_
 rintro e w1 ⟨rfl,ht1,hr1⟩
 have r1:=hr1.c1
 have r2:=hr1.f 1
 have R2:=Lib.hid (hr1.set1 1 (by omega))
 have T2:=Lib.hid (ht1.trans (Turn.of_only (Only.store w1 R 1 (.int .i64 ((1 : Nat) : Int)))))
 clear K1 ht1 hr1
 have KN:=Lib.hid (nums_any 2 (by omega) mk2 R2.out (by omega))
 have HL:=Lib.hid (runNums_len L fin 2 1 (-1))
 generalize hrn : runNums L fin 2 1 (-1) = st at *
 clear hrn
 obtain ⟨l,a,b⟩:=st
 simp only at KN HL
 go_wp2_with fail
 refine KN.out.mono ?_
 clear r1 r2
 rintro e w3 ⟨B,rfl,hB1,hBR,hBB,ht3,hr3⟩
 have T3:=Lib.hid (T2.out.trans ht3)
 have R3:=Lib.hid hr3
 clear ht3 hr3 KN T2 R2
 obtain ⟨x0,x1,rfl⟩:=len2 HL.out
 have HBB:=Lib.hid hBB
 have c0 : w3.cell? ⟨B,0,none⟩ = some (.int .i64 x0):=(cell_of_row _ _ _ _ _ _ hBB).trans rfl
 have c1 : w3.cell? ⟨B,1,none⟩ = some (.int .i64 x1):=(cell_of_row _ _ _ _ _ _ hBB).trans rfl
 clear hBB
 have hrow : ∀ nq,Row (w3.drewN nq) (some ⟨B,1,none⟩) 1 ([x1].map i64v):=by
   intro nq
   refine ⟨rfl,fun i x hx => ⟨B,1,rfl,?_,lt_of_block HBB.out⟩⟩
   have h1 : w3.cell? ⟨B,1 + i,none⟩ = _:=cell_of_row _ _ _ _ _ _ HBB.out
   refine h1.trans ?_
   rw [← hx]
   match i with
   | 0 => rfl
   | i + 1 => rw [show 1 + (i + 1) = i + 2 by omega]; rfl
 have HROW:=Lib.hid hrow; clear hrow
 go_wp2_with fail
 go_quiet (fail)
 go_wp2_with fail
 go_ret
 exact ⟨_,rfl,⟨_,_,rfl,HROW.out _⟩,T3.out.drewN _,R3.out.drewN _⟩
set_option maxRecDepth 100000 in
set_option maxHeartbeats 2000000 in
theorem cmd_point {w : World} {R g c : Nat} {L : List (ByteArray × Nat)} {fin : Nat} (h : RS w R g c L 0 (-1) fin) {k : Nat} (hL : L[0]? = some (⟨#[112,111,105,110,116]⟩,k)) :
   Calls Tryz.prog 46 #[.pointer (some ⟨R,0,none⟩)] w (CPost w R g c L (.query ⟨#[112,111,105,110,116]⟩ (hd0 (runNums L fin 3 1 (-1)).1) (runNums L fin 3 1 (-1)).1.tail) (runNums L fin 3 1 (-1)).2.1 (runNums L fin 3 1 (-1)).2.2 fin):=by
 have K1:=Lib.hid (next_any h)
 rw [nextS_zero hL,nextB_zero hL] at K1
 clear hL h
 simp only at K1
 go_enter Tryz.func46,Tryz.ntmps46
 go_wp2_with fail
 refine K1.out.mono ?_
 rintro e w1 ⟨rfl,ht1,hr1⟩
 have r1:=hr1.c1
 have r2:=hr1.f 1
 have R2:=Lib.hid (hr1.set1 1 (by omega))
 have T2:=Lib.hid (ht1.trans (Turn.of_only (Only.store w1 R 1 (.int .i64 ((1 : Nat) : Int)))))
 clear K1 ht1 hr1
 have KN:=Lib.hid (nums_any 3 (by omega) mk3 R2.out (by omega))
 have HL:=Lib.hid (runNums_len L fin 3 1 (-1))
 generalize hrn : runNums L fin 3 1 (-1) = st at *
 clear hrn
 obtain ⟨l,a,b⟩:=st
 simp only at KN HL
 go_wp2_with fail
 refine KN.out.mono ?_
 clear r1 r2
 rintro e w3 ⟨B,rfl,hB1,hBR,hBB,ht3,hr3⟩
 have T3:=Lib.hid (T2.out.trans ht3)
 have R3:=Lib.hid hr3
 clear ht3 hr3 KN T2 R2
 obtain ⟨x0,x1,x2,rfl⟩:=len3 HL.out
 have HBB:=Lib.hid hBB
 have c0 : w3.cell? ⟨B,0,none⟩ = some (.int .i64 x0):=(cell_of_row _ _ _ _ _ _ hBB).trans rfl
 have c1 : w3.cell? ⟨B,1,none⟩ = some (.int .i64 x1):=(cell_of_row _ _ _ _ _ _ hBB).trans rfl
 have c2 : w3.cell? ⟨B,2,none⟩ = some (.int .i64 x2):=(cell_of_row _ _ _ _ _ _ hBB).trans rfl
 clear hBB
 have hrow : ∀ nq,Row (w3.drewN nq) (some ⟨B,1,none⟩) 2 ([x1,x2].map i64v):=by
   intro nq
   refine ⟨rfl,fun i x hx => ⟨B,1,rfl,?_,lt_of_block HBB.out⟩⟩
   have h1 : w3.cell? ⟨B,1 + i,none⟩ = _:=cell_of_row _ _ _ _ _ _ HBB.out
   refine h1.trans ?_
   rw [← hx]
   match i with
   | 0 => rfl
   | 1 => rfl
   | i + 2 => rw [show 1 + (i + 2) = i + 3 by omega]; rfl
 have HROW:=Lib.hid hrow; clear hrow
 go_wp2_with fail
 go_quiet (fail)
 go_wp2_with fail
 go_ret
 exact ⟨_,rfl,⟨_,_,rfl,HROW.out _⟩,T3.out.drewN _,R3.out.drewN _⟩
set_option maxRecDepth 100000 in
set_option maxHeartbeats 2000000 in
theorem cmd_range {w : World} {R g c : Nat} {L : List (ByteArray × Nat)} {fin : Nat} (h : RS w R g c L 0 (-1) fin) {k : Nat} (hL : L[0]? = some (⟨#[114,97,110,103,101]⟩,k)) :
   Calls Tryz.prog 46 #[.pointer (some ⟨R,0,none⟩)] w (CPost w R g c L (.query ⟨#[114,97,110,103,101]⟩ (hd0 (runNums L fin 3 1 (-1)).1) (runNums L fin 3 1 (-1)).1.tail) (runNums L fin 3 1 (-1)).2.1 (runNums L fin 3 1 (-1)).2.2 fin):=by
 have K1:=Lib.hid (next_any h)
 rw [nextS_zero hL,nextB_zero hL] at K1
 clear hL h
 simp only at K1
 go_enter Tryz.func46,Tryz.ntmps46
 go_wp2_with fail
 refine K1.out.mono ?_
 rintro e w1 ⟨rfl,ht1,hr1⟩
 have r1:=hr1.c1
 have r2:=hr1.f 1
 have R2:=Lib.hid (hr1.set1 1 (by omega))
 have T2:=Lib.hid (ht1.trans (Turn.of_only (Only.store w1 R 1 (.int .i64 ((1 : Nat) : Int)))))
 clear K1 ht1 hr1
 have KN:=Lib.hid (nums_any 3 (by omega) mk3 R2.out (by omega))
 have HL:=Lib.hid (runNums_len L fin 3 1 (-1))
 generalize hrn : runNums L fin 3 1 (-1) = st at *
 clear hrn
 obtain ⟨l,a,b⟩:=st
 simp only at KN HL
 go_wp2_with fail
 refine KN.out.mono ?_
 clear r1 r2
 rintro e w3 ⟨B,rfl,hB1,hBR,hBB,ht3,hr3⟩
 have T3:=Lib.hid (T2.out.trans ht3)
 have R3:=Lib.hid hr3
 clear ht3 hr3 KN T2 R2
 obtain ⟨x0,x1,x2,rfl⟩:=len3 HL.out
 have HBB:=Lib.hid hBB
 have c0 : w3.cell? ⟨B,0,none⟩ = some (.int .i64 x0):=(cell_of_row _ _ _ _ _ _ hBB).trans rfl
 have c1 : w3.cell? ⟨B,1,none⟩ = some (.int .i64 x1):=(cell_of_row _ _ _ _ _ _ hBB).trans rfl
 have c2 : w3.cell? ⟨B,2,none⟩ = some (.int .i64 x2):=(cell_of_row _ _ _ _ _ _ hBB).trans rfl
 clear hBB
 have hrow : ∀ nq,Row (w3.drewN nq) (some ⟨B,1,none⟩) 2 ([x1,x2].map i64v):=by
   intro nq
   refine ⟨rfl,fun i x hx => ⟨B,1,rfl,?_,lt_of_block HBB.out⟩⟩
   have h1 : w3.cell? ⟨B,1 + i,none⟩ = _:=cell_of_row _ _ _ _ _ _ HBB.out
   refine h1.trans ?_
   rw [← hx]
   match i with
   | 0 => rfl
   | 1 => rfl
   | i + 2 => rw [show 1 + (i + 2) = i + 3 by omega]; rfl
 have HROW:=Lib.hid hrow; clear hrow
 go_wp2_with fail
 go_quiet (fail)
 go_wp2_with fail
 go_ret
 exact ⟨_,rfl,⟨_,_,rfl,HROW.out _⟩,T3.out.drewN _,R3.out.drewN _⟩
set_option maxRecDepth 100000 in
set_option maxHeartbeats 2000000 in
theorem cmd_heavy {w : World} {R g c : Nat} {L : List (ByteArray × Nat)} {fin : Nat} (h : RS w R g c L 0 (-1) fin) {k : Nat} (hL : L[0]? = some (⟨#[104,101,97,118,121]⟩,k)) :
   Calls Tryz.prog 46 #[.pointer (some ⟨R,0,none⟩)] w (CPost w R g c L (.query ⟨#[104,101,97,118,121]⟩ (hd0 (runNums L fin 3 1 (-1)).1) (runNums L fin 3 1 (-1)).1.tail) (runNums L fin 3 1 (-1)).2.1 (runNums L fin 3 1 (-1)).2.2 fin):=by
 have K1:=Lib.hid (next_any h)
 rw [nextS_zero hL,nextB_zero hL] at K1
 clear hL h
 simp only at K1
 go_enter Tryz.func46,Tryz.ntmps46
 go_wp2_with fail
 refine K1.out.mono ?_
 rintro e w1 ⟨rfl,ht1,hr1⟩
 have r1:=hr1.c1
 have r2:=hr1.f 1
 have R2:=Lib.hid (hr1.set1 1 (by omega))
 have T2:=Lib.hid (ht1.trans (Turn.of_only (Only.store w1 R 1 (.int .i64 ((1 : Nat) : Int)))))
 clear K1 ht1 hr1
 have KN:=Lib.hid (nums_any 3 (by omega) mk3 R2.out (by omega))
 have HL:=Lib.hid (runNums_len L fin 3 1 (-1))
 generalize hrn : runNums L fin 3 1 (-1) = st at *
 clear hrn
 obtain ⟨l,a,b⟩:=st
 simp only at KN HL
 go_wp2_with fail
 refine KN.out.mono ?_
 clear r1 r2
 rintro e w3 ⟨B,rfl,hB1,hBR,hBB,ht3,hr3⟩
 have T3:=Lib.hid (T2.out.trans ht3)
 have R3:=Lib.hid hr3
 clear ht3 hr3 KN T2 R2
 obtain ⟨x0,x1,x2,rfl⟩:=len3 HL.out
 have HBB:=Lib.hid hBB
 have c0 : w3.cell? ⟨B,0,none⟩ = some (.int .i64 x0):=(cell_of_row _ _ _ _ _ _ hBB).trans rfl
 have c1 : w3.cell? ⟨B,1,none⟩ = some (.int .i64 x1):=(cell_of_row _ _ _ _ _ _ hBB).trans rfl
 have c2 : w3.cell? ⟨B,2,none⟩ = some (.int .i64 x2):=(cell_of_row _ _ _ _ _ _ hBB).trans rfl
 clear hBB
 have hrow : ∀ nq,Row (w3.drewN nq) (some ⟨B,1,none⟩) 2 ([x1,x2].map i64v):=by
   intro nq
   refine ⟨rfl,fun i x hx => ⟨B,1,rfl,?_,lt_of_block HBB.out⟩⟩
   have h1 : w3.cell? ⟨B,1 + i,none⟩ = _:=cell_of_row _ _ _ _ _ _ HBB.out
   refine h1.trans ?_
   rw [← hx]
   match i with
   | 0 => rfl
   | 1 => rfl
   | i + 2 => rw [show 1 + (i + 2) = i + 3 by omega]; rfl
 have HROW:=Lib.hid hrow; clear hrow
 go_wp2_with fail
 go_quiet (fail)
 go_wp2_with fail
 go_ret
 exact ⟨_,rfl,⟨_,_,rfl,HROW.out _⟩,T3.out.drewN _,R3.out.drewN _⟩
set_option maxRecDepth 100000 in
set_option maxHeartbeats 2000000 in
theorem cmd_inner {w : World} {R g c : Nat} {L : List (ByteArray × Nat)} {fin : Nat} (h : RS w R g c L 0 (-1) fin) {k : Nat} (hL : L[0]? = some (⟨#[105,110,110,101,114]⟩,k)) :
   Calls Tryz.prog 46 #[.pointer (some ⟨R,0,none⟩)] w (CPost w R g c L (.pair ⟨#[105,110,110,101,114]⟩ (hd0 (runNums L fin 2 1 (-1)).1) (hd0 (runNums L fin 2 1 (-1)).1.tail)) (runNums L fin 2 1 (-1)).2.1 (runNums L fin 2 1 (-1)).2.2 fin):=by
 have K1:=Lib.hid (next_any h)
 rw [nextS_zero hL,nextB_zero hL] at K1
 clear hL h
 simp only at K1
 go_enter Tryz.func46,Tryz.ntmps46
 go_wp2_with fail
 refine K1.out.mono ?_
 rintro e w1 ⟨rfl,ht1,hr1⟩
 have r1:=hr1.c1
 have r2:=hr1.f 1
 have R2:=Lib.hid (hr1.set1 1 (by omega))
 have T2:=Lib.hid (ht1.trans (Turn.of_only (Only.store w1 R 1 (.int .i64 ((1 : Nat) : Int)))))
 clear K1 ht1 hr1
 have KN:=Lib.hid (nums_any 2 (by omega) mk2 R2.out (by omega))
 have HL:=Lib.hid (runNums_len L fin 2 1 (-1))
 generalize hrn : runNums L fin 2 1 (-1) = st at *
 clear hrn
 obtain ⟨l,a,b⟩:=st
 simp only at KN HL
 go_wp2_with fail
 refine KN.out.mono ?_
 clear r1 r2
 rintro e w3 ⟨B,rfl,hB1,hBR,hBB,ht3,hr3⟩
 have T3:=Lib.hid (T2.out.trans ht3)
 have R3:=Lib.hid hr3
 clear ht3 hr3 KN T2 R2
 obtain ⟨x0,x1,rfl⟩:=len2 HL.out
 have HBB:=Lib.hid hBB
 have c0 : w3.cell? ⟨B,0,none⟩ = some (.int .i64 x0):=(cell_of_row _ _ _ _ _ _ hBB).trans rfl
 have c1 : w3.cell? ⟨B,1,none⟩ = some (.int .i64 x1):=(cell_of_row _ _ _ _ _ _ hBB).trans rfl
 clear hBB
 go_wp2_with fail
 go_quiet (fail)
 go_wp2_with fail
 go_ret
 exact ⟨_,rfl,rfl,T3.out.drewN _,R3.out.drewN _⟩
set_option maxRecDepth 100000 in
set_option maxHeartbeats 2000000 in
theorem cmd_merge {w : World} {R g c : Nat} {L : List (ByteArray × Nat)} {fin : Nat} (h : RS w R g c L 0 (-1) fin) {k : Nat} (hL : L[0]? = some (⟨#[109,101,114,103,101]⟩,k)) :
   Calls Tryz.prog 46 #[.pointer (some ⟨R,0,none⟩)] w (CPost w R g c L (.pair ⟨#[109,101,114,103,101]⟩ (hd0 (runNums L fin 2 1 (-1)).1) (hd0 (runNums L fin 2 1 (-1)).1.tail)) (runNums L fin 2 1 (-1)).2.1 (runNums L fin 2 1 (-1)).2.2 fin):=by
 have K1:=Lib.hid (next_any h)
 rw [nextS_zero hL,nextB_zero hL] at K1
 clear hL h
 simp only at K1
 go_enter Tryz.func46,Tryz.ntmps46
 go_wp2_with fail
 refine K1.out.mono ?_
 rintro e w1 ⟨rfl,ht1,hr1⟩
 have r1:=hr1.c1
 have r2:=hr1.f 1
 have R2:=Lib.hid (hr1.set1 1 (by omega))
 have T2:=Lib.hid (ht1.trans (Turn.of_only (Only.store w1 R 1 (.int .i64 ((1 : Nat) : Int)))))
 clear K1 ht1 hr1
 have KN:=Lib.hid (nums_any 2 (by omega) mk2 R2.out (by omega))
 have HL:=Lib.hid (runNums_len L fin 2 1 (-1))
 generalize hrn : runNums L fin 2 1 (-1) = st at *
 clear hrn
 obtain ⟨l,a,b⟩:=st
 simp only at KN HL
 go_wp2_with fail
 refine KN.out.mono ?_
 clear r1 r2
 rintro e w3 ⟨B,rfl,hB1,hBR,hBB,ht3,hr3⟩
 have T3:=Lib.hid (T2.out.trans ht3)
 have R3:=Lib.hid hr3
 clear ht3 hr3 KN T2 R2
 obtain ⟨x0,x1,rfl⟩:=len2 HL.out
 have HBB:=Lib.hid hBB
 have c0 : w3.cell? ⟨B,0,none⟩ = some (.int .i64 x0):=(cell_of_row _ _ _ _ _ _ hBB).trans rfl
 have c1 : w3.cell? ⟨B,1,none⟩ = some (.int .i64 x1):=(cell_of_row _ _ _ _ _ _ hBB).trans rfl
 clear hBB
 go_wp2_with fail
 go_quiet (fail)
 go_wp2_with fail
 go_ret
 exact ⟨_,rfl,rfl,T3.out.drewN _,R3.out.drewN _⟩
set_option maxRecDepth 100000 in
set_option maxHeartbeats 2000000 in
theorem cmd_subtract {w : World} {R g c : Nat} {L : List (ByteArray × Nat)} {fin : Nat} (h : RS w R g c L 0 (-1) fin) {k : Nat} (hL : L[0]? = some (⟨#[115,117,98,116,114,97,99,116]⟩,k)) :
   Calls Tryz.prog 46 #[.pointer (some ⟨R,0,none⟩)] w (CPost w R g c L (.pair ⟨#[115,117,98,116,114,97,99,116]⟩ (hd0 (runNums L fin 2 1 (-1)).1) (hd0 (runNums L fin 2 1 (-1)).1.tail)) (runNums L fin 2 1 (-1)).2.1 (runNums L fin 2 1 (-1)).2.2 fin):=by
 have K1:=Lib.hid (next_any h)
 rw [nextS_zero hL,nextB_zero hL] at K1
 clear hL h
 simp only at K1
 go_enter Tryz.func46,Tryz.ntmps46
 go_wp2_with fail
 refine K1.out.mono ?_
 rintro e w1 ⟨rfl,ht1,hr1⟩
 have r1:=hr1.c1
 have r2:=hr1.f 1
 have R2:=Lib.hid (hr1.set1 1 (by omega))
 have T2:=Lib.hid (ht1.trans (Turn.of_only (Only.store w1 R 1 (.int .i64 ((1 : Nat) : Int)))))
 clear K1 ht1 hr1
 have KN:=Lib.hid (nums_any 2 (by omega) mk2 R2.out (by omega))
 have HL:=Lib.hid (runNums_len L fin 2 1 (-1))
 generalize hrn : runNums L fin 2 1 (-1) = st at *
 clear hrn
 obtain ⟨l,a,b⟩:=st
 simp only at KN HL
 go_wp2_with fail
 refine KN.out.mono ?_
 clear r1 r2
 rintro e w3 ⟨B,rfl,hB1,hBR,hBB,ht3,hr3⟩
 have T3:=Lib.hid (T2.out.trans ht3)
 have R3:=Lib.hid hr3
 clear ht3 hr3 KN T2 R2
 obtain ⟨x0,x1,rfl⟩:=len2 HL.out
 have HBB:=Lib.hid hBB
 have c0 : w3.cell? ⟨B,0,none⟩ = some (.int .i64 x0):=(cell_of_row _ _ _ _ _ _ hBB).trans rfl
 have c1 : w3.cell? ⟨B,1,none⟩ = some (.int .i64 x1):=(cell_of_row _ _ _ _ _ _ hBB).trans rfl
 clear hBB
 go_wp2_with fail
 go_quiet (fail)
 go_wp2_with fail
 go_ret
 exact ⟨_,rfl,rfl,T3.out.drewN _,R3.out.drewN _⟩
theorem u8_cells {l : List Nat} {i : Nat} {x : Value} (h : (l.map u8v)[i]? = some x) : ∃ n : Int,x = .int .u8 n:=by
 rw [List.getElem?_map,Option.map_eq_some_iff] at h
 obtain ⟨n,_,rfl⟩:=h
 exact ⟨n,rfl⟩
theorem hrow_turn {w w' : World} {R g c : Nat} {L : List (ByteArray × Nat)} {at_ : Nat} {bad : Int} {fin : Nat} {a : Option Addr} {n : Nat} {l : List Nat} (h : Row w a n (l.map u8v)) (hr : RS w R g c L at_ bad fin) (ht : Turn R w w') : Row w' a n (l.map u8v):=by
 refine ⟨h.1,fun i x hx => ?_⟩
 obtain ⟨b,o,e,hc,hlt⟩:=h.2 i x hx
 obtain ⟨z,rfl⟩:=u8_cells hx
 by_cases hb : b = R
 · subst hb
   exfalso
   rw [cell_of_row _ _ _ _ _ _ hr.blk] at hc
   rcases hoi : o + i with _ | _ | _ | _ | k
   · rw [hoi] at hc; simp at hc
   · rw [hoi] at hc; simp at hc
   · rw [hoi] at hc; simp at hc
   · rw [hoi] at hc; simp at hc
   · rw [hoi] at hc; simp at hc
 · exact ⟨b,o,e,by rw [World.cell?_of_block (ht.block b hlt hb)]; exact hc,Nat.lt_of_lt_of_le hlt ht.size⟩
theorem hrow_set {w : World} {R g c : Nat} {L : List (ByteArray × Nat)} {at_ : Nat} {bad : Int} {fin : Nat} {a : Option Addr} {n : Nat} {l : List Nat} (h : Row w a n (l.map u8v)) (hr : RS w R g c L at_ bad fin) (x : Nat) : Row (w.setCell ⟨R,1,none⟩ (.int .i64 x)) a n (l.map u8v):=
 hrow_turn h hr (Turn.of_only (Only.store w R 1 _))
set_option maxRecDepth 100000 in
set_option maxHeartbeats 2000000 in
theorem cmd_import_yes {w : World} {R g c : Nat} {L : List (ByteArray × Nat)} {fin : Nat} (h : RS w R g c L 0 (-1) fin) {k : Nat} (hL : L[0]? = some (⟨#[105,109,112,111,114,116]⟩,k)) (hB : hexB (nextS L 1 (-1)) = true) :
   Calls Tryz.prog 46 #[.pointer (some ⟨R,0,none⟩)] w (CPost w R g c L (.imp (hexL (nextS L 1 (-1)))) 2 (nextB L 1 (-1) fin) fin):=by
 have K1:=Lib.hid (next_any h)
 rw [nextS_zero hL,nextB_zero hL] at K1
 clear hL h
 simp only at K1
 go_enter Tryz.func46,Tryz.ntmps46
 go_wp2_with fail
 refine K1.out.mono ?_
 rintro e w1 ⟨rfl,ht1,hr1⟩
 have r1:=hr1.c1
 have r2:=hr1.f 1
 have R2:=Lib.hid (hr1.set1 1 (by omega))
 have T2:=Lib.hid (ht1.trans (Turn.of_only (Only.store w1 R 1 (.int .i64 ((1 : Nat) : Int)))))
 clear K1 ht1 hr1
 have KX:=Lib.hid (next_any R2.out)
 have hsz:=nextS_size R2.out
 have KB:=Lib.hid (fun w => bytes_any (nextS L 1 (-1)) w hsz)
 unfold HexPost at KB
 rw [hB] at KB
 clear hB hsz
 generalize nextB L 1 (-1) fin = nb at *
 generalize nextS L 1 (-1) = ns at *
 generalize hexL ns = hl at *
 go_wp2_with fail
 refine KX.out.mono ?_
 clear r1 r2
 rintro e w3 ⟨rfl,ht3,hr3⟩
 have T3:=Lib.hid (T2.out.trans ht3)
 have R3:=Lib.hid hr3
 clear ht3 hr3 KX T2 R2
 go_wp2_with fail
 refine (KB.out _).mono ?_
 rintro e w4 ⟨ha,hc,rfl,hrow,hb4⟩
 have T4:=Lib.hid (T3.out.trans (Turn.of_below hb4))
 have R4:=Lib.hid (R3.out.below hb4)
 have HROW:=Lib.hid hrow
 clear hb4 hrow T3 R3 KB
 have r1:=R4.out.c1
 have r2:=R4.out.f 1
 have R5:=Lib.hid (R4.out.set1 2 (by omega))
 have HRW:=Lib.hid (hrow_set HROW.out R4.out 2)
 go_wp2_with fail
 go_ret
 exact ⟨_,rfl,⟨ha,hc,rfl,HRW.out⟩,T4.out.trans (Turn.of_only (Only.store _ R 1 (.int .i64 ((2 : Nat) : Int)))),R5.out⟩
set_option maxRecDepth 100000 in
set_option maxHeartbeats 2000000 in
theorem cmd_import_no {w : World} {R g c : Nat} {L : List (ByteArray × Nat)} {fin : Nat} (h : RS w R g c L 0 (-1) fin) {k : Nat} (hL : L[0]? = some (⟨#[105,109,112,111,114,116]⟩,k)) (hB : hexB (nextS L 1 (-1)) = false) :
   Calls Tryz.prog 46 #[.pointer (some ⟨R,0,none⟩)] w (CPost w R g c L (.imp (hexL (nextS L 1 (-1)))) 2 (badOf L 1 (nextB L 1 (-1) fin) fin) fin):=by
 have K1:=Lib.hid (next_any h)
 rw [nextS_zero hL,nextB_zero hL] at K1
 clear hL h
 simp only at K1
 go_enter Tryz.func46,Tryz.ntmps46
 go_wp2_with fail
 refine K1.out.mono ?_
 rintro e w1 ⟨rfl,ht1,hr1⟩
 have r1:=hr1.c1
 have r2:=hr1.f 1
 have R2:=Lib.hid (hr1.set1 1 (by omega))
 have T2:=Lib.hid (ht1.trans (Turn.of_only (Only.store w1 R 1 (.int .i64 ((1 : Nat) : Int)))))
 clear K1 ht1 hr1
 have KX:=Lib.hid (next_any R2.out)
 have hsz:=nextS_size R2.out
 have KB:=Lib.hid (fun w => bytes_any (nextS L 1 (-1)) w hsz)
 unfold HexPost at KB
 rw [hB] at KB
 clear hB hsz
 generalize nextB L 1 (-1) fin = nb at *
 generalize nextS L 1 (-1) = ns at *
 generalize hexL ns = hl at *
 go_wp2_with fail
 refine KX.out.mono ?_
 clear r1 r2
 rintro e w3 ⟨rfl,ht3,hr3⟩
 have T3:=Lib.hid (T2.out.trans ht3)
 have R3:=Lib.hid hr3
 clear ht3 hr3 KX T2 R2
 go_wp2_with fail
 refine (KB.out _).mono ?_
 rintro e w4 ⟨ha,hc,rfl,hrow,hb4⟩
 have T4:=Lib.hid (T3.out.trans (Turn.of_below hb4))
 have R4:=Lib.hid (R3.out.below hb4)
 have HROW:=Lib.hid hrow
 clear hb4 hrow T3 R3 KB
 have KF:=Lib.hid (fail_any R4.out)
 go_wp2_with fail
 refine KF.out.mono ?_
 rintro e w5 ⟨rfl,ht5,hr5⟩
 have HRW0:=Lib.hid (hrow_turn HROW.out R4.out ht5)
 have T5:=Lib.hid (T4.out.trans ht5)
 have R5:=Lib.hid hr5
 clear ht5 hr5 KF
 have r1:=R5.out.c1
 have r2:=R5.out.f 1
 have R6:=Lib.hid (R5.out.set1 2 (by omega))
 have HRW:=Lib.hid (hrow_set HRW0.out R5.out 2)
 go_wp2_with fail
 go_ret
 exact ⟨_,rfl,⟨ha,hc,rfl,HRW.out⟩,T5.out.trans (Turn.of_only (Only.store _ R 1 (.int .i64 ((2 : Nat) : Int)))),R6.out⟩
def verbs : List (List UInt8):=[[99,114,101,97,116,101],[119,105,110,100,111,119],[97,100,100],[116,105,99,107],[116,111,116,97,108],[101,120,112,111,114,116],[100,114,111,112],[113,117,97,110,116,105,108,101],[112,111,105,110,116],[114,97,110,103,101],[104,101,97,118,121],[105,110,110,101,114],[109,101,114,103,101],[115,117,98,116,114,97,99,116],[105,109,112,111,114,116]]
set_option maxRecDepth 100000 in
set_option maxHeartbeats 2000000 in
theorem cmd_none {w : World} {R g c : Nat} {L : List (ByteArray × Nat)} {fin : Nat} (h : RS w R g c L 0 (-1) fin) {s : ByteArray} {k : Nat} (hL : L[0]? = some (s,k)) (hv : s.data.toList ∉ verbs) :
   Calls Tryz.prog 46 #[.pointer (some ⟨R,0,none⟩)] w (RPost .nilIface w R g c L 0 (k : Int) fin):=by
 have K1:=Lib.hid (next_any h)
 rw [nextS_zero hL,nextB_zero hL] at K1
 simp only at K1
 have v0 : (s.toList == [99,114,101,97,116,101]) = false:=by rw [beq_eq_false_iff_ne,ByteArray.toList_eq]; intro hh; exact hv (by rw [hh]; decide)
 have v1 : (s.toList == [119,105,110,100,111,119]) = false:=by rw [beq_eq_false_iff_ne,ByteArray.toList_eq]; intro hh; exact hv (by rw [hh]; decide)
 have v2 : (s.toList == [97,100,100]) = false:=by rw [beq_eq_false_iff_ne,ByteArray.toList_eq]; intro hh; exact hv (by rw [hh]; decide)
 have v3 : (s.toList == [116,105,99,107]) = false:=by rw [beq_eq_false_iff_ne,ByteArray.toList_eq]; intro hh; exact hv (by rw [hh]; decide)
 have v4 : (s.toList == [116,111,116,97,108]) = false:=by rw [beq_eq_false_iff_ne,ByteArray.toList_eq]; intro hh; exact hv (by rw [hh]; decide)
 have v5 : (s.toList == [101,120,112,111,114,116]) = false:=by rw [beq_eq_false_iff_ne,ByteArray.toList_eq]; intro hh; exact hv (by rw [hh]; decide)
 have v6 : (s.toList == [100,114,111,112]) = false:=by rw [beq_eq_false_iff_ne,ByteArray.toList_eq]; intro hh; exact hv (by rw [hh]; decide)
 have v7 : (s.toList == [113,117,97,110,116,105,108,101]) = false:=by rw [beq_eq_false_iff_ne,ByteArray.toList_eq]; intro hh; exact hv (by rw [hh]; decide)
 have v8 : (s.toList == [112,111,105,110,116]) = false:=by rw [beq_eq_false_iff_ne,ByteArray.toList_eq]; intro hh; exact hv (by rw [hh]; decide)
 have v9 : (s.toList == [114,97,110,103,101]) = false:=by rw [beq_eq_false_iff_ne,ByteArray.toList_eq]; intro hh; exact hv (by rw [hh]; decide)
 have v10 : (s.toList == [104,101,97,118,121]) = false:=by rw [beq_eq_false_iff_ne,ByteArray.toList_eq]; intro hh; exact hv (by rw [hh]; decide)
 have v11 : (s.toList == [105,110,110,101,114]) = false:=by rw [beq_eq_false_iff_ne,ByteArray.toList_eq]; intro hh; exact hv (by rw [hh]; decide)
 have v12 : (s.toList == [109,101,114,103,101]) = false:=by rw [beq_eq_false_iff_ne,ByteArray.toList_eq]; intro hh; exact hv (by rw [hh]; decide)
 have v13 : (s.toList == [115,117,98,116,114,97,99,116]) = false:=by rw [beq_eq_false_iff_ne,ByteArray.toList_eq]; intro hh; exact hv (by rw [hh]; decide)
 have v14 : (s.toList == [105,109,112,111,114,116]) = false:=by rw [beq_eq_false_iff_ne,ByteArray.toList_eq]; intro hh; exact hv (by rw [hh]; decide)
 have HBD:=Lib.hid (show badOf L 0 (-1) fin = (k : Int) by unfold badOf; rw [if_neg (by omega),hL])
 clear hL h hv
 go_enter Tryz.func46,Tryz.ntmps46
 go_wp2_with fail
 refine K1.out.mono ?_
 rintro e w1 ⟨rfl,ht1,hr1⟩
 have r1:=hr1.c1
 have r2:=hr1.f 1
 have R2:=Lib.hid ((hr1.set1 1 (by omega)).set1 0 (by omega))
 have T2:=Lib.hid ((ht1.trans (Turn.of_only (Only.store w1 R 1 (.int .i64 ((1 : Nat) : Int))))).trans (Turn.of_only (Only.store _ R 1 (.int .i64 ((0 : Nat) : Int)))))
 clear K1 ht1 hr1
 have KF:=Lib.hid (fail_any R2.out)
 rw [HBD.out] at KF
 go_wp2_with fail
 refine KF.out.mono ?_
 clear r1 r2
 rintro e w3 ⟨rfl,ht3,hr3⟩
 have T3:=Lib.hid (T2.out.trans ht3)
 have R3:=Lib.hid hr3
 clear ht3 hr3 KF T2 R2
 go_wp2_with fail
 go_ret
 exact ⟨rfl,T3.out,R3.out⟩
end Go.Proofs.YtejaocnhekjfiaaGreatDoor.S25
namespace Go.Proofs.YtejaocnhekjfiaaGreatDoor.S25
open Go.RowKit
set_option linter.unusedVariables false
def runCmd (L : List (ByteArray × Nat)) (fin : Nat) : Option Cmd × Nat × Int:=
 match L[0]? with
 | none => (none,0,(fin : Int))
 | some p =>
   if p.1.data.toList = [99,114,101,97,116,101] then (some (.create (runNums L fin 5 1 (-1)).1),(runNums L fin 5 1 (-1)).2) else
   if p.1.data.toList = [119,105,110,100,111,119] then (some (.open_ (runNums L fin 5 1 (-1)).1),(runNums L fin 5 1 (-1)).2) else
   if p.1.data.toList = [97,100,100] then (some (.add (runAdd L fin 1 (-1))),((runAdd L fin 1 (-1)).at_,(runAdd L fin 1 (-1)).bad)) else
   if p.1.data.toList = [116,105,99,107] then (some .tick,(1,-1)) else
   if p.1.data.toList = [116,111,116,97,108] then (some (.query ⟨#[116,111,116,97,108]⟩ (numR L 1 (-1)) []),(numA L 1 (-1),numE L 1 (-1) fin)) else
   if p.1.data.toList = [101,120,112,111,114,116] then (some (.query ⟨#[101,120,112,111,114,116]⟩ (numR L 1 (-1)) []),(numA L 1 (-1),numE L 1 (-1) fin)) else
   if p.1.data.toList = [100,114,111,112] then (some (.query ⟨#[100,114,111,112]⟩ (numR L 1 (-1)) []),(numA L 1 (-1),numE L 1 (-1) fin)) else
   if p.1.data.toList = [113,117,97,110,116,105,108,101] then (some (.query ⟨#[113,117,97,110,116,105,108,101]⟩ (hd0 (runNums L fin 2 1 (-1)).1) (runNums L fin 2 1 (-1)).1.tail),(runNums L fin 2 1 (-1)).2) else
   if p.1.data.toList = [112,111,105,110,116] then (some (.query ⟨#[112,111,105,110,116]⟩ (hd0 (runNums L fin 3 1 (-1)).1) (runNums L fin 3 1 (-1)).1.tail),(runNums L fin 3 1 (-1)).2) else
   if p.1.data.toList = [114,97,110,103,101] then (some (.query ⟨#[114,97,110,103,101]⟩ (hd0 (runNums L fin 3 1 (-1)).1) (runNums L fin 3 1 (-1)).1.tail),(runNums L fin 3 1 (-1)).2) else
   if p.1.data.toList = [104,101,97,118,121] then (some (.query ⟨#[104,101,97,118,121]⟩ (hd0 (runNums L fin 3 1 (-1)).1) (runNums L fin 3 1 (-1)).1.tail),(runNums L fin 3 1 (-1)).2) else
   if p.1.data.toList = [105,110,110,101,114] then (some (.pair ⟨#[105,110,110,101,114]⟩ (hd0 (runNums L fin 2 1 (-1)).1) (hd0 (runNums L fin 2 1 (-1)).1.tail)),(runNums L fin 2 1 (-1)).2) else
   if p.1.data.toList = [109,101,114,103,101] then (some (.pair ⟨#[109,101,114,103,101]⟩ (hd0 (runNums L fin 2 1 (-1)).1) (hd0 (runNums L fin 2 1 (-1)).1.tail)),(runNums L fin 2 1 (-1)).2) else
   if p.1.data.toList = [115,117,98,116,114,97,99,116] then (some (.pair ⟨#[115,117,98,116,114,97,99,116]⟩ (hd0 (runNums L fin 2 1 (-1)).1) (hd0 (runNums L fin 2 1 (-1)).1.tail)),(runNums L fin 2 1 (-1)).2) else
   if p.1.data.toList = [105,109,112,111,114,116] then (some (.imp (hexL (nextS L 1 (-1)))),(2,if hexB (nextS L 1 (-1)) then nextB L 1 (-1) fin else badOf L 1 (nextB L 1 (-1) fin) fin)) else
   (none,0,(p.2 : Int))
def CmdO (w : World) (v : Value) : Option Cmd → Prop
 | none => v = .nilIface
 | some k => CmdV w v k
theorem CmdO.below {w w' : World} {v : Value} {k : Option Cmd} (h : CmdO w v k) (hb : Below w.heap.size w w') : CmdO w' v k:=by
 cases k with
 | none => exact h
 | some k => exact CmdV.below h hb
def CP (w : World) (R g c : Nat) (L : List (ByteArray × Nat)) (fin : Nat) (r : Option Cmd × Nat × Int) (e : Ending) (w' : World) : Prop:=
 ∃ v,e = .returned v ∧ CmdO w' v r.1 ∧ Turn R w w' ∧ RS w' R g c L r.2.1 r.2.2 fin
theorem runCmd_create {L : List (ByteArray × Nat)} {k : Nat} (fin : Nat) (hL : L[0]? = some (⟨#[99,114,101,97,116,101]⟩,k)) : runCmd L fin = (some (.create (runNums L fin 5 1 (-1)).1),(runNums L fin 5 1 (-1)).2):=by
 unfold runCmd; rw [hL]; rfl
theorem runCmd_window {L : List (ByteArray × Nat)} {k : Nat} (fin : Nat) (hL : L[0]? = some (⟨#[119,105,110,100,111,119]⟩,k)) : runCmd L fin = (some (.open_ (runNums L fin 5 1 (-1)).1),(runNums L fin 5 1 (-1)).2):=by
 unfold runCmd; rw [hL]; rfl
theorem runCmd_add {L : List (ByteArray × Nat)} {k : Nat} (fin : Nat) (hL : L[0]? = some (⟨#[97,100,100]⟩,k)) : runCmd L fin = (some (.add (runAdd L fin 1 (-1))),((runAdd L fin 1 (-1)).at_,(runAdd L fin 1 (-1)).bad)):=by
 unfold runCmd; rw [hL]; rfl
theorem runCmd_tick {L : List (ByteArray × Nat)} {k : Nat} (fin : Nat) (hL : L[0]? = some (⟨#[116,105,99,107]⟩,k)) : runCmd L fin = (some .tick,(1,-1)):=by
 unfold runCmd; rw [hL]; rfl
theorem runCmd_total {L : List (ByteArray × Nat)} {k : Nat} (fin : Nat) (hL : L[0]? = some (⟨#[116,111,116,97,108]⟩,k)) : runCmd L fin = (some (.query ⟨#[116,111,116,97,108]⟩ (numR L 1 (-1)) []),(numA L 1 (-1),numE L 1 (-1) fin)):=by
 unfold runCmd; rw [hL]; rfl
theorem runCmd_export {L : List (ByteArray × Nat)} {k : Nat} (fin : Nat) (hL : L[0]? = some (⟨#[101,120,112,111,114,116]⟩,k)) : runCmd L fin = (some (.query ⟨#[101,120,112,111,114,116]⟩ (numR L 1 (-1)) []),(numA L 1 (-1),numE L 1 (-1) fin)):=by
 unfold runCmd; rw [hL]; rfl
theorem runCmd_drop {L : List (ByteArray × Nat)} {k : Nat} (fin : Nat) (hL : L[0]? = some (⟨#[100,114,111,112]⟩,k)) : runCmd L fin = (some (.query ⟨#[100,114,111,112]⟩ (numR L 1 (-1)) []),(numA L 1 (-1),numE L 1 (-1) fin)):=by
 unfold runCmd; rw [hL]; rfl
theorem runCmd_quantile {L : List (ByteArray × Nat)} {k : Nat} (fin : Nat) (hL : L[0]? = some (⟨#[113,117,97,110,116,105,108,101]⟩,k)) : runCmd L fin = (some (.query ⟨#[113,117,97,110,116,105,108,101]⟩ (hd0 (runNums L fin 2 1 (-1)).1) (runNums L fin 2 1 (-1)).1.tail),(runNums L fin 2 1 (-1)).2):=by
 unfold runCmd; rw [hL]; rfl
theorem runCmd_point {L : List (ByteArray × Nat)} {k : Nat} (fin : Nat) (hL : L[0]? = some (⟨#[112,111,105,110,116]⟩,k)) : runCmd L fin = (some (.query ⟨#[112,111,105,110,116]⟩ (hd0 (runNums L fin 3 1 (-1)).1) (runNums L fin 3 1 (-1)).1.tail),(runNums L fin 3 1 (-1)).2):=by
 unfold runCmd; rw [hL]; rfl
theorem runCmd_range {L : List (ByteArray × Nat)} {k : Nat} (fin : Nat) (hL : L[0]? = some (⟨#[114,97,110,103,101]⟩,k)) : runCmd L fin = (some (.query ⟨#[114,97,110,103,101]⟩ (hd0 (runNums L fin 3 1 (-1)).1) (runNums L fin 3 1 (-1)).1.tail),(runNums L fin 3 1 (-1)).2):=by
 unfold runCmd; rw [hL]; rfl
theorem runCmd_heavy {L : List (ByteArray × Nat)} {k : Nat} (fin : Nat) (hL : L[0]? = some (⟨#[104,101,97,118,121]⟩,k)) : runCmd L fin = (some (.query ⟨#[104,101,97,118,121]⟩ (hd0 (runNums L fin 3 1 (-1)).1) (runNums L fin 3 1 (-1)).1.tail),(runNums L fin 3 1 (-1)).2):=by
 unfold runCmd; rw [hL]; rfl
theorem runCmd_inner {L : List (ByteArray × Nat)} {k : Nat} (fin : Nat) (hL : L[0]? = some (⟨#[105,110,110,101,114]⟩,k)) : runCmd L fin = (some (.pair ⟨#[105,110,110,101,114]⟩ (hd0 (runNums L fin 2 1 (-1)).1) (hd0 (runNums L fin 2 1 (-1)).1.tail)),(runNums L fin 2 1 (-1)).2):=by
 unfold runCmd; rw [hL]; rfl
theorem runCmd_merge {L : List (ByteArray × Nat)} {k : Nat} (fin : Nat) (hL : L[0]? = some (⟨#[109,101,114,103,101]⟩,k)) : runCmd L fin = (some (.pair ⟨#[109,101,114,103,101]⟩ (hd0 (runNums L fin 2 1 (-1)).1) (hd0 (runNums L fin 2 1 (-1)).1.tail)),(runNums L fin 2 1 (-1)).2):=by
 unfold runCmd; rw [hL]; rfl
theorem runCmd_subtract {L : List (ByteArray × Nat)} {k : Nat} (fin : Nat) (hL : L[0]? = some (⟨#[115,117,98,116,114,97,99,116]⟩,k)) : runCmd L fin = (some (.pair ⟨#[115,117,98,116,114,97,99,116]⟩ (hd0 (runNums L fin 2 1 (-1)).1) (hd0 (runNums L fin 2 1 (-1)).1.tail)),(runNums L fin 2 1 (-1)).2):=by
 unfold runCmd; rw [hL]; rfl
theorem runCmd_import {L : List (ByteArray × Nat)} {k : Nat} (fin : Nat) (hL : L[0]? = some (⟨#[105,109,112,111,114,116]⟩,k)) : runCmd L fin = (some (.imp (hexL (nextS L 1 (-1)))),(2,if hexB (nextS L 1 (-1)) then nextB L 1 (-1) fin else badOf L 1 (nextB L 1 (-1) fin) fin)):=by
 unfold runCmd; rw [hL]; rfl
theorem runCmd_none {L : List (ByteArray × Nat)} {s : ByteArray} {k : Nat} (fin : Nat) (hL : L[0]? = some (s,k)) (hv : s.data.toList ∉ verbs) : runCmd L fin = (none,0,(k : Int)):=by
 unfold runCmd; rw [hL]
 simp only [verbs,List.mem_cons,List.not_mem_nil,or_false,not_or] at hv
 obtain ⟨h0,h1,h2,h3,h4,h5,h6,h7,h8,h9,h10,h11,h12,h13,h14⟩:=hv
 simp only [if_neg h0,if_neg h1,if_neg h2,if_neg h3,if_neg h4,if_neg h5,if_neg h6,if_neg h7,if_neg h8,if_neg h9,if_neg h10,if_neg h11,if_neg h12,if_neg h13,if_neg h14]
theorem of_data {s : ByteArray} {l : List UInt8} (h : s.data.toList = l) : s = ⟨l.toArray⟩:=by
 cases s; subst h; simp
theorem cmd_any {w : World} {R g c : Nat} {L : List (ByteArray × Nat)} {fin : Nat} (h : RS w R g c L 0 (-1) fin) (hne : L ≠ []) :
   Calls Tryz.prog 46 #[.pointer (some ⟨R,0,none⟩)] w (CP w R g c L fin (runCmd L fin)):=by
 obtain ⟨⟨s,k⟩,hL⟩ : ∃ p,L[0]? = some p:=by
   cases L with
   | nil => exact absurd rfl hne
   | cons p l => exact ⟨p,rfl⟩
 by_cases hv : s.data.toList ∈ verbs
 · simp only [verbs,List.mem_cons,List.not_mem_nil,or_false] at hv
   rcases hv with hv | hv | hv | hv | hv | hv | hv | hv | hv | hv | hv | hv | hv | hv | hv
   · obtain rfl:=of_data hv
     rw [runCmd_create fin hL]
     exact (cmd_create h hL).mono fun _ _ ⟨v,h1,h2,h3,h4⟩ => ⟨v,h1,h2,h3,h4⟩
   · obtain rfl:=of_data hv
     rw [runCmd_window fin hL]
     exact (cmd_window h hL).mono fun _ _ ⟨v,h1,h2,h3,h4⟩ => ⟨v,h1,h2,h3,h4⟩
   · obtain rfl:=of_data hv
     rw [runCmd_add fin hL]
     exact (cmd_add h hL).mono fun _ _ ⟨v,h1,h2,h3,h4⟩ => ⟨v,h1,h2,h3,h4⟩
   · obtain rfl:=of_data hv
     rw [runCmd_tick fin hL]
     exact (cmd_tick h hL).mono fun _ _ ⟨v,h1,h2,h3,h4⟩ => ⟨v,h1,h2,h3,h4⟩
   · obtain rfl:=of_data hv
     rw [runCmd_total fin hL]
     exact (cmd_total h hL).mono fun _ _ ⟨v,h1,h2,h3,h4⟩ => ⟨v,h1,h2,h3,h4⟩
   · obtain rfl:=of_data hv
     rw [runCmd_export fin hL]
     exact (cmd_export h hL).mono fun _ _ ⟨v,h1,h2,h3,h4⟩ => ⟨v,h1,h2,h3,h4⟩
   · obtain rfl:=of_data hv
     rw [runCmd_drop fin hL]
     exact (cmd_drop h hL).mono fun _ _ ⟨v,h1,h2,h3,h4⟩ => ⟨v,h1,h2,h3,h4⟩
   · obtain rfl:=of_data hv
     rw [runCmd_quantile fin hL]
     exact (cmd_quantile h hL).mono fun _ _ ⟨v,h1,h2,h3,h4⟩ => ⟨v,h1,h2,h3,h4⟩
   · obtain rfl:=of_data hv
     rw [runCmd_point fin hL]
     exact (cmd_point h hL).mono fun _ _ ⟨v,h1,h2,h3,h4⟩ => ⟨v,h1,h2,h3,h4⟩
   · obtain rfl:=of_data hv
     rw [runCmd_range fin hL]
     exact (cmd_range h hL).mono fun _ _ ⟨v,h1,h2,h3,h4⟩ => ⟨v,h1,h2,h3,h4⟩
   · obtain rfl:=of_data hv
     rw [runCmd_heavy fin hL]
     exact (cmd_heavy h hL).mono fun _ _ ⟨v,h1,h2,h3,h4⟩ => ⟨v,h1,h2,h3,h4⟩
   · obtain rfl:=of_data hv
     rw [runCmd_inner fin hL]
     exact (cmd_inner h hL).mono fun _ _ ⟨v,h1,h2,h3,h4⟩ => ⟨v,h1,h2,h3,h4⟩
   · obtain rfl:=of_data hv
     rw [runCmd_merge fin hL]
     exact (cmd_merge h hL).mono fun _ _ ⟨v,h1,h2,h3,h4⟩ => ⟨v,h1,h2,h3,h4⟩
   · obtain rfl:=of_data hv
     rw [runCmd_subtract fin hL]
     exact (cmd_subtract h hL).mono fun _ _ ⟨v,h1,h2,h3,h4⟩ => ⟨v,h1,h2,h3,h4⟩
   · obtain rfl:=of_data hv
     rw [runCmd_import fin hL]
     by_cases hB : hexB (nextS L 1 (-1)) = true
     · rw [if_pos hB]
       exact (cmd_import_yes h hL hB).mono fun _ _ ⟨v,h1,h2,h3,h4⟩ => ⟨v,h1,h2,h3,h4⟩
     · rw [if_neg hB]
       exact (cmd_import_no h hL (by simpa using hB)).mono fun _ _ ⟨v,h1,h2,h3,h4⟩ => ⟨v,h1,h2,h3,h4⟩
 · rw [runCmd_none fin hL hv]
   exact (cmd_none h hL hv).mono fun _ _ ⟨h1,h3,h4⟩ => ⟨_,h1,rfl,h3,h4⟩
def told (L : List (ByteArray × Nat)) (fin : Nat) (r : Option Cmd × Nat × Int) : Option Cmd × Int × Int:=
 if 0 ≤ r.2.2 then (none,r.2.2,12) else if r.2.1 < L.length then (none,badOf L r.2.1 r.2.2 fin,12) else (r.1,0,0)
def parseV (s : ByteArray) : Option Cmd × Int × Int:=
 if 65536 < s.size then (none,0,1) else
 match tornAt s 0 with
 | some i => (none,(i : Int),13)
 | none => if wordsOf s = [] then (none,0,0) else told (wordsOf s) s.size (runCmd (wordsOf s) s.size)
def PV (w : World) (r : Option Cmd × Int × Int) (e : Ending) (w' : World) : Prop:=
 ∃ v,e = .returned (.tuple #[v,.int .i64 r.2.1,.int .i64 r.2.2]) ∧ CmdO w' v r.1 ∧ Below w.heap.size w w'
set_option maxRecDepth 100000 in
set_option maxHeartbeats 2000000 in
theorem parse_big (s : ByteArray) (w : World) (hs : s.size ≤ 1048576) (hT : Tabs w) (hb : 65536 < s.size) :
   Calls Tryz.prog 31 #[.string s] w (PV w (none,0,1)):=by
 have g0 : decide ((65536 : Int) < (s.size : Int)) = true:=by simp; omega
 clear hT
 go_enter Tryz.func31,Tryz.ntmps31
 go_wp2_with fail
 go_ret3
 exact ⟨_,rfl,rfl,Below.refl _ _⟩
set_option maxRecDepth 100000 in
set_option maxHeartbeats 2000000 in
theorem parse_torn (s : ByteArray) (w : World) (hs : s.size ≤ 1048576) (hT : Tabs w) (hb : s.size ≤ 65536) (i : Nat) (ht : tornAt s 0 = some i) :
   Calls Tryz.prog 31 #[.string s] w (PV w (none,(i : Int),13)):=by
 have g0 : decide ((65536 : Int) < (s.size : Int)) = false:=by simp; omega
 have KT:=Lib.hid (torn_any s w hs hT)
 have e1 : tornI s = (i : Int):=by unfold tornI; rw [ht]
 rw [e1] at KT
 clear e1 ht hT
 have hi : decide ((0 : Int) ≤ (i : Int)) = true:=by simp
 go_enter Tryz.func31,Tryz.ntmps31
 go_wp2_with fail
 refine KT.out.mono ?_
 rintro e w1 ⟨rfl,hb1⟩
 have HB1:=Lib.hid hb1; clear hb1
 go_wp2_with fail
 go_ret3
 exact ⟨_,rfl,rfl,HB1.out⟩
set_option maxRecDepth 100000 in
set_option maxHeartbeats 4000000 in
theorem parse_empty (s : ByteArray) (w : World) (hs : s.size ≤ 1048576) (hT : Tabs w) (hb : s.size ≤ 65536) (ht : tornAt s 0 = none) (hl : wordsOf s = []) :
   Calls Tryz.prog 31 #[.string s] w (PV w (none,0,0)):=by
 have g0 : decide ((65536 : Int) < (s.size : Int)) = false:=by simp; omega
 have KT:=Lib.hid (torn_any s w hs hT)
 have e1 : tornI s = -1:=by unfold tornI; rw [ht]
 rw [e1] at KT
 have KW:=Lib.hid (fun w => words_any s w hs)
 have HT:=Lib.hid hT
 clear e1 ht hT
 unfold WordsPost at KW
 rw [hl] at KW
 simp only [List.length_nil] at KW
 clear hl
 go_enter Tryz.func31,Tryz.ntmps31
 go_wp2_with fail
 refine KT.out.mono ?_
 rintro e w1 ⟨rfl,hb1⟩
 have HB1:=Lib.hid hb1; clear hb1
 go_wp2_with fail
 refine (KW.out _).mono ?_
 rintro e w2 ⟨a,c,rfl,hrow,hb2⟩
 have HB2:=Lib.hid (HB1.out.then hb2); clear hb2 hrow HB1
 go_wp2_with fail
 go_ret3
 exact ⟨_,rfl,rfl,HB2.out.alloc HB2.out.size _⟩
theorem rs_new {w : World} {g c : Nat} {L : List (ByteArray × Nat)} {fin : Nat} (hT : Tabs w) (hr : WRow w (some ⟨g,0,none⟩) L.length L) (hne : L ≠ [])
   (hlen : L.length ≤ 1048576) (hfin : fin ≤ 1048576) (hws : ∀ p ∈ L,p.1.size ≤ 1048576 ∧ p.2 ≤ 1048576) :
   RS (w.alloc (.cells #[.slice (some ⟨g,0,none⟩) L.length c,.int .i64 0,.int .i64 (-1),.int .i64 fin] 104)) w.heap.size g c L 0 (-1) fin:=by
 obtain ⟨g',rest,e,hh⟩:=hr.2.resolve_left hne
 cases e
 have hg:=lt_of_block hh
 have hbl : Below w.heap.size w (w.alloc (.cells #[.slice (some ⟨g,0,none⟩) L.length c,.int .i64 0,.int .i64 (-1),.int .i64 fin] 104)):=(Below.refl _ _).alloc (Nat.le_refl _) _
 exact ⟨heap_alloc_new w _,⟨hr.1,.inr ⟨g,rest,rfl,(hbl.block g hg).trans hh⟩⟩,by omega,Nat.lt_of_lt_of_le hg hbl.size,hT.below hbl,hT.low,hlen,hfin,by omega,by omega,by omega,hws⟩
theorem wordsAt_in (s : ByteArray) (i : Nat) : ∀ p ∈ wordsAt s i,i ≤ p.1 ∧ p.1 < p.2 ∧ p.2 ≤ s.size:=by
 fun_induction wordsAt s i with
 | case1 i h h2 ih => intro p hp; have:=ih p hp; omega
 | case2 i h h2 ih =>
   have hw:=wordEnd_gt h h2
   intro p hp
   rcases List.mem_cons.1 hp with rfl | hp
   · exact ⟨Nat.le_refl _,hw.1,hw.2⟩
   · have:=ih p hp; omega
 | case3 i h => intro p hp; simp at hp
theorem wordsAt_len (s : ByteArray) (i : Nat) : (wordsAt s i).length ≤ s.size - i:=by
 fun_induction wordsAt s i with
 | case1 i h h2 ih => omega
 | case2 i h h2 ih => have hw:=wordEnd_gt h h2; simp only [List.length_cons]; omega
 | case3 i h => simp
theorem wordsOf_in (s : ByteArray) : ∀ p ∈ wordsOf s,p.1.size ≤ s.size ∧ p.2 ≤ s.size:=by
 intro p hp
 unfold wordsOf at hp
 obtain ⟨q,hq,rfl⟩:=List.mem_map.1 hp
 have:=wordsAt_in s 0 q hq
 exact ⟨by rw [ext_size _ _ _ this.2.2]; omega,by simp only; omega⟩
theorem wordsOf_len (s : ByteArray) : (wordsOf s).length ≤ s.size:=by
 unfold wordsOf; rw [List.length_map]; have:=wordsAt_len s 0; omega
theorem badOf_ge {w R g c L at_ bad fin} (h : RS w R g c L at_ bad fin) : 0 ≤ badOf L at_ bad fin:=by
 unfold badOf; split
 · assumption
 · split <;> omega
set_option maxRecDepth 100000 in
set_option maxHeartbeats 4000000 in
theorem parse_deep (s : ByteArray) (w : World) (hs : s.size ≤ 1048576) (hT : Tabs w) (hb : s.size ≤ 65536) (ht : tornAt s 0 = none) (hl : wordsOf s ≠ []) :
   Calls Tryz.prog 31 #[.string s] w (PV w (told (wordsOf s) s.size (runCmd (wordsOf s) s.size))):=by
 have g0 : decide ((65536 : Int) < (s.size : Int)) = false:=by simp; omega
 have KT:=Lib.hid (torn_any s w hs hT)
 have e1 : tornI s = -1:=by unfold tornI; rw [ht]
 rw [e1] at KT
 have KW:=Lib.hid (fun w => words_any s w hs)
 have HT:=Lib.hid hT
 clear e1 ht hT
 unfold WordsPost at KW
 have HLEN:=Lib.hid (Nat.le_trans (wordsOf_len s) hs)
 have hlp : (0 : Int) < ((wordsOf s).length : Int):=by
   have:=List.length_pos_iff.2 hl; omega
 have hl0 : decide (((wordsOf s).length : Int) = 0) = false:=by simp; exact hl
 have HWS:=Lib.hid (fun p hp => (fun h => (⟨Nat.le_trans h.1 hs,Nat.le_trans h.2 hs⟩ : p.1.size ≤ 1048576 ∧ p.2 ≤ 1048576)) (wordsOf_in s p hp))
 have HNE:=Lib.hid hl; clear hl
 obtain ⟨⟨k,a1,b1⟩,hr⟩ : ∃ r,runCmd (wordsOf s) s.size = r:=⟨_,rfl⟩
 have KC:=Lib.hid (fun w R g c (h : RS w R g c (wordsOf s) 0 (-1) s.size) => cmd_any h HNE.out)
 rw [hr] at KC
 rw [hr]
 clear hr
 generalize wordsOf s = L at *
 unfold CP at KC
 simp only at KC
 go_enter Tryz.func31,Tryz.ntmps31
 go_wp2_with fail
 refine KT.out.mono ?_
 rintro e w1 ⟨rfl,hb1⟩
 have HT1:=Lib.hid (HT.out.below hb1)
 have HB1:=Lib.hid hb1; clear hb1 HT
 go_wp2_with fail
 refine (KW.out _).mono ?_
 rintro e w2 ⟨a,c,rfl,hrow,hb2⟩
 obtain ⟨g,rest,rfl,hh⟩:=hrow.2.resolve_left HNE.out
 clear hh
 have HT2:=Lib.hid (HT1.out.below hb2)
 have HB2:=Lib.hid (HB1.out.then hb2); clear hb2 HB1 HT1
 have hrs:=rs_new (c:=c) HT2.out hrow HNE.out HLEN.out hs HWS.out
 have r0:=hrs.c0
 have HRS:=Lib.hid hrs
 have HBN:=Lib.hid (HB2.out.alloc HB2.out.size (.cells #[.slice (some ⟨g,0,none⟩) L.length c,.int .i64 0,.int .i64 (-1),.int .i64 s.size] 104))
 clear hrow hrs HT2 HWS
 have HBL:=Lib.hid (HB2.out.size)
 go_wp2_with fail
 refine (KC.out _ _ _ _ HRS.out).mono ?_
 clear r0
 rintro e w3 ⟨v,rfl,hv,ht3,hr3⟩
 have r0:=hr3.c0
 have r1:=hr3.c1
 have r2:=hr3.c2
 have HV:=Lib.hid hv
 have HB3:=Lib.hid (HBN.out.trans (ht3.below HBL.out HBN.out.size))
 have HR3:=Lib.hid hr3
 have hlo:=hr3.lo
 have hhi:=hr3.hi
 have hat:=hr3.att
 have hll:=HLEN.out
 clear hv ht3 hr3 HB2 HRS HBN KC HLEN
 generalize w2.heap.size = R at *
 by_cases hbad : 0 ≤ b1
 · have HD:=Lib.hid (show told L s.size (k,a1,b1) = (none,b1,12) by unfold told; simp [hbad])
   have g1 : decide (b1 < 0) = false:=by simpa using hbad
   have g2 : decide (0 ≤ b1) = true:=by simpa using hbad
   go_wp2_with fail
   go_quiet (fail)
   go_wp2_with fail
   go_region
   go_wp2_with fail
   go_ret3
   exact ⟨_,by rw [HD.out]; rfl,by rw [HD.out]; rfl,below_drewN HB3.out _⟩
 · have g1 : decide (b1 < 0) = true:=by simp; omega
   by_cases hla : a1 < L.length
   · have g3 : decide (a1 < L.length) = true:=by simp; exact hla
     have HD:=Lib.hid (show told L s.size (k,a1,b1) = (none,badOf L a1 b1 s.size,12) by unfold told; simp [hbad,hla])
     have hbb:=badOf_ge HR3.out
     have g4 : decide (0 ≤ badOf L a1 b1 s.size) = true:=by simpa using hbb
     have KF:=Lib.hid (fun n => fail_any (HR3.out.drewN n))
     clear hbad hla hbb
     generalize badOf L a1 b1 s.size = bb at *
     go_wp2_with fail
     go_quiet (fail)
     go_wp2_with fail
     refine (KF.out _).mono ?_
     rintro e w4 ⟨rfl,ht4,hr4⟩
     have q2:=hr4.c2
     have HB4:=Lib.hid ((below_drewN HB3.out _).trans (ht4.below HBL.out (HB3.out.size)))
     clear ht4 hr4 r0 r1 r2
     go_wp2_with fail
     go_region
     go_wp2_with fail
     go_ret3
     exact ⟨_,by rw [HD.out]; rfl,by rw [HD.out]; rfl,below_drewN HB4.out _⟩
   · have HD:=Lib.hid (show told L s.size (k,a1,b1) = (k,0,0) by unfold told; simp [hbad,hla])
     have g2 : decide (0 ≤ b1) = false:=by simpa using hbad
     have g3 : decide ((a1 : Int) < (L.length : Int)) = false:=by simp; omega
     go_wp2_with fail
     go_quiet (fail)
     go_wp2_with fail
     go_ret3
     exact ⟨v,by rw [HD.out]; rfl,by rw [HD.out]; exact HV.out.below (below_drewN (Below.refl _ _) _),below_drewN HB3.out _⟩
theorem parse_any (s : ByteArray) (w : World) (hs : s.size ≤ 1048576) (hT : Tabs w) : Calls Tryz.prog 31 #[.string s] w (PV w (parseV s)):=by
 unfold parseV
 by_cases hb : 65536 < s.size
 · rw [if_pos hb]; exact parse_big s w hs hT hb
 · rw [if_neg hb]
   cases ht : tornAt s 0 with
   | some i => exact parse_torn s w hs hT (by omega) i ht
   | none =>
     by_cases hl : wordsOf s = []
     · rw [if_pos hl]; exact parse_empty s w hs hT (by omega) ht hl
     · rw [if_neg hl]; exact parse_deep s w hs hT (by omega) ht hl
end Go.Proofs.YtejaocnhekjfiaaGreatDoor.S25
namespace Go.Proofs.YtejaocnhekjfiaaGreatDoor.S25
open Go.RowKit
set_option linter.unusedVariables false
theorem bAt_left (x y : ByteArray) (i : Nat) (h : i < x.size) : bAt (x ++ y) i = bAt x i:=by unfold bAt; rw [get_app_left x y i h]
theorem bAt_right (x y : ByteArray) (i : Nat) : bAt (x ++ y) (x.size + i) = bAt y i:=by unfold bAt; rw [get_app_right]
def quoteFrom (s : ByteArray) (i : Nat) : Nat:=if i < s.size ∧ bAt s i ≠ 34 then quoteFrom s (i + 1) else i
termination_by s.size - i
theorem quoteFrom_le (s : ByteArray) (e : Nat) (he : e ≤ s.size) : quoteFrom s e ≤ s.size:=by
 induction e using quoteFrom.induct (s:=s) with
 | case1 e h ih => rw [quoteFrom,if_pos h]; exact ih (by omega)
 | case2 e h => rw [quoteFrom,if_neg h]; exact he
theorem quoteFrom_is (s : ByteArray) (i j : Nat) (hij : i ≤ j) (hq : bAt s j = 34) (hb : ∀ k,i ≤ k → k < j → bAt s k ≠ 34) (hj : j < s.size) : quoteFrom s i = j:=by
 induction i using quoteFrom.induct (s:=s) with
 | case1 e h ih =>
   have : e ≠ j:=by rintro rfl; exact h.2 hq
   rw [quoteFrom,if_pos h]
   exact ih (by omega) (fun k hk => hb k (by omega))
 | case2 e h =>
   rw [quoteFrom,if_neg h]
   rcases Nat.lt_or_ge e j with hl | hl
   · exact absurd ⟨by omega,hb e (Nat.le_refl _) hl⟩ h
   · omega
theorem quoteFrom_no (s : ByteArray) (i : Nat) (hi : i ≤ s.size) (hb : ∀ k,i ≤ k → k < s.size → bAt s k ≠ 34) : quoteFrom s i = s.size:=by
 induction i using quoteFrom.induct (s:=s) with
 | case1 e h ih => rw [quoteFrom,if_pos h]; exact ih (by omega) (fun k hk => hb k (by omega))
 | case2 e h =>
   rw [quoteFrom,if_neg h]
   rcases Nat.lt_or_ge e s.size with hl | hl
   · exact absurd ⟨hl,hb e (Nat.le_refl _) hl⟩ h
   · omega
theorem quoteAt_from (s : ByteArray) (a : Nat) (ha : a < s.size) :
   (0 ≤ quoteAt s a ∧ a + 1 + (quoteAt s a).toNat = quoteFrom s (a + 1) ∧ quoteFrom s (a + 1) < s.size) ∨ (¬ 0 ≤ quoteAt s a ∧ quoteFrom s (a + 1) = s.size):=by
 have hsz : (s.extract (a + 1) s.size).data.toList.length = s.size - (a + 1):=by
   have:=ext_size s (a + 1) s.size (Nat.le_refl _)
   rw [← this]; rfl
 have hget : ∀ k,a + 1 ≤ k → k < s.size → (s.extract (a + 1) s.size).data.toList[k - (a + 1)]? = some (s.get! k):=by
   intro k h1 h2
   rw [bAt_list _ _ (by rw [ext_size s _ _ (Nat.le_refl _)]; omega)]
   have:=ext_get s (a + 1) s.size (k - (a + 1)) (Nat.le_refl _) (by omega)
   rw [show a + 1 + (k - (a + 1)) = k by omega] at this
   unfold bAt at this
   rw [UInt8.toNat_inj.1 this]
 by_cases h : 0 ≤ quoteAt s a
 · refine .inl ⟨h,?_⟩
   have hq:=quoteAt_some h
   obtain ⟨o,ho⟩:=Int.eq_ofNat_of_zero_le h
   have hn:=(Lib.indexByte_some (l:=(s.extract (a + 1) s.size).data.toList) (c:=34) (o:=o) ho).2
   have ho2 : (quoteAt s a).toNat = o:=by rw [ho]; rfl
   rw [ho2] at hq ⊢
   have : quoteFrom s (a + 1) = a + 1 + o:=by
     refine quoteFrom_is s (a + 1) (a + 1 + o) (by omega) hq.2 (fun k h1 h2 => ?_) hq.1
     intro hk
     have e:=hget k h1 (by omega)
     apply hn (k - (a + 1)) (by omega)
     rw [e]
     unfold bAt at hk
     rw [show s.get! k = 34 from UInt8.toNat_inj.1 (by rw [hk]; rfl)]
   exact ⟨this.symm,by omega⟩
 · refine .inr ⟨h,quoteFrom_no s (a + 1) (by omega) (fun k h1 h2 hk => ?_)⟩
   have hm : quoteAt s a = -1:=by
     have:=Lib.indexByte_ge (s.extract (a + 1) s.size).data.toList 34
     unfold quoteAt at h ⊢
     omega
   have hn:=Lib.indexByte_none hm (k - (a + 1))
   rw [hget k h1 h2] at hn
   apply hn
   unfold bAt at hk
   rw [show s.get! k = 34 from UInt8.toNat_inj.1 (by rw [hk]; rfl)]
theorem wordFrom_q {s : ByteArray} {a : Nat} (ha : a < s.size) (hq : bAt s a = 34) : wordFrom s a = quoteFrom s (a + 1):=by
 unfold wordFrom
 rw [if_pos hq]
 rcases quoteAt_from s a ha with ⟨h,e,_⟩ | ⟨h,e⟩
 · rw [if_pos h,e]
 · rw [if_neg h,e]
theorem wordFrom_n {s : ByteArray} {a : Nat} (hq : bAt s a ≠ 34) : wordFrom s a = a:=by unfold wordFrom; rw [if_neg hq]
theorem skip_right (x y : ByteArray) (i : Nat) : skipTo (x ++ y) (x.size + i) = x.size + skipTo y i:=by
 induction i using skipTo.induct (s:=y) with
 | case1 i h ih =>
   rw [skipTo,if_pos ⟨by rw [ByteArray.size_append]; omega,by rw [bAt_right]; exact h.2⟩,Nat.add_assoc,ih]
   conv => rhs; rw [skipTo,if_pos h]
 | case2 i h =>
   rw [skipTo,if_neg (by rw [ByteArray.size_append,bAt_right]; intro hh; exact h ⟨by omega,hh.2⟩)]
   rw [skipTo,if_neg h]
theorem quote_right (x y : ByteArray) (i : Nat) : quoteFrom (x ++ y) (x.size + i) = x.size + quoteFrom y i:=by
 induction i using quoteFrom.induct (s:=y) with
 | case1 i h ih =>
   rw [quoteFrom,if_pos ⟨by rw [ByteArray.size_append]; omega,by rw [bAt_right]; exact h.2⟩,Nat.add_assoc,ih]
   conv => rhs; rw [quoteFrom,if_pos h]
 | case2 i h =>
   rw [quoteFrom,if_neg (by rw [ByteArray.size_append,bAt_right]; intro hh; exact h ⟨by omega,hh.2⟩)]
   rw [quoteFrom,if_neg h]
theorem wordEnd_right (x y : ByteArray) (i : Nat) (hi : i < y.size) : wordEnd (x ++ y) (x.size + i) = x.size + wordEnd y i:=by
 unfold wordEnd
 have e : wordFrom (x ++ y) (x.size + i) = x.size + wordFrom y i:=by
   by_cases hq : bAt y i = 34
   · rw [wordFrom_q (by rw [ByteArray.size_append]; omega) (by rw [bAt_right]; exact hq),wordFrom_q hi hq,Nat.add_assoc,quote_right]
   · rw [wordFrom_n (by rw [bAt_right]; exact hq),wordFrom_n hq]
 rw [e,skip_right]
def shiftW (n : Nat) (p : Nat × Nat) : Nat × Nat:=(n + p.1,n + p.2)
theorem words_right (x y : ByteArray) (i : Nat) : wordsAt (x ++ y) (x.size + i) = (wordsAt y i).map (shiftW x.size):=by
 fun_induction wordsAt y i with
 | case1 i h h2 ih =>
   rw [wordsAt,dif_pos (by rw [ByteArray.size_append]; omega),dif_pos (by rw [bAt_right]; exact h2),Nat.add_assoc,ih]
 | case2 i h h2 ih =>
   rw [wordsAt,dif_pos (by rw [ByteArray.size_append]; omega),dif_neg (by rw [bAt_right]; exact h2),wordEnd_right x y i h,ih]
   rfl
 | case3 i h =>
   rw [wordsAt,dif_neg (by rw [ByteArray.size_append]; omega)]; rfl
theorem ext_right (x y : ByteArray) (a b : Nat) : (x ++ y).extract (x.size + a) (x.size + b) = y.extract a b:=by
 apply ByteArray.ext
 rw [ByteArray.data_extract,ByteArray.data_extract,ByteArray.data_append]
 apply Array.ext_getElem?
 intro i
 rw [Array.getElem?_extract,Array.getElem?_extract,Array.size_append]
 have e1 : x.data.size = x.size:=rfl
 have e2 : y.data.size = y.size:=rfl
 by_cases h : i < min b y.size - a
 · rw [if_pos (by omega),if_pos (by omega),Array.getElem?_append_right (by omega)]
   congr 1; omega
 · rw [if_neg (by omega),if_neg (by omega)]
theorem ext_left (x y : ByteArray) (a b : Nat) (hb : b ≤ x.size) : (x ++ y).extract a b = x.extract a b:=by
 apply ByteArray.ext
 rw [ByteArray.data_extract,ByteArray.data_extract,ByteArray.data_append]
 apply Array.ext_getElem?
 intro i
 rw [Array.getElem?_extract,Array.getElem?_extract,Array.size_append]
 have e1 : x.data.size = x.size:=rfl
 by_cases h : i < min b x.size - a
 · rw [if_pos (by omega),if_pos (by omega),Array.getElem?_append_left (by omega)]
 · rw [if_neg (by omega),if_neg (by omega)]
theorem ext_all (x : ByteArray) : x.extract 0 x.size = x:=by
 apply ByteArray.ext
 rw [ByteArray.data_extract]
 exact Array.extract_size
def wordS (s : ByteArray) (i : Nat) : List ByteArray:=(wordsAt s i).map fun p => s.extract p.1 p.2
theorem wordsOf_fst (s : ByteArray) : (wordsOf s).map Prod.fst = wordS s 0:=by unfold wordsOf wordS; rw [List.map_map]; rfl
theorem wordS_right (x y : ByteArray) (i : Nat) : wordS (x ++ y) (x.size + i) = wordS y i:=by
 unfold wordS
 rw [words_right,List.map_map]
 apply List.map_congr_left
 intro p _
 exact ext_right x y p.1 p.2
def IsWord (v : ByteArray) : Prop:=0 < v.size ∧ bAt v 0 ≠ 32 ∧ ∀ y : ByteArray,(y.size = 0 ∨ bAt y 0 = 32) → wordEnd (v ++ y) 0 = v.size
theorem wordS_word {v : ByteArray} (h : IsWord v) (y : ByteArray) (hy : y.size = 0 ∨ bAt y 0 = 32) : wordS (v ++ y) 0 = v :: wordS y 0:=by
 have hw : wordsAt (v ++ y) 0 = (0,v.size) :: wordsAt (v ++ y) v.size:=by
   conv => lhs; rw [wordsAt]
   rw [dif_pos (by rw [ByteArray.size_append]; have:=h.1; omega),dif_neg (by rw [bAt_left _ _ _ h.1]; exact h.2.1),h.2.2 y hy]
 have e:=wordS_right v y 0
 unfold wordS at e ⊢
 rw [hw,List.map_cons]
 simp only
 rw [ext_left v y 0 v.size (Nat.le_refl _),ext_all]
 rw [Nat.add_zero] at e
 rw [e]
theorem wordS_nil {y : ByteArray} (h : y.size = 0) : wordS y 0 = []:=by unfold wordS; rw [wordsAt,dif_neg (by omega)]; rfl
def sp : ByteArray:=⟨#[32]⟩
theorem sp_size : sp.size = 1:=rfl
theorem sp_at : bAt sp 0 = 32:=rfl
theorem wordS_sp (z : ByteArray) : wordS (sp ++ z) 0 = wordS z 0:=by
 have e:=wordS_right sp z 0
 rw [Nat.add_zero] at e
 rw [← e,sp_size]
 unfold wordS
 congr 1
 conv => lhs; rw [wordsAt]
 rw [dif_pos (by rw [ByteArray.size_append,sp_size]; omega),dif_pos (by rw [bAt_left _ _ _ (by rw [sp_size]; omega)]; exact sp_at)]
def tailW : List ByteArray → ByteArray
 | [] => ⟨#[]⟩
 | w :: ws => sp ++ (w ++ tailW ws)
def lineW (v : ByteArray) : List ByteArray → ByteArray
 | [] => v
 | w :: ws => lineW (v ++ (sp ++ w)) ws
theorem lineW_eq (v : ByteArray) (ws : List ByteArray) : lineW v ws = v ++ tailW ws:=by
 induction ws generalizing v with
 | nil =>
   show v = v ++ ⟨#[]⟩
   apply ByteArray.ext; rw [ByteArray.data_append]; exact (Array.append_empty).symm
 | cons w ws ih =>
   show lineW (v ++ (sp ++ w)) ws = v ++ (sp ++ (w ++ tailW ws))
   rw [ih,ByteArray.append_assoc,ByteArray.append_assoc]
theorem tailW_head (ws : List ByteArray) : (tailW ws).size = 0 ∨ bAt (tailW ws) 0 = 32:=by
 cases ws with
 | nil => exact .inl rfl
 | cons w ws =>
   refine .inr ?_
   show bAt (sp ++ (w ++ tailW ws)) 0 = 32
   rw [bAt_left _ _ _ (by rw [sp_size]; omega)]; exact sp_at
theorem wordS_tail (ws : List ByteArray) (h : ∀ w ∈ ws,IsWord w) : wordS (tailW ws) 0 = ws:=by
 induction ws with
 | nil => exact wordS_nil rfl
 | cons w ws ih =>
   show wordS (sp ++ (w ++ tailW ws)) 0 = w :: ws
   rw [wordS_sp,wordS_word (h w List.mem_cons_self) _ (tailW_head ws),ih (fun u hu => h u (List.mem_cons_of_mem _ hu))]
theorem wordS_line (v : ByteArray) (ws : List ByteArray) (hv : IsWord v) (h : ∀ w ∈ ws,IsWord w) : wordS (lineW v ws) 0 = v :: ws:=by
 rw [lineW_eq,wordS_word hv _ (tailW_head ws),wordS_tail ws h]
def PlainW (w : ByteArray) : Prop:=0 < w.size ∧ ∀ i,i < w.size → bAt w i ≠ 32 ∧ bAt w i ≠ 34 ∧ bAt w i < 128
theorem skip_stop (y : ByteArray) (hy : y.size = 0 ∨ bAt y 0 = 32) : skipTo y 0 = 0 := by
  rw [skipTo, if_neg (by rintro ⟨h1, h2⟩; rcases hy with h | h; · omega
                         · exact h2 h)]
theorem skip_over (x y : ByteArray) (i : Nat) (hi : i ≤ x.size) (h : ∀ k,i ≤ k → k < x.size → bAt x k ≠ 32) (hy : y.size = 0 ∨ bAt y 0 = 32) : skipTo (x ++ y) i = x.size:=by
  rcases Nat.lt_or_ge i x.size with hl | hl
  · rw [skipTo,if_pos ⟨by rw [ByteArray.size_append]; omega,by rw [bAt_left _ _ _ hl]; exact h i (Nat.le_refl _) hl⟩]
    exact skip_over x y (i + 1) hl (fun k hk => h k (by omega)) hy
  · obtain rfl : i = x.size:=by omega
    have:=skip_right x y 0
    rw [Nat.add_zero,skip_stop y hy,Nat.add_zero] at this
    exact this
termination_by x.size - i
theorem PlainW.word {w : ByteArray} (h : PlainW w) : IsWord w:=by
 refine ⟨h.1,(h.2 0 h.1).1,fun y hy => ?_⟩
 unfold wordEnd
 rw [wordFrom_n (by rw [bAt_left _ _ _ h.1]; exact (h.2 0 h.1).2.1)]
 exact skip_over w y 0 (Nat.zero_le _) (fun k _ hk => (h.2 k hk).1) hy
end Go.Proofs.YtejaocnhekjfiaaGreatDoor.S25
namespace Go.Proofs.YtejaocnhekjfiaaGreatDoor.S25
open Go.RowKit
set_option linter.unusedVariables false
def I64 (x : Int) : Prop:=-9223372036854775808 ≤ x ∧ x ≤ 9223372036854775807
def numS (n : Int) : ByteArray:=⟨(Lib.itoa n).toArray⟩
theorem decDigits_mem (u : Nat) : ∀ b ∈ Lib.decDigits u,48 ≤ b.toNat ∧ b.toNat ≤ 57:=by
 induction u using Lib.decDigits.induct with
 | case1 u h =>
   rw [Lib.decDigits,dif_pos h]
   intro b hb
   simp only [List.mem_singleton] at hb
   subst hb
   rw [UInt8.toNat_ofNat']
   omega
 | case2 u h ih =>
   rw [Lib.decDigits,dif_neg h]
   intro b hb
   rcases List.mem_append.1 hb with hb | hb
   · exact ih b hb
   · simp only [List.mem_singleton] at hb
     subst hb
     rw [UInt8.toNat_ofNat']
     omega
theorem decDigits_ne (u : Nat) : Lib.decDigits u ≠ []:=by
 rw [Lib.decDigits]; split <;> simp
theorem itoa_mem (x : Int) : Lib.itoa x ≠ [] ∧ ∀ b ∈ Lib.itoa x,b.toNat = 45 ∨ (48 ≤ b.toNat ∧ b.toNat ≤ 57):=by
 unfold Lib.itoa
 split
 · refine ⟨by simp,fun b hb => ?_⟩
   rcases List.mem_cons.1 hb with rfl | hb
   · exact .inl rfl
   · exact .inr (decDigits_mem _ b hb)
 · exact ⟨decDigits_ne _,fun b hb => .inr (decDigits_mem _ b hb)⟩
theorem plain_of {w : ByteArray} (hne : w.data.toList ≠ []) (h : ∀ b ∈ w.data.toList,b.toNat ≠ 32 ∧ b.toNat ≠ 34 ∧ b.toNat < 128) : PlainW w:=by
 have hs : w.data.toList.length = w.size:=rfl
 refine ⟨?_,fun i hi => ?_⟩
 · rw [← hs]; exact List.length_pos_iff.2 hne
 · exact h _ (List.mem_of_getElem? (bAt_list w i hi))
theorem numS_plain (n : Int) : PlainW (numS n):=by
 have m:=itoa_mem n
 refine plain_of (by simpa [numS] using m.1) (fun b hb => ?_)
 have hb' : b ∈ Lib.itoa n:=by simpa [numS] using hb
 rcases m.2 b hb' with q | q <;> omega
theorem read_digits (M : Nat) (hM : M ≤ 18446744073709551615) (u : Nat) : ∀ r,u ≤ M → Lib.parseUintM M 0 (Lib.decDigits u ++ r) = Lib.parseUintM M u r:=by
 induction u using Lib.decDigits.induct with
 | case1 u h =>
   intro r hu
   rw [Lib.decDigits,dif_pos h]
   have hd : (UInt8.ofNat (48 + u)).toNat = 48 + u:=by rw [UInt8.toNat_ofNat']; omega
   simp only [List.singleton_append,Lib.parseUintM,hd]
   rw [if_pos (by omega),if_neg (by omega),if_neg (by omega)]
   congr 1
   omega
 | case2 u h ih =>
   intro r hu
   rw [Lib.decDigits,dif_neg h,List.append_assoc,ih _ (by omega)]
   have hd : (UInt8.ofNat (48 + u % 10)).toNat = 48 + u % 10:=by rw [UInt8.toNat_ofNat']; omega
   simp only [List.singleton_append,Lib.parseUintM,hd]
   rw [if_pos (by omega),if_neg (by omega),if_neg (by omega)]
   congr 1
   omega
theorem uint_digits (u : Nat) (h : u ≤ 18446744073709551615) : Lib.parseUintB 64 (Lib.decDigits u) = .ok u:=by
 unfold Lib.parseUintB
 rw [if_neg (decDigits_ne u)]
 have:=read_digits (2 ^ 64 - 1) (by decide) u [] h
 rw [List.append_nil] at this
 rw [this]; rfl
theorem parse_itoa (x : Int) (h : I64 x) : Lib.parseIntB 64 (Lib.itoa x) = .ok x:=by
 unfold I64 at h
 unfold Lib.itoa
 by_cases hx : x < 0
 · rw [if_pos hx]
   have e:=uint_digits x.natAbs (by omega)
   have h45 : (45 : UInt8).toNat = 45:=rfl
   simp only [Lib.parseIntB,h45]
   rw [if_pos (.inr trivial),e]
   simp only [not_true_eq_false,false_and,if_false,true_and,if_true]
   rw [if_neg (by omega)]
   congr 1
   omega
 · rw [if_neg hx]
   have e:=uint_digits x.toNat (by omega)
   have hm:=decDigits_mem x.toNat
   cases hd : Lib.decDigits x.toNat with
   | nil => exact absurd hd (decDigits_ne _)
   | cons c r =>
     have hc:=hm c (by rw [hd]; exact List.mem_cons_self)
     rw [hd] at e
     have h45 : ¬ c.toNat = 45:=by omega
     simp only [Lib.parseIntB]
     rw [if_neg (by omega),e]
     simp only [h45,not_false_eq_true,true_and,false_and,if_false]
     rw [if_neg (by omega)]
     congr 1
     omega
theorem numB_numS (x : Int) (h : I64 x) : numB (numS x) = true:=by
 have e : (numS x).data.toList = Lib.itoa x:=rfl
 unfold numB
 rw [e,parse_itoa x h]
 simp
theorem numI_numS (x : Int) (h : I64 x) : numI (numS x) = x:=by
 have e : (numS x).data.toList = Lib.itoa x:=rfl
 unfold numI
 rw [e,parse_itoa x h]
theorem numS_size (x : Int) (h : I64 x) : (numS x).size ≤ 21:=by
 have:=Lib.itoa_length_le x h.1 h.2
 show (Lib.itoa x).toArray.size ≤ 21
 simpa using this
theorem runNums_words (L : List (ByteArray × Nat)) (fin a : Nat) (xs : List Int) (hx : ∀ x ∈ xs,I64 x) (hL : ∀ i x,xs[i]? = some x → ∃ k,L[a + i]? = some (numS x,k)) :
   ∀ n,n ≤ xs.length → runNums L fin n a (-1) = (xs.take n,a + n,-1)
 | 0,_ => rfl
 | n + 1,h => by
   have ih:=runNums_words L fin a xs hx hL n (by omega)
   obtain ⟨x,hxn⟩ : ∃ x,xs[n]? = some x:=⟨_,List.getElem?_eq_getElem (by omega)⟩
   obtain ⟨k,hk⟩:=hL n x hxn
   have hi:=hx x (List.mem_of_getElem? hxn)
   have s1 : nextS L (a + n) (-1) = numS x:=by unfold nextS; rw [if_neg (by decide),hk]
   have s2 : nextB L (a + n) (-1) fin = -1:=by unfold nextB; rw [if_neg (by decide),hk]
   simp only [runNums]
   rw [ih]
   simp only [numR,numA,numE,s1,s2,numB_numS x hi,numI_numS x hi,if_true]
   rw [List.take_add_one,hxn]
   rfl
theorem num_word {L : List (ByteArray × Nat)} {fin a : Nat} {x : Int} (hx : I64 x) {k : Nat} (hL : L[a]? = some (numS x,k)) :
   numR L a (-1) = x ∧ numA L a (-1) = a + 1 ∧ numE L a (-1) fin = -1:=by
 have s1 : nextS L a (-1) = numS x:=by unfold nextS; rw [if_neg (by decide),hL]
 have s2 : nextB L a (-1) fin = -1:=by unfold nextB; rw [if_neg (by decide),hL]
 simp only [numR,numA,numE,s1,s2,numB_numS x hx,numI_numS x hx,if_true]
 exact ⟨trivial,trivial,trivial⟩
theorem not_named {w : ByteArray} (h : PlainW w) : namedB w = false:=by
 unfold namedB
 rw [decide_eq_false (h.2 0 h.1).2.1]
 simp
def addR (h key d : Int) (a : Nat) : AddR:={ h:=h,named:=false,name:=⟨#[]⟩,key:=IntKind.u64.wrap key,d:=d,at_:=a,bad:=-1 }
theorem add_words {L : List (ByteArray × Nat)} {fin a : Nat} {x y z : Int} (hx : I64 x) (hy : I64 y) (hz : I64 z) {i j k : Nat}
   (h1 : L[a]? = some (numS x,i)) (h2 : L[a + 1]? = some (numS y,j)) (h3 : L[a + 1 + 1]? = some (numS z,k)) : runAdd L fin a (-1) = addR x y z (a + 1 + 1 + 1):=by
 obtain ⟨r1,a1,e1⟩:=num_word (fin:=fin) hx h1
 obtain ⟨r2,a2,e2⟩:=num_word (fin:=fin) hy h2
 obtain ⟨r3,a3,e3⟩:=num_word (fin:=fin) hz h3
 have s1 : nextS L (a + 1) (-1) = numS y:=by unfold nextS; rw [if_neg (by decide),h2]
 have s2 : nextB L (a + 1) (-1) fin = -1:=by unfold nextB; rw [if_neg (by decide),h2]
 unfold runAdd
 simp only [r1,a1,e1,s1,s2,not_named (numS_plain y),r2,a2,e2,r3,a3,e3]
 rfl
theorem torn_plain (s : ByteArray) (h : ∀ i,i < s.size → bAt s i < 128) (i : Nat) : tornAt s i = none:=by
  rw [tornAt]
  split
  · rename_i hi
    have:=h i hi
    have hd : Utf8.decode s i = (bAt s i,1):=by
      rw [Lib.decode_at]
      unfold Lib.decodeN
      exact if_pos this
    rw [hd,if_neg (by simp only [Prod.mk.injEq,not_and]; omega)]
    exact torn_plain s h (i + 1)
  · rfl
termination_by s.size - i
theorem plain_line (v : ByteArray) (ws : List ByteArray) (hv : PlainW v) (h : ∀ w ∈ ws,PlainW w) : ∀ i,i < (lineW v ws).size → bAt (lineW v ws) i < 128:=by
 have app : ∀ x y : ByteArray,(∀ i,i < x.size → bAt x i < 128) → (∀ i,i < y.size → bAt y i < 128) → ∀ i,i < (x ++ y).size → bAt (x ++ y) i < 128:=fun x y hx hy i hi => by
   rw [ByteArray.size_append] at hi
   rcases Nat.lt_or_ge i x.size with hl | hl
   · rw [bAt_left _ _ _ hl]; exact hx i hl
   · obtain ⟨j,rfl⟩:=Nat.exists_eq_add_of_le hl
     rw [bAt_right]; exact hy j (by omega)
 have sp' : ∀ i,i < sp.size → bAt sp i < 128:=fun i hi => by
   obtain rfl : i = 0:=by rw [sp_size] at hi; omega
   rw [sp_at]; decide
 have tl : ∀ ws : List ByteArray,(∀ w ∈ ws,PlainW w) → ∀ i,i < (tailW ws).size → bAt (tailW ws) i < 128:=fun ws => by
   induction ws with
   | nil => intro _ i hi; exact absurd hi (Nat.not_lt_zero _)
   | cons w ws ih =>
     intro h
     exact app _ _ sp' (app _ _ (fun i hi => ((h w List.mem_cons_self).2 i hi).2.2) (ih fun u hu => h u (List.mem_cons_of_mem _ hu)))
 rw [lineW_eq]
 exact app _ _ (fun i hi => (hv.2 i hi).2.2) (tl ws h)
theorem lineW_size (v : ByteArray) (ws : List ByteArray) (b : Nat) (h : ∀ w ∈ ws,w.size ≤ b) : (lineW v ws).size ≤ v.size + ws.length * (b + 1):=by
 rw [lineW_eq,ByteArray.size_append]
 have : (tailW ws).size ≤ ws.length * (b + 1):=by
   induction ws with
   | nil => exact Nat.zero_le _
   | cons w ws ih =>
     have h1:=h w List.mem_cons_self
     have h2:=ih fun u hu => h u (List.mem_cons_of_mem _ hu)
     show (sp ++ (w ++ tailW ws)).size ≤ _
     rw [ByteArray.size_append,ByteArray.size_append,sp_size,List.length_cons,Nat.add_mul]
     omega
 omega
def numLine (v : ByteArray) (xs : List Int) : ByteArray:=lineW v (xs.map numS)
structure LineOk (v : ByteArray) (xs : List Int) : Prop where
 plain : PlainW v
 size : v.size ≤ 100
 nums : ∀ x ∈ xs,I64 x
 few : xs.length ≤ 8
theorem LineOk.small {v xs} (h : LineOk v xs) : (numLine v xs).size ≤ 300:=by
 have:=lineW_size v (xs.map numS) 21 (fun w hw => by
   obtain ⟨x,hx,rfl⟩:=List.mem_map.1 hw
   exact numS_size x (h.nums x hx))
 rw [List.length_map] at this
 have h1:=h.few
 have h2:=h.size
 have : xs.length * (21 + 1) ≤ 8 * 22:=Nat.mul_le_mul h1 (Nat.le_refl _)
 unfold numLine
 omega
theorem LineOk.torn {v xs} (h : LineOk v xs) : tornAt (numLine v xs) 0 = none:=
 torn_plain _ (plain_line v _ h.plain fun w hw => by obtain ⟨x,hx,rfl⟩:=List.mem_map.1 hw; exact numS_plain x) 0
theorem LineOk.fst {v xs} (h : LineOk v xs) : (wordsOf (numLine v xs)).map Prod.fst = v :: xs.map numS:=by
 rw [wordsOf_fst]
 exact wordS_line v _ h.plain.word fun w hw => by obtain ⟨x,hx,rfl⟩:=List.mem_map.1 hw; exact (numS_plain x).word
theorem LineOk.at_ {v xs} (h : LineOk v xs) {i : Nat} {w : ByteArray} (hw : (v :: xs.map numS)[i]? = some w) : ∃ k,(wordsOf (numLine v xs))[i]? = some (w,k):=by
 rw [← h.fst,List.getElem?_map,Option.map_eq_some_iff] at hw
 obtain ⟨⟨a,k⟩,h1,h2⟩:=hw
 exact ⟨k,by rw [h1,← h2]⟩
theorem LineOk.len {v xs} (h : LineOk v xs) : (wordsOf (numLine v xs)).length = xs.length + 1:=by
 have:=congrArg List.length h.fst
 simpa using this
theorem LineOk.num {v xs} (h : LineOk v xs) {i : Nat} {x : Int} (hx : xs[i]? = some x) : ∃ k,(wordsOf (numLine v xs))[1 + i]? = some (numS x,k):=by
 refine h.at_ ?_
 rw [Nat.add_comm,List.getElem?_cons_succ,List.getElem?_map,hx]; rfl
theorem LineOk.runs {v xs} (h : LineOk v xs) (fin n : Nat) (hn : n = xs.length) : runNums (wordsOf (numLine v xs)) fin n 1 (-1) = (xs,1 + n,-1):=by
 subst hn
 have:=runNums_words (wordsOf (numLine v xs)) fin 1 xs h.nums (fun i x hx => h.num hx) xs.length (Nat.le_refl _)
 rwa [List.take_length] at this
theorem LineOk.parse {v xs} (h : LineOk v xs) {k : Option Cmd} (hr : runCmd (wordsOf (numLine v xs)) (numLine v xs).size = (k,xs.length + 1,-1)) : parseV (numLine v xs) = (k,0,0):=by
 unfold parseV
 have hs:=h.small
 rw [if_neg (by omega),h.torn]
 have hne : wordsOf (numLine v xs) ≠ []:=fun e => by have:=h.len; rw [e] at this; simp at this
 simp only [hne,if_false]
 unfold told
 rw [hr]
 simp only
 rw [if_neg (show ¬ (0 : Int) ≤ -1 by decide),if_neg (by rw [h.len]; omega)]
end Go.Proofs.YtejaocnhekjfiaaGreatDoor.S25
namespace Go.Proofs.YtejaocnhekjfiaaGreatDoor
open Go.RowKit
set_option linter.unusedVariables false
def LineR (R : Value → World → Prop) (t : ByteArray) (e : Ending) (w' : World) : Prop:=e = .returned (.tuple #[.string t,.bool true]) ∧ ∃ v w2,R v w2 ∧ Below w2.heap.size w2 w'
theorem CmdV.form {w : World} {v : Value} {k : S25.Cmd} (h : S25.CmdV w v k) : ∃ t x,v = .iface t x:=by
 cases k with
 | create l => obtain ⟨_,_,_,_,_,_,rfl⟩:=h; exact ⟨_,_,rfl⟩
 | open_ l => obtain ⟨_,_,_,_,_,_,rfl⟩:=h; exact ⟨_,_,rfl⟩
 | add r => exact ⟨_,_,h⟩
 | tick => exact ⟨_,_,h⟩
 | query s x l => obtain ⟨_,_,rfl,_⟩:=h; exact ⟨_,_,rfl⟩
 | pair s x y => exact ⟨_,_,h⟩
 | imp l => obtain ⟨_,_,rfl,_⟩:=h; exact ⟨_,_,rfl⟩
set_option maxRecDepth 100000 in
set_option maxHeartbeats 2000000 in
theorem line_ok {w : World} (a : Nat) (line : ByteArray) (hT : S25.Tabs w) (hs : line.size ≤ 1048576) {k : S25.Cmd} (hp : S25.parseV line = (some k,0,0)) {R : Value → World → Prop} {t : ByteArray}
   (hdo : ∀ w1 v,Below w.heap.size w w1 → S25.CmdV w1 v k → Calls Tryz.prog 34 #[.pointer (some ⟨a,0,none⟩),v] w1 (RepV R 0))
   (ht : ∀ v w2,R v w2 → Calls Tryz.prog 35 #[v] w2 fun e w3 => e = .returned (.string t) ∧ Below w2.heap.size w2 w3) :
   Calls Tryz.prog 11 #[.pointer (some ⟨a,0,none⟩),.string line] w (LineR R t):=by
 have KP:=S25.parse_any line w hs hT
 rw [hp] at KP
 have KP:=Lib.hid KP
 have HDO:=Lib.hid hdo
 have HTX:=Lib.hid ht
 clear hp hdo ht hT hs
 go_enter Tryz.func11,Tryz.ntmps11
 go_wp2_with fail
 refine KP.out.mono ?_
 rintro e w1 ⟨v,rfl,hv,hb⟩
 obtain ⟨ty,x,rfl⟩:=CmdV.form hv
 have KD:=Lib.hid (HDO.out w1 _ hb hv)
 clear hv hb
 go_wp2_with fail
 refine KD.out.mono ?_
 rintro e w2 ⟨r,rfl,hR⟩
 have KT:=Lib.hid (HTX.out r w2 hR)
 have HR:=Lib.hid hR
 clear hR
 go_wp2_with fail
 refine KT.out.mono ?_
 rintro e w3 ⟨rfl,hb⟩
 have HB:=Lib.hid hb
 clear hb
 go_wp2_with fail
 go_ret2
 exact ⟨rfl,r,w2,HR.out,HB.out⟩
set_option maxRecDepth 100000 in
set_option maxHeartbeats 2000000 in
theorem line_err {w : World} (a : Nat) (line : ByteArray) (hT : S25.Tabs w) (hs : line.size ≤ 1048576) {k : S25.Cmd} (hp : S25.parseV line = (some k,0,0)) {R : Value → World → Prop} {n : Nat} (hn : n ≠ 0) (hn2 : n < 100)
   (hdo : ∀ w1 v,Below w.heap.size w w1 → S25.CmdV w1 v k → Calls Tryz.prog 34 #[.pointer (some ⟨a,0,none⟩),v] w1 (RepV R n)) :
   Calls Tryz.prog 11 #[.pointer (some ⟨a,0,none⟩),.string line] w (LineR R (errT n)):=by
 have KP:=S25.parse_any line w hs hT
 rw [hp] at KP
 have KP:=Lib.hid KP
 have HDO:=Lib.hid hdo
 have KE:=Lib.hid (errno_any n hn2)
 have g0 : ((n : Int) == 0) = false:=by simp; omega
 have g1 : ((n : Int) != 0) = true:=by simp; omega
 clear hp hdo hT hs hn2
 go_enter Tryz.func11,Tryz.ntmps11
 go_wp2_with fail
 refine KP.out.mono ?_
 rintro e w1 ⟨v,rfl,hv,hb⟩
 obtain ⟨ty,x,rfl⟩:=CmdV.form hv
 have KD:=Lib.hid (HDO.out w1 _ hb hv)
 clear hv hb
 go_wp2_with fail
 refine KD.out.mono ?_
 rintro e w2 ⟨r,rfl,hR⟩
 have HR:=Lib.hid hR
 clear hR
 go_wp2_with fail
 refine (KE.out _).mono ?_
 rintro e w3 ⟨rfl,rfl⟩
 go_wp2_with fail
 go_ret2
 exact ⟨rfl,r,w2,HR.out,Below.refl _ _⟩
end Go.Proofs.YtejaocnhekjfiaaGreatDoor
namespace Go
open Go.RowKit
set_option linter.unusedVariables false
def noDefer (ops : Array Oper) : Bool:=ops.toList.all fun o => match o.op with | .defer _ => false | _ => true
theorem noDefer_spec {ops : Array Oper} (h : noDefer ops = true) {i : Nat} {o : Oper} (ho : ops[i]? = some o) : ∀ c,o.op ≠ .defer c:=by
 intro c e
 have:=List.all_eq_true.1 h o (by rw [Array.mem_toList_iff]; exact Array.mem_of_getElem? ho)
 rw [e] at this
 cases this
section
variable {P : Program} {md : Region.Mode} {ops : Array Oper} {Q : Exit → Act → World → Prop} {l n : Nat}
theorem wpOpIn_round (hQ : ∀ a w,¬ Q .outgrown a w) (hd : noDefer ops = true) {i : Nat} {K K' : Act → World → Prop} {a : Act} {w : World} (h : wpOp P ops Q i K a w) (hK : ∀ a w,K a w → K' a w) :
   wpOpIn (Fence.wide.inRound l) n P ops Q i K' a w:=by
 unfold wpOp at h
 unfold wpOpIn
 cases ho : ops[i]? with
 | none => simp only [ho] at h ⊢; exact hK _ _ h
 | some o =>
   simp only [ho] at h ⊢
   have hro : (Fence.wide.inRound l).round = some l:=rfl
   split
   · rename_i hw
     simp only [hw,if_true] at h
     refine ⟨fun _ _ => trivial,?_⟩
     rcases h with h | ⟨_,a₀,w₀,hq⟩
     · rw [hro,Oper.semAt_some l _ _ (noDefer_spec hd ho)]
       unfold Oper.wp at h
       generalize (execOp a.eval o).run P w = r at *
       cases r with
       | ok x w' =>
         cases x <;> simp only [Oper.upon,Oper.uponIn] at h ⊢
         case value u => exact hK _ _ h
         case skip => exact hK _ _ h
         case defer d => exact hK _ _ h
         case enter f args => exact ⟨fun h => (by cases h),CallsIn.inRound l (callsIn_wide.2 (h.mono fun e w'' he => by cases e <;> first | exact hK _ _ he | exact he))⟩
         case row row args =>
           refine ⟨fun h => (by cases h),fun c cs _ => ?_⟩
           obtain ⟨v,w',hr,hs⟩:=h c cs
           exact ⟨v,w',hK _ _ hr,stepsIn_wide.2 hs⟩
       | halt x w' => cases x <;> simp only [Oper.upon,Oper.uponIn] at h ⊢ <;> exact h
     · exact absurd hq (hQ _ _)
   · rename_i hw
     simp only [hw] at h
     exact ⟨fun _ _ => trivial,hK _ _ h⟩
theorem wpAnyIn_round (hQ : ∀ a w,¬ Q .outgrown a w) (hd : noDefer ops = true) : ∀ (fuel : Nat) (listed : Array Bool) (a : Act) (w : World),wpAny P md ops Q fuel listed a w → wpAnyIn (Fence.wide.inRound l) n P md ops Q fuel listed a w
 | 0,_,_,_,h => h
 | fuel + 1,_,_,_,h => ⟨h.1,fun i hi => wpOpIn_round hQ hd (h.2 i hi) (fun a w h' => wpAnyIn_round hQ hd fuel _ a w h')⟩
theorem wpIn_region_round {id : Nat} {a : Act} {w : World} {S : World → Prop} (hm : P.follows .mixedOrders = true) (hQ : ∀ a w,¬ Q .outgrown a w) (hd : noDefer ops = true)
   (h : wpAnyH P .any ops Q S ops.size (Array.replicate ops.size false) a w.drew) : (Code.region id ops true).wpIn (Fence.wide.inRound l) n P Q a w:=
 wpIn_region_any hm (wpAnyIn_round hQ hd _ _ _ _ (wpAny_of_held _ _ _ _ h))
end
end Go
namespace Go.Proofs.YtejaocnhekjfiaaGreatDoor
open Go.RowKit Go.Shelf
set_option linter.unusedVariables false
attribute [local go_sem] Oper.semAt_some
theorem Upd.putObj {S : Nat → Prop} {w w' : World} (h : Upd S w w') (k : Nat) (o : Obj) (hk : w.heap.size ≤ k) : Upd S w (w'.putObj k o):=
 ⟨h.os,h.tape,h.output,by simpa using h.size,fun i hi hs => (World.putObj_heap_other (by omega)).trans (h.block i hi hs)⟩
structure Chk (w W : World) (p q : Nat) (c : Cfg) (L : List LA) (C : List (List Int)) (B5 B7 : Nat) (d bad : Int) : Prop where
 st : StackIs W p q c L C
 h5 : W.heap[B5]? = some (.cells #[.int .i64 d] 2 (0,0))
 h7 : W.heap[B7]? = some (.cells #[.int .i64 bad] 77 (0,0))
 bel : Below w.heap.size w W
theorem Chk.grown {w W W' : World} {p q c L C B5 B7 d bad} (h : Chk w W p q c L C B5 B7 d bad) {row : Option Nat} (hg : W.grownBy W' row) (hr : ∀ r,row = some r → w.heap.size ≤ r ∧ ∃ o : Obj,W.heap[r]? = some o ∧ o.isCells = false) : Chk w W' p q c L C B5 B7 d bad:=by
 have hr':=fun r e => (hr r e).2
 refine ⟨h.st.grown hg hr',?_,?_,h.bel.grown hg h.bel.size (fun k e => (hr k e).1)⟩
 · exact (upd_grown hg).heap h.h5 (not_row h.h5 hr')
 · exact (upd_grown hg).heap h.h7 (not_row h.h7 hr')
theorem chk_end {w W W2 : World} {p q : Nat} {c : Cfg} {L : List LA} {C : List (List Int)} {B5 B7 : Nat} {d bad : Int} (er : Int) (n₀ B : Nat) (h : Chk w W p q c L C B5 B7 d bad) (hb : Below W.heap.size W W2) (hne : B5 ≠ B7) (hw : w.heap.size ≤ B7) (hn : n₀ ≤ W.heap.size) :
   KeepsFrom B W ((W2.alloc (.cells #[.int .i64 bad,.int .i64 er] 77)).setCell ⟨B7,0,none⟩ (.int .i64 (firstOf bad er))) ∧
   KeepR n₀ (fun k => k = B7) W ((W2.alloc (.cells #[.int .i64 bad,.int .i64 er] 77)).setCell ⟨B7,0,none⟩ (.int .i64 (firstOf bad er))) ∧
   Chk w ((W2.alloc (.cells #[.int .i64 bad,.int .i64 er] 77)).setCell ⟨B7,0,none⟩ (.int .i64 (firstOf bad er))) p q c L C B5 B7 d (firstOf bad er):=by
 have hb2:=hb.alloc hb.size (.cells #[.int .i64 bad,.int .i64 er] 77)
 have hu : Upd (fun k => k = B7) W ((W2.alloc (.cells #[.int .i64 bad,.int .i64 er] 77)).setCell ⟨B7,0,none⟩ (.int .i64 (firstOf bad er))):=
   (Upd.of_below hb2).trans (Upd.store _ _ _ _ rfl)
 have h7:=(hb2.block _ (lt_of_block h.h7)).trans h.h7
 refine ⟨(hu.keepsOthers fun k e => ⟨_,_,_,e ▸ h.h7⟩).from B,hu.keepR hn (fun k _ e => e),?_⟩
 obtain ⟨cap,hbk,_⟩:=h.st.blk
 obtain ⟨rest,hrw⟩:=h.st.row
 refine ⟨h.st.upd hu (fun e => ?_) (fun e => ?_) (fun A hA => ?_),hu.heap h.h5 hne,?_,hu.below (B:=w.heap.size) (fun k e => by omega) h.bel.size |> h.bel.trans⟩
 · rw [e,h.h7] at hbk; simp at hbk
 · rw [e,h.h7] at hrw; simp at hrw
 · obtain ⟨n,hn⟩:=List.getElem?_of_mem hA
   obtain ⟨zs,hz,hl⟩:=h.st.mem hn
   exact ⟨hl.nob _ h.h7 (by decide) (by decide),hl.nog _ h.h7 (by decide),hl.nor _ h.h7 (by decide)⟩
 · rw [heap_setCell_same _ _ _ _ _ _ h7]; rfl
noncomputable def updL (c : Cfg) (key : Nat) (d : Int) (C : List (List Int)) (n : Nat) : List (List Int):=C.set n (levUpd c n (C.getD n []) (key / 2 ^ n) d)
noncomputable def updS (c : Cfg) (key : Nat) (d : Int) (C : List (List Int)) (ns : List Nat) : List (List Int):=ns.foldl (updL c key d) C
theorem updS_snoc (c : Cfg) (key : Nat) (d : Int) (C : List (List Int)) (ns : List Nat) (n : Nat) : updS c key d C (ns ++ [n]) = updL c key d (updS c key d C ns) n:=by simp [updS]
structure Chg (w0 W : World) (p q : Nat) (c : Cfg) (L : List LA) (C : List (List Int)) (B5 Dk : Nat) (d b : Int) : Prop where
 st : StackIs W p q c L C
 h5 : W.heap[B5]? = some (.cells #[.int .i64 d] 2 (0,0))
 hD : W.heap[Dk]? = some (.deferred (some []))
 upd : Upd (RowsOf L) w0 W
 fit : ∀ zs ∈ C,FitL b zs
theorem Chg.grown {w0 W W' : World} {p q c L C B5 Dk d b} (h : Chg w0 W p q c L C B5 Dk d b) (hk : Dk < w0.heap.size) {row : Option Nat} (hg : W.grownBy W' row) (hr : ∀ r,row = some r → w0.heap.size ≤ r ∧ ∃ o : Obj,W.heap[r]? = some o ∧ o.isCells = false) : Chg w0 W' p q c L C B5 Dk d b:=by
 have hr':=fun r e => (hr r e).2
 refine ⟨h.st.grown hg hr',?_,?_,h.upd.then (upd_grown hg) (fun i e hi => by have:=(hr i e).1; omega),h.fit⟩
 · exact (upd_grown hg).heap h.h5 (not_row h.h5 hr')
 · exact (upd_grown hg).heap h.hD (fun e => by have:=(hr _ e).1; omega)
theorem chg_end {w0 W W' : World} {p q : Nat} {c : Cfg} {L : List LA} {C : List (List Int)} {B5 Dk : Nat} {d b D : Int} (B : Nat) (h : Chg w0 W p q c L C B5 Dk d b) (hb : 0 ≤ b) (hd : -D ≤ d ∧ d ≤ D) (hD : 0 ≤ D) (key n : Nat) {A : LA} (hA : L[n]? = some A) {zs : List Int} (hz : C[n]? = some zs)
   (h5r : ¬ RowsOf L B5) (hu : Upd (· = A.r) W W') (hl : LevIs W' c n A (levUpd c n zs (key / 2 ^ n) d)) :
   KeepsFrom B W W' ∧ KeepR w0.heap.size (RowsOf L) W W' ∧ Chg w0 W' p q c L (updL c key d C n) B5 Dk d (b + D):=by
 have hgz : C.getD n [] = zs:=by rw [List.getD_eq_getElem?_getD,hz]; rfl
 obtain ⟨l,t,fr,hr⟩:=(h.st.lev n A zs hA hz).cells3.2.2
 have hm : RowsOf L A.r:=⟨A,List.mem_of_getElem? hA,rfl⟩
 refine ⟨(hu.keepsOthers fun k e => ⟨l,t,fr,e ▸ hr⟩).from B,hu.keepR h.upd.size (fun k _ e => e ▸ hm),?_⟩
 refine ⟨?_,hu.heap h.h5 (fun e => h5r (e ▸ hm)),hu.heap h.hD (fun e => ?_),h.upd.trans (hu.mono fun k e => e ▸ hm),?_⟩
 · unfold updL; rw [hgz]; exact h.st.put hA hu hl
 · rw [← e,h.hD] at hr; cases hr
 · unfold updL; rw [hgz]
   intro ys hy
   rcases List.mem_or_eq_of_mem_set hy with h1 | h1
   · exact (h.fit ys h1).mono (by omega)
   · rw [h1]; exact levUpd_fit h.st.ok (h.fit zs (List.mem_of_getElem? hz)) hb hd hD
end Go.Proofs.YtejaocnhekjfiaaGreatDoor
