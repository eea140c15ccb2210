/- The reader: add walked. -/
import Derived.Test.YtjhlpmigkbaegaaDoorNums
namespace Go.Proofs.YtjhlpmigkbaegaaDoor
open Go.RowKit
set_option linter.unusedVariables false

/-- Block b holds the rest of a line that adds. -/
def AAt (w : World) (b : Nat) (h : Int) (n : Bool) (s : ByteArray) (k d : Int) : Prop := w.heap[b]? = some (.cells #[.int .i64 h, .bool n, .string s, .int .u64 k, .int .i64 d] 58 (0, 0))
theorem AAt.c {w b h n s k d} (a : AAt w b h n s k d) : w.cell? ⟨b, 0, none⟩ = some (.int .i64 h) ∧ w.cell? ⟨b, 1, none⟩ = some (.bool n) ∧ w.cell? ⟨b, 2, none⟩ = some (.string s) ∧ w.cell? ⟨b, 3, none⟩ = some (.int .u64 k) ∧ w.cell? ⟨b, 4, none⟩ = some (.int .i64 d) :=
  ⟨(cell_of_row _ _ _ _ _ _ a).trans rfl, (cell_of_row _ _ _ _ _ _ a).trans rfl, (cell_of_row _ _ _ _ _ _ a).trans rfl, (cell_of_row _ _ _ _ _ _ a).trans rfl, (cell_of_row _ _ _ _ _ _ a).trans rfl⟩
theorem AAt.f {w b h n s k d} (a : AAt w b h n s k d) (i : Nat) : w.frozen? ⟨b, i, none⟩ = false := frozen_of_row _ _ _ _ _ a
theorem AAt.turn {w w' : World} {R b h n s k d} (a : AAt w b h n s k d) (ht : Turn R w w') (hne : b ≠ R) : AAt w' b h n s k d := (ht.block b (lt_of_block a) hne).trans a
theorem AAt.below {w w' : World} {b h n s k d} (a : AAt w b h n s k d) (hb : Below w.heap.size w w') : AAt w' b h n s k d := (hb.block b (lt_of_block a)).trans a
theorem AAt.new (w : World) (h : Int) (n : Bool) (s : ByteArray) (k d : Int) : AAt (w.alloc (.cells #[.int .i64 h, .bool n, .string s, .int .u64 k, .int .i64 d] 58)) w.heap.size h n s k d := heap_alloc_new w _
theorem AAt.other {w b h n s k d} (a : AAt w b h n s k d) {B : Nat} (hB : b ≠ B) (i : Nat) (v : Value) : AAt (w.setCell ⟨B, i, none⟩ v) b h n s k d := (heap_setCell_other _ _ _ _ hB).trans a
theorem AAt.s1 {w b h n s k d} (a : AAt w b h n s k d) (x : Bool) : AAt (w.setCell ⟨b, 1, none⟩ (.bool x)) b h x s k d := by unfold AAt; rw [heap_setCell_same _ _ _ _ _ _ a]; rfl
theorem AAt.s2 {w b h n s k d} (a : AAt w b h n s k d) (x : ByteArray) : AAt (w.setCell ⟨b, 2, none⟩ (.string x)) b h n x k d := by unfold AAt; rw [heap_setCell_same _ _ _ _ _ _ a]; rfl
theorem AAt.s3 {w b h n s k d} (a : AAt w b h n s k d) (x : Int) : AAt (w.setCell ⟨b, 3, none⟩ (.int .u64 x)) b h n s x d := by unfold AAt; rw [heap_setCell_same _ _ _ _ _ _ a]; rfl
theorem AAt.s4 {w b h n s k d} (a : AAt w b h n s k d) (x : Int) : AAt (w.setCell ⟨b, 4, none⟩ (.int .i64 x)) b h n s k x := by unfold AAt; rw [heap_setCell_same _ _ _ _ _ _ a]; rfl
theorem AAt.all {w b h n s k d} (a : AAt w b h n s k d) (h' : Int) (n' : Bool) (s' : ByteArray) (k' d' : Int) :
    AAt (((((w.setCell ⟨b, 0, none⟩ (.int .i64 h')).setCell ⟨b, 1, none⟩ (.bool n')).setCell ⟨b, 2, none⟩ (.string s')).setCell ⟨b, 3, none⟩ (.int .u64 k')).setCell ⟨b, 4, none⟩ (.int .i64 d')) b h' n' s' k' d' := by
  unfold AAt
  rw [heap_setCell_same _ _ _ _ _ _ (heap_setCell_same _ _ _ _ _ _ (heap_setCell_same _ _ _ _ _ _ (heap_setCell_same _ _ _ _ _ _ (heap_setCell_same _ _ _ _ _ _ a))))]; rfl
theorem RS.all5 {w R g c L at_ bad fin} (h : RS w R g c L at_ bad fin) {B : Nat} (h1 : B ≠ R) (h2 : B ≠ g) (h3 : 8 ≤ B) (v0 v1 v2 v3 v4 : Value) :
    RS (((((w.setCell ⟨B, 0, none⟩ v0).setCell ⟨B, 1, none⟩ v1).setCell ⟨B, 2, none⟩ v2).setCell ⟨B, 3, none⟩ v3).setCell ⟨B, 4, none⟩ v4) R g c L at_ bad fin :=
  ((((h.other h1 h2 h3 _ _).other h1 h2 h3 _ _).other h1 h2 h3 _ _).other h1 h2 h3 _ _).other h1 h2 h3 _ _
theorem Turn.all5 {b : Nat} {w w' : World} (h : Turn b w w') {B : Nat} (hB : w.heap.size ≤ B) (v0 v1 v2 v3 v4 : Value) :
    Turn b w (((((w'.setCell ⟨B, 0, none⟩ v0).setCell ⟨B, 1, none⟩ v1).setCell ⟨B, 2, none⟩ v2).setCell ⟨B, 3, none⟩ v3).setCell ⟨B, 4, none⟩ v4) :=
  ((((h.fresh hB _ _).fresh hB _ _).fresh hB _ _).fresh hB _ _).fresh hB _ _
/-- What 'add' reads. -/
structure AddR where
  h : Int
  named : Bool
  name : ByteArray
  key : Int
  d : Int
  at_ : Nat
  bad : Int
def runAdd (L : List (ByteArray × Nat)) (fin a : Nat) (b : Int) : AddR :=
  let a1 := numA L a b
  let b1 := numE L a b fin
  let s := nextS L a1 b1
  let b2 := nextB L a1 b1 fin
  if namedB s then
    { h := numR L a b, named := true, name := s.extract 1 (s.size - 1), key := keyV (s.extract 1 (s.size - 1)), d := numR L (a1 + 1) b2, at_ := numA L (a1 + 1) b2, bad := numE L (a1 + 1) b2 fin }
  else
    { h := numR L a b, named := false, name := ⟨#[]⟩, key := IntKind.u64.wrap (numR L a1 b2), d := numR L (numA L a1 b2) (numE L a1 b2 fin), at_ := numA L (numA L a1 b2) (numE L a1 b2 fin), bad := numE L (numA L a1 b2) (numE L a1 b2 fin) fin }
def addV (r : AddR) : Value := .agg #[.int .i64 r.h, .bool r.named, .string r.name, .int .u64 r.key, .int .i64 r.d]
set_option maxRecDepth 100000 in
set_option maxHeartbeats 2000000 in
theorem add_yes {w : World} {R g c : Nat} {L : List (ByteArray × Nat)} {at_ : Nat} {bad : Int} {fin : Nat} (h : RS w R g c L at_ bad fin) (ha : at_ ≤ 1048570)
    (hn : namedB (nextS L (numA L at_ bad) (numE L at_ bad fin)) = true) :
    Calls Tryd.prog 34 #[.pointer (some ⟨R, 0, none⟩)] w (RPost (addV (runAdd L fin at_ bad)) w R g c L (runAdd L fin at_ bad).at_ (runAdd L fin at_ bad).bad fin) := by
  obtain ⟨a1, hA1⟩ : ∃ x, numA L at_ bad = x := ⟨_, rfl⟩
  obtain ⟨b1, hB1⟩ : ∃ x, numE L at_ bad fin = x := ⟨_, rfl⟩
  obtain ⟨n1, hN1⟩ : ∃ x, numR L at_ bad = x := ⟨_, rfl⟩
  rw [hA1, hB1] at hn
  obtain ⟨s, hs⟩ : ∃ x, nextS L a1 b1 = x := ⟨_, rfl⟩
  obtain ⟨b2, hB2⟩ : ∃ x, nextB L a1 b1 fin = x := ⟨_, rfl⟩
  rw [hs] at hn
  obtain ⟨a4, hA4⟩ : ∃ x, numA L (a1 + 1) b2 = x := ⟨_, rfl⟩
  obtain ⟨b4, hB4⟩ : ∃ x, numE L (a1 + 1) b2 fin = x := ⟨_, rfl⟩
  obtain ⟨n4, hN4⟩ : ∃ x, numR L (a1 + 1) b2 = x := ⟨_, rfl⟩
  have hle1 := numA_le L at_ bad
  rw [hA1] at hle1
  have HV := Lib.hid (show runAdd L fin at_ bad = { h := n1, named := true, name := s.extract 1 (s.size - 1), key := keyV (s.extract 1 (s.size - 1)), d := n4, at_ := a4, bad := b4 } by
    unfold runAdd; simp only [hA1, hB1, hN1, hs, hB2, hA4, hB4, hN4, hn, if_true])
  have hR := lt_of_block h.blk
  have hba : Below w.heap.size w (w.alloc (.cells #[.int .i64 0, .bool false, .string ⟨#[]⟩, .int .u64 0, .int .i64 0] 58)) := (Below.refl _ _).alloc (Nat.le_refl _) _
  have H0 := h.below hba
  have T0 := Lib.hid (Turn.of_below (b := R) hba)
  have Z0 := Lib.hid (AAt.new w 0 false ⟨#[]⟩ 0 0)
  have hZR : w.heap.size ≠ R := by omega
  have hZg : w.heap.size ≠ g := by have := h.glt; omega
  have hZ8 : 8 ≤ w.heap.size := h.tabs.low
  have K1 := Lib.hid (num_any H0 (by omega))
  rw [hN1, hA1, hB1] at K1
  have hnv : namedV s = .tuple #[.string (s.extract 1 (s.size - 1)), .bool true] := by unfold namedV; rw [hn]; rfl
  have hE2 := Lib.hid (And.intro hs (And.intro hB2 (And.intro hA4 (And.intro hB4 (And.intro hN4 hnv)))))
  clear h hba H0 hn hA1 hB1 hN1 hs hB2 hA4 hB4 hN4 hnv
  go_enter Tryd.func34, Tryd.ntmps34
  go_wp2_with fail
  generalize w.alloc (.cells #[.int .i64 0, .bool false, .string ⟨#[]⟩, .int .u64 0, .int .i64 0] 58) = w0 at *
  refine K1.out.mono ?_
  rintro e w1 ⟨rfl, ht1, hr1⟩
  have Z1 := Lib.hid (Z0.out.turn ht1 hZR)
  have T1 := Lib.hid (T0.out.trans ht1)
  have hR1 := lt_of_block hr1.blk
  have hYR : w1.heap.size ≠ R := by omega
  have hYg : w1.heap.size ≠ g := by have := hr1.glt; omega
  have hYZ : w.heap.size ≠ w1.heap.size := by have := lt_of_block Z1.out; omega
  have hY8 : 8 ≤ w1.heap.size := hr1.tabs.low
  have hZY : w.heap.size ≤ w1.heap.size := T1.out.size
  have hbb : Below w1.heap.size w1 (w1.alloc (.cells #[.int .i64 n1, .bool false, .string ⟨#[]⟩, .int .u64 0, .int .i64 0] 58)) := (Below.refl _ _).alloc (Nat.le_refl _) _
  have R2 := hr1.below hbb
  have T2 := Lib.hid (T1.out.trans (Turn.of_below (b := R) hbb))
  have Z2 := Lib.hid (Z1.out.below hbb)
  have Y2 := Lib.hid (AAt.new w1 n1 false ⟨#[]⟩ 0 0)
  have K2 := Lib.hid (next_any R2)
  rw [hE2.out.1, hE2.out.2.1] at K2
  have hsz := nextS_size R2
  rw [hE2.out.1] at hsz
  clear ht1 hr1 hbb R2 K1 Z0 T0 Z1 T1
  go_wp2_with fail
  generalize w1.alloc (.cells #[.int .i64 n1, .bool false, .string ⟨#[]⟩, .int .u64 0, .int .i64 0] 58) = w2 at *
  generalize w1.heap.size = Y at *
  refine K2.out.mono ?_
  rintro e w3 ⟨rfl, ht3, hr3⟩
  have Z3 := Lib.hid (Z2.out.turn ht3 hZR)
  have Y3 := Lib.hid (Y2.out.turn ht3 hYR)
  have T3 := Lib.hid (T2.out.trans ht3)
  have KN := Lib.hid (fun w => named_any s w hsz)
  have R3 := Lib.hid hr3
  rw [hE2.out.2.2.2.2.2] at KN
  clear ht3 hr3 Z2 Y2 T2 K2
  go_wp2_with fail
  refine (KN.out _).mono ?_
  rintro e w4 ⟨rfl, rfl⟩
  obtain ⟨-, y1, y2, y3, -⟩ := Y3.out.c
  have y4 := Y3.out.f 1
  have y5 := Y3.out.f 2
  have Y4 := Lib.hid ((Y3.out.s1 true).s2 (s.extract 1 (s.size - 1)))
  have Z4 := Lib.hid ((Z3.out.other hYZ 1 (.bool true)).other hYZ 2 (.string (s.extract 1 (s.size - 1))))
  have R4 := Lib.hid ((R3.out.other hYR hYg hY8 1 (.bool true)).other hYR hYg hY8 2 (.string (s.extract 1 (s.size - 1))))
  have T4 := Lib.hid ((T3.out.fresh hZY 1 (.bool true)).fresh hZY 2 (.string (s.extract 1 (s.size - 1))))
  have KK := Lib.hid (key_any (s.extract 1 (s.size - 1)) _ (by rw [ByteArray.size_extract]; omega) R4.out.tabs)
  clear KN Y3 Z3 R3 T3
  go_wp2_with fail
  clear y1 y2 y3 y4 y5
  refine KK.out.mono ?_
  rintro e w5 ⟨rfl, hb5⟩
  have Y5 := Lib.hid (Y4.out.below hb5)
  have Z5 := Lib.hid (Z4.out.below hb5)
  have R5 := Lib.hid (R4.out.below hb5)
  have T5 := Lib.hid (T4.out.trans (Turn.of_below hb5))
  clear hb5 KK Y4 Z4 R4 T4
  generalize ((keyV (s.extract 1 (s.size - 1)) : Nat) : Int) = kv at *
  generalize s.extract 1 (s.size - 1) = nm at *
  obtain ⟨-, -, -, y3, -⟩ := Y5.out.c
  have y4 := Y5.out.f 3
  have r1 := R5.out.c1
  have r2 := R5.out.f 1
  have Y6 := Lib.hid ((Y5.out.s3 kv).other hYR 1 (.int .i64 ((a1 + 1 : Nat) : Int)))
  have Z6 := Lib.hid ((Z5.out.other hYZ 3 (.int .u64 kv)).other hZR 1 (.int .i64 ((a1 + 1 : Nat) : Int)))
  have R6 := Lib.hid ((R5.out.other hYR hYg hY8 3 (.int .u64 kv)).set1 (a1 + 1) (by omega))
  have T6 := Lib.hid ((T5.out.fresh hZY 3 (.int .u64 kv)).trans (Turn.of_only (Only.store _ R 1 (.int .i64 ((a1 + 1 : Nat) : Int)))))
  have KP := Lib.hid (num_any R6.out (by omega))
  rw [hE2.out.2.2.1, hE2.out.2.2.2.1, hE2.out.2.2.2.2.1] at KP
  clear Y5 Z5 R5 T5
  go_wp2_with fail
  refine KP.out.mono ?_
  clear y3 y4 r1 r2
  rintro e w7 ⟨rfl, ht7, hr7⟩
  have Y7 := Lib.hid (Y6.out.turn ht7 hYR)
  have Z7 := Lib.hid (Z6.out.turn ht7 hZR)
  have T7 := Lib.hid (T6.out.trans ht7)
  have R7 := Lib.hid hr7
  clear ht7 hr7 Y6 Z6 T6 R6
  obtain ⟨-, -, -, -, y3⟩ := Y7.out.c
  have y4 := Y7.out.f 4
  have Y8 := Y7.out.s4 n4
  have Z8 := Lib.hid (Z7.out.other hYZ 4 (.int .i64 n4))
  have R8 := Lib.hid (R7.out.other hYR hYg hY8 4 (.int .i64 n4))
  have T8 := Lib.hid (T7.out.fresh hZY 4 (.int .i64 n4))
  obtain ⟨v0, v1, v2, v3, v4⟩ := Y7.out.c
  have Y8 := Lib.hid Y8
  clear Y7 y3
  have Z7o := Z7.out.c
  have e10 := Z7.out.f 0
  have e11 := Z7.out.f 1
  have e12 := Z7.out.f 2
  have e13 := Z7.out.f 3
  have e14 := Z7.out.f 4
  clear KP R7 T7 Z7
  obtain ⟨q0, q1, q2, q3, q4⟩ := Y8.out.c
  obtain ⟨x0, x1, x2, x3, x4⟩ := Z8.out.c
  have e0 := Z8.out.f 0
  have e1 := Z8.out.f 1
  have e2 := Z8.out.f 2
  have e3 := Z8.out.f 3
  have e4 := Z8.out.f 4
  have hYZ' := hYZ.symm
  clear q0 q1 q2 q3 q4 x0 x1 x2 x3 x4
  obtain ⟨x0, x1, x2, x3, x4⟩ := Z7o
  go_wp2_with fail
  have ZF := Z8.out.all n1 true nm kv n4
  have RF := Lib.hid (R8.out.all5 hZR hZg hZ8 (.int .i64 n1) (.bool true) (.string nm) (.int .u64 kv) (.int .i64 n4))
  have TF := Lib.hid (T8.out.all5 (Nat.le_refl _) (.int .i64 n1) (.bool true) (.string nm) (.int .u64 kv) (.int .i64 n4))
  obtain ⟨z0, z1, z2, z3, z4⟩ := ZF.c
  clear x0 x1 x2 x3 x4 e0 e1 e2 e3 e4 ZF v0 v1 v2 v3 v4 e10 e11 e12 e13 e14 y4
  exact bodyPost_ret (v := .agg #[.int .i64 n1, .bool true, .string nm, .int .u64 kv, .int .i64 n4]) (by simp [results, Tryd.results34, go_sem, z0, z1, z2, z3, z4]) rfl ⟨by rw [HV.out]; rfl, TF.out, by rw [HV.out]; exact RF.out⟩
set_option maxRecDepth 100000 in
set_option maxHeartbeats 2000000 in
theorem add_no {w : World} {R g c : Nat} {L : List (ByteArray × Nat)} {at_ : Nat} {bad : Int} {fin : Nat} (h : RS w R g c L at_ bad fin) (ha : at_ ≤ 1048570)
    (hn : namedB (nextS L (numA L at_ bad) (numE L at_ bad fin)) = false) :
    Calls Tryd.prog 34 #[.pointer (some ⟨R, 0, none⟩)] w (RPost (addV (runAdd L fin at_ bad)) w R g c L (runAdd L fin at_ bad).at_ (runAdd L fin at_ bad).bad fin) := by
  obtain ⟨a1, hA1⟩ : ∃ x, numA L at_ bad = x := ⟨_, rfl⟩
  obtain ⟨b1, hB1⟩ : ∃ x, numE L at_ bad fin = x := ⟨_, rfl⟩
  obtain ⟨n1, hN1⟩ : ∃ x, numR L at_ bad = x := ⟨_, rfl⟩
  rw [hA1, hB1] at hn
  obtain ⟨s, hs⟩ : ∃ x, nextS L a1 b1 = x := ⟨_, rfl⟩
  obtain ⟨b2, hB2⟩ : ∃ x, nextB L a1 b1 fin = x := ⟨_, rfl⟩
  rw [hs] at hn
  obtain ⟨a3, hA3⟩ : ∃ x, numA L a1 b2 = x := ⟨_, rfl⟩
  obtain ⟨b3, hB3⟩ : ∃ x, numE L a1 b2 fin = x := ⟨_, rfl⟩
  obtain ⟨n3, hN3⟩ : ∃ x, numR L a1 b2 = x := ⟨_, rfl⟩
  obtain ⟨a4, hA4⟩ : ∃ x, numA L a3 b3 = x := ⟨_, rfl⟩
  obtain ⟨b4, hB4⟩ : ∃ x, numE L a3 b3 fin = x := ⟨_, rfl⟩
  obtain ⟨n4, hN4⟩ : ∃ x, numR L a3 b3 = x := ⟨_, rfl⟩
  have hle3 := numA_le L a1 b2
  rw [hA3] at hle3
  have hle1 := numA_le L at_ bad
  rw [hA1] at hle1
  have HV := Lib.hid (show runAdd L fin at_ bad = { h := n1, named := false, name := ⟨#[]⟩, key := IntKind.u64.wrap n3, d := n4, at_ := a4, bad := b4 } by
    unfold runAdd; simp only [hA1, hB1, hN1, hs, hB2, hA3, hB3, hN3, hA4, hB4, hN4, hn, Bool.false_eq_true, if_false])
  have hR := lt_of_block h.blk
  have hba : Below w.heap.size w (w.alloc (.cells #[.int .i64 0, .bool false, .string ⟨#[]⟩, .int .u64 0, .int .i64 0] 58)) := (Below.refl _ _).alloc (Nat.le_refl _) _
  have H0 := h.below hba
  have T0 := Lib.hid (Turn.of_below (b := R) hba)
  have Z0 := Lib.hid (AAt.new w 0 false ⟨#[]⟩ 0 0)
  have hZR : w.heap.size ≠ R := by omega
  have hZg : w.heap.size ≠ g := by have := h.glt; omega
  have hZ8 : 8 ≤ w.heap.size := h.tabs.low
  have K1 := Lib.hid (num_any H0 (by omega))
  rw [hN1, hA1, hB1] at K1
  have hnv : namedV s = .tuple #[.string ⟨#[]⟩, .bool false] := by unfold namedV; rw [hn]; rfl
  have hE2 := Lib.hid (And.intro hs (And.intro hB2 (And.intro hA4 (And.intro hB4 (And.intro hN4 (And.intro hnv (And.intro hA3 (And.intro hB3 hN3))))))))
  clear h hba H0 hn hA1 hB1 hN1 hs hB2 hA4 hB4 hN4 hnv hA3 hB3 hN3
  go_enter Tryd.func34, Tryd.ntmps34
  go_wp2_with fail
  generalize w.alloc (.cells #[.int .i64 0, .bool false, .string ⟨#[]⟩, .int .u64 0, .int .i64 0] 58) = w0 at *
  refine K1.out.mono ?_
  rintro e w1 ⟨rfl, ht1, hr1⟩
  have Z1 := Lib.hid (Z0.out.turn ht1 hZR)
  have T1 := Lib.hid (T0.out.trans ht1)
  have hR1 := lt_of_block hr1.blk
  have hYR : w1.heap.size ≠ R := by omega
  have hYg : w1.heap.size ≠ g := by have := hr1.glt; omega
  have hYZ : w.heap.size ≠ w1.heap.size := by have := lt_of_block Z1.out; omega
  have hY8 : 8 ≤ w1.heap.size := hr1.tabs.low
  have hZY : w.heap.size ≤ w1.heap.size := T1.out.size
  have hbb : Below w1.heap.size w1 (w1.alloc (.cells #[.int .i64 n1, .bool false, .string ⟨#[]⟩, .int .u64 0, .int .i64 0] 58)) := (Below.refl _ _).alloc (Nat.le_refl _) _
  have R2 := hr1.below hbb
  have T2 := Lib.hid (T1.out.trans (Turn.of_below (b := R) hbb))
  have Z2 := Lib.hid (Z1.out.below hbb)
  have Y2 := Lib.hid (AAt.new w1 n1 false ⟨#[]⟩ 0 0)
  have K2 := Lib.hid (next_any R2)
  rw [hE2.out.1, hE2.out.2.1] at K2
  have hsz := nextS_size R2
  rw [hE2.out.1] at hsz
  clear ht1 hr1 hbb R2 K1 Z0 T0 Z1 T1
  go_wp2_with fail
  generalize w1.alloc (.cells #[.int .i64 n1, .bool false, .string ⟨#[]⟩, .int .u64 0, .int .i64 0] 58) = w2 at *
  generalize w1.heap.size = Y at *
  refine K2.out.mono ?_
  rintro e w3 ⟨rfl, ht3, hr3⟩
  have Z3 := Lib.hid (Z2.out.turn ht3 hZR)
  have Y3 := Lib.hid (Y2.out.turn ht3 hYR)
  have T3 := Lib.hid (T2.out.trans ht3)
  have KN := Lib.hid (fun w => named_any s w hsz)
  have R3 := Lib.hid hr3
  rw [hE2.out.2.2.2.2.2.1] at KN
  clear ht3 hr3 Z2 Y2 T2 K2
  go_wp2_with fail
  refine (KN.out _).mono ?_
  rintro e w4 ⟨rfl, rfl⟩
  have KM := Lib.hid (num_any R3.out (by omega))
  rw [hE2.out.2.2.2.2.2.2.1, hE2.out.2.2.2.2.2.2.2.1, hE2.out.2.2.2.2.2.2.2.2] at KM
  clear KN
  go_wp2_with fail
  refine KM.out.mono ?_
  rintro e w5 ⟨rfl, ht5, hr5⟩
  have Y5 := Lib.hid (Y3.out.turn ht5 hYR)
  have Z5 := Lib.hid (Z3.out.turn ht5 hZR)
  have T5 := Lib.hid (T3.out.trans ht5)
  have R5 := Lib.hid hr5
  clear ht5 hr5 KM Y3 Z3 R3 T3
  obtain ⟨-, -, -, y3, -⟩ := Y5.out.c
  have y4 := Y5.out.f 3
  have Y6 := Lib.hid (Y5.out.s3 (IntKind.u64.wrap n3))
  have Z6 := Lib.hid (Z5.out.other hYZ 3 (.int .u64 (IntKind.u64.wrap n3)))
  have R6 := Lib.hid (R5.out.other hYR hYg hY8 3 (.int .u64 (IntKind.u64.wrap n3)))
  have T6 := Lib.hid (T5.out.fresh hZY 3 (.int .u64 (IntKind.u64.wrap n3)))
  have KP := Lib.hid (num_any R6.out (by omega))
  rw [hE2.out.2.2.1, hE2.out.2.2.2.1, hE2.out.2.2.2.2.1] at KP
  clear Y5 Z5 R5 T5
  go_wp2_with fail
  generalize IntKind.u64.wrap n3 = kv at *
  refine KP.out.mono ?_
  clear y3 y4
  rintro e w7 ⟨rfl, ht7, hr7⟩
  have Y7 := Lib.hid (Y6.out.turn ht7 hYR)
  have Z7 := Lib.hid (Z6.out.turn ht7 hZR)
  have T7 := Lib.hid (T6.out.trans ht7)
  have R7 := Lib.hid hr7
  clear ht7 hr7 Y6 Z6 T6 R6
  obtain ⟨-, -, -, -, y3⟩ := Y7.out.c
  have y4 := Y7.out.f 4
  have Y8 := Y7.out.s4 n4
  have Z8 := Lib.hid (Z7.out.other hYZ 4 (.int .i64 n4))
  have R8 := Lib.hid (R7.out.other hYR hYg hY8 4 (.int .i64 n4))
  have T8 := Lib.hid (T7.out.fresh hZY 4 (.int .i64 n4))
  obtain ⟨v0, v1, v2, v3, v4⟩ := Y7.out.c
  have Y8 := Lib.hid Y8
  clear Y7 y3
  have Z7o := Z7.out.c
  have e10 := Z7.out.f 0
  have e11 := Z7.out.f 1
  have e12 := Z7.out.f 2
  have e13 := Z7.out.f 3
  have e14 := Z7.out.f 4
  clear KP R7 T7 Z7
  obtain ⟨q0, q1, q2, q3, q4⟩ := Y8.out.c
  obtain ⟨x0, x1, x2, x3, x4⟩ := Z8.out.c
  have e0 := Z8.out.f 0
  have e1 := Z8.out.f 1
  have e2 := Z8.out.f 2
  have e3 := Z8.out.f 3
  have e4 := Z8.out.f 4
  have hYZ' := hYZ.symm
  clear q0 q1 q2 q3 q4 x0 x1 x2 x3 x4
  obtain ⟨x0, x1, x2, x3, x4⟩ := Z7o
  go_wp2_with fail
  have ZF := Z8.out.all n1 false ⟨#[]⟩ kv n4
  have RF := Lib.hid (R8.out.all5 hZR hZg hZ8 (.int .i64 n1) (.bool false) (.string ⟨#[]⟩) (.int .u64 kv) (.int .i64 n4))
  have TF := Lib.hid (T8.out.all5 (Nat.le_refl _) (.int .i64 n1) (.bool false) (.string ⟨#[]⟩) (.int .u64 kv) (.int .i64 n4))
  obtain ⟨z0, z1, z2, z3, z4⟩ := ZF.c
  clear x0 x1 x2 x3 x4 e0 e1 e2 e3 e4 ZF v0 v1 v2 v3 v4 e10 e11 e12 e13 e14 y4
  exact bodyPost_ret (v := .agg #[.int .i64 n1, .bool false, .string ⟨#[]⟩, .int .u64 kv, .int .i64 n4]) (by simp [results, Tryd.results34, go_sem, z0, z1, z2, z3, z4]) rfl ⟨by rw [HV.out]; rfl, TF.out, by rw [HV.out]; exact RF.out⟩
theorem addr_any {w : World} {R g c : Nat} {L : List (ByteArray × Nat)} {at_ : Nat} {bad : Int} {fin : Nat} (h : RS w R g c L at_ bad fin) (ha : at_ ≤ 1048570) :
    Calls Tryd.prog 34 #[.pointer (some ⟨R, 0, none⟩)] w (RPost (addV (runAdd L fin at_ bad)) w R g c L (runAdd L fin at_ bad).at_ (runAdd L fin at_ bad).bad fin) := by
  cases hn : namedB (nextS L (numA L at_ bad) (numE L at_ bad fin)) with
  | true => exact add_yes h ha hn
  | false => exact add_no h ha hn
end Go.Proofs.YtjhlpmigkbaegaaDoor
