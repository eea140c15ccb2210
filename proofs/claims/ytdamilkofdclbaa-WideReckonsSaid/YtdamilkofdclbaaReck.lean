/- WideReckons walked. -/
import Derived.Test.YtdamilkofdclbaaShow
import Derived.Test.YtdamilkofdclbaaOrder0
import Derived.Test.YtdamilkofdclbaaLwide
import Derived.Deep.RegionHeld3
import Derived.Deep.DeepCutAuto
namespace Go.Proofs.Ytdamilkofdclbaa
open Go.RowKit
set_option linter.unusedVariables false

/-- What the wide number is, if it fits; else 0. -/
def fh (v : Int) : Int := if Fits v then hiOf v else 0
def fl (v : Int) : Int := if Fits v then loOf v else 0
theorem fitW_pair (v : Int) : fitW v = .tuple #[P2 (fh v) (fl v), .bool (decide (Fits v))] := by
  unfold fitW W fh fl
  split <;> rfl
theorem PAt.drew {w b h l} (k : PAt w b h l) : PAt w.drew b h l := k
theorem cell_make {w : World} {a : Addr} {v : Value} (h : w.cell? a = some v) (o : Obj) : (w.alloc o).cell? a = some v := (World.cell?_alloc_old w o a (Nat.ne_of_lt (block_lt_of_cell h))).trans h

theorem PAt.f {w b h l} (k : PAt w b h l) (i : Nat) : w.frozen? ⟨b, i, none⟩ = false := frozen_of_row _ _ _ _ _ k
/-- A new block, with noughts in it, behind those that were there. -/
def ZAt (v0 w : World) (q : Nat) : Prop := v0.heap.size ≤ q ∧ PAt w q 0 0
theorem zat_keep {v0 w w' : World} {q : Nat} (z : ZAt v0 w q) (hb : Below w.heap.size w w') : ZAt v0 w' q := ⟨z.1, z.2.below hb⟩
theorem zat_make {v0 w w' : World} (t : Below v0.heap.size v0 w) (hb : Below (w.alloc (.cells #[.int .i64 0, .int .u64 0] 24)).heap.size (w.alloc (.cells #[.int .i64 0, .int .u64 0] 24)) w') : ZAt v0 w' w.heap.size := ⟨t.size, (PAt.new w 0 0 rfl).below hb⟩
theorem zat_make_draw {v0 w w' : World} (t : Below v0.heap.size v0 w) (hb : Below (w.alloc (.cells #[.int .i64 0, .int .u64 0] 24)).drew.heap.size (w.alloc (.cells #[.int .i64 0, .int .u64 0] 24)).drew w') : ZAt v0 w' w.heap.size := ⟨t.size, (PAt.new w 0 0 rfl).drew.below hb⟩
theorem two_keep {w : World} {g q i : Nat} {v x y : Value} (h : w.cell? ⟨g, i, none⟩ = some v) (hn : g ≠ q) : ((w.setCell ⟨q, 0, none⟩ x).setCell ⟨q, 1, none⟩ y).cell? ⟨g, i, none⟩ = some v := by
  rw [World.cell?_setCell_other _ _ _ _ (by intro h2; exact hn (congrArg Addr.block h2).symm), World.cell?_setCell_other _ _ _ _ (by intro h2; exact hn (congrArg Addr.block h2).symm)]; exact h
set_option maxRecDepth 100000 in
set_option maxHeartbeats 4000000 in
theorem reck_walk (a b : Int) (w : World) (ha : Fits a) (hb : Fits b) :
    Calls Try.prog 3 #[P2 (hiOf a) (loOf a), P2 (hiOf b) (loOf b)] w fun e w' => e = .returned (.bool true) ∧ Below w.heap.size w w' := by
  have k1 := fun w => add_any a b w ha hb
  have k2 := fun w => sub_any a b w ha hb
  have k3 := fun w => lof_any a w ha
  have k4 := fun w => lof_any b w hb
  have k5 := lplus_any a b
  have k6 := fun w => lwide_any (a + b) w (by unfold Fits at *; unfold Mid; omega)
  have k7 := lminus_any b
  have k8 := lplus_any a (-b)
  have k9 := fun w => lwide_any (a + -b) w (by unfold Fits at *; unfold Mid; omega)
  rw [show a + -b = a - b by omega] at k8 k9
  rw [fitW_pair] at k1 k2 k6 k9
  unfold L at *
  unfold W at k1 k2 k3 k4
  have K0 := Lib.hid shown_any
  have K1 := Lib.hid k1; have K2 := Lib.hid k2; have K3 := Lib.hid k3; have K4 := Lib.hid k4; have K5 := Lib.hid k5; have K6 := Lib.hid k6; have K7 := Lib.hid k7; have K8 := Lib.hid k8; have K9 := Lib.hid k9
  clear k1 k2 k3 k4 k5 k6 k7 k8 k9 ha hb
  generalize fh (a + b) = sh at *
  generalize fl (a + b) = sl at *
  generalize fh (a - b) = th at *
  generalize fl (a - b) = tl at *
  generalize decide (Fits (a + b)) = p1 at *
  generalize decide (Fits (a - b)) = p2 at *
  generalize hiOf a = ah at *
  generalize loOf a = al at *
  generalize hiOf b = bh at *
  generalize loOf b = bl at *
  have A0 := Lib.hid ((PAt.new w ah al rfl).alloc (.cells #[.int .i64 bh, .int .u64 bl] 24))
  have B0 := Lib.hid (PAt.new (w.alloc (.cells #[.int .i64 ah, .int .u64 al] 24)) bh bl (b := w.heap.size + 1) (by simp))
  have H0 := Lib.hid (show Below w.heap.size w ((w.alloc (.cells #[.int .i64 ah, .int .u64 al] 24)).alloc (.cells #[.int .i64 bh, .int .u64 bl] 24)) from ((Below.refl _ _).alloc (Nat.le_refl _) _).alloc (by simp) _)
  obtain ⟨g0, hg0⟩ : ∃ g, w.heap.size = g := ⟨_, rfl⟩
  obtain ⟨g1, hg1⟩ : ∃ g, w.heap.size + 1 = g := ⟨_, rfl⟩
  rw [hg1] at B0
  rw [hg0] at A0
  have G0 := Lib.hid hg0; have G1 := Lib.hid hg1
  clear hg0 hg1
  go_enter Try.func3, Try.ntmps3
  go_wp2_with fail
  rw [G1.out, G0.out]
  generalize ((w.alloc (.cells #[.int .i64 ah, .int .u64 al] 24)).alloc (.cells #[.int .i64 bh, .int .u64 bl] 24)) = w0 at *
  refine (K0.out _).mono ?_
  rintro e w1 ⟨rfl, hb1⟩
  have A1 := Lib.hid (A0.out.below hb1)
  have B1 := Lib.hid (B0.out.below hb1)
  have H1 := Lib.hid (H0.out.then hb1)
  clear A0 B0 H0 hb1
  have a0 := A1.out.c0
  have a1 := A1.out.c1
  have b0 := B1.out.c0
  have b1 := B1.out.c1
  go_wp2_with fail
  refine (K1.out _).mono ?_
  rintro e w2 ⟨rfl, hb2⟩
  clear a0 a1 b0 b1
  have A2 := Lib.hid ((A1.out.below hb2).alloc (.cells #[.int .i64 sh, .int .u64 sl] 24))
  have B2 := Lib.hid ((B1.out.below hb2).alloc (.cells #[.int .i64 sh, .int .u64 sl] 24))
  have X2 := Lib.hid (PAt.new w2 sh sl rfl)
  have H2 := Lib.hid ((H1.out.then hb2).alloc (H1.out.then hb2).size (.cells #[.int .i64 sh, .int .u64 sl] 24))
  clear A1 B1 H1 hb2
  have a0 := A2.out.c0
  have a1 := A2.out.c1
  have b0 := B2.out.c0
  have b1 := B2.out.c1
  go_wp2_with fail
  generalize w2.heap.size = gx at *
  generalize w2.alloc (.cells #[.int .i64 sh, .int .u64 sl] 24) = w2' at *
  refine (K2.out _).mono ?_
  rintro e w3 ⟨rfl, hb3⟩
  clear a0 a1 b0 b1
  have A3 := Lib.hid ((A2.out.below hb3).alloc (.cells #[.int .i64 th, .int .u64 tl] 24))
  have B3 := Lib.hid ((B2.out.below hb3).alloc (.cells #[.int .i64 th, .int .u64 tl] 24))
  have X3 := Lib.hid ((X2.out.below hb3).alloc (.cells #[.int .i64 th, .int .u64 tl] 24))
  have Y3 := Lib.hid (PAt.new w3 th tl rfl)
  have H3 := Lib.hid ((H2.out.then hb3).alloc (H2.out.then hb3).size (.cells #[.int .i64 th, .int .u64 tl] 24))
  clear A2 B2 X2 H2 hb3
  go_upto_region 4 with fail
  generalize w3.heap.size = gy at *
  generalize w3.alloc (.cells #[.int .i64 th, .int .u64 tl] 24) = v0 at *
  have a0 := A3.out.c0
  have a1 := A3.out.c1
  have b0 := B3.out.c0
  have b1 := B3.out.c1
  have T := Lib.hid (Below.refl v0.heap.size v0)
  have s : v0.cell? ⟨g0, 0, none⟩ = some (.int .i64 ah) ∧ v0.cell? ⟨g0, 1, none⟩ = some (.int .u64 al) ∧ v0.cell? ⟨g1, 0, none⟩ = some (.int .i64 bh) ∧ v0.cell? ⟨g1, 1, none⟩ = some (.int .u64 bl) := ⟨a0, a1, b0, b1⟩
  have l0 := Lib.hid (lt_of_block A3.out)
  have l1 := Lib.hid (lt_of_block B3.out)
  go_cut [10, 11] (fun s8 s9 wx => ∃ q : Nat, s8 = .pointer (some ⟨q, 0, none⟩) ∧ s9 = .bool p1 ∧ PAt wx q sh sl ∧ Below v0.heap.size v0 wx)
  case first =>
    go_region_held3 (fun w' => w'.cell? ⟨g0, 0, none⟩ = some (.int .i64 ah) ∧ w'.cell? ⟨g0, 1, none⟩ = some (.int .u64 al) ∧ w'.cell? ⟨g1, 0, none⟩ = some (.int .i64 bh) ∧ w'.cell? ⟨g1, 1, none⟩ = some (.int .u64 bl))
      (first | exact s | exact ⟨cell_make s.1 _, cell_make s.2.1 _, cell_make s.2.2.1 _, cell_make s.2.2.2 _⟩ | exact ⟨two_keep s.1 N0.out, two_keep s.2.1 N0.out, two_keep s.2.2.1 N1.out, two_keep s.2.2.2 N1.out⟩)
      (first
        | (go_at_call 16; ((with_reducible refine (K3.out _).mono ?_)); rintro e x1 ⟨rfl, hb1⟩; (first | ((with_reducible have Z := zat_keep Z.out hb1); (have Z := Lib.hid Z); (have N0 := Lib.hid (show g0 ≠ _ from Nat.ne_of_lt (Nat.lt_of_lt_of_le l0.out Z.out.1))); (have N1 := Lib.hid (show g1 ≠ _ from Nat.ne_of_lt (Nat.lt_of_lt_of_le l1.out Z.out.1))); (have z0 := Z.out.2.c0); (have z1 := Z.out.2.c1); (have z2 := Z.out.2.f 0); (have z3 := Z.out.2.f 1)) | ((with_reducible have Z := zat_make T.out hb1); (have Z := Lib.hid Z); (have N0 := Lib.hid (show g0 ≠ _ from Nat.ne_of_lt (Nat.lt_of_lt_of_le l0.out Z.out.1))); (have N1 := Lib.hid (show g1 ≠ _ from Nat.ne_of_lt (Nat.lt_of_lt_of_le l1.out Z.out.1))); (have z0 := Z.out.2.c0); (have z1 := Z.out.2.c1); (have z2 := Z.out.2.f 0); (have z3 := Z.out.2.f 1)) | ((with_reducible have Z := zat_make_draw T.out hb1); (have Z := Lib.hid Z); (have N0 := Lib.hid (show g0 ≠ _ from Nat.ne_of_lt (Nat.lt_of_lt_of_le l0.out Z.out.1))); (have N1 := Lib.hid (show g1 ≠ _ from Nat.ne_of_lt (Nat.lt_of_lt_of_le l1.out Z.out.1))); (have z0 := Z.out.2.c0); (have z1 := Z.out.2.c1); (have z2 := Z.out.2.f 0); (have z3 := Z.out.2.f 1)) | skip); have T : Hid (Below v0.heap.size v0 x1) := Lib.hid (by first | with_reducible exact Below.then T.out hb1 | with_reducible exact then_draw T.out hb1 | with_reducible exact then_make T.out hb1 | with_reducible exact then_make_draw T.out hb1); clear hb1; have s : x1.cell? ⟨g0, 0, none⟩ = some (.int .i64 ah) ∧ x1.cell? ⟨g0, 1, none⟩ = some (.int .u64 al) ∧ x1.cell? ⟨g1, 0, none⟩ = some (.int .i64 bh) ∧ x1.cell? ⟨g1, 1, none⟩ = some (.int .u64 bl) := ⟨(T.out.cell l0.out).trans a0, (T.out.cell l0.out).trans a1, (T.out.cell l1.out).trans b0, (T.out.cell l1.out).trans b1⟩)
        | (go_at_call 16; ((with_reducible refine (K4.out _).mono ?_)); rintro e x2 ⟨rfl, hb2⟩; (first | ((with_reducible have Z := zat_keep Z.out hb2); (have Z := Lib.hid Z); (have N0 := Lib.hid (show g0 ≠ _ from Nat.ne_of_lt (Nat.lt_of_lt_of_le l0.out Z.out.1))); (have N1 := Lib.hid (show g1 ≠ _ from Nat.ne_of_lt (Nat.lt_of_lt_of_le l1.out Z.out.1))); (have z0 := Z.out.2.c0); (have z1 := Z.out.2.c1); (have z2 := Z.out.2.f 0); (have z3 := Z.out.2.f 1)) | ((with_reducible have Z := zat_make T.out hb2); (have Z := Lib.hid Z); (have N0 := Lib.hid (show g0 ≠ _ from Nat.ne_of_lt (Nat.lt_of_lt_of_le l0.out Z.out.1))); (have N1 := Lib.hid (show g1 ≠ _ from Nat.ne_of_lt (Nat.lt_of_lt_of_le l1.out Z.out.1))); (have z0 := Z.out.2.c0); (have z1 := Z.out.2.c1); (have z2 := Z.out.2.f 0); (have z3 := Z.out.2.f 1)) | ((with_reducible have Z := zat_make_draw T.out hb2); (have Z := Lib.hid Z); (have N0 := Lib.hid (show g0 ≠ _ from Nat.ne_of_lt (Nat.lt_of_lt_of_le l0.out Z.out.1))); (have N1 := Lib.hid (show g1 ≠ _ from Nat.ne_of_lt (Nat.lt_of_lt_of_le l1.out Z.out.1))); (have z0 := Z.out.2.c0); (have z1 := Z.out.2.c1); (have z2 := Z.out.2.f 0); (have z3 := Z.out.2.f 1)) | skip); have T : Hid (Below v0.heap.size v0 x2) := Lib.hid (by first | with_reducible exact Below.then T.out hb2 | with_reducible exact then_draw T.out hb2 | with_reducible exact then_make T.out hb2 | with_reducible exact then_make_draw T.out hb2); clear hb2; have s : x2.cell? ⟨g0, 0, none⟩ = some (.int .i64 ah) ∧ x2.cell? ⟨g0, 1, none⟩ = some (.int .u64 al) ∧ x2.cell? ⟨g1, 0, none⟩ = some (.int .i64 bh) ∧ x2.cell? ⟨g1, 1, none⟩ = some (.int .u64 bl) := ⟨(T.out.cell l0.out).trans a0, (T.out.cell l0.out).trans a1, (T.out.cell l1.out).trans b0, (T.out.cell l1.out).trans b1⟩)
        | (go_at_call 15; ((with_reducible refine (K5.out _).mono ?_)); rintro e x3 ⟨rfl, hb3⟩; (first | ((with_reducible have Z := zat_keep Z.out hb3); (have Z := Lib.hid Z); (have N0 := Lib.hid (show g0 ≠ _ from Nat.ne_of_lt (Nat.lt_of_lt_of_le l0.out Z.out.1))); (have N1 := Lib.hid (show g1 ≠ _ from Nat.ne_of_lt (Nat.lt_of_lt_of_le l1.out Z.out.1))); (have z0 := Z.out.2.c0); (have z1 := Z.out.2.c1); (have z2 := Z.out.2.f 0); (have z3 := Z.out.2.f 1)) | ((with_reducible have Z := zat_make T.out hb3); (have Z := Lib.hid Z); (have N0 := Lib.hid (show g0 ≠ _ from Nat.ne_of_lt (Nat.lt_of_lt_of_le l0.out Z.out.1))); (have N1 := Lib.hid (show g1 ≠ _ from Nat.ne_of_lt (Nat.lt_of_lt_of_le l1.out Z.out.1))); (have z0 := Z.out.2.c0); (have z1 := Z.out.2.c1); (have z2 := Z.out.2.f 0); (have z3 := Z.out.2.f 1)) | ((with_reducible have Z := zat_make_draw T.out hb3); (have Z := Lib.hid Z); (have N0 := Lib.hid (show g0 ≠ _ from Nat.ne_of_lt (Nat.lt_of_lt_of_le l0.out Z.out.1))); (have N1 := Lib.hid (show g1 ≠ _ from Nat.ne_of_lt (Nat.lt_of_lt_of_le l1.out Z.out.1))); (have z0 := Z.out.2.c0); (have z1 := Z.out.2.c1); (have z2 := Z.out.2.f 0); (have z3 := Z.out.2.f 1)) | skip); have T : Hid (Below v0.heap.size v0 x3) := Lib.hid (by first | with_reducible exact Below.then T.out hb3 | with_reducible exact then_draw T.out hb3 | with_reducible exact then_make T.out hb3 | with_reducible exact then_make_draw T.out hb3); clear hb3; have s : x3.cell? ⟨g0, 0, none⟩ = some (.int .i64 ah) ∧ x3.cell? ⟨g0, 1, none⟩ = some (.int .u64 al) ∧ x3.cell? ⟨g1, 0, none⟩ = some (.int .i64 bh) ∧ x3.cell? ⟨g1, 1, none⟩ = some (.int .u64 bl) := ⟨(T.out.cell l0.out).trans a0, (T.out.cell l0.out).trans a1, (T.out.cell l1.out).trans b0, (T.out.cell l1.out).trans b1⟩)
        | (go_at_call 14; ((with_reducible refine (K6.out _).mono ?_)); rintro e x4 ⟨rfl, hb4⟩; (first | ((with_reducible have Z := zat_keep Z.out hb4); (have Z := Lib.hid Z); (have N0 := Lib.hid (show g0 ≠ _ from Nat.ne_of_lt (Nat.lt_of_lt_of_le l0.out Z.out.1))); (have N1 := Lib.hid (show g1 ≠ _ from Nat.ne_of_lt (Nat.lt_of_lt_of_le l1.out Z.out.1))); (have z0 := Z.out.2.c0); (have z1 := Z.out.2.c1); (have z2 := Z.out.2.f 0); (have z3 := Z.out.2.f 1)) | ((with_reducible have Z := zat_make T.out hb4); (have Z := Lib.hid Z); (have N0 := Lib.hid (show g0 ≠ _ from Nat.ne_of_lt (Nat.lt_of_lt_of_le l0.out Z.out.1))); (have N1 := Lib.hid (show g1 ≠ _ from Nat.ne_of_lt (Nat.lt_of_lt_of_le l1.out Z.out.1))); (have z0 := Z.out.2.c0); (have z1 := Z.out.2.c1); (have z2 := Z.out.2.f 0); (have z3 := Z.out.2.f 1)) | ((with_reducible have Z := zat_make_draw T.out hb4); (have Z := Lib.hid Z); (have N0 := Lib.hid (show g0 ≠ _ from Nat.ne_of_lt (Nat.lt_of_lt_of_le l0.out Z.out.1))); (have N1 := Lib.hid (show g1 ≠ _ from Nat.ne_of_lt (Nat.lt_of_lt_of_le l1.out Z.out.1))); (have z0 := Z.out.2.c0); (have z1 := Z.out.2.c1); (have z2 := Z.out.2.f 0); (have z3 := Z.out.2.f 1)) | skip); have T : Hid (Below v0.heap.size v0 x4) := Lib.hid (by first | with_reducible exact Below.then T.out hb4 | with_reducible exact then_draw T.out hb4 | with_reducible exact then_make T.out hb4 | with_reducible exact then_make_draw T.out hb4); clear hb4; have s : x4.cell? ⟨g0, 0, none⟩ = some (.int .i64 ah) ∧ x4.cell? ⟨g0, 1, none⟩ = some (.int .u64 al) ∧ x4.cell? ⟨g1, 0, none⟩ = some (.int .i64 bh) ∧ x4.cell? ⟨g1, 1, none⟩ = some (.int .u64 bl) := ⟨(T.out.cell l0.out).trans a0, (T.out.cell l0.out).trans a1, (T.out.cell l1.out).trans b0, (T.out.cell l1.out).trans b1⟩))
    all_goals go_wp2_with fail
    all_goals go_meet
    all_goals first
      | exact ⟨_, rfl, rfl, PAt.new _ _ _ rfl, T.out.alloc T.out.size _⟩
      | exact ⟨_, rfl, rfl, two_set Z.out.2, (T.out.setCell Z.out.1 _).setCell Z.out.1 _⟩
  case rest =>
    obtain ⟨q, rfl, rfl, hq, hb⟩ := hcut
    have A4 := Lib.hid (A3.out.below hb)
    have B4 := Lib.hid (B3.out.below hb)
    have X4 := Lib.hid (X3.out.below hb)
    have Y4 := Lib.hid (Y3.out.below hb)
    have H4 := Lib.hid (H3.out.then hb)
    have Q4 := Lib.hid hq
    clear A3 B3 X3 Y3 H3 hb hq a0 a1 b0 b1 T s l0 l1
    go_upto_region 5 with fail
    obtain ⟨v1, rfl⟩ : ∃ v : World, v = wc := ⟨_, rfl⟩
    clear v0
    obtain ⟨v0, rfl⟩ : ∃ v : World, v = v1 := ⟨_, rfl⟩
    have a0 := A4.out.c0
    have a1 := A4.out.c1
    have b0 := B4.out.c0
    have b1 := B4.out.c1
    have T := Lib.hid (Below.refl v0.heap.size v0)
    have s : v0.cell? ⟨g0, 0, none⟩ = some (.int .i64 ah) ∧ v0.cell? ⟨g0, 1, none⟩ = some (.int .u64 al) ∧ v0.cell? ⟨g1, 0, none⟩ = some (.int .i64 bh) ∧ v0.cell? ⟨g1, 1, none⟩ = some (.int .u64 bl) := ⟨a0, a1, b0, b1⟩
    have l0 := Lib.hid (lt_of_block A4.out)
    have l1 := Lib.hid (lt_of_block B4.out)
    go_cut [12, 13] (fun s8 s9 wx => ∃ q2 : Nat, s8 = .pointer (some ⟨q2, 0, none⟩) ∧ s9 = .bool p2 ∧ PAt wx q2 th tl ∧ Below v0.heap.size v0 wx)
    case first =>
      go_region_held3 (fun w' => w'.cell? ⟨g0, 0, none⟩ = some (.int .i64 ah) ∧ w'.cell? ⟨g0, 1, none⟩ = some (.int .u64 al) ∧ w'.cell? ⟨g1, 0, none⟩ = some (.int .i64 bh) ∧ w'.cell? ⟨g1, 1, none⟩ = some (.int .u64 bl))
        (first | exact s | exact ⟨cell_make s.1 _, cell_make s.2.1 _, cell_make s.2.2.1 _, cell_make s.2.2.2 _⟩ | exact ⟨two_keep s.1 N0.out, two_keep s.2.1 N0.out, two_keep s.2.2.1 N1.out, two_keep s.2.2.2 N1.out⟩)
        (first
          | (go_at_call 16; ((with_reducible refine (K3.out _).mono ?_)); rintro e x1 ⟨rfl, hb1⟩; (first | ((with_reducible have Z := zat_keep Z.out hb1); (have Z := Lib.hid Z); (have N0 := Lib.hid (show g0 ≠ _ from Nat.ne_of_lt (Nat.lt_of_lt_of_le l0.out Z.out.1))); (have N1 := Lib.hid (show g1 ≠ _ from Nat.ne_of_lt (Nat.lt_of_lt_of_le l1.out Z.out.1))); (have z0 := Z.out.2.c0); (have z1 := Z.out.2.c1); (have z2 := Z.out.2.f 0); (have z3 := Z.out.2.f 1)) | ((with_reducible have Z := zat_make T.out hb1); (have Z := Lib.hid Z); (have N0 := Lib.hid (show g0 ≠ _ from Nat.ne_of_lt (Nat.lt_of_lt_of_le l0.out Z.out.1))); (have N1 := Lib.hid (show g1 ≠ _ from Nat.ne_of_lt (Nat.lt_of_lt_of_le l1.out Z.out.1))); (have z0 := Z.out.2.c0); (have z1 := Z.out.2.c1); (have z2 := Z.out.2.f 0); (have z3 := Z.out.2.f 1)) | ((with_reducible have Z := zat_make_draw T.out hb1); (have Z := Lib.hid Z); (have N0 := Lib.hid (show g0 ≠ _ from Nat.ne_of_lt (Nat.lt_of_lt_of_le l0.out Z.out.1))); (have N1 := Lib.hid (show g1 ≠ _ from Nat.ne_of_lt (Nat.lt_of_lt_of_le l1.out Z.out.1))); (have z0 := Z.out.2.c0); (have z1 := Z.out.2.c1); (have z2 := Z.out.2.f 0); (have z3 := Z.out.2.f 1)) | skip); have T : Hid (Below v0.heap.size v0 x1) := Lib.hid (by first | with_reducible exact Below.then T.out hb1 | with_reducible exact then_draw T.out hb1 | with_reducible exact then_make T.out hb1 | with_reducible exact then_make_draw T.out hb1); clear hb1; have s : x1.cell? ⟨g0, 0, none⟩ = some (.int .i64 ah) ∧ x1.cell? ⟨g0, 1, none⟩ = some (.int .u64 al) ∧ x1.cell? ⟨g1, 0, none⟩ = some (.int .i64 bh) ∧ x1.cell? ⟨g1, 1, none⟩ = some (.int .u64 bl) := ⟨(T.out.cell l0.out).trans a0, (T.out.cell l0.out).trans a1, (T.out.cell l1.out).trans b0, (T.out.cell l1.out).trans b1⟩)
          | (go_at_call 16; ((with_reducible refine (K4.out _).mono ?_)); rintro e x2 ⟨rfl, hb2⟩; (first | ((with_reducible have Z := zat_keep Z.out hb2); (have Z := Lib.hid Z); (have N0 := Lib.hid (show g0 ≠ _ from Nat.ne_of_lt (Nat.lt_of_lt_of_le l0.out Z.out.1))); (have N1 := Lib.hid (show g1 ≠ _ from Nat.ne_of_lt (Nat.lt_of_lt_of_le l1.out Z.out.1))); (have z0 := Z.out.2.c0); (have z1 := Z.out.2.c1); (have z2 := Z.out.2.f 0); (have z3 := Z.out.2.f 1)) | ((with_reducible have Z := zat_make T.out hb2); (have Z := Lib.hid Z); (have N0 := Lib.hid (show g0 ≠ _ from Nat.ne_of_lt (Nat.lt_of_lt_of_le l0.out Z.out.1))); (have N1 := Lib.hid (show g1 ≠ _ from Nat.ne_of_lt (Nat.lt_of_lt_of_le l1.out Z.out.1))); (have z0 := Z.out.2.c0); (have z1 := Z.out.2.c1); (have z2 := Z.out.2.f 0); (have z3 := Z.out.2.f 1)) | ((with_reducible have Z := zat_make_draw T.out hb2); (have Z := Lib.hid Z); (have N0 := Lib.hid (show g0 ≠ _ from Nat.ne_of_lt (Nat.lt_of_lt_of_le l0.out Z.out.1))); (have N1 := Lib.hid (show g1 ≠ _ from Nat.ne_of_lt (Nat.lt_of_lt_of_le l1.out Z.out.1))); (have z0 := Z.out.2.c0); (have z1 := Z.out.2.c1); (have z2 := Z.out.2.f 0); (have z3 := Z.out.2.f 1)) | skip); have T : Hid (Below v0.heap.size v0 x2) := Lib.hid (by first | with_reducible exact Below.then T.out hb2 | with_reducible exact then_draw T.out hb2 | with_reducible exact then_make T.out hb2 | with_reducible exact then_make_draw T.out hb2); clear hb2; have s : x2.cell? ⟨g0, 0, none⟩ = some (.int .i64 ah) ∧ x2.cell? ⟨g0, 1, none⟩ = some (.int .u64 al) ∧ x2.cell? ⟨g1, 0, none⟩ = some (.int .i64 bh) ∧ x2.cell? ⟨g1, 1, none⟩ = some (.int .u64 bl) := ⟨(T.out.cell l0.out).trans a0, (T.out.cell l0.out).trans a1, (T.out.cell l1.out).trans b0, (T.out.cell l1.out).trans b1⟩)
          | (go_at_call 17; ((with_reducible refine (K7.out _).mono ?_)); rintro e x5 ⟨rfl, hb5⟩; (first | ((with_reducible have Z := zat_keep Z.out hb5); (have Z := Lib.hid Z); (have N0 := Lib.hid (show g0 ≠ _ from Nat.ne_of_lt (Nat.lt_of_lt_of_le l0.out Z.out.1))); (have N1 := Lib.hid (show g1 ≠ _ from Nat.ne_of_lt (Nat.lt_of_lt_of_le l1.out Z.out.1))); (have z0 := Z.out.2.c0); (have z1 := Z.out.2.c1); (have z2 := Z.out.2.f 0); (have z3 := Z.out.2.f 1)) | ((with_reducible have Z := zat_make T.out hb5); (have Z := Lib.hid Z); (have N0 := Lib.hid (show g0 ≠ _ from Nat.ne_of_lt (Nat.lt_of_lt_of_le l0.out Z.out.1))); (have N1 := Lib.hid (show g1 ≠ _ from Nat.ne_of_lt (Nat.lt_of_lt_of_le l1.out Z.out.1))); (have z0 := Z.out.2.c0); (have z1 := Z.out.2.c1); (have z2 := Z.out.2.f 0); (have z3 := Z.out.2.f 1)) | ((with_reducible have Z := zat_make_draw T.out hb5); (have Z := Lib.hid Z); (have N0 := Lib.hid (show g0 ≠ _ from Nat.ne_of_lt (Nat.lt_of_lt_of_le l0.out Z.out.1))); (have N1 := Lib.hid (show g1 ≠ _ from Nat.ne_of_lt (Nat.lt_of_lt_of_le l1.out Z.out.1))); (have z0 := Z.out.2.c0); (have z1 := Z.out.2.c1); (have z2 := Z.out.2.f 0); (have z3 := Z.out.2.f 1)) | skip); have T : Hid (Below v0.heap.size v0 x5) := Lib.hid (by first | with_reducible exact Below.then T.out hb5 | with_reducible exact then_draw T.out hb5 | with_reducible exact then_make T.out hb5 | with_reducible exact then_make_draw T.out hb5); clear hb5; have s : x5.cell? ⟨g0, 0, none⟩ = some (.int .i64 ah) ∧ x5.cell? ⟨g0, 1, none⟩ = some (.int .u64 al) ∧ x5.cell? ⟨g1, 0, none⟩ = some (.int .i64 bh) ∧ x5.cell? ⟨g1, 1, none⟩ = some (.int .u64 bl) := ⟨(T.out.cell l0.out).trans a0, (T.out.cell l0.out).trans a1, (T.out.cell l1.out).trans b0, (T.out.cell l1.out).trans b1⟩)
          | (go_at_call 15; ((with_reducible refine (K8.out _).mono ?_)); rintro e x3 ⟨rfl, hb3⟩; (first | ((with_reducible have Z := zat_keep Z.out hb3); (have Z := Lib.hid Z); (have N0 := Lib.hid (show g0 ≠ _ from Nat.ne_of_lt (Nat.lt_of_lt_of_le l0.out Z.out.1))); (have N1 := Lib.hid (show g1 ≠ _ from Nat.ne_of_lt (Nat.lt_of_lt_of_le l1.out Z.out.1))); (have z0 := Z.out.2.c0); (have z1 := Z.out.2.c1); (have z2 := Z.out.2.f 0); (have z3 := Z.out.2.f 1)) | ((with_reducible have Z := zat_make T.out hb3); (have Z := Lib.hid Z); (have N0 := Lib.hid (show g0 ≠ _ from Nat.ne_of_lt (Nat.lt_of_lt_of_le l0.out Z.out.1))); (have N1 := Lib.hid (show g1 ≠ _ from Nat.ne_of_lt (Nat.lt_of_lt_of_le l1.out Z.out.1))); (have z0 := Z.out.2.c0); (have z1 := Z.out.2.c1); (have z2 := Z.out.2.f 0); (have z3 := Z.out.2.f 1)) | ((with_reducible have Z := zat_make_draw T.out hb3); (have Z := Lib.hid Z); (have N0 := Lib.hid (show g0 ≠ _ from Nat.ne_of_lt (Nat.lt_of_lt_of_le l0.out Z.out.1))); (have N1 := Lib.hid (show g1 ≠ _ from Nat.ne_of_lt (Nat.lt_of_lt_of_le l1.out Z.out.1))); (have z0 := Z.out.2.c0); (have z1 := Z.out.2.c1); (have z2 := Z.out.2.f 0); (have z3 := Z.out.2.f 1)) | skip); have T : Hid (Below v0.heap.size v0 x3) := Lib.hid (by first | with_reducible exact Below.then T.out hb3 | with_reducible exact then_draw T.out hb3 | with_reducible exact then_make T.out hb3 | with_reducible exact then_make_draw T.out hb3); clear hb3; have s : x3.cell? ⟨g0, 0, none⟩ = some (.int .i64 ah) ∧ x3.cell? ⟨g0, 1, none⟩ = some (.int .u64 al) ∧ x3.cell? ⟨g1, 0, none⟩ = some (.int .i64 bh) ∧ x3.cell? ⟨g1, 1, none⟩ = some (.int .u64 bl) := ⟨(T.out.cell l0.out).trans a0, (T.out.cell l0.out).trans a1, (T.out.cell l1.out).trans b0, (T.out.cell l1.out).trans b1⟩)
          | (go_at_call 14; ((with_reducible refine (K9.out _).mono ?_)); rintro e x4 ⟨rfl, hb4⟩; (first | ((with_reducible have Z := zat_keep Z.out hb4); (have Z := Lib.hid Z); (have N0 := Lib.hid (show g0 ≠ _ from Nat.ne_of_lt (Nat.lt_of_lt_of_le l0.out Z.out.1))); (have N1 := Lib.hid (show g1 ≠ _ from Nat.ne_of_lt (Nat.lt_of_lt_of_le l1.out Z.out.1))); (have z0 := Z.out.2.c0); (have z1 := Z.out.2.c1); (have z2 := Z.out.2.f 0); (have z3 := Z.out.2.f 1)) | ((with_reducible have Z := zat_make T.out hb4); (have Z := Lib.hid Z); (have N0 := Lib.hid (show g0 ≠ _ from Nat.ne_of_lt (Nat.lt_of_lt_of_le l0.out Z.out.1))); (have N1 := Lib.hid (show g1 ≠ _ from Nat.ne_of_lt (Nat.lt_of_lt_of_le l1.out Z.out.1))); (have z0 := Z.out.2.c0); (have z1 := Z.out.2.c1); (have z2 := Z.out.2.f 0); (have z3 := Z.out.2.f 1)) | ((with_reducible have Z := zat_make_draw T.out hb4); (have Z := Lib.hid Z); (have N0 := Lib.hid (show g0 ≠ _ from Nat.ne_of_lt (Nat.lt_of_lt_of_le l0.out Z.out.1))); (have N1 := Lib.hid (show g1 ≠ _ from Nat.ne_of_lt (Nat.lt_of_lt_of_le l1.out Z.out.1))); (have z0 := Z.out.2.c0); (have z1 := Z.out.2.c1); (have z2 := Z.out.2.f 0); (have z3 := Z.out.2.f 1)) | skip); have T : Hid (Below v0.heap.size v0 x4) := Lib.hid (by first | with_reducible exact Below.then T.out hb4 | with_reducible exact then_draw T.out hb4 | with_reducible exact then_make T.out hb4 | with_reducible exact then_make_draw T.out hb4); clear hb4; have s : x4.cell? ⟨g0, 0, none⟩ = some (.int .i64 ah) ∧ x4.cell? ⟨g0, 1, none⟩ = some (.int .u64 al) ∧ x4.cell? ⟨g1, 0, none⟩ = some (.int .i64 bh) ∧ x4.cell? ⟨g1, 1, none⟩ = some (.int .u64 bl) := ⟨(T.out.cell l0.out).trans a0, (T.out.cell l0.out).trans a1, (T.out.cell l1.out).trans b0, (T.out.cell l1.out).trans b1⟩))
      all_goals go_wp2_with fail
      all_goals go_meet
      all_goals first
        | exact ⟨_, rfl, rfl, PAt.new _ _ _ rfl, T.out.alloc T.out.size _⟩
        | exact ⟨_, rfl, rfl, two_set Z.out.2, (T.out.setCell Z.out.1 _).setCell Z.out.1 _⟩
    case rest =>
      obtain ⟨q2, rfl, rfl, hq2, hb⟩ := hcut
      have xc := X4.out.below hb
      have yc := Y4.out.below hb
      have qc := Q4.out.below hb
      have H5 := Lib.hid (H4.out.then hb)
      have x0 := xc.c0
      have x1 := xc.c1
      have y0 := yc.c0
      have y1 := yc.c1
      have q0 := qc.c0
      have q1 := qc.c1
      have r0 := hq2.c0
      have r1 := hq2.c1
      have e1 := pair_eq sh sl
      have e2 := pair_eq th tl
      clear hb xc yc qc hq2 a0 a1 b0 b1 T s l0 l1 A4 B4 X4 Y4 Q4 H4
      cases p1 <;> cases p2
      all_goals go_wp2
      all_goals go_ret
      all_goals exact ⟨rfl, H5.out⟩
end Go.Proofs.Ytdamilkofdclbaa
