/- right, Halves walked. -/
import Derived.Test.YtdbkbcihbajjdaaSpan
import Derived.RegionTactic
import Derived.ChangeAlike
namespace Go.Proofs.Ytdbkbcihbajjdaa
open Go.RowKit
set_option linter.unusedVariables false

/-- How many bits: from 1 to 59. -/
def bitsOf' (b : Int) : Nat := 1 + (b % 65536).toNat % 59
theorem bitsOf_le (b : Int) : 1 ≤ bitsOf' b ∧ bitsOf' b ≤ 59 := by unfold bitsOf'; omega
set_option maxRecDepth 100000 in
set_option maxHeartbeats 400000 in
theorem right_any (b : Int) (x y : Nat) (w : World) (hx : x < 18446744073709551616) (hy : y < 18446744073709551616) :
    Calls Try.prog 16 #[.int .i64 b, .int .u64 x, .int .u64 y] w fun e w' => e = .returned (.tuple #[.int .i64 (bitsOf' b), .int .u64 ((min (x % 2 ^ bitsOf' b) (y % 2 ^ bitsOf' b) : Nat) : Int), .int .u64 ((max (x % 2 ^ bitsOf' b) (y % 2 ^ bitsOf' b) : Nat) : Int)]) ∧ Below w.heap.size w w' := by
  obtain ⟨hb1, hb2⟩ := bitsOf_le b
  obtain ⟨r, hr⟩ : ∃ r : Nat, (b % 65536).toNat = r := ⟨_, rfl⟩
  have hand := and_65535 b
  rw [hr] at hand
  have hbo : bitsOf' b = 1 + r % 59 := by unfold bitsOf'; rw [hr]
  have hw := wrap_pow hb2
  have hpos := pow_pos2 (bitsOf' b)
  rw [hbo] at *
  have hrem : (r : Int) % 59 = ((r % 59 : Nat) : Int) := by norm_cast
  clear hr hbo
  generalize r % 59 = k at *
  have HP := Lib.hid (pow_le59 hb2)
  generalize hQ : 2 ^ (1 + k) = Q at *
  have hz : ¬ ((Q : Int) = 0) := by omega
  clear hQ
  have m1 : (x : Int) % (Q : Int) = ((x % Q : Nat) : Int) := by norm_cast
  have m2 : (y : Int) % (Q : Int) = ((y % Q : Nat) : Int) := by norm_cast
  have q1 : ((x : Int)).tmod (Q : Int) = ((x % Q : Nat) : Int) := by rw [Int.tmod_eq_emod_of_nonneg (by omega)]; exact m1
  generalize x % Q = X at *
  generalize y % Q = Y at *
  go_enter Try.func16, Try.ntmps16
  go_wp2_with fail
  rw [hw]
  go_quiet (fail)
  go_wp2
  all_goals
    go_ret3
    exact ⟨by simp; omega, below_drewN (Below.refl _ _) _⟩
/-- What Halves answers. -/
def halfV (n L I : Int) : Value := if isP n L I && decide (0 < L) then .tuple #[.agg #[.int .i64 (L - 1), .int .u64 (2 * I)], .agg #[.int .i64 (L - 1), .int .u64 (2 * I + 1)], .bool true] else .tuple #[.agg #[.int .i64 0, .int .u64 0], .agg #[.int .i64 0, .int .u64 0], .bool false]
theorem info30 : (Try.prog.info? 30).map (fun i => (i.zero, i.size, i.bytes)) = some (some (.agg #[.int .i64 0, .int .u64 0]), 2, 16) := by kernel_rfl
/-- Block b holds a piece. -/
def PAt (w : World) (b : Nat) (h l : Int) : Prop := w.heap[b]? = some (.cells #[.int .i64 h, .int .u64 l] 30 (0, 0))
theorem PAt.c0 {w b h l} (k : PAt w b h l) : w.cell? ⟨b, 0, none⟩ = some (.int .i64 h) := (cell_of_row _ _ _ _ _ _ k).trans rfl
theorem PAt.c1 {w b h l} (k : PAt w b h l) : w.cell? ⟨b, 1, none⟩ = some (.int .u64 l) := (cell_of_row _ _ _ _ _ _ k).trans rfl
theorem PAt.f {w b h l} (k : PAt w b h l) (i : Nat) : w.frozen? ⟨b, i, none⟩ = false := frozen_of_row _ _ _ _ _ k
theorem PAt.new (w : World) (h l : Int) {b : Nat} (hb : b = w.heap.size) : PAt (w.alloc (.cells #[.int .i64 h, .int .u64 l] 30)) b h l := by subst hb; exact heap_alloc_new w _
theorem PAt.alloc {w b h l} (k : PAt w b h l) (o : Obj) : PAt (w.alloc o) b h l := by
  unfold PAt at *
  rw [← k]
  exact heap_alloc_old w o (lt_of_block k)
theorem PAt.below {w w' b h l} (k : PAt w b h l) (hb : Below w.heap.size w w') : PAt w' b h l := (hb.block b (lt_of_block k)).trans k
/-- Both cells of a block stored. -/
theorem two_set {w : World} {g : Nat} {p q : Int} (h : PAt w g p q) (x y : Int) : PAt ((w.setCell ⟨g, 0, none⟩ (.int .i64 x)).setCell ⟨g, 1, none⟩ (.int .u64 y)) g x y := by
  unfold PAt at *
  rw [heap_setCell_same _ _ _ _ _ _ (heap_setCell_same _ _ _ _ _ _ h)]; rfl
theorem two_other {w : World} {g b : Nat} {p q : Int} (h : PAt w b p q) (hn : b ≠ g) (x y : Int) : PAt ((w.setCell ⟨g, 0, none⟩ (.int .i64 x)).setCell ⟨g, 1, none⟩ (.int .u64 y)) b p q := by
  unfold PAt at *
  rw [heap_setCell_other _ _ _ _ hn, heap_setCell_other _ _ _ _ hn]; exact h
set_option maxRecDepth 100000 in
set_option maxHeartbeats 400000 in
theorem halves_any (n L I : Int) (w : World) (h0 : 0 ≤ I) :
    Calls Try.prog 15 #[.int .i64 n, .agg #[.int .i64 L, .int .u64 I]] w fun e w' => e = .returned (halfV n L I) ∧ Below w.heap.size w w' := by
  have K1 := Lib.hid (fun w => is_any n L I w h0)
  have A0 := Lib.hid (((PAt.new w L I rfl).alloc (.cells #[.int .i64 0, .int .u64 0] 30)).alloc (.cells #[.int .i64 0, .int .u64 0] 30))
  have X0 := Lib.hid ((PAt.new (w.alloc (.cells #[.int .i64 L, .int .u64 I] 30)) 0 0 (b := w.heap.size + 1) (by simp)).alloc (.cells #[.int .i64 0, .int .u64 0] 30))
  have Y0 := Lib.hid (PAt.new ((w.alloc (.cells #[.int .i64 L, .int .u64 I] 30)).alloc (.cells #[.int .i64 0, .int .u64 0] 30)) 0 0 (b := w.heap.size + 1 + 1) (by simp))
  have B0 := Lib.hid ((((Below.refl w.heap.size w).alloc (Nat.le_refl _) (.cells #[.int .i64 L, .int .u64 I] 30)).alloc (by simp) (.cells #[.int .i64 0, .int .u64 0] 30)).alloc (by simp; omega) (.cells #[.int .i64 0, .int .u64 0] 30))
  have hg0 : w.heap.size + 1 ≠ w.heap.size := by omega
  have hg1 : w.heap.size + 1 + 1 ≠ w.heap.size := by omega
  have hg2 : w.heap.size + 1 + 1 ≠ w.heap.size + 1 := by omega
  have HB1 := Lib.hid (show w.heap.size ≤ w.heap.size + 1 by omega)
  have HB2 := Lib.hid (show w.heap.size ≤ w.heap.size + 1 + 1 by omega)
  cases hp : isP n L I with
  | false =>
    have HV := Lib.hid (show halfV n L I = .tuple #[.agg #[.int .i64 0, .int .u64 0], .agg #[.int .i64 0, .int .u64 0], .bool false] by unfold halfV; rw [hp]; rfl)
    rw [hp] at K1
    clear hp
    go_enter Try.func15, Try.ntmps15
    go_wp2_with fail
    refine (K1.out _).mono ?_
    rintro e w1 ⟨rfl, hb1⟩
    have A1 := Lib.hid (A0.out.below hb1)
    have X1 := Lib.hid (X0.out.below hb1)
    have Y1 := Lib.hid (Y0.out.below hb1)
    have B1 := Lib.hid (B0.out.then hb1)
    clear A0 X0 Y0 B0 hb1
    generalize w.heap.size + 1 + 1 = g2 at *
    generalize w.heap.size + 1 = g1 at *
    have x0 := X1.out.c0
    have x1 := X1.out.c1
    have x2 := X1.out.f 0
    have x3 := X1.out.f 1
    have y0 := Y1.out.c0
    have y1 := Y1.out.c1
    have y2 := Y1.out.f 0
    have y3 := Y1.out.f 1
    go_wp2
    have W1 := two_other (two_set X1.out 0 0) hg2.symm 0 0
    have W2 := two_set (two_other Y1.out hg2 0 0) 0 0
    have z0 := W1.c0
    have z1 := W1.c1
    have z2 := W2.c0
    have z3 := W2.c1
    have BF := Lib.hid ((((B1.out.setCell (p := ⟨g1, 0, none⟩) HB1.out (.int .i64 0)).setCell (p := ⟨g1, 1, none⟩) HB1.out (.int .u64 0)).setCell (p := ⟨g2, 0, none⟩) HB2.out (.int .i64 0)).setCell (p := ⟨g2, 1, none⟩) HB2.out (.int .u64 0))
    clear W1 W2 x0 x1 x2 x3 y0 y1 y2 y3
    generalize (((w1.setCell ⟨g1, 0, none⟩ (.int .i64 0)).setCell ⟨g1, 1, none⟩ (.int .u64 0)).setCell ⟨g2, 0, none⟩ (.int .i64 0)).setCell ⟨g2, 1, none⟩ (.int .u64 0) = wf at *
    refine bodyPost_ret (v := .tuple #[.agg #[.int .i64 0, .int .u64 0], .agg #[.int .i64 0, .int .u64 0], .bool false]) (by simp [results, Try.results15, go_sem, z0, z1, z2, z3]) rfl ⟨by rw [HV.out], BF.out⟩
  | true =>
    by_cases hL : L = 0
    · subst hL
      have HV := Lib.hid (show halfV n 0 I = .tuple #[.agg #[.int .i64 0, .int .u64 0], .agg #[.int .i64 0, .int .u64 0], .bool false] by unfold halfV; simp)
      rw [hp] at K1
      clear hp
      go_enter Try.func15, Try.ntmps15
      go_wp2_with fail
      refine (K1.out _).mono ?_
      rintro e w1 ⟨rfl, hb1⟩
      have A1 := Lib.hid (A0.out.below hb1)
      have X1 := Lib.hid (X0.out.below hb1)
      have Y1 := Lib.hid (Y0.out.below hb1)
      have B1 := Lib.hid (B0.out.then hb1)
      clear A0 X0 Y0 B0 hb1
      generalize w.heap.size + 1 + 1 = g2 at *
      generalize w.heap.size + 1 = g1 at *
      have a0 := A1.out.c0
      have x0 := X1.out.c0
      have x1 := X1.out.c1
      have x2 := X1.out.f 0
      have x3 := X1.out.f 1
      have y0 := Y1.out.c0
      have y1 := Y1.out.c1
      have y2 := Y1.out.f 0
      have y3 := Y1.out.f 1
      go_wp2
      have W1 := two_other (two_set X1.out 0 0) hg2.symm 0 0
      have W2 := two_set (two_other Y1.out hg2 0 0) 0 0
      have z0 := W1.c0
      have z1 := W1.c1
      have z2 := W2.c0
      have z3 := W2.c1
      have BF := Lib.hid ((((B1.out.setCell (p := ⟨g1, 0, none⟩) HB1.out (.int .i64 0)).setCell (p := ⟨g1, 1, none⟩) HB1.out (.int .u64 0)).setCell (p := ⟨g2, 0, none⟩) HB2.out (.int .i64 0)).setCell (p := ⟨g2, 1, none⟩) HB2.out (.int .u64 0))
      clear a0 W1 W2 x0 x1 x2 x3 y0 y1 y2 y3
      generalize (((w1.setCell ⟨g1, 0, none⟩ (.int .i64 0)).setCell ⟨g1, 1, none⟩ (.int .u64 0)).setCell ⟨g2, 0, none⟩ (.int .i64 0)).setCell ⟨g2, 1, none⟩ (.int .u64 0) = wf at *
      refine bodyPost_ret (v := .tuple #[.agg #[.int .i64 0, .int .u64 0], .agg #[.int .i64 0, .int .u64 0], .bool false]) (by simp [results, Try.results15, go_sem, z0, z1, z2, z3]) rfl ⟨by rw [HV.out], BF.out⟩
    · obtain ⟨N, l, i, rfl, rfl, rfl, h1, h2, h3, h4, h5⟩ := isP_nat h0 hp
      have hl : l ≠ 0 := by omega
      clear hL
      have hi : i ≤ 288230376151711744 := by
        have : 2 ^ (N - l) ≤ 2 ^ 58 := Nat.pow_le_pow_right (by omega) (by omega)
        omega
      have HV := Lib.hid (show halfV N l i = .tuple #[.agg #[.int .i64 ((l : Int) - 1), .int .u64 (2 * (i : Int))], .agg #[.int .i64 ((l : Int) - 1), .int .u64 (2 * (i : Int) + 1)], .bool true] by unfold halfV; rw [hp, decide_eq_true (by omega : (0 : Int) < l)]; rfl)
      rw [hp] at K1
      clear hp h4 h5
      have hd0 : ((l : Int) == 0) = false := by simp; omega
      have hs1 : IntKind.i64.wrap ((l : Int) - 1) = (l : Int) - 1 := by rw [IntKind.wrap_i64]; omega
      have hs2 : IntKind.u64.wrap (2 * (i : Int)) = 2 * (i : Int) := by rw [IntKind.wrap_u64]; omega
      have hs3 : IntKind.u64.wrap (2 * (i : Int) + 1) = 2 * (i : Int) + 1 := by rw [IntKind.wrap_u64]; omega
      go_enter Try.func15, Try.ntmps15
      go_wp2_with fail
      refine (K1.out _).mono ?_
      rintro e w1 ⟨rfl, hb1⟩
      have A1 := Lib.hid (A0.out.below hb1)
      have X1 := Lib.hid (X0.out.below hb1)
      have Y1 := Lib.hid (Y0.out.below hb1)
      have B1 := Lib.hid (B0.out.then hb1)
      clear A0 X0 Y0 B0 hb1
      generalize w.heap.size + 1 + 1 = g2 at *
      generalize w.heap.size + 1 = g1 at *
      have a0 := A1.out.c0
      have a1 := A1.out.c1
      have x0 := X1.out.c0
      have x1 := X1.out.c1
      have x2 := X1.out.f 0
      have x3 := X1.out.f 1
      have y0 := Y1.out.c0
      have y1 := Y1.out.c1
      have y2 := Y1.out.f 0
      have y3 := Y1.out.f 1
      go_wp2
      go_region
      go_wp2
      have W1 := two_other (two_set X1.out ((l : Int) - 1) (2 * (i : Int))) hg2.symm ((l : Int) - 1) (2 * (i : Int) + 1)
      have W2 := two_set (two_other Y1.out hg2 ((l : Int) - 1) (2 * (i : Int))) ((l : Int) - 1) (2 * (i : Int) + 1)
      have z0 := (show _ from W1.c0)
      have z1 := W1.c1
      have z2 := W2.c0
      have z3 := W2.c1
      have BF := Lib.hid ((((B1.out.setCell (p := ⟨g1, 0, none⟩) HB1.out (.int .i64 ((l : Int) - 1))).setCell (p := ⟨g1, 1, none⟩) HB1.out (.int .u64 (2 * (i : Int)))).setCell (p := ⟨g2, 0, none⟩) HB2.out (.int .i64 ((l : Int) - 1))).setCell (p := ⟨g2, 1, none⟩) HB2.out (.int .u64 (2 * (i : Int) + 1)))
      clear a0 a1 W1 W2 x0 x1 x2 x3 y0 y1 y2 y3
      generalize (((w1.setCell ⟨g1, 0, none⟩ (.int .i64 ((l : Int) - 1))).setCell ⟨g1, 1, none⟩ (.int .u64 (2 * (i : Int)))).setCell ⟨g2, 0, none⟩ (.int .i64 ((l : Int) - 1))).setCell ⟨g2, 1, none⟩ (.int .u64 (2 * (i : Int) + 1)) = wf at *
      refine bodyPost_ret (v := .tuple #[.agg #[.int .i64 ((l : Int) - 1), .int .u64 (2 * (i : Int))], .agg #[.int .i64 ((l : Int) - 1), .int .u64 (2 * (i : Int) + 1)], .bool true]) (by simp [results, Try.results15, go_sem, z0, z1, z2, z3]) rfl ⟨by rw [HV.out], BF.out.drew⟩
end Go.Proofs.Ytdbkbcihbajjdaa
