/- Ten digits as an array of the program's; a sum of two of them. -/
import Derived.Test.YtdamilkofdclbaaRows
import Derived.Test.YtdamilkofdclbaaKit
import Derived.Test.YtdamilkofdclbaaLong
import Derived.Deep.QuietTactic
import Derived.BigQuiet
namespace Go.Proofs.Ytdamilkofdclbaa
open Go.RowKit
set_option linter.unusedVariables false

def arr (f : Nat → Int) : Array Value := ((List.range 10).map fun i => Value.int .i64 (f i)).toArray
theorem arr_size (f : Nat → Int) : (arr f).size = 10 := by simp [arr]
theorem arr_get (f : Nat → Int) (i : Nat) (h : i < 10) : (arr f)[i]? = some (.int .i64 (f i)) := by simp [arr, h]
theorem arr_congr {f g : Nat → Int} (h : ∀ i, i < 10 → f i = g i) : arr f = arr g := by
  unfold arr
  congr 1
  apply List.map_congr_left
  intro i hi
  rw [h i (List.mem_range.1 hi)]
theorem arr_inj {f g : Nat → Int} (h : arr f = arr g) (i : Nat) (hi : i < 10) : f i = g i := by
  have := arr_get f i hi
  rw [h, arr_get g i hi] at this
  simpa using this.symm
theorem arr_set (f : Nat → Int) (k : Nat) (x : Int) : (arr f).setIfInBounds k (.int .i64 x) = arr (fun i => if i = k then x else f i) := by
  apply Array.ext_getElem?
  intro i
  by_cases hi : i < 10
  · rw [Array.getElem?_setIfInBounds, arr_get _ _ hi, arr_get _ _ hi, arr_size]
    by_cases hk : k = i
    · subst hk; simp [hi]
    · simp [hk, Ne.symm hk]
  · rw [Array.getElem?_eq_none (by simp [arr_size]; omega), Array.getElem?_eq_none (by simp [arr_size]; omega)]
theorem arr_one (f : Nat → Int) : (arr f).all (·.oneCell') = true := by
  rw [Array.all_eq_true_iff_forall_mem]
  intro v hv
  simp [arr] at hv
  obtain ⟨i, _, rfl⟩ := hv
  rfl
theorem zero30 (w : World) : (zeroValue 30).run Try.prog w = .ok (.agg (arr fun _ => 0)) w := by kernel_rfl
theorem info30 : (Try.prog.info? 30).map (·.size) = some 10 := by kernel_rfl
attribute [irreducible] arr
/-- The number v as ten digits. -/
def L (v : Int) : Value := .agg (arr (dg v))
/-- Its first k digits. -/
def upTo (v : Int) (k : Nat) : Nat → Int := fun i => if i < k then dg v i else 0
theorem upTo_set (v : Int) (k : Nat) : (arr (upTo v k)).setIfInBounds k (.int .i64 (dg v k)) = arr (upTo v (k + 1)) := by
  rw [arr_set]
  apply arr_congr
  intro i hi
  unfold upTo
  by_cases h : i = k
  · subst h; simp
  · by_cases h2 : i < k
    · simp [h, h2, show i < k + 1 by omega]
    · simp [h, h2, show ¬ i < k + 1 by omega]
theorem upTo_ten (v : Int) : arr (upTo v 10) = arr (dg v) := arr_congr fun i hi => by simp [upTo, hi]
theorem upTo_zero (v : Int) : arr (fun _ => 0) = arr (upTo v 0) := arr_congr fun i hi => by simp [upTo]

/-- Block k holds ten digits. -/
def At (w : World) (k : Nat) (f : Nat → Int) : Prop := w.heap[k]? = some (.cells (arr f) 30 (0, 0))
theorem At.cell {w k f} (h : At w k f) {i : Nat} (hi : i < 10) : w.cell? ⟨k, i, none⟩ = some (.int .i64 (f i)) := by rw [cell_of_row _ _ _ _ _ _ h, arr_get _ _ hi]
theorem At.frozen {w k f} (h : At w k f) (i : Nat) : w.frozen? ⟨k, i, none⟩ = false := frozen_of_row _ _ _ _ _ h
theorem At.lt {w k f} (h : At w k f) : k < w.heap.size := lt_of_block h
theorem At.alloc {w k f} (h : At w k f) (o : Obj) : At (w.alloc o) k f := (heap_alloc_old w o h.lt).trans h
theorem At.new (w : World) (f : Nat → Int) {k : Nat} (hk : k = w.heap.size) : At (w.alloc (.cells (arr f) 30)) k f := by subst hk; exact heap_alloc_new w _
theorem At.draw {w k f} (h : At w k f) (n : Nat) : At (w.drewN n) k f := h
theorem At.below {w w' : World} {k f} (h : At w k f) (hb : Below w.heap.size w w') : At w' k f := (hb.block k h.lt).trans h
theorem At.other {w k f} (h : At w k f) {g : Nat} (hg : k ≠ g) (i : Nat) (v : Value) : At (w.setCell ⟨g, i, none⟩ v) k f := (heap_setCell_other _ _ _ _ hg).trans h
theorem At.set {w k f} (h : At w k f) (i : Nat) (x : Int) : At (w.setCell ⟨k, i, none⟩ (.int .i64 x)) k (fun j => if j = i then x else f j) := by
  unfold At; rw [heap_setCell_same _ _ _ _ _ _ h, arr_set]
theorem At.congr {w k f g} (h : At w k f) (hfg : ∀ i, i < 10 → f i = g i) : At w k g := by unfold At at *; rw [h, arr_congr hfg]
theorem At.row {w k f} (h : At w k f) (g : Nat → Int) : At (w.setRow k (arr g)) k g := setRow_heap _ _ _ _ _ _ h
theorem At.row_other {w k f} (h : At w k f) {j : Nat} (hj : k ≠ j) (cs : Array Value) : At (w.setRow j cs) k f := (setRow_other _ _ _ _ hj).trans h
theorem upTo_succ (v : Int) (k : Nat) (x : Int) (h : x = dg v k) (i : Nat) : (if i = k then x else upTo v k i) = upTo v (k + 1) i := by
  subst h
  unfold upTo
  by_cases h : i = k
  · subst h; simp
  · by_cases h2 : i < k
    · simp [h, h2, show i < k + 1 by omega]
    · simp [h, h2, show ¬ i < k + 1 by omega]
theorem upTo_all (v : Int) (i : Nat) (h : i < 10) : upTo v 10 i = dg v i := by simp [upTo, h]
theorem upTo_none (v : Int) (i : Nat) : (0 : Int) = upTo v 0 i := by simp [upTo]
theorem below_four (w : World) (o0 o1 o2 o3 : Obj) : Below w.heap.size w ((((w.alloc o0).alloc o1).alloc o2).alloc o3) :=
  ((((Below.refl _ _).alloc (Nat.le_refl _) _).alloc (by simp) _).alloc (by simp; omega) _).alloc (by simp; omega) _
theorem below_three (w : World) (o0 o1 o2 : Obj) : Below w.heap.size w (((w.alloc o0).alloc o1).alloc o2) :=
  (((Below.refl _ _).alloc (Nat.le_refl _) _).alloc (by simp) _).alloc (by simp; omega) _

theorem below_row {B g : Nat} {w w' : World} (h : Below B w w') (hg : B ≤ g) (cs : Array Value) : Below B w (w'.setRow g cs) :=
  ⟨h.os, h.tape, h.output, by rw [setRow_size]; exact h.size, fun k hk => (setRow_other _ _ _ _ (by omega)).trans (h.block k hk)⟩
set_option maxRecDepth 100000 in
set_option maxHeartbeats 1000000 in
theorem lplus_any (a b : Int) (w : World) :
    Calls Try.prog 15 #[L a, L b] w fun e w' => e = .returned (L (a + b)) ∧ Below w.heap.size w w' := by
  unfold L
  have hz := zero30
  have HA := Lib.hid (((((At.new w (dg a) rfl).alloc (.cells (arr (dg b)) 30)).alloc (.cells (arr fun _ => 0) 30)).alloc (.cells (arr fun _ => 0) 30)))
  have HB := Lib.hid ((((At.new (w.alloc (.cells (arr (dg a)) 30)) (dg b) (k := w.heap.size + 1) (by simp)).alloc (.cells (arr fun _ => 0) 30)).alloc (.cells (arr fun _ => 0) 30)))
  have HR := Lib.hid (((At.new ((w.alloc (.cells (arr (dg a)) 30)).alloc (.cells (arr (dg b)) 30)) (fun _ => 0) (k := w.heap.size + 1 + 1) (by simp)).alloc (.cells (arr fun _ => 0) 30)))
  have HO := Lib.hid ((At.new (((w.alloc (.cells (arr (dg a)) 30)).alloc (.cells (arr (dg b)) 30)).alloc (.cells (arr fun _ => 0) 30)) (fun _ => 0) (k := w.heap.size + 1 + 1 + 1) (by simp)))
  have H0 := Lib.hid (below_four w (.cells (arr (dg a)) 30) (.cells (arr (dg b)) 30) (.cells (arr fun _ => 0) 30) (.cells (arr fun _ => 0) 30))
  go_enter Try.func15, Try.ntmps15
  go_wp2
  clear hz
  generalize (((w.alloc (.cells (arr (dg a)) 30)).alloc (.cells (arr (dg b)) 30)).alloc (.cells (arr fun _ => 0) 30)).alloc (.cells (arr fun _ => 0) 30) = w0 at *
  go_loopw [6, 7] (fun c i wr => ∃ k : Nat, k ≤ 10 ∧ i = .int .i64 k ∧ c = .int .i64 (cy a b k) ∧ At wr w.heap.size (dg a) ∧ At wr (w.heap.size + 1) (dg b) ∧ At wr (w.heap.size + 1 + 1) (fun _ => 0) ∧ At wr (w.heap.size + 1 + 1 + 1) (upTo (a + b) k) ∧ Below w.heap.size w wr) (fun _ i _ => 10 - (intOf i).toNat)
  case atStart => exact ⟨0, by omega, rfl, by rw [cy_zero], HA.out, HB.out, HR.out, HO.out.congr fun i _ => upTo_none _ i, H0.out⟩
  case round =>
    clear HA HB HR HO H0
    obtain ⟨k, hk, rfl, rfl, hA, hB, hR, hO, hb⟩ := hrel
    have HA := Lib.hid hA; have HB := Lib.hid hB; have HR := Lib.hid hR; have HO := Lib.hid hO; have H0 := Lib.hid hb
    clear hA hB hR hO hb
    by_cases hlt : k < 10
    · have ca := HA.out.cell hlt
      have cb := HB.out.cell hlt
      have co := HO.out.cell hlt
      have fo := HO.out.frozen k
      have S1 := Lib.hid (sum_dig a b k)
      have S2 := Lib.hid (sum_carry a b k)
      have r1 := dg_range a k
      have r2 := dg_range b k
      have r3 := cy_range a b k
      have i0 : (0 : Int) ≤ (k : Int) := by omega
      have i1 : (k : Int) < 10 := by omega
      generalize dg a k = x at *
      generalize dg b k = y at *
      generalize cy a b k = c at *
      go_wp2
      go_quiet (fail)
      go_wp2
      go_roundw
      case rel =>
        refine ⟨k + 1, by omega, by go_num, by rw [S2.out], ((HA.out.draw _).other (by omega) _ _), ((HB.out.draw _).other (by omega) _ _), ((HR.out.draw _).other (by omega) _ _), ((HO.out.draw _).set _ _).congr fun i _ => upTo_succ _ _ _ S1.out i, (below_drewN H0.out _).setCell (by simp; omega) _⟩
      case measure => simp [intOf]; omega
    · obtain rfl : k = 10 := by omega
      have HO2 := Lib.hid (HO.out.congr fun i hi => upTo_all (a + b) i hi)
      clear HO
      go_wp2_with (first | (refine wpList_load_row rfl 30 (.tmp 5) rfl (w.heap.size + 1 + 1 + 1) rfl 30 _ _ _ HO2.out Try.underlying30 rfl (by rw [arr_size]; exact info30) ?_) | (refine wpList_store_row rfl 30 (.tmp 4) (.tmp 28) rfl (w.heap.size + 1 + 1) (arr (dg (a + b))) rfl rfl 30 _ HR.out (by rw [arr_size]; exact info30) (by rw [arr_size, arr_size]) (arr_one _) ?_))
      refine bodyPost_ret (v := .agg (arr (dg (a + b)))) (results_cell_row rfl _ _ (w.heap.size + 1 + 1) 30 _ _ _ rfl (HR.out.row _) Try.underlying30 rfl (by rw [arr_size]; exact info30)) rfl ⟨rfl, ?_⟩
      exact below_row H0.out (by omega) _
end Go.Proofs.Ytdamilkofdclbaa
