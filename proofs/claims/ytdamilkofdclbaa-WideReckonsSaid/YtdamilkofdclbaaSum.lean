/- Sum, Plus, Minus as whole numbers. -/
import Derived.Test.YtdamilkofdclbaaRows
import Derived.Test.YtdamilkofdclbaaKit
import Derived.Test.YtdamilkofdclbaaWide
import Derived.Test.YtdamilkofdclbaaSub
import Derived.Test.YtdamilkofdclbaaLess
import Derived.Deep.RegionWith
namespace Go.Proofs.Ytdamilkofdclbaa
open Go.RowKit
set_option linter.unusedVariables false

def iv (n : Int) : Value := .int .i64 n
/-- The sum of a list. -/
def sm : List Int → Int
  | [] => 0
  | x :: xs => x + sm xs
theorem sm_append (a b : List Int) : sm (a ++ b) = sm a + sm b := by
  induction a with
  | nil => simp [sm]
  | cons x xs ih => simp [sm, ih]; omega
theorem sm_take {l : List Int} {k : Nat} {x : Int} (h : l[k]? = some x) : sm (l.take (k + 1)) = sm (l.take k) + x := by
  rw [List.take_add_one, h, sm_append]; simp [sm]
/-- All of 64 bits. -/
def In64 (l : List Int) : Prop := ∀ x ∈ l, -9223372036854775808 ≤ x ∧ x ≤ 9223372036854775807
theorem sm_bound {l : List Int} (h : In64 l) : ∀ k : Nat, -(9223372036854775808 * (k : Int)) ≤ sm (l.take k) ∧ sm (l.take k) ≤ 9223372036854775808 * (k : Int) := by
  intro k
  induction k with
  | zero => simp [sm]
  | succ k ih =>
    cases hx : l[k]? with
    | none =>
      rw [List.take_of_length_le (by rw [List.getElem?_eq_none_iff] at hx; omega)]
      rw [List.take_of_length_le (by rw [List.getElem?_eq_none_iff] at hx; omega)] at ih
      omega
    | some x =>
      rw [sm_take hx]
      have := h x (List.mem_of_getElem? hx)
      omega
theorem sm_fits {l : List Int} (h : In64 l) (k : Nat) (hk : k ≤ 65536) : Fits (sm (l.take k)) := by
  have := sm_bound h k
  unfold Fits; omega
theorem fits_small {n : Int} (h1 : -9223372036854775808 ≤ n) (h2 : n ≤ 9223372036854775807) : Fits n := by unfold Fits; omega
theorem add_fits (a b : Int) (w : World) (ha : Fits a) (hb : Fits b) (hab : Fits (a + b)) :
    Calls Try.prog 12 #[W a, W b] w fun e w' => e = .returned (.tuple #[.agg #[.int .i64 (hiOf (a + b)), .int .u64 (loOf (a + b))], .bool true]) ∧ Below w.heap.size w w' := by
  have := add_any a b w ha hb
  unfold fitW at this
  rw [if_pos hab, decide_eq_true hab] at this
  exact this

set_option maxRecDepth 100000 in
set_option maxHeartbeats 1000000 in
theorem sum_any (l : List Int) (ad : Option Addr) (n c : Nat) (w : World) (hr : Row w ad n (l.map iv)) (hin : In64 l) (hn : n ≤ 65535) :
    Calls Try.prog 27 #[.slice ad n c] w fun e w' => e = .returned (smallV (sm l)) ∧ Below w.heap.size w w' := by
  have hlen : l.length = n := by simpa using hr.1
  have HL := Lib.hid hlen; clear hlen
  have HR := Lib.hid hr; clear hr
  have HI := Lib.hid hin; clear hin
  have KI := fun w => int_any (sm l) w
  obtain ⟨r, d, hsv⟩ : ∃ r d, smallV (sm l) = .tuple #[.int .i64 r, .bool d] := ⟨_, _, rfl⟩
  rw [hsv] at KI ⊢
  clear hsv
  have KI := Lib.hid KI
  go_enter Try.func27, Try.ntmps27
  go_wp2
  go_loopw [9] (fun i wr => ∃ k : Nat, k ≤ n ∧ i = .int .i64 k ∧ wr.heap[w.heap.size]? = some (.cells #[.int .i64 (hiOf (sm (l.take k))), .int .u64 (loOf (sm (l.take k)))] 24 (0, 0)) ∧ Below w.heap.size w wr) (fun i _ => n - (intOf i).toNat)
  case atStart => exact ⟨0, by omega, rfl, heap_alloc_new w _, (Below.refl _ _).alloc (Nat.le_refl _) _⟩
  case round =>
    obtain ⟨k, hk, rfl, hB', hb'⟩ := hrel
    have HB := Lib.hid hB'; clear hB'
    by_cases hlt : k < n
    · obtain ⟨x, hx⟩ : ∃ x, l[k]? = some x := ⟨l[k]'(by rw [HL.out]; exact hlt), by rw [List.getElem?_eq_getElem]⟩
      obtain ⟨b, o, rfl, hc, hbl⟩ := HR.out.2 k (iv x) (by simp [hx])
      have hc' : wr.cell? ⟨b, o + k, none⟩ = some (.int .i64 x) := by rw [hb'.cell hbl]; exact hc
      have hxr := HI.out x (List.mem_of_getElem? hx)
      have hs := sm_take hx
      have f1 := sm_fits HI.out k (by omega)
      have f2 := sm_fits HI.out (k + 1) (by omega)
      rw [hs] at f2
      have HS := Lib.hid hs
      have F1 := Lib.hid f1
      have F2 := Lib.hid f2
      have F3 := Lib.hid (fits_small hxr.1 hxr.2)
      have HX := Lib.hid hxr
      clear hs f1 f2 hxr hx hc
      generalize sm (l.take k) = s at *
      have c0 : wr.cell? ⟨w.heap.size, 0, none⟩ = some (.int .i64 (hiOf s)) := (cell_of_row _ _ _ _ _ _ HB.out).trans rfl
      have c1 : wr.cell? ⟨w.heap.size, 1, none⟩ = some (.int .u64 (loOf s)) := (cell_of_row _ _ _ _ _ _ HB.out).trans rfl
      have HBB := Lib.hid hb'; clear hb'
      have hlb := Lib.hid hbl; clear hbl
      have L0 := Lib.hid (block_lt_of_cell c0)
      go_wp2_with fail
      go_region_with (first
        | (go_at_call 32; go_loud (refine (of_any x _ HX.out.1 HX.out.2).mono ?_; rintro e w1 ⟨rfl, hb1⟩; have d0 : w1.cell? ⟨w.heap.size, 0, none⟩ = some (.int .i64 (hiOf s)) := (hb1.cell L0.out).trans c0; have d1 : w1.cell? ⟨w.heap.size, 1, none⟩ = some (.int .u64 (loOf s)) := (hb1.cell L0.out).trans c1; have HB1 := Lib.hid ((hb1.block _ L0.out).trans HB.out); have HW1 := Lib.hid (HBB.out.drew.trans (hb1.mono HBB.out.size)); clear hb1))
        | (go_at_call 12; refine (add_fits s x _ F1.out F3.out F2.out).mono ?_; rintro e w2 ⟨rfl, hb2⟩; have HB2 := Lib.hid ((hb2.block _ (lt_of_block HB1.out)).trans HB1.out); have e0 : w2.cell? ⟨w.heap.size, 0, none⟩ = some (.int .i64 (hiOf s)) := (cell_of_row _ _ _ _ _ _ HB2.out).trans rfl; have e1 : w2.cell? ⟨w.heap.size, 1, none⟩ = some (.int .u64 (loOf s)) := (cell_of_row _ _ _ _ _ _ HB2.out).trans rfl; have HW2 := Lib.hid (HW1.out.trans (hb2.mono HW1.out.size)); have hf0 : w2.frozen? ⟨w.heap.size, 0, none⟩ = false := frozen_of_row _ _ _ _ _ HB2.out; have hf1 : w2.frozen? ⟨w.heap.size, 1, none⟩ = false := frozen_of_row _ _ _ _ _ HB2.out; clear hb2))
      all_goals clear e0 e1 d0 d1 c0 c1 hf0 hf1 hc'
      all_goals go_wp2
      all_goals go_roundw
      all_goals first
      | (simp [intOf]; omega; done)
      | skip
      all_goals
        refine ⟨k + 1, by omega, by go_num, ?_, (HW2.out.setCell (Nat.le_refl _) _).setCell (Nat.le_refl _) _⟩
        rw [HS.out, heap_setCell_same _ _ _ _ _ _ (heap_setCell_same _ _ _ _ _ _ HB2.out)]
        rfl
    · obtain rfl : k = n := by omega
      have hfin : l.take k = l := List.take_of_length_le (by rw [HL.out]; exact Nat.le_refl _)
      have f1 := sm_fits HI.out k (by omega)
      rw [hfin] at f1
      rw [hfin] at HB
      have F1 := Lib.hid f1
      clear f1 hfin
      have KS := Lib.hid KI.out
      unfold W at KS
      generalize sm l = s at HB F1 KS
      have c0 : wr.cell? ⟨w.heap.size, 0, none⟩ = some (.int .i64 (hiOf s)) := (cell_of_row _ _ _ _ _ _ HB.out).trans rfl
      have c1 : wr.cell? ⟨w.heap.size, 1, none⟩ = some (.int .u64 (loOf s)) := (cell_of_row _ _ _ _ _ _ HB.out).trans rfl
      have HBB := Lib.hid hb'; clear hb'
      go_wp2_with (go_at_call 21; refine (KS.out _).mono ?_; rintro e w1 ⟨rfl, hb1⟩; have HW1 := Lib.hid (HBB.out.trans (hb1.mono HBB.out.size)); clear hb1)
      go_ret2
      exact ⟨rfl, HW1.out⟩
end Go.Proofs.Ytdamilkofdclbaa
