/- Of, Minus, Below of the reference. -/
import Derived.Test.YtdamilkofdclbaaLofi
import Derived.Test.YtdamilkofdclbaaWide
namespace Go.Proofs.Ytdamilkofdclbaa
open Go.RowKit
set_option linter.unusedVariables false

def ofF (v : Int) (k : Nat) : Nat → Int := fun j => if j < k ∨ (4 ≤ j ∧ j < 4 + k) then dg v j else 0
theorem ofF_zero (v : Int) (i : Nat) : (0 : Int) = ofF v 0 i := by unfold ofF; rw [if_neg (by omega)]
theorem ofF_succ (v : Int) (k : Nat) (x y : Int) (hk : k < 4) (hx : x = dg v k) (hy : y = dg v (k + 4)) (i : Nat) : (if i = k + 4 then y else if i = k then x else ofF v k i) = ofF v (k + 1) i := by
  subst hx hy
  unfold ofF
  by_cases e1 : i = k + 4
  · rw [if_pos e1, if_pos (by omega), e1]
  · rw [if_neg e1]
    by_cases e2 : i = k
    · rw [if_pos e2, if_pos (by omega), e2]
    · rw [if_neg e2]
      by_cases e3 : i < k ∨ (4 ≤ i ∧ i < 4 + k)
      · rw [if_pos e3, if_pos (by omega)]
      · rw [if_neg e3, if_neg (by omega)]
theorem dg_hi (v : Int) (k : Nat) : dg (hiOf v) k = dg v (k + 4) := by
  unfold dg hiOf
  rw [show k + 4 = 4 + k by omega, pw_add, ← Int.ediv_ediv_of_nonneg (Int.le_of_lt (pw_pos 4)), pw4]
theorem shr_lo (v : Int) (k : Nat) (h : k < 4) : wrap64 (bits BinOp.and IntKind.u64 (loOf v / 2 ^ (16 * k)) 65535) = dg v k := by
  have := shr_dig v k h
  rwa [wrap_lo] at this
theorem shr_hi (v : Int) (k : Nat) (h : k < 4) : wrap64 (bits BinOp.and IntKind.u64 (IntKind.u64.wrap (hiOf v) / 2 ^ (16 * k)) 65535) = dg v (k + 4) := by
  rw [shr_dig _ k h, dg_hi]
theorem shr_hi' (v : Int) (k : Nat) (h : k < 4) (h0 : 0 ≤ hiOf v) (h1 : hiOf v ≤ 9223372036854775807) : wrap64 (bits BinOp.and IntKind.u64 (hiOf v / 2 ^ (16 * k)) 65535) = dg v (k + 4) := by
  rw [shr_dig' _ k h h0 h1, dg_hi]
theorem ofF_neg {v : Int} (hv : Fits v) (h : v < 0) (i : Nat) (hi : i < 10) : (if i = 9 then 65535 else if i = 8 then 65535 else ofF v 4 i) = dg v i := by
  have e : ∀ k, 8 ≤ k → dg v k = 65535 := fun k hk => dg_neg h (by have := pw_mono hk; rw [pw8] at this; unfold Fits at hv; omega)
  by_cases e1 : i = 9
  · rw [if_pos e1, e1, e 9 (by omega)]
  · rw [if_neg e1]
    by_cases e2 : i = 8
    · rw [if_pos e2, e2, e 8 (by omega)]
    · rw [if_neg e2]; unfold ofF; rw [if_pos (by omega)]
theorem ofF_pos {v : Int} (hv : Fits v) (h : 0 ≤ v) (i : Nat) (hi : i < 10) : ofF v 4 i = dg v i := by
  have e : ∀ k, 8 ≤ k → dg v k = 0 := fun k hk => dg_high h (by have := pw_mono hk; rw [pw8] at this; unfold Fits at hv; omega)
  unfold ofF
  by_cases e2 : 8 ≤ i
  · rw [if_neg (by omega), e i e2]
  · rw [if_pos (by omega)]

set_option maxRecDepth 100000 in
set_option maxHeartbeats 1000000 in
theorem lof_any (v : Int) (w : World) (hv : Fits v) :
    Calls Try.prog 16 #[W v] w fun e w' => e = .returned (L v) ∧ Below w.heap.size w w' := by
  unfold L W
  have hz := zero30
  have hr := hi_range hv
  have hl := loOf_range v
  have HV := Lib.hid hv
  clear hv
  have HA := Lib.hid (show (((w.alloc (.cells #[.int .i64 (hiOf v), .int .u64 (loOf v)] 24)).alloc (.cells (arr fun _ => 0) 30)).alloc (.cells (arr fun _ => 0) 30)).heap[w.heap.size]? = some (.cells #[.int .i64 (hiOf v), .int .u64 (loOf v)] 24 (0, 0)) from by rw [heap_alloc_old _ _ (by simp; omega), heap_alloc_old _ _ (by simp)]; exact heap_alloc_new w _)
  have HR := Lib.hid ((At.new (w.alloc (.cells #[.int .i64 (hiOf v), .int .u64 (loOf v)] 24)) (fun _ => 0) (k := w.heap.size + 1) (by simp)).alloc (.cells (arr fun _ => 0) 30))
  have HO := Lib.hid (At.new ((w.alloc (.cells #[.int .i64 (hiOf v), .int .u64 (loOf v)] 24)).alloc (.cells (arr fun _ => 0) 30)) (fun _ => 0) (k := w.heap.size + 1 + 1) (by simp))
  have H0 := Lib.hid (below_three w (.cells #[.int .i64 (hiOf v), .int .u64 (loOf v)] 24) (.cells (arr fun _ => 0) 30) (.cells (arr fun _ => 0) 30))
  go_enter Try.func16, Try.ntmps16
  go_wp2
  clear hz
  generalize (((w.alloc (.cells #[.int .i64 (hiOf v), .int .u64 (loOf v)] 24)).alloc (.cells (arr fun _ => 0) 30)).alloc (.cells (arr fun _ => 0) 30)) = w0 at *
  go_loopw [4] (fun i wr => ∃ k : Nat, k ≤ 4 ∧ i = .int .i64 k ∧ wr.heap[w.heap.size]? = some (.cells #[.int .i64 (hiOf v), .int .u64 (loOf v)] 24 (0, 0)) ∧ At wr (w.heap.size + 1) (fun _ => 0) ∧ At wr (w.heap.size + 1 + 1) (ofF v k) ∧ Below w.heap.size w wr) (fun i _ => 4 - (intOf i).toNat)
  case atStart => exact ⟨0, by omega, rfl, HA.out, HR.out, HO.out.congr fun i _ => ofF_zero _ i, H0.out⟩
  case round =>
    clear HR HO H0 HA
    obtain ⟨k, hk, rfl, hA, hR, hO, hb⟩ := hrel
    have HA := Lib.hid hA; have HR := Lib.hid hR; have HO := Lib.hid hO; have H0 := Lib.hid hb
    clear hA hR hO hb
    have c0 : wr.cell? ⟨w.heap.size, 0, none⟩ = some (.int .i64 (hiOf v)) := (cell_of_row _ _ _ _ _ _ HA.out).trans rfl
    have c1 : wr.cell? ⟨w.heap.size, 1, none⟩ = some (.int .u64 (loOf v)) := (cell_of_row _ _ _ _ _ _ HA.out).trans rfl
    by_cases hlt : k < 4
    · have co := HO.out.cell (show k < 10 by omega)
      have fo := HO.out.frozen k
      have co4 := HO.out.cell (show k + 4 < 10 by omega)
      have fo4 := HO.out.frozen (k + 4)
      have i0 : (0 : Int) ≤ (k : Int) := by omega
      have i1 : (k : Int) < 10 := by omega
      have i2 : (k : Int) + 4 < 10 := by omega
      have hB : w.heap.size ≤ w.heap.size + 1 + 1 := by omega
      have S1 := Lib.hid (shr_lo v k hlt)
      have S2 := Lib.hid (shr_hi v k hlt)
      have S3 := Lib.hid (shr_hi' v k hlt)
      have HL := Lib.hid hl
      by_cases hn : hiOf v < 0
      · go_wp2
        go_roundw
        case rel =>
          refine ⟨k + 1, by omega, by go_num, ?_, ((HR.out.other (by omega) _ _).other (by omega) _ _), (((HO.out.set _ _).set _ _)).congr fun i _ => ofF_succ v k _ _ hlt S1.out S2.out i, ((H0.out.setCell hB _).setCell hB _)⟩
          rw [heap_setCell_other _ _ _ _ (by simp; omega), heap_setCell_other _ _ _ _ (by simp; omega)]; exact HA.out
        case measure => simp [intOf]; omega
      · go_wp2
        go_roundw
        case rel =>
          refine ⟨k + 1, by omega, by go_num, ?_, ((HR.out.other (by omega) _ _).other (by omega) _ _), (((HO.out.set _ _).set _ _)).congr fun i _ => ofF_succ v k _ _ hlt S1.out (S3.out (by omega) (by omega)) i, ((H0.out.setCell hB _).setCell hB _)⟩
          rw [heap_setCell_other _ _ _ _ (by simp; omega), heap_setCell_other _ _ _ _ (by simp; omega)]; exact HA.out
        case measure => simp [intOf]; omega
    · obtain rfl : k = 4 := by omega
      have hB : w.heap.size ≤ w.heap.size + 1 + 1 := by omega
      by_cases hn : hiOf v < 0
      · have co8 := HO.out.cell (show 8 < 10 by omega)
        have fo8 := HO.out.frozen 8
        have co9 := HO.out.cell (show 9 < 10 by omega)
        have fo9 := HO.out.frozen 9
        have HO2 := Lib.hid (((HO.out.set 8 65535).set 9 65535).congr fun i hi => ofF_neg HV.out (by unfold hiOf at hn; omega) i hi)
        go_wp2_with (first | (refine wpList_load_row rfl 30 (.tmp 3) rfl (w.heap.size + 1 + 1) rfl 30 _ _ _ HO2.out Try.underlying30 rfl (by rw [arr_size]; exact info30) ?_) | (refine wpList_store_row rfl 30 (.tmp 2) (.tmp 36) rfl (w.heap.size + 1) (arr (dg v)) rfl rfl 30 _ ((HR.out.other (by omega) _ _).other (by omega) _ _) (by rw [arr_size]; exact info30) (by rw [arr_size, arr_size]) (arr_one _) ?_))
        refine bodyPost_ret (v := .agg (arr (dg v))) (results_cell_row rfl _ _ (w.heap.size + 1) 30 _ _ _ rfl (((HR.out.other (by omega) _ _).other (by omega) _ _).row _) Try.underlying30 rfl (by rw [arr_size]; exact info30)) rfl ⟨rfl, ?_⟩
        exact below_row ((H0.out.setCell hB _).setCell hB _) (by omega) _
      · have HO2 := Lib.hid (HO.out.congr fun i hi => ofF_pos HV.out (by unfold hiOf at hn; omega) i hi)
        go_wp2_with (first | (refine wpList_load_row rfl 30 (.tmp 3) rfl (w.heap.size + 1 + 1) rfl 30 _ _ _ HO2.out Try.underlying30 rfl (by rw [arr_size]; exact info30) ?_) | (refine wpList_store_row rfl 30 (.tmp 2) (.tmp 36) rfl (w.heap.size + 1) (arr (dg v)) rfl rfl 30 _ HR.out (by rw [arr_size]; exact info30) (by rw [arr_size, arr_size]) (arr_one _) ?_))
        refine bodyPost_ret (v := .agg (arr (dg v))) (results_cell_row rfl _ _ (w.heap.size + 1) 30 _ _ _ rfl (HR.out.row _) Try.underlying30 rfl (by rw [arr_size]; exact info30)) rfl ⟨rfl, ?_⟩
        exact below_row H0.out (by omega) _
theorem dg_one (i : Nat) (h : i < 10) : (if i = 0 then 1 else 0) = dg 1 i := by
  unfold dg
  rcases i with _ | i
  · rfl
  · rw [if_neg (by omega), Int.ediv_eq_zero_of_lt (by omega) (by have := pw_mono (show 1 ≤ i + 1 by omega); have h1 : pw 1 = 65536 := rfl; omega)]; rfl
set_option maxRecDepth 100000 in
set_option maxHeartbeats 1000000 in
theorem lminus_any (a : Int) (w : World) :
    Calls Try.prog 17 #[L a] w fun e w' => e = .returned (L (-a)) ∧ Below w.heap.size w w' := by
  have kp := fun w => lplus_any (-1 - a) 1 w
  rw [show -1 - a + 1 = -a by omega] at kp
  unfold L at *
  have KP := Lib.hid kp; clear kp
  have hz := zero30
  have HA := Lib.hid (((At.new w (dg a) rfl).alloc (.cells (arr fun _ => 0) 30)).alloc (.cells (arr fun _ => 0) 30))
  have HR := Lib.hid ((At.new (w.alloc (.cells (arr (dg a)) 30)) (fun _ => 0) (k := w.heap.size + 1) (by simp)).alloc (.cells (arr fun _ => 0) 30))
  have HO := Lib.hid (At.new ((w.alloc (.cells (arr (dg a)) 30)).alloc (.cells (arr fun _ => 0) 30)) (fun _ => 0) (k := w.heap.size + 1 + 1) (by simp))
  have H0 := Lib.hid (below_three w (.cells (arr (dg a)) 30) (.cells (arr fun _ => 0) 30) (.cells (arr fun _ => 0) 30))
  go_enter Try.func17, Try.ntmps17
  go_wp2
  generalize ((w.alloc (.cells (arr (dg a)) 30)).alloc (.cells (arr fun _ => 0) 30)).alloc (.cells (arr fun _ => 0) 30) = w0 at *
  go_loopw [4] (fun i wr => ∃ k : Nat, k ≤ 10 ∧ i = .int .i64 k ∧ At wr w.heap.size (dg a) ∧ At wr (w.heap.size + 1) (fun _ => 0) ∧ At wr (w.heap.size + 1 + 1) (upTo (-1 - a) k) ∧ Below w.heap.size w wr) (fun i _ => 10 - (intOf i).toNat)
  case atStart => exact ⟨0, by omega, rfl, HA.out, HR.out, HO.out.congr fun i _ => upTo_none _ i, H0.out⟩
  case round =>
    clear HR HO H0 HA
    obtain ⟨k, hk, rfl, hA, hR, hO, hb⟩ := hrel
    have HA := Lib.hid hA; have HR := Lib.hid hR; have HO := Lib.hid hO; have H0 := Lib.hid hb
    clear hA hR hO hb
    by_cases hlt : k < 10
    · have ca := HA.out.cell hlt
      have co := HO.out.cell hlt
      have fo := HO.out.frozen k
      have i0 : (0 : Int) ≤ (k : Int) := by omega
      have i1 : (k : Int) < 10 := by omega
      have r1 := dg_range a k
      have S1 := Lib.hid (not_dig a k)
      generalize dg a k = x at *
      go_wp2
      go_roundw
      case rel => exact ⟨k + 1, by omega, by go_num, HA.out.other (by omega) _ _, HR.out.other (by omega) _ _, (HO.out.set _ _).congr fun i _ => upTo_succ _ _ _ S1.out i, H0.out.setCell (by simp; omega) _⟩
      case measure => simp [intOf]; omega
    · obtain rfl : k = 10 := by omega
      have HO2 := Lib.hid (HO.out.congr fun i hi => upTo_all _ i hi)
      have hone : (arr fun _ => 0).setIfInBounds 0 (.int .i64 1) = arr (dg 1) := by rw [arr_set]; exact arr_congr fun i hi => dg_one i hi
      have HN := Lib.hid (At.new wr (fun _ => 0) rfl)
      have cn := HN.out.cell (show 0 < 10 by omega)
      have fn := HN.out.frozen 0
      have HN2 := Lib.hid (At.new wr (dg 1) rfl)
      have HO3 := Lib.hid (HO2.out.alloc (.cells (arr (dg 1)) 30))
      have HR3 := Lib.hid (HR.out.alloc (.cells (arr (dg 1)) 30))
      have H3 := Lib.hid (H0.out.alloc H0.out.size (.cells (arr (dg 1)) 30))
      clear HO HO2 HN
      go_wp2_with (first | (refine wpList_load_row rfl 30 (.tmp 3) rfl (w.heap.size + 1 + 1) rfl 30 _ _ _ HO3.out Try.underlying30 rfl (by rw [arr_size]; exact info30) ?_) | (refine wpList_load_row rfl 30 (.tmp 5) rfl wr.heap.size rfl 30 _ _ _ HN2.out Try.underlying30 rfl (by rw [arr_size]; exact info30) ?_))
      clear cn fn hone hz
      generalize wr.alloc (.cells (arr (dg 1)) 30) = w2 at *
      refine (KP.out _).mono ?_
      rintro e w3 ⟨rfl, hb3⟩
      have HR4 := Lib.hid (HR3.out.below hb3)
      have H4 := Lib.hid (H3.out.trans (hb3.mono H3.out.size))
      clear hb3
      go_wp2_with (refine wpList_store_row rfl 30 (.tmp 2) (.tmp 19) rfl (w.heap.size + 1) (arr (dg (-a))) rfl rfl 30 _ HR4.out (by rw [arr_size]; exact info30) (by rw [arr_size, arr_size]) (arr_one _) ?_)
      refine bodyPost_ret (v := .agg (arr (dg (-a)))) (results_cell_row rfl _ _ (w.heap.size + 1) 30 _ _ _ rfl (HR4.out.row _) Try.underlying30 rfl (by rw [arr_size]; exact info30)) rfl ⟨rfl, ?_⟩
      exact below_row H4.out (by omega) _
/-- Small enough that its highest digit tells its sign. -/
def Mid (a : Int) : Prop := -730750818665451459101842416358141509827966271488 ≤ a ∧ a < 730750818665451459101842416358141509827966271488
theorem pw9 : pw 9 = 22300745198530623141535718272648361505980416 := rfl
theorem dg9 {a : Int} (h : Mid a) : decide (32768 ≤ dg a 9) = decide (a < 0) := by
  congr 1; apply propext
  unfold Mid at h
  unfold dg; rw [pw9]; omega
set_option maxRecDepth 100000 in
theorem lbelow_any (a : Int) (w : World) (h : Mid a) :
    Calls Try.prog 23 #[L a] w fun e w' => e = .returned (.bool (decide (a < 0))) ∧ Below w.heap.size w w' := by
  rw [← dg9 h]
  unfold L
  have HA := At.new w (dg a) rfl
  have c9 := HA.cell (show 9 < 10 by omega)
  clear HA h
  go_enter Try.func23, Try.ntmps23
  go_wp2
  go_ret
  exact ⟨rfl, (Below.refl _ _).alloc (Nat.le_refl _) _⟩
end Go.Proofs.Ytdamilkofdclbaa
