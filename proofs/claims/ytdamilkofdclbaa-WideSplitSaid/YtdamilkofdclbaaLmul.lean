/- Mul of the reference. -/
import Derived.Test.YtdamilkofdclbaaArr
namespace Go.Proofs.Ytdamilkofdclbaa
open Go.RowKit
set_option linter.unusedVariables false

def mulF (a b : Int) (i k : Nat) : Nat → Int := fun j => if j < i + k then dg (Qk a b i k) j else dg (lw a i * b) j
theorem mulF_zero (a b : Int) (i j : Nat) : dg (lw a i * b) j = mulF a b i 0 j := by unfold mulF; rw [Qk_zero]; split <;> rfl
theorem mulF_here (a b : Int) (i k : Nat) : mulF a b i k (i + k) = dg (lw a i * b) (i + k) := by unfold mulF; rw [if_neg (by omega)]
theorem mulF_succ (a b : Int) (i k : Nat) (x : Int) (h : x = dg (Qk a b i (k + 1)) (i + k)) (j : Nat) : (if j = i + k then x else mulF a b i k j) = mulF a b i (k + 1) j := by
  subst h
  unfold mulF
  by_cases e1 : j = i + k
  · rw [if_pos e1, if_pos (by omega), e1]
  · rw [if_neg e1]
    by_cases e2 : j < i + k
    · rw [if_pos e2, if_pos (by omega), Qk_low _ _ _ _ _ e2]
    · rw [if_neg e2, if_neg (by omega)]
theorem mulF_all (a b : Int) (i k : Nat) (h : i + k = 10) (j : Nat) (hj : j < 10) : mulF a b i k j = dg (lw a (i + 1) * b) j := by
  unfold mulF; rw [if_pos (by omega), dg_whole _ _ _ _ _ (by omega)]
theorem lw_none (a b : Int) (j : Nat) : (0 : Int) = dg (lw a 0 * b) j := by rw [lw_zero, Int.zero_mul]; unfold dg; rw [Int.zero_ediv]; rfl
theorem prod_range {x y : Int} (hx : 0 ≤ x ∧ x ≤ 65535) (hy : 0 ≤ y ∧ y ≤ 65535) : 0 ≤ x * y ∧ x * y ≤ 4294836225 :=
  ⟨Int.mul_nonneg hx.1 hy.1, by have := Int.mul_le_mul hx.2 hy.2 hy.1 (by omega : (0 : Int) ≤ 65535); omega⟩

set_option maxRecDepth 100000 in
set_option maxHeartbeats 1000000 in
theorem lmul_any (a b : Int) (w : World) :
    Calls Try.prog 19 #[L a, L b] w fun e w' => e = .returned (L (a * b)) ∧ Below w.heap.size w w' := by
  unfold L
  have hz := zero30
  have HA := Lib.hid (((((At.new w (dg a) rfl).alloc (.cells (arr (dg b)) 30)).alloc (.cells (arr fun _ => 0) 30)).alloc (.cells (arr fun _ => 0) 30)))
  have HB := Lib.hid ((((At.new (w.alloc (.cells (arr (dg a)) 30)) (dg b) (k := w.heap.size + 1) (by simp)).alloc (.cells (arr fun _ => 0) 30)).alloc (.cells (arr fun _ => 0) 30)))
  have HR := Lib.hid (((At.new ((w.alloc (.cells (arr (dg a)) 30)).alloc (.cells (arr (dg b)) 30)) (fun _ => 0) (k := w.heap.size + 1 + 1) (by simp)).alloc (.cells (arr fun _ => 0) 30)))
  have HO := Lib.hid ((At.new (((w.alloc (.cells (arr (dg a)) 30)).alloc (.cells (arr (dg b)) 30)).alloc (.cells (arr fun _ => 0) 30)) (fun _ => 0) (k := w.heap.size + 1 + 1 + 1) (by simp)))
  have H0 := Lib.hid (below_four w (.cells (arr (dg a)) 30) (.cells (arr (dg b)) 30) (.cells (arr fun _ => 0) 30) (.cells (arr fun _ => 0) 30))
  go_enter Try.func19, Try.ntmps19
  go_wp2
  clear hz
  generalize (((w.alloc (.cells (arr (dg a)) 30)).alloc (.cells (arr (dg b)) 30)).alloc (.cells (arr fun _ => 0) 30)).alloc (.cells (arr fun _ => 0) 30) = w0 at *
  go_loopw [6] (fun i wr => ∃ k : Nat, k ≤ 10 ∧ i = .int .i64 k ∧ At wr w.heap.size (dg a) ∧ At wr (w.heap.size + 1) (dg b) ∧ At wr (w.heap.size + 1 + 1) (fun _ => 0) ∧ At wr (w.heap.size + 1 + 1 + 1) (dg (lw a k * b)) ∧ Below w.heap.size w wr) (fun i _ => 10 - (intOf i).toNat)
  case atStart => exact ⟨0, by omega, rfl, HA.out, HB.out, HR.out, HO.out.congr fun i _ => lw_none a b i, H0.out⟩
  case round =>
    clear HA HB HR HO H0
    obtain ⟨i, hi, rfl, hA, hB, hR, hO, hb⟩ := hrel
    have HA := Lib.hid hA; have HB := Lib.hid hB; have HR := Lib.hid hR; have HO := Lib.hid hO; have H0 := Lib.hid hb
    clear hA hB hR hO hb
    obtain ⟨wo, rfl⟩ : ∃ wo : World, wo = wr := ⟨_, rfl⟩
    by_cases hlt : i < 10
    · have hi0 : (0 : Int) ≤ (i : Int) := by omega
      have hi1 : (i : Int) < 10 := by omega
      go_wp2
      go_loopw [7, 8] (fun c q wr => ∃ k : Nat, i + k ≤ 10 ∧ q = .int .i64 k ∧ c = .int .i64 (cm a b i k) ∧ At wr w.heap.size (dg a) ∧ At wr (w.heap.size + 1) (dg b) ∧ At wr (w.heap.size + 1 + 1) (fun _ => 0) ∧ At wr (w.heap.size + 1 + 1 + 1) (mulF a b i k) ∧ Below w.heap.size w wr) (fun _ q _ => 10 - (intOf q).toNat)
      case atStart => exact ⟨0, by omega, rfl, by rw [cm_zero], HA.out, HB.out, HR.out, HO.out.congr fun j _ => mulF_zero a b i j, H0.out⟩
      case round =>
        clear HA HB HR HO H0
        obtain ⟨k, hk, rfl, rfl, hA, hB, hR, hO, hb⟩ := hrel
        have HA := Lib.hid hA; have HB := Lib.hid hB; have HR := Lib.hid hR; have HO := Lib.hid hO; have H0 := Lib.hid hb
        clear hA hB hR hO hb
        by_cases hkt : i + k < 10
        · have ca := HA.out.cell hlt
          have cb := HB.out.cell (show k < 10 by omega)
          have co := HO.out.cell hkt
          rw [mulF_here] at co
          have fo := HO.out.frozen (i + k)
          have S1 := Lib.hid (mul_dig a b i k)
          have S2 := Lib.hid (mul_carry a b i k)
          have r1 := dg_range a i
          have r2 := dg_range b k
          have r4 := dg_range (lw a i * b) (i + k)
          have r3 := cm_range a b i k
          have i0 : (0 : Int) ≤ (k : Int) := by omega
          have i1 : (k : Int) < 10 := by omega
          have i2 : (i : Int) + (k : Int) < 10 := by omega
          have i3 : (0 : Int) ≤ (i : Int) + (k : Int) := by omega
          have hxy := prod_range r1 r2
          generalize dg a i = x at *
          generalize dg b k = y at *
          generalize dg (lw a i * b) (i + k) = z at *
          generalize cm a b i k = c at *
          have e1 : wrap64 (wrap64 (z + wrap64 (x * y)) + c) = z + x * y + c := by
            generalize x * y = p at hxy
            unfold wrap64; omega
          obtain ⟨N, hN⟩ : ∃ N, z + x * y + c = N := ⟨_, rfl⟩
          have hN0 : 0 ≤ N ∧ N ≤ 4295032832 := by
            generalize x * y = p at hxy hN
            omega
          rw [hN] at e1 S1 S2
          have E1 := Lib.hid e1
          clear e1 hN hxy
          go_wp2
          go_quiet (fail)
          rw [E1.out]
          go_wp2
          go_roundw
          case rel =>
            refine ⟨k + 1, by omega, by go_num, by rw [S2.out], ((HA.out.draw _).other (by omega) _ _), ((HB.out.draw _).other (by omega) _ _), ((HR.out.draw _).other (by omega) _ _), ((HO.out.draw _).set _ _).congr fun j _ => mulF_succ _ _ _ _ _ S1.out j, (below_drewN H0.out _).setCell (by simp; omega) _⟩
          case measure => simp [intOf]; omega
        · have hik : i + k = 10 := by omega
          have HO2 := Lib.hid (HO.out.congr fun j hj => mulF_all a b i k hik j hj)
          clear HO
          have hge : (10 : Int) ≤ (i : Int) + (k : Int) := by omega
          go_wp2
          go_roundw
          case rel =>
            exact ⟨i + 1, by omega, by go_num, HA.out, HB.out, HR.out, HO2.out, H0.out⟩
          case measure => simp [intOf]; omega
    · obtain rfl : i = 10 := by omega
      have HO2 := Lib.hid (HO.out.congr fun j hj => dg_lw a b 10 j hj)
      clear HO
      go_wp2_with (first | (refine wpList_load_row rfl 30 (.tmp 5) rfl (w.heap.size + 1 + 1 + 1) rfl 30 _ _ _ HO2.out Try.underlying30 rfl (by rw [arr_size]; exact info30) ?_) | (refine wpList_store_row rfl 30 (.tmp 4) (.tmp 43) rfl (w.heap.size + 1 + 1) (arr (dg (a * b))) rfl rfl 30 _ HR.out (by rw [arr_size]; exact info30) (by rw [arr_size, arr_size]) (arr_one _) ?_))
      refine bodyPost_ret (v := .agg (arr (dg (a * b)))) (results_cell_row rfl _ _ (w.heap.size + 1 + 1) 30 _ _ _ rfl (HR.out.row _) Try.underlying30 rfl (by rw [arr_size]; exact info30)) rfl ⟨rfl, ?_⟩
      exact below_row H0.out (by omega) _
end Go.Proofs.Ytdamilkofdclbaa
