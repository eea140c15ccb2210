import Derived.Test.YtgbjaglkmjipmaaParts
namespace Go.Proofs.Ytgbjaglkmjipmaa
open Go.RowKit
set_option linter.unusedVariables false
theorem info32 : (Try.prog.info? 32).map (·.size) = some 256 := by kernel_rfl

set_option maxRecDepth 100000 in
set_option maxHeartbeats 400000 in
theorem steps_any (w : World) : Calls Try.prog 14 #[] w fun e w' => e = .returned (.agg (tabArr 256)) ∧ Below w.heap.size w w' := by
  have hz := zero32
  go_enter Try.func14, Try.ntmps14
  go_wp2
  have hB := heap_alloc_new w (.cells (tabArr 0) 32)
  have hb0 : Below w.heap.size w (w.alloc (.cells (tabArr 0) 32)) := (Below.refl _ _).alloc (Nat.le_refl _) _
  clear hz
  generalize w.alloc (.cells (tabArr 0) 32) = w0 at *
  go_loopw [3] (fun n wr => ∃ k : Nat, k ≤ 256 ∧ n = .int .i64 k ∧ wr.heap[w.heap.size]? = some (.cells (tabArr k) 32 (0, 0)) ∧ Below w.heap.size w wr) (fun n _ => 256 - (intOf n).toNat)
  case atStart => exact ⟨0, by omega, rfl, hB, hb0⟩
  case round =>
    obtain ⟨k, hk, rfl, hB', hb'⟩ := hrel
    clear hB hb0
    generalize hBe : w.heap.size = B at *
    have HBe := Lib.hid hBe; clear hBe
    have HB := Lib.hid hB'; clear hB'
    by_cases hlt : k < 256
    · go_wp2
      go_loop [2, 8] (fun r j => ∃ i : Nat, i ≤ 8 ∧ j = .int .i64 i ∧ r = u32v (bitN i (BitVec.ofNat 32 k))) (fun _ j => 8 - (intOf j).toNat)
      case atStart => exact ⟨0, by omega, rfl, by simp [bitN, u32v]; omega⟩
      case round =>
        obtain ⟨i, hi, rfl, hr⟩ := hrel
        generalize hR : bitN i (BitVec.ofNat 32 k) = R at hr
        have HR := Lib.hid hR; clear hR
        subst hr
        have hRlt := R.isLt
        unfold u32v
        by_cases hi8 : i < 8
        · go_wp2
          go_round
          case rel => exact ⟨i + 1, by omega, by go_num, by rw [bit_num]; unfold bitN; rw [HR.out]⟩
          case measure => simp [intOf]; omega
        · have hc : wr.cell? ⟨B, k, none⟩ = some (tabCell k k) := by rw [cell_of_row _ _ _ _ _ _ HB.out, tabArr_get _ _ hlt]
          have hf : wr.frozen? ⟨B, k, none⟩ = false := frozen_of_row _ _ _ _ _ HB.out
          go_wp2
          go_roundw
          case rel =>
            refine ⟨k + 1, by omega, by go_num, ?_, hb'.setCell (Nat.le_refl _) _⟩
            rw [heap_setCell_same _ _ _ _ _ _ HB.out]
            have := tabArr_set k hlt
            rw [← bitN8 k hlt] at this
            have e : i = 8 := by omega
            subst e
            rw [HR.out] at this
            rw [← this]; rfl
          case measure => simp [intOf]; omega
    · obtain rfl : k = 256 := by omega
      go_wp2_with (first | (refine wpList_load_row rfl 32 (.tmp 0) rfl B rfl 32 _ _ _ HB.out Try.underlying32 rfl (by rw [tabArr_size]; exact info32) ?_) | (refine wpList_store_row rfl 32 (.tmp 0) (.tmp 21) rfl B (tabArr 256) rfl rfl 32 _ HB.out (by rw [tabArr_size]; exact info32) rfl (tabArr_one 256) ?_; rw [setRow_self _ _ _ _ _ HB.out]))
      refine bodyPost_ret (v := .agg (tabArr 256)) (results_cell_row rfl _ _ B 32 _ _ _ rfl HB.out Try.underlying32 rfl (by rw [tabArr_size]; exact info32)) rfl ⟨rfl, by rw [HBe.out]; exact hb'⟩
end Go.Proofs.Ytgbjaglkmjipmaa
