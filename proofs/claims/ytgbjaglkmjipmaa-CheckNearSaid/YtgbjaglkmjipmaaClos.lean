import Derived.Test.YtgbjaglkmjipmaaSteps
namespace Go.Proofs.Ytgbjaglkmjipmaa
open Go.RowKit
set_option linter.unusedVariables false

theorem low_num (r : BitVec 32) (x : BitVec 8) : bits BinOp.xor IntKind.u8 ((r.toNat : Int) % 256) (x.toNat : Int) = ((r.setWidth 8 ^^^ x).toNat : Int) := by
  have hx := x.isLt
  have e : ((r.toNat : Int) % 256) = ((r.setWidth 8).toNat : Int) := by simp
  rw [e, u8_xor_nat _ _ (r.setWidth 8).isLt hx, BitVec.toNat_xor]
theorem xor32_num (a b : BitVec 32) : bits BinOp.xor IntKind.u32 (a.toNat : Int) (b.toNat : Int) = ((a ^^^ b).toNat : Int) := by
  rw [u32_xor_nat _ _ a.isLt b.isLt, BitVec.toNat_xor]
theorem shr8_num (r : BitVec 32) : ((r.toNat : Int) / (256 : Int)) = ((r >>> 8).toNat : Int) := by
  rw [BitVec.toNat_ushiftRight, Nat.shiftRight_eq_div_pow]; omega
theorem tab_cell {w : World} {b : Nat} (h : w.heap[b]? = some (.cells (tabArr 256) 32 (0, 0))) (y : BitVec 8) : w.cell? ⟨b, y.toNat, none⟩ = some (.int .u32 ((Crc.tab y).toNat : Int)) := by
  have hy := y.isLt
  rw [cell_of_row _ _ _ _ _ _ h, tabArr_get _ _ hy]
  unfold tabCell
  simp [hy, u32v]

set_option maxRecDepth 100000 in
set_option maxHeartbeats 400000 in
theorem clos_any (x : BitVec 8) (r : BitVec 32) (br bt : Nat) (w : World) (hbr : w.heap[br]? = some (.cells #[u32v r] 22 (0, 0))) (hbt : w.heap[bt]? = some (.cells (tabArr 256) 32 (0, 0))) :
    Calls Try.prog 15 #[.int .u8 (x.toNat : Int), .pointer (some ⟨br, 0, none⟩), .pointer (some ⟨bt, 0, none⟩)] w fun e w' =>
      e = .returned (.tuple #[]) ∧ w'.heap[br]? = some (.cells #[u32v (Crc.step r x)] 22 (0, 0)) ∧ Only br w w' := by
  have hx := x.isLt
  have hr := r.isLt
  have c1 : w.cell? ⟨br, 0, none⟩ = some (.int .u32 (r.toNat : Int)) := cell_of_one hbr
  have f1 := free_of_one hbr
  have HR := Lib.hid hbr; clear hbr
  have k1 := low_num r x
  have k2 := shr8_num r
  have hs : Crc.step r x = (r >>> 8) ^^^ Crc.tab (r.setWidth 8 ^^^ x) := rfl
  have HS := Lib.hid hs; clear hs
  generalize r.setWidth 8 ^^^ x = y at *
  have hy := y.isLt
  have c2 := tab_cell hbt y
  have k3 := xor32_num (r >>> 8) (Crc.tab y)
  generalize Crc.tab y = t at *
  generalize r >>> 8 = q at *
  go_enter Try.func15, Try.ntmps15
  go_wp2
  go_region
  all_goals go_wp2
  all_goals go_end0
  all_goals
    refine ⟨rfl, ?_, (Only.store _ _ _ _).drew⟩
    show (w.setCell ⟨br, 0, none⟩ _).heap[br]? = _
    rw [heap_setCell_same _ _ _ _ _ _ HR.out, HS.out]
    simp [u32v]
end Go.Proofs.Ytgbjaglkmjipmaa
