import Derived.Test.YtgbjaglkmjipmaaRows
import Derived.Test.YtgbjaglkmjipmaaPlain
import Derived.Test.YtgbjaglkmjipmaaKit
namespace Go.Proofs.Ytgbjaglkmjipmaa
open Go.RowKit
set_option linter.unusedVariables false

def u32v (r : BitVec 32) : Value := .int .u32 (r.toNat : Int)
def tabCell (k i : Nat) : Value := if i < k then u32v (Crc.tab (BitVec.ofNat 8 i)) else .int .u32 0
def tabArr (k : Nat) : Array Value := ((List.range 256).map (tabCell k)).toArray
theorem tabArr_size (k : Nat) : (tabArr k).size = 256 := by simp [tabArr]
theorem tabArr_get (k i : Nat) (h : i < 256) : (tabArr k)[i]? = some (tabCell k i) := by
  simp [tabArr, h]
theorem tabArr_set (k : Nat) (h : k < 256) : (tabArr k).setIfInBounds k (u32v (Crc.tab (BitVec.ofNat 8 k))) = tabArr (k + 1) := by
  apply Array.ext_getElem?
  intro i
  by_cases hi : i < 256
  · rw [Array.getElem?_setIfInBounds, tabArr_get _ _ hi, tabArr_get _ _ hi, tabArr_size]
    unfold tabCell
    by_cases hk : k = i
    · subst hk; simp [h]
    · simp [hk]
      by_cases h1 : i < k
      · simp [h1, show i < k + 1 by omega]
      · simp [h1, show ¬ i < k + 1 by omega]
  · rw [Array.getElem?_eq_none (by simp [tabArr_size]; omega), Array.getElem?_eq_none (by simp [tabArr_size]; omega)]
theorem zero32 (w : World) : (zeroValue 32).run Try.prog w = .ok (.agg (tabArr 0)) w := by kernel_rfl

def bitN : Nat → BitVec 32 → BitVec 32
  | 0, r => r
  | n + 1, r => Crc.bit (bitN n r)

theorem tabArr_one (k : Nat) : (tabArr k).all (·.oneCell') = true := by
  rw [Array.all_eq_true_iff_forall_mem]
  intro v hv
  simp [tabArr] at hv
  obtain ⟨i, _, rfl⟩ := hv
  unfold tabCell u32v; split <;> rfl
attribute [irreducible] tabArr
theorem bit_num (r : BitVec 32) : bits BinOp.xor IntKind.u32 ((r.toNat : Int) / 2) (3988292384 * bits BinOp.and IntKind.u32 (r.toNat : Int) 1 % 4294967296) = ((Crc.bit r).toNat : Int) := by
  have hr := r.isLt
  have e1 : bits BinOp.and IntKind.u32 (r.toNat : Int) 1 = ((r.toNat % 2 : Nat) : Int) := by
    have := u32_and_nat r.toNat 1 (by omega) (by omega)
    rw [Nat.and_one_is_mod] at this
    exact this
  rw [e1]
  have e2 : (3988292384 * ((r.toNat % 2 : Nat) : Int) % 4294967296) = ((3988292384 * (r.toNat % 2) : Nat) : Int) := by
    rcases Nat.mod_two_eq_zero_or_one r.toNat with h | h <;> rw [h] <;> rfl
  rw [e2]
  have e3 : ((r.toNat : Int) / 2) = ((r.toNat / 2 : Nat) : Int) := by omega
  rw [e3, u32_xor_nat _ _ (by omega) (by rcases Nat.mod_two_eq_zero_or_one r.toNat with h | h <;> rw [h] <;> omega)]
  congr 1
  unfold Crc.bit
  rw [BitVec.toNat_xor, BitVec.toNat_ushiftRight, Nat.shiftRight_eq_div_pow]
  congr 1
  have hb : r.getLsbD 0 = decide (r.toNat % 2 = 1) := by simp [BitVec.getLsbD, Nat.testBit_zero]
  rw [hb]
  rcases Nat.mod_two_eq_zero_or_one r.toNat with h | h <;> simp [h, Crc.poly]
theorem bitN8 (k : Nat) (h : k < 256) : bitN 8 (BitVec.ofNat 32 k) = Crc.tab (BitVec.ofNat 8 k) := by
  have : (BitVec.ofNat 8 k).setWidth 32 = BitVec.ofNat 32 k := by
    apply BitVec.eq_of_toNat_eq
    simp; omega
  unfold Crc.tab; rw [this]; rfl
end Go.Proofs.Ytgbjaglkmjipmaa
