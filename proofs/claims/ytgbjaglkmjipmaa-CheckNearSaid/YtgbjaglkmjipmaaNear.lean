import Derived.Test.YtgbjaglkmjipmaaLaws1

/-! CheckNear: four places xored in -/
namespace Go.Proofs.Ytgbjaglkmjipmaa
open Go.RowKit
def byteOf (j : Nat) (x : BitVec 32) : BitVec 8 := (x >>> (8 * j)).setWidth 8
/-- The row after j rounds. -/
def xorTo (L : List (BitVec 8)) (k : Nat) (x : BitVec 32) : Nat → List (BitVec 8)
  | 0 => L
  | j + 1 => (xorTo L k x j).set (k + j) ((xorTo L k x j).getD (k + j) 0#8 ^^^ byteOf j x)
theorem xorTo_length (L : List (BitVec 8)) (k : Nat) (x : BitVec 32) (j : Nat) : (xorTo L k x j).length = L.length := by
  induction j with
  | zero => rfl
  | succ j ih => simp [xorTo, ih]
theorem split4 (L : List (BitVec 8)) (k : Nat) (h : k + 4 ≤ L.length) : ∃ p m0 m1 m2 m3 q, L = p ++ ([m0, m1, m2, m3] ++ q) ∧ p.length = k := by
  have h0 : k < L.length := by omega
  have h1 : k + 1 < L.length := by omega
  have h2 : k + 2 < L.length := by omega
  have h3 : k + 3 < L.length := by omega
  refine ⟨L.take k, L[k], L[k + 1], L[k + 2], L[k + 3], L.drop (k + 4), ?_, by rw [List.length_take]; omega⟩
  have e0 := List.drop_eq_getElem_cons h0
  have e1 := List.drop_eq_getElem_cons h1
  have e2 := List.drop_eq_getElem_cons h2
  have e3 := List.drop_eq_getElem_cons h3
  calc L = L.take k ++ L.drop k := (List.take_append_drop k L).symm
    _ = _ := by rw [e0, e1, e2, e3]; rfl
theorem xorTo_four (p : List (BitVec 8)) (m0 m1 m2 m3 : BitVec 8) (q : List (BitVec 8)) (x : BitVec 32) :
    xorTo (p ++ ([m0, m1, m2, m3] ++ q)) p.length x 4 = p ++ List.zipWith (· ^^^ ·) [m0, m1, m2, m3] (Crc.four x) ++ q := by
  simp [xorTo, Crc.four, byteOf, List.getD]
theorem near_sum (L : List (BitVec 8)) (k : Nat) (x : BitVec 32) (h : k + 4 ≤ L.length) (he : Crc.extend 0#32 (xorTo L k x 4) = Crc.extend 0#32 L) : x = 0#32 := by
  obtain ⟨p, m0, m1, m2, m3, q, rfl, rfl⟩ := split4 L k h
  rw [xorTo_four] at he
  refine Crc.near p [m0, m1, m2, m3] q x rfl (he.trans ?_)
  rw [List.append_assoc]
theorem xorTo_zero (L : List (BitVec 8)) (k : Nat) (j : Nat) (h : k + j ≤ L.length) : xorTo L k 0#32 j = L := by
  induction j with
  | zero => rfl
  | succ j ih =>
    have hb : byteOf j 0#32 = 0#8 := by simp [byteOf]
    rw [xorTo, ih (by omega), hb, BitVec.xor_zero]
    have hj : k + j < L.length := by omega
    simp [List.getD, hj]
theorem near_eq (L : List (BitVec 8)) (k : Nat) (x : BitVec 32) (h : k + 4 ≤ L.length) :
    ((((Crc.extend 0#32 (xorTo L k x 4)).toNat : Int) == ((Crc.extend 0#32 L).toNat : Int)) == ((x.toNat : Int) == 0)) = true := by
  by_cases hx : x = 0#32
  · subst hx
    rw [xorTo_zero L k 4 h]
    simp
  · have h1 : ¬ Crc.extend 0#32 (xorTo L k x 4) = Crc.extend 0#32 L := fun e => hx (near_sum L k x h e)
    have h2 : ¬ x.toNat = 0 := fun e => hx (BitVec.eq_of_toNat_eq (by simpa using e))
    have h3 : ¬ (Crc.extend 0#32 (xorTo L k x 4)).toNat = (Crc.extend 0#32 L).toNat := fun e => h1 (BitVec.eq_of_toNat_eq e)
    have e1 : (((Crc.extend 0#32 (xorTo L k x 4)).toNat : Int) == ((Crc.extend 0#32 L).toNat : Int)) = false := by
      rw [beq_eq_false_iff_ne]; omega
    have e2 : ((x.toNat : Int) == 0) = false := by rw [beq_eq_false_iff_ne]; omega
    rw [e1, e2]; rfl
theorem byte_num (j : Nat) (x : BitVec 32) : (x.toNat : Int) / (2 : Int) ^ (8 * j) % (256 : Int) = ((byteOf j x).toNat : Int) := by
  unfold byteOf
  rw [BitVec.toNat_setWidth, BitVec.toNat_ushiftRight, Nat.shiftRight_eq_div_pow]
  rw [Int.natCast_emod, Int.natCast_ediv, Int.natCast_pow]
  rfl
theorem xor88_num (a b : BitVec 8) : bits BinOp.xor IntKind.u8 (a.toNat : Int) (b.toNat : Int) = ((a ^^^ b).toNat : Int) := by
  rw [u8_xor_nat _ _ a.isLt b.isLt, BitVec.toNat_xor]
end Go.Proofs.Ytgbjaglkmjipmaa
