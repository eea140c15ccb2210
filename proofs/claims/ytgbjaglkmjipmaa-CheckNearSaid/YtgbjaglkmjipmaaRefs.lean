import Derived.Test.YtgbjaglkmjipmaaUndo
namespace Go.Proofs.Ytgbjaglkmjipmaa
open Go.RowKit
set_option linter.unusedVariables false

theorem bit_odd {r : BitVec 32} (h : r.toNat % 2 = 1) : bits BinOp.xor IntKind.u32 ((r.toNat : Int) / 2) 3988292384 = ((Crc.bit r).toNat : Int) := by
  have := bit_num r
  have e1 : bits BinOp.and IntKind.u32 (r.toNat : Int) 1 = ((r.toNat % 2 : Nat) : Int) := by
    have hr := r.isLt
    have := u32_and_nat r.toNat 1 (by omega) (by omega)
    rw [Nat.and_one_is_mod] at this
    exact this
  rw [e1, h] at this
  exact this
theorem bit_evn {r : BitVec 32} (h : r.toNat % 2 = 0) : ((r.toNat : Int) / 2) = ((Crc.bit r).toNat : Int) := by
  have hb : r.getLsbD 0 = false := by simp [BitVec.getLsbD, Nat.testBit_zero, h]
  rw [Crc.bit_even r hb, BitVec.toNat_ushiftRight, Nat.shiftRight_eq_div_pow]; omega
theorem not32_num2 (r : BitVec 32) : bits BinOp.xor IntKind.u32 (r.toNat : Int) 4294967295 = ((~~~ r).toNat : Int) := by
  have h := xor32_num r (BitVec.allOnes 32)
  have e : r ^^^ BitVec.allOnes 32 = ~~~ r := by rw [BitVec.xor_allOnes]
  rw [e] at h
  exact h
theorem xorb_num (r : BitVec 32) (x : BitVec 8) : bits BinOp.xor IntKind.u32 (r.toNat : Int) (x.toNat : Int) = ((r ^^^ x.setWidth 32).toNat : Int) := by
  have hx := x.isLt
  have h := xor32_num r (x.setWidth 32)
  have e : ((x.setWidth 32).toNat : Int) = (x.toNat : Int) := by rw [BitVec.toNat_setWidth]; omega
  rwa [e] at h
theorem bitN_8 (r : BitVec 32) : bitN 8 r = Crc.bits8 r := rfl

set_option maxRecDepth 100000 in
set_option maxHeartbeats 1000000 in
theorem refExtend_any (s : BitVec 32) (a : Option Addr) (len cap : Nat) (l : List (BitVec 8)) (w : World) (hl : Bytes w a len l) :
    Calls Try.prog 10 #[.int .u32 (s.toNat : Int), .slice a len cap] w fun e w' => e = .returned (.int .u32 ((Crc.extend s l).toNat : Int)) ∧ w = w' := by
  have hs := s.isLt
  have kn := not32_num2 s
  have hx0 : Crc.ext (~~~ s) (l.take 0) = ~~~ s := rfl
  have HX := Lib.hid hx0; clear hx0
  have hfin : Crc.extend s l = ~~~ Crc.ext (~~~ s) l := rfl
  have HF := Lib.hid hfin; clear hfin
  generalize ~~~ s = ns at *
  obtain ⟨hlen, hmx, hcell⟩ := hl
  have HL := Lib.hid hlen; clear hlen
  have HC := Lib.hid hcell; clear hcell
  go_enter Try.func10, Try.ntmps10
  go_wp2
  clear kn hs
  go_loop [5, 6] (fun r i => ∃ k : Nat, k ≤ len ∧ i = .int .i64 k ∧ r = u32v (Crc.ext ns (l.take k))) (fun _ i => len - (intOf i).toNat)
  case atStart => exact ⟨0, by omega, rfl, by rw [HX.out]; rfl⟩
  case round =>
    obtain ⟨k, hk, rfl, rfl⟩ := hrel
    by_cases hlt : k < len
    · obtain ⟨x, hx⟩ : ∃ x, l[k]? = some x := ⟨l[k]'(by rw [HL.out]; exact hlt), by rw [List.getElem?_eq_getElem]⟩
      obtain ⟨b, o, rfl, hc, hbl⟩ := HC.out k x hx
      have hstep : Crc.ext ns (l.take (k + 1)) = Crc.step (Crc.ext ns (l.take k)) x := by
        rw [List.take_add_one, hx]; simp [Crc.ext]
      rw [Crc.step_eq, ← bitN_8] at hstep
      clear hx
      generalize Crc.ext ns (l.take k) = r at *
      have hxl := x.isLt
      have hr := r.isLt
      have kx := xorb_num r x
      generalize r ^^^ x.setWidth 32 = q at *
      have HS := Lib.hid hstep; clear hstep
      unfold u32v
      go_wp2
      go_loop [5, 7] (fun r j => ∃ i : Nat, i ≤ 8 ∧ j = .int .i64 i ∧ r = u32v (bitN i q)) (fun _ j => 8 - (intOf j).toNat)
      case atStart => exact ⟨0, by omega, rfl, rfl⟩
      case round =>
        obtain ⟨i, hi, rfl, rfl⟩ := hrel
        generalize hR : bitN i q = R at *
        have HR := Lib.hid hR; clear hR
        have hRlt := R.isLt
        unfold u32v
        by_cases hi8 : i < 8
        · rcases Nat.mod_two_eq_zero_or_one R.toNat with h2 | h2
          · have kb := bit_evn h2
            have e2 : ((((R.toNat : Nat) : Int) % 2) == 1) = false := by simp; omega
            have e3 : bitN (i + 1) q = Crc.bit R := by unfold bitN; rw [HR.out]
            generalize Crc.bit R = R' at *
            have E3 := Lib.hid e3; clear e3 h2
            go_wp2
            go_round
            case rel => exact ⟨i + 1, by omega, by go_num, by rw [E3.out]⟩
            case measure => simp [intOf]; omega
          · have kb := bit_odd h2
            have e2 : ((((R.toNat : Nat) : Int) % 2) == 1) = true := by simp; omega
            have e3 : bitN (i + 1) q = Crc.bit R := by unfold bitN; rw [HR.out]
            generalize Crc.bit R = R' at *
            have E3 := Lib.hid e3; clear e3 h2
            go_wp2
            go_round
            case rel => exact ⟨i + 1, by omega, by go_num, by rw [E3.out]⟩
            case measure => simp [intOf]; omega
        · obtain rfl : i = 8 := by omega
          go_wp2
          go_round
          case rel => exact ⟨k + 1, by omega, by go_num, by rw [HS.out, HR.out]⟩
          case measure => simp [intOf]; omega
    · obtain rfl : k = len := by omega
      have hr : Crc.ext ns (l.take k) = Crc.ext ns l := by rw [List.take_of_length_le (by rw [HL.out]; exact Nat.le_refl _)]
      have hf2 := HF.out
      rw [← hr] at hf2
      clear hr
      generalize Crc.ext ns (l.take k) = r at *
      have kn := not32_num2 r
      have HF2 := Lib.hid hf2; clear hf2 HF
      generalize ~~~ r = q at *
      unfold u32v
      go_wp2
      go_ret
      exact ⟨by rw [HF2.out]; rfl, rfl⟩

def unbitN : Nat → BitVec 32 → BitVec 32
  | 0, r => r
  | n + 1, r => Crc.unbit (unbitN n r)
theorem unbitN_8 (r : BitVec 32) : unbitN 8 r = Crc.unbits8 r := rfl
theorem unbit_hi {r : BitVec 32} (h : 2147483648 ≤ r.toNat) : bits BinOp.xor IntKind.u32 (r.toNat : Int) 3988292384 * (2 : Int) % (4294967296 : Int) = ((Crc.unbit r).toNat : Int) - 1 := by
  have hm : r.msb = true := by rw [BitVec.msb_eq_decide]; simp; omega
  have hx := xor32_num r Crc.poly
  have e : (Crc.poly.toNat : Int) = 3988292384 := by decide
  rw [e] at hx
  rw [hx]
  unfold Crc.unbit
  rw [hm]
  simp only [if_true]
  have hq : (r ^^^ Crc.poly).msb = false := by rw [BitVec.msb_xor, hm]; decide
  generalize r ^^^ Crc.poly = q at *
  have hq2 : q.toNat < 2147483648 := by rw [BitVec.msb_eq_decide] at hq; simpa using hq
  have e2 : ((q <<< 1) ||| 1#32).toNat = q.toNat * 2 + 1 := by
    rw [BitVec.toNat_or, BitVec.toNat_shiftLeft, Nat.shiftLeft_eq]
    have h1 : q.toNat * 2 ^ 1 % 2 ^ 32 = 2 ^ 1 * q.toNat := by omega
    rw [h1]
    have h2 : (1#32).toNat = 1 := rfl
    rw [h2, ← Nat.two_pow_add_eq_or_of_lt (by omega) q.toNat]
    omega
  rw [e2]
  omega
theorem unbit_hi' {r : BitVec 32} (h : 2147483648 ≤ r.toNat) : (bits BinOp.xor IntKind.u32 (r.toNat : Int) 3988292384 * (2 : Int) % (4294967296 : Int) + 1) = ((Crc.unbit r).toNat : Int) := by
  rw [unbit_hi h]
  have := (Crc.unbit r).isLt
  omega
theorem unbit_lo {r : BitVec 32} (h : r.toNat < 2147483648) : (r.toNat : Int) * (2 : Int) % (4294967296 : Int) = ((Crc.unbit r).toNat : Int) := by
  have hm : r.msb = false := by rw [BitVec.msb_eq_decide]; simp; omega
  unfold Crc.unbit
  rw [hm]
  simp only [Bool.false_eq_true, if_false]
  rw [BitVec.toNat_shiftLeft, Nat.shiftLeft_eq]
  omega

set_option maxRecDepth 100000 in
set_option maxHeartbeats 1000000 in
theorem refUndo_any (s : BitVec 32) (a : Option Addr) (len cap : Nat) (l : List (BitVec 8)) (w : World) (hl : Bytes w a len l) :
    Calls Try.prog 13 #[.int .u32 (s.toNat : Int), .slice a len cap] w fun e w' => e = .returned (.int .u32 ((Crc.undo s l).toNat : Int)) ∧ w = w' := by
  have hs := s.isLt
  have kn := not32_num2 s
  have hfin : Crc.undo s l = ~~~ Crc.back (~~~ s) l := rfl
  have HF := Lib.hid hfin; clear hfin
  generalize ~~~ s = ns at *
  obtain ⟨hlen, hmx, hcell⟩ := hl
  have HL := Lib.hid hlen; clear hlen
  have HC := Lib.hid hcell; clear hcell
  go_enter Try.func13, Try.ntmps13
  go_wp2
  clear kn hs
  go_loop [5, 6] (fun r i => ∃ k : Nat, k ≤ len ∧ i = .int .i64 ((k : Int) - 1) ∧ r = u32v (Crc.back ns (l.drop k))) (fun _ i => ((intOf i) + 1).toNat)
  case atStart => exact ⟨len, by omega, by go_num, by rw [List.drop_eq_nil_of_le (by rw [HL.out]; exact Nat.le_refl _)]; rfl⟩
  case round =>
    obtain ⟨k, hk, rfl, rfl⟩ := hrel
    by_cases hpos : 0 < k
    · obtain ⟨j, rfl⟩ : ∃ j, k = j + 1 := ⟨k - 1, by omega⟩
      obtain ⟨x, hx⟩ : ∃ x, l[j]? = some x := ⟨l[j]'(by rw [HL.out]; exact hk), by rw [List.getElem?_eq_getElem]⟩
      obtain ⟨b, o, rfl, hc, hbl⟩ := HC.out j x hx
      have hstep : Crc.back ns (l.drop j) = Crc.und (Crc.back ns (l.drop (j + 1))) x := by
        have hj : j < l.length := by rw [HL.out]; omega
        rw [List.drop_eq_getElem_cons hj]
        rw [List.getElem?_eq_getElem hj] at hx
        simp only [Option.some.injEq] at hx
        rw [hx]; rfl
      rw [Crc.und_eq, ← unbitN_8] at hstep
      clear hx
      generalize Crc.back ns (l.drop (j + 1)) = r at *
      have HS := Lib.hid hstep; clear hstep
      have hxl := x.isLt
      have hr := r.isLt
      have hj0 : (0 : Int) ≤ (j : Int) := by omega
      unfold u32v
      go_wp2
      go_loop [5, 7] (fun r' j' => ∃ i : Nat, i ≤ 8 ∧ j' = .int .i64 i ∧ r' = u32v (unbitN i r)) (fun _ j' => 8 - (intOf j').toNat)
      case atStart => exact ⟨0, by omega, rfl, rfl⟩
      case round =>
        obtain ⟨i, hi, rfl, rfl⟩ := hrel
        generalize hR : unbitN i r = R at *
        have HR := Lib.hid hR; clear hR
        have hRlt := R.isLt
        unfold u32v
        by_cases hi8 : i < 8
        · have e3 : unbitN (i + 1) r = Crc.unbit R := by unfold unbitN; rw [HR.out]
          by_cases h2 : R.toNat < 2147483648
          · have kb := unbit_lo h2
            have hi2 : decide ((2147483648 : Int) ≤ (R.toNat : Int)) = false := by simp; omega
            clear h2
            generalize Crc.unbit R = R' at *
            have E3 := Lib.hid e3; clear e3
            go_wp2
            go_round
            case rel => exact ⟨i + 1, by omega, by go_num, by rw [E3.out, kb]⟩
            case measure => simp [intOf]; omega
          · have kb := unbit_hi' (r := R) (by omega)
            have hi2 : (2147483648 : Int) ≤ (R.toNat : Int) := by omega
            clear h2
            generalize Crc.unbit R = R' at *
            have E3 := Lib.hid e3; clear e3
            go_wp2
            go_round
            case rel => exact ⟨i + 1, by omega, by go_num, by rw [E3.out]⟩
            case measure => simp [intOf]; omega
        · obtain rfl : i = 8 := by omega
          have kx := xorb_num R x
          have hs2 := HS.out
          rw [HR.out] at hs2
          generalize R ^^^ x.setWidth 32 = q at *
          have HS2 := Lib.hid hs2; clear hs2 HS
          go_wp2
          go_round
          case rel => exact ⟨j, by omega, by go_num, by rw [HS2.out]⟩
          case measure => first | (simp [intOf]; omega) | simp [intOf]
    · obtain rfl : k = 0 := by omega
      have hl0 : Crc.back ns (l.drop 0) = Crc.back ns l := rfl
      have hf2 := HF.out
      rw [hl0]
      generalize Crc.back ns l = r at *
      have kn := not32_num2 r
      have HF2 := Lib.hid hf2; clear hf2 HF hl0
      generalize ~~~ r = q at *
      unfold u32v
      have hneg : ¬ (0 : Int) ≤ -1 := by omega
      go_wp2
      go_ret
      exact ⟨by rw [HF2.out]; rfl, rfl⟩
end Go.Proofs.Ytgbjaglkmjipmaa
