/- Take walked. -/
import Derived.Test.YtnkndpgaoplamaaPut
import Derived.Test.YtnkndpgaoplamaaDec
import Derived.Test.YtnkndpgaoplamaaShelf
namespace Go.Proofs.Ytnkndpgaoplamaa
open Go.RowKit
set_option linter.unusedVariables false

/-- What Take answers. -/
def takeV : Option (Nat × Nat) → Value
  | none => .tuple #[.int .u64 0, .int .i64 0, .int .i64 8]
  | some p => .tuple #[.int .u64 p.1, .int .i64 p.2, .int .i64 0]
theorem and127 {x : Int} (h1 : 0 ≤ x) (h2 : x ≤ 255) : bits BinOp.and IntKind.u8 x 127 = x % 128 := by
  show IntKind.u8.wrap ((BitVec.ofInt 8 x &&& BitVec.ofInt 8 127).toNat : Int) = _
  have e : (BitVec.ofInt 8 127).toNat = 2 ^ 7 - 1 := by decide
  rw [BitVec.toNat_and, e, Nat.and_two_pow_sub_one_eq_mod, BitVec.toNat_ofInt, IntKind.wrap_u8]
  omega
theorem or_nat (X D P n : Nat) (hP : P = 2 ^ n) (hX : X < P) (h : X + P * D < 18446744073709551616) : ((BitVec.ofInt 64 (X : Int) ||| BitVec.ofInt 64 ((P * D : Nat) : Int)).toNat : Int) = X + P * D := by
  have t1 : (BitVec.ofInt 64 (X : Int)).toNat = X := by rw [BitVec.toNat_ofInt]; omega
  have t2 : (BitVec.ofInt 64 ((P * D : Nat) : Int)).toNat = P * D := by rw [BitVec.toNat_ofInt]; omega
  rw [BitVec.toNat_or, t1, t2, hP]
  rw [hP] at hX
  rw [Nat.or_comm, ← Nat.two_pow_add_eq_or_of_lt hX]
  norm_cast
  omega
theorem pow128 (k : Nat) : (128 : Nat) ^ k = 2 ^ (7 * k) := by rw [Nat.pow_mul]
theorem or_shift {acc : Nat} {x : Int} {k : Nat} (hk : k ≤ 9) (hacc : acc < 128 ^ k) (h0 : 0 ≤ x) (h1 : x ≤ 255) (h9 : k = 9 → x % 128 ≤ 1) :
    bits BinOp.or IntKind.u64 (acc : Int) (IntKind.u64.wrap (x % 128 * 2 ^ (7 * k))) = ((acc + 128 ^ k * (x % 128).toNat : Nat) : Int) ∧ acc + 128 ^ k * (x % 128).toNat < 128 ^ (k + 1) ∧ acc + 128 ^ k * (x % 128).toNat < 18446744073709551616 := by
  have hP := pow128 k
  obtain ⟨D, hD⟩ := Int.eq_ofNat_of_zero_le (show 0 ≤ x % 128 by omega)
  have hD2 : D < 128 := by omega
  rw [hD, Int.toNat_natCast]
  have hlt1 : acc + 128 ^ k * D < 128 ^ (k + 1) := by
    have : 128 ^ k * D ≤ 128 ^ k * 127 := Nat.mul_le_mul_left _ (by omega)
    rw [Nat.pow_succ]; omega
  have hlt : acc + 128 ^ k * D < 18446744073709551616 := by
    rcases Nat.lt_or_ge k 9 with h | h
    · have : (128 : Nat) ^ (k + 1) ≤ 128 ^ 9 := Nat.pow_le_pow_right (by omega) (by omega)
      have e : (128 : Nat) ^ 9 = 9223372036854775808 := by decide
      omega
    · have hk9 : k = 9 := by omega
      subst hk9
      have := h9 rfl
      have e : (128 : Nat) ^ 9 = 9223372036854775808 := by decide
      rw [e] at *
      have : D ≤ 1 := by omega
      have : 9223372036854775808 * D ≤ 9223372036854775808 * 1 := Nat.mul_le_mul_left _ this
      omega
  refine ⟨?_, hlt1, hlt⟩
  have hm : (D : Int) * 2 ^ (7 * k) = ((128 ^ k * D : Nat) : Int) := by
    have : ((2 : Int) ^ (7 * k)) = ((128 ^ k : Nat) : Int) := by rw [hP]; norm_cast
    rw [this, Int.mul_comm]; norm_cast
  rw [hm, IntKind.wrap_u64, Int.emod_eq_of_lt (by omega) (by omega)]
  show IntKind.u64.wrap ((BitVec.ofInt 64 (acc : Int) ||| BitVec.ofInt 64 ((128 ^ k * D : Nat) : Int)).toNat : Int) = _
  rw [or_nat acc D (128 ^ k) (7 * k) hP hacc hlt, IntKind.wrap_u64]
  have e3 : (acc : Int) + ((128 ^ k : Nat) : Int) * (D : Int) = ((acc + 128 ^ k * D : Nat) : Int) := by push_cast; rfl
  rw [e3]
  generalize acc + 128 ^ k * D = T at hlt ⊢
  omega
theorem bitLen_low {x : Int} (h1 : 0 ≤ x) (h2 : x ≤ 255) : 0 ≤ (Lib.bitLen (x % 128).toNat : Int) ∧ (Lib.bitLen (x % 128).toNat : Int) ≤ 8 ∧ ((Lib.bitLen (x % 128).toNat : Int) ≤ 1 ↔ x % 128 ≤ 1) := by
  have key : ∀ n : Fin 128, Lib.bitLen n.val ≤ 8 ∧ (Lib.bitLen n.val ≤ 1 ↔ n.val ≤ 1) := by decide +kernel
  have := key ⟨(x % 128).toNat, by omega⟩
  simp only [] at this
  omega
/-- What is still to be read tells what all is. -/
def Pend (xs : List Int) (k acc : Nat) : Prop := (k ≤ 9 ∧ acc < 128 ^ k ∧ dec xs = (decG (xs.drop k) k).map fun p => (acc + 128 ^ k * p.1, p.2 + k)) ∨ (10 ≤ k ∧ dec xs = none)
theorem pend_zero (xs : List Int) : Pend xs 0 0 := by
  refine .inl ⟨by omega, by simp, ?_⟩
  rw [List.drop_zero]
  unfold dec
  cases decG xs 0 <;> simp
theorem pend_end {xs : List Int} {k acc : Nat} (h : Pend xs k acc) (hk : xs.length ≤ k) : dec xs = none := by
  rcases h with ⟨_, _, h⟩ | ⟨_, h⟩
  · rw [h, List.drop_of_length_le hk]; rfl
  · exact h
theorem drop_at {xs : List Int} {k : Nat} {x : Int} (hx : xs[k]? = some x) : xs.drop k = x :: xs.drop (k + 1) := by
  obtain ⟨hk, rfl⟩ := List.getElem?_eq_some_iff.1 hx
  exact List.drop_eq_getElem_cons hk
/-- A byte of 128 or more: go on. -/
theorem pend_more {xs : List Int} {k acc : Nat} {x : Int} (h : Pend xs k acc) (hx : xs[k]? = some x) (hk : k ≤ 9) (hb : 0 ≤ x ∧ x ≤ 255) (h1 : 128 ≤ x) (h9 : k = 9 → x % 128 ≤ 1) : Pend xs (k + 1) (acc + 128 ^ k * (x % 128).toNat) := by
  rcases h with ⟨_, ha, h⟩ | ⟨h, _⟩
  · rw [drop_at hx] at h
    by_cases hk9 : k = 9
    · refine .inr ⟨by omega, ?_⟩
      rw [h]; unfold decG; rw [if_neg (by omega), if_pos (by omega)]; rfl
    · refine .inl ⟨by omega, (or_shift hk ha hb.1 hb.2 h9).2.1, ?_⟩
      rw [h]
      conv => lhs; unfold decG
      rw [if_neg (by omega), if_neg (by omega)]
      cases decG (List.drop (k + 1) xs) (k + 1) with
      | none => rfl
      | some p =>
        simp only [Option.map_some, Option.some.injEq, Prod.mk.injEq]
        refine ⟨?_, by omega⟩
        rw [Nat.pow_succ, Nat.mul_add]
        have : 128 ^ k * (128 * p.1) = 128 ^ k * 128 * p.1 := by rw [Nat.mul_assoc]
        omega
  · omega
/-- A byte below 128: the end. -/
theorem pend_last {xs : List Int} {k acc : Nat} {x : Int} (h : Pend xs k acc) (hx : xs[k]? = some x) (hk : k ≤ 9) (hb : 0 ≤ x ∧ x ≤ 255) (h1 : x < 128) (h9 : k = 9 → x % 128 ≤ 1) (h0 : ¬ (x = 0 ∧ 0 < k)) : dec xs = some (acc + 128 ^ k * (x % 128).toNat, k + 1) := by
  rcases h with ⟨_, ha, h⟩ | ⟨h, _⟩
  · rw [h, drop_at hx]
    unfold decG
    rw [if_pos h1, if_neg (by omega)]
    simp only [Option.map_some, Option.some.injEq, Prod.mk.injEq]
    rw [show x % 128 = x by omega]
    exact ⟨rfl, by omega⟩
  · omega
theorem pend_no {xs : List Int} {k acc : Nat} {x : Int} (h : Pend xs k acc) (hx : xs[k]? = some x) (hb : 0 ≤ x ∧ x ≤ 255) (h0 : (x < 128 ∧ x = 0 ∧ 0 < k) ∨ (k = 9 ∧ ¬ x % 128 ≤ 1) ∨ 10 ≤ k) : dec xs = none := by
  rcases h with ⟨hk, ha, h⟩ | ⟨_, h⟩
  · rw [h, drop_at hx]
    unfold decG
    split
    · rw [if_pos (by omega)]; rfl
    · rw [if_pos (by omega)]; rfl
  · exact h
set_option maxRecDepth 100000 in
set_option maxHeartbeats 2000000 in
theorem take_any (xs : List Int) (a : Option Addr) (n c : Nat) (w : World) (hr : Row w a n (xs.map bv)) (hb : Bytes xs) (hn : n ≤ 1048576) :
    Calls Try.prog 18 #[.slice a n c] w fun e w' => e = .returned (takeV (dec xs)) ∧ w = w' := by
  have HL := Lib.hid (show xs.length = n from by simpa using hr.1)
  have HR := Lib.hid hr; clear hr
  have HB := Lib.hid hb; clear hb
  go_enter Try.func18, Try.ntmps18
  go_wp2
  go_loop [5, 11] (fun u i => ∃ (k acc : Nat), k ≤ n ∧ i = .int .i64 k ∧ u = .int .u64 acc ∧ acc < 18446744073709551616 ∧ Pend xs k acc) (fun _ i => n - (intOf i).toNat)
  case atStart => exact ⟨0, 0, by omega, rfl, rfl, by omega, pend_zero xs⟩
  case round =>
    obtain ⟨k, acc, hk, rfl, rfl, hacc, hp⟩ := hrel
    have HP := Lib.hid hp; clear hp
    by_cases hlt : k < n
    · obtain ⟨x, hx⟩ : ∃ x, xs[k]? = some x := ⟨xs[k]'(by rw [HL.out]; exact hlt), by rw [List.getElem?_eq_getElem]⟩
      obtain ⟨b, o, rfl, hc0, _⟩ := HR.out.2 k (bv x) (by simp [hx])
      have hc : w.cell? ⟨b, o + k, none⟩ = some (.int .u8 x) := hc0
      clear hc0
      have hxb := HB.out x (List.mem_of_getElem? hx)
      have HX := Lib.hid hx; clear hx
      have ha := and127 hxb.1 hxb.2
      have HBL := Lib.hid (bitLen_low hxb.1 hxb.2)
      obtain ⟨b0, b8, b1⟩ := HBL.out
      have B1 := Lib.hid b1; clear b1
      have kl := fun w => Try.bits_Len64 (x % 128) w (by omega) (by omega)
      have KL := Lib.hid kl; clear kl
      clear HBL
      generalize (Lib.bitLen (x % 128).toNat : Int) = L at *
      have hL : (k ≤ 8) ∨ (k = 9 ∧ L ≤ 1) ∨ (k = 9 ∧ 2 ≤ L) ∨ 10 ≤ k := by omega
      by_cases hbad : (k = 9 ∧ ¬ L ≤ 1) ∨ 10 ≤ k
      · have hbig : (64 : Int) < L + 7 * (k : Int) := by omega
        have hno : dec xs = none := pend_no HP.out HX.out hxb (.inr (hbad.imp (fun h => ⟨h.1, fun h2 => h.2 (B1.out.2 h2)⟩) id))
        have HN := Lib.hid hno
        have hk7 : 7 * (k : Int) ≤ 7 * 1048576 := by omega
        clear hL hbad hno
        go_wp2_with (go_at_call 25; refine (KL.out _).mono ?_; rintro e w' ⟨rfl, rfl⟩)
        go_ret3
        exact ⟨by rw [HN.out]; rfl, rfl⟩
      · have hk9 : k ≤ 9 := by omega
        have h9 : k = 9 → x % 128 ≤ 1 := fun h => B1.out.1 (by omega)
        have hsm : L + 7 * (k : Int) ≤ 64 := by omega
        have hacc2 : acc < 128 ^ k := by
          rcases HP.out with ⟨_, h, _⟩ | ⟨h, _⟩
          · exact h
          · omega
        obtain ⟨o1, o2, o3⟩ := or_shift hk9 hacc2 hxb.1 hxb.2 h9
        have O1 := Lib.hid o1
        have H9 := Lib.hid h9
        have hac : (acc : Int) ≤ 18446744073709551615 := by omega
        generalize hT : acc + 128 ^ k * (x % 128).toNat = T at *
        have HT := Lib.hid hT
        have HO3 := Lib.hid o3
        clear hL hbad h9 hacc2 o1 o2 hT o3
        by_cases hge : 128 ≤ x
        · have PM := Lib.hid (pend_more HP.out HX.out hk9 hxb hge H9.out)
          rw [HT.out] at PM
          go_wp2_with (go_at_call 25; refine (KL.out _).mono ?_; rintro e w' ⟨rfl, rfl⟩)
          go_round
          case rel => exact ⟨k + 1, T, by omega, by go_num, by rw [O1.out], HO3.out, PM.out⟩
          case measure => simp [intOf]; omega
        · by_cases h00 : x = 0 ∧ 0 < k
          · have HN := Lib.hid (pend_no HP.out HX.out hxb (.inl ⟨by omega, h00.1, h00.2⟩))
            have e1 : (x == 0) = true := by simpa using h00.1
            have e2 : (0 : Int) < (k : Int) := by omega
            have hlt2 : x < 128 := by omega
            clear h00 hge
            go_wp2_with (go_at_call 25; refine (KL.out _).mono ?_; rintro e w' ⟨rfl, rfl⟩)
            go_ret3
            exact ⟨by rw [HN.out]; rfl, rfl⟩
          · have PL := Lib.hid (pend_last HP.out HX.out hk9 hxb (by omega) H9.out h00)
            rw [HT.out] at PL
            have hlt2 : x < 128 := by omega
            rcases (show (x == 0) = false ∨ ((x == 0) = true ∧ ¬ (0 : Int) < (k : Int)) from by
              by_cases h : x = 0
              · exact .inr ⟨by simpa using h, by omega⟩
              · exact .inl (by simpa using h)) with e1 | ⟨e1, e2⟩
            all_goals clear h00 hge
            all_goals go_wp2_with (go_at_call 25; refine (KL.out _).mono ?_; rintro e w' ⟨rfl, rfl⟩)
            all_goals go_ret3
            all_goals refine ⟨?_, rfl⟩
            all_goals rw [PL.out]
            all_goals show Ending.returned (Value.tuple #[.int .u64 (bits BinOp.or IntKind.u64 (acc : Int) (IntKind.u64.wrap (x % 128 * 2 ^ (7 * k)))), .int .i64 ((k : Int) + 1), .int .i64 0]) = _
            all_goals rw [O1.out]
            all_goals rfl
    · have HN := Lib.hid (pend_end HP.out (by rw [HL.out]; omega))
      go_wp2
      go_ret3
      exact ⟨by rw [HN.out]; rfl, rfl⟩
end Go.Proofs.Ytnkndpgaoplamaa
