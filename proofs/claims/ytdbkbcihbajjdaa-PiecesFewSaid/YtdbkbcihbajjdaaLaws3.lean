/- PiecesJoin walked. -/
import Derived.Test.YtdbkbcihbajjdaaLaws2
namespace Go.Proofs.Ytdbkbcihbajjdaa
open Go.RowKit
set_option linter.unusedVariables false

/-- Pieces that follow each other from a to e. -/
def chain : Nat → List (Nat × Nat) → Nat → Prop
  | a, [], e => a = e
  | a, p :: r, e => p.2 * 2 ^ p.1 = a ∧ chain (a + 2 ^ p.1) r e
/-- Is there such a piece? -/
def valid (N : Nat) (p : Nat × Nat) : Prop := p.1 ≤ N ∧ p.2 < 2 ^ (N - p.1)
theorem gr_chain (N a e : Nat) (h : a ≤ e) (hN : e ≤ 2 ^ N) : chain a (gr 0 a e) e ∧ ∀ p ∈ gr 0 a e, valid N p := by
  induction a using gr.induct (e := e) with
  | case1 a h1 ih =>
    rw [gr_step 0 h1, Nat.zero_add]
    obtain ⟨l1, l2⟩ := lv_le h1
    have hk : lv a e ≤ N := by
      have : 2 ^ lv a e ≤ 2 ^ N := by omega
      exact (Nat.pow_le_pow_iff_right (by omega)).1 this
    have hd : a / 2 ^ lv a e * 2 ^ lv a e = a := Nat.div_mul_cancel (Nat.dvd_of_mod_eq_zero l2)
    obtain ⟨i1, i2⟩ := ih l1
    refine ⟨⟨hd, i1⟩, ?_⟩
    intro p hp
    simp only [List.mem_cons] at hp
    rcases hp with rfl | hp
    · refine ⟨hk, ?_⟩
      have h7 : (a / 2 ^ lv a e + 1) * 2 ^ lv a e ≤ 2 ^ (N - lv a e) * 2 ^ lv a e := by
        rw [← Nat.pow_add, show N - lv a e + lv a e = N by omega, Nat.add_mul, hd, Nat.one_mul]
        omega
      exact Nat.le_of_mul_le_mul_right h7 (pow_pos2 _)
    · exact i2 p hp
  | case2 a h1 =>
    rw [gr_stop 0 h1]
    exact ⟨by unfold chain; omega, by simp⟩
theorem valid_is {N : Nat} (h1 : 1 ≤ N) (h2 : N ≤ 59) {p : Nat × Nat} (h : valid N p) : isP N p.1 p.2 = true := by
  obtain ⟨h3, h4⟩ := h
  unfold isP
  have e : ((N : Int) - (p.1 : Int)).toNat = N - p.1 := by omega
  rw [e]
  simp only [Bool.and_eq_true, decide_eq_true_eq]
  exact ⟨⟨⟨⟨by omega, by omega⟩, by omega⟩, by omega⟩, by exact_mod_cast h4⟩
theorem valid_span {N : Nat} (h1 : 1 ≤ N) (h2 : N ≤ 59) {p : Nat × Nat} (h : valid N p) :
    spanV N p.1 p.2 = .tuple #[.int .u64 ((p.2 * 2 ^ p.1 : Nat) : Int), .int .u64 ((p.2 * 2 ^ p.1 + 2 ^ p.1 - 1 : Nat) : Int), .bool true] ∧ p.2 * 2 ^ p.1 + 2 ^ p.1 ≤ 576460752303423488 := by
  have hi := valid_is h1 h2 h
  obtain ⟨N', l, i, e1, e2, e3, _, _, _, _, h5⟩ := isP_nat (by omega) hi
  obtain rfl : p.1 = l := by omega
  obtain rfl : p.2 = i := by omega
  refine ⟨?_, h5⟩
  have hHi : (2 : Int) ^ p.1 = ((2 ^ p.1 : Nat) : Int) := by push_cast; rfl
  have hm : (p.2 : Int) * ((2 ^ p.1 : Nat) : Int) = ((p.2 * 2 ^ p.1 : Nat) : Int) := by push_cast; rfl
  have hp := pow_pos2 p.1
  unfold spanV
  rw [hi, if_pos rfl, show ((p.1 : Nat) : Int).toNat = p.1 by omega, hHi, hm]
  generalize p.2 * 2 ^ p.1 = X at *
  generalize 2 ^ p.1 = H at *
  congr 6
  omega
/-- What 'right' hands on. -/
theorem right_some (b : Int) (x y : Nat) (hx : x < 18446744073709551616) (hy : y < 18446744073709551616) :
    ∃ N lo hi : Nat, 1 ≤ N ∧ N ≤ 59 ∧ lo ≤ hi ∧ hi < 2 ^ N ∧ ∀ w, Calls Try.prog 16 #[.int .i64 b, .int .u64 x, .int .u64 y] w fun e w' => e = .returned (.tuple #[.int .i64 N, .int .u64 lo, .int .u64 hi]) ∧ Below w.heap.size w w' := by
  obtain ⟨h1, h2⟩ := bitsOf_le b
  refine ⟨bitsOf' b, _, _, h1, h2, ?_, ?_, fun w => right_any b x y w hx hy⟩
  · omega
  · have m1 := Nat.mod_lt x (pow_pos2 (bitsOf' b))
    have m2 := Nat.mod_lt y (pow_pos2 (bitsOf' b))
    omega
theorem cover_cv (N lo hi : Nat) (w : World) (h1 : 1 ≤ N) (h2 : N ≤ 59) (h3 : lo ≤ hi) (h4 : hi < 2 ^ N) :
    Calls Try.prog 10 #[.int .i64 N, .int .u64 lo, .int .u64 hi] w (RowB (cv 0 lo hi) (cv 0 lo hi).length true w) := by
  have hok : okC N lo hi = true := by
    unfold okC
    simp only [Bool.and_eq_true, decide_eq_true_eq, Int.toNat_natCast]
    exact ⟨⟨⟨by omega, by omega⟩, h3⟩, h4⟩
  have hb := pow_le59 h2
  have := cover_any N lo hi w (by omega) (by omega)
  unfold Cov at this
  have e2 : covL N lo hi = cv 0 lo hi := by unfold covL; rw [hok]; rfl
  rw [hok, e2] at this
  exact this
set_option maxRecDepth 100000 in
set_option maxHeartbeats 1000000 in
theorem lawJoin (b : Int) (x y : Nat) (w : World) (hx : x < 18446744073709551616) (hy : y < 18446744073709551616) :
    Calls Try.prog 5 #[.int .i64 b, .int .u64 x, .int .u64 y] w fun e w' => e = .returned (.bool true) ∧ Below w.heap.size w w' := by
  obtain ⟨N, lo, hi, h1, h2, h3, h4, KR⟩ := right_some b x y hx hy
  have KR := Lib.hid KR
  have KC := Lib.hid (fun w => cover_cv N lo hi w h1 h2 h3 h4)
  have KS := Lib.hid (fun (p : Nat × Nat) (hp : valid N p) => valid_span h1 h2 hp)
  have KT := Lib.hid (fun (p : Nat × Nat) w => span_any N p.1 p.2 w (by omega))
  have hne := cv_ne 0 lo hi h3
  have hch := gr_chain N lo (hi + 1) (by omega) (by omega)
  rw [← cv_gr 0 lo hi h3] at hch
  have hlen := cv_len 0 lo hi h3 N h4
  have hb59 := pow_le59 h2
  have hhi : hi < 576460752303423488 := by omega
  have hlen2 : (cv 0 lo hi).length ≤ 119 := by split at hlen <;> omega
  have hlen1 : 0 < (cv 0 lo hi).length := List.length_pos_iff.2 hne
  clear hlen h4 hb59 hne
  generalize cv 0 lo hi = L at *
  obtain ⟨hch, hval⟩ := hch
  have HCH := Lib.hid hch
  have HV := Lib.hid hval
  clear hch hval
  generalize hm : L.length = m at *
  have HM := Lib.hid hm; clear hm
  go_enter Try.func5, Try.ntmps5
  go_wp2_with fail
  refine (shown_any _).mono ?_
  rintro e w1 ⟨rfl, hb1⟩
  have B1 := Lib.hid hb1; clear hb1
  go_wp2_with fail
  refine (KR.out _).mono ?_
  rintro e w2 ⟨rfl, hb2⟩
  have B2 := Lib.hid (B1.out.then hb2); clear hb2 B1 KR
  go_wp2_with fail
  refine (KC.out _).mono ?_
  rintro e w3 ⟨a1, c1, rfl, hr, hb3⟩
  have R3 := Lib.hid hr
  have B3 := Lib.hid (B2.out.then hb3); clear hb3 B2 KC hr
  have hm0 : ((m : Int) == 0) = false := by simp; omega
  go_wp2_with fail
  go_loopw [12, 13] (fun u12 u13 wr => ∃ k a : Nat, k ≤ m ∧ u13 = .int .i64 k ∧ u12 = .int .u64 a ∧ chain a (L.drop k) (hi + 1) ∧ Below w3.heap.size w3 wr) (fun _ i _ => m - (intOf i).toNat)
  case atStart => exact ⟨0, lo, by omega, rfl, rfl, HCH.out, Below.refl _ _⟩
  case round =>
    obtain ⟨k, a, hk, rfl, rfl, hca, hbr⟩ := hrel
    have HBR := Lib.hid hbr; clear hbr
    by_cases hkm : k < m
    · obtain ⟨⟨p1, p2⟩, hp⟩ : ∃ p, L[k]? = some p := ⟨L[k]'(by rw [HM.out]; exact hkm), by rw [List.getElem?_eq_getElem]⟩
      have hdr : L.drop k = (p1, p2) :: L.drop (k + 1) := by
        have := List.getElem?_eq_some_iff.1 hp
        obtain ⟨hl, he⟩ := this
        rw [← he]; exact List.drop_eq_getElem_cons hl
      have hva := HV.out (p1, p2) (List.mem_of_getElem? hp)
      obtain ⟨es, hle⟩ := KS.out (p1, p2) hva
      have KQ := KT.out (p1, p2)
      rw [es] at KQ
      rw [hdr] at hca
      obtain ⟨hc1, hc2⟩ := hca
      simp only at KQ hle hc1 hc2
      rw [hc1] at KQ hle
      have hpos := pow_pos2 p1
      obtain ⟨g, rfl, hd1, hd2⟩ := (R3.out.below HBR.out).cells hp
      have KQ := Lib.hid KQ
      clear es hc1 hdr hp hva
      generalize 2 ^ p1 = H at *
      obtain ⟨z, hz⟩ : ∃ z, a + H - 1 = z := ⟨_, rfl⟩
      rw [hz] at KQ
      have hza : a + H = z + 1 := by omega
      rw [hza] at hc2
      have HC2 := Lib.hid hc2
      have hkn : (k : Int) < (m : Int) := by omega
      have hzlt : z < 576460752303423488 := by omega
      have haz : decide (z < a) = false := by simp; omega
      clear hc2 hz hza hle hpos
      go_wp2_with fail
      refine (KQ.out _).mono ?_
      rintro e w5 ⟨rfl, hb5⟩
      have HB5 := Lib.hid (HBR.out.then hb5); clear hb5 HBR
      go_wp2_with fail
      go_roundw
      case rel => exact ⟨k + 1, z + 1, by omega, by go_num, congrArg (Value.int .u64) (by omega), HC2.out, HB5.out⟩
      case measure => simp [intOf]; omega
    · obtain rfl : k = m := by omega
      rw [List.drop_of_length_le (by rw [HM.out]; exact Nat.le_refl _)] at hca
      have hca' : a = hi + 1 := hca
      have hq : ((a : Int) == (hi : Int) + 1) = true := by simp; omega
      have B4 := Lib.hid (B3.out.then HBR.out)
      clear hca hkm hca'
      go_wp2_with fail
      go_ret
      exact ⟨rfl, B4.out⟩
end Go.Proofs.Ytdbkbcihbajjdaa
