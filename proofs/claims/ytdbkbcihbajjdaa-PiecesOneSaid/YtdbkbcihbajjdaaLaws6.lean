/- PiecesOne walked. -/
import Derived.Test.YtdbkbcihbajjdaaLaws5
namespace Go.Proofs.Ytdbkbcihbajjdaa
open Go.RowKit
set_option linter.unusedVariables false

/-- What 'right' hands on at one key. -/
theorem right_same (b : Int) (x : Nat) (hx : x < 18446744073709551616) :
    ∃ N X : Nat, 1 ≤ N ∧ N ≤ 59 ∧ X < 2 ^ N ∧ ∀ w, Calls Try.prog 16 #[.int .i64 b, .int .u64 x, .int .u64 x] w fun e w' => e = .returned (.tuple #[.int .i64 N, .int .u64 X, .int .u64 X]) ∧ Below w.heap.size w w' := by
  obtain ⟨h1, h2⟩ := bitsOf_le b
  refine ⟨bitsOf' b, x % 2 ^ bitsOf' b, h1, h2, Nat.mod_lt x (pow_pos2 _), fun w => ?_⟩
  have := right_any b x x w hx hx
  rw [Nat.min_self, Nat.max_self] at this
  exact this
set_option maxRecDepth 100000 in
set_option maxHeartbeats 2000000 in
theorem lawOne (b : Int) (x : Nat) (lvl : Int) (w : World) (hx : x < 18446744073709551616) :
    Calls Try.prog 8 #[.int .i64 b, .int .u64 x, .int .i64 lvl] w fun e w' => e = .returned (.bool true) ∧ Below w.heap.size w w' := by
  obtain ⟨N, X, h1, h2, h4, KR⟩ := right_same b x hx
  have KR := Lib.hid KR
  have hand := and_65535 lvl
  obtain ⟨r, hr⟩ : ∃ r : Nat, (lvl % 65536).toNat = r := ⟨_, rfl⟩
  rw [hr] at hand
  have hrb : r < 65536 := by omega
  have hrem : (r : Int) % ((N : Int) + 1) = ((r % (N + 1) : Nat) : Int) := by push_cast; rfl
  have htN : r % (N + 1) ≤ N := by have := Nat.mod_lt r (show 0 < N + 1 by omega); omega
  generalize r % (N + 1) = t at *
  clear hr
  have hpt := pow_pos2 t
  obtain ⟨I, hI⟩ : ∃ I, X / 2 ^ t = I := ⟨_, rfl⟩
  have hII : (X : Int) / 2 ^ t = (I : Int) := by rw [← hI]; push_cast; rfl
  have hIv : I < 2 ^ (N - t) := by
    rw [← hI, Nat.div_lt_iff_lt_mul hpt, ← Nat.pow_add, show N - t + t = N by omega]; exact h4
  obtain ⟨hsp, hle⟩ := valid_span (N := N) h1 h2 (p := (t, I)) ⟨htN, hIv⟩
  simp only at hsp hle
  have hb59 := pow_le59 h2
  have hX59 : X < 576460752303423488 := by omega
  have hIX : I ≤ X := by rw [← hI]; exact Nat.div_le_self _ _
  have KS := Lib.hid (fun w => span_any N t I w (by omega))
  rw [hsp] at KS
  have hend : I * 2 ^ t + 2 ^ t - 1 < 2 ^ N := by
    have h8 : (I + 1) * 2 ^ t ≤ 2 ^ (N - t) * 2 ^ t := Nat.mul_le_mul_right _ hIv
    rw [← Nat.pow_add, show N - t + t = N by omega, Nat.add_mul, Nat.one_mul] at h8
    omega
  have KC := Lib.hid (fun w => cover_cv N (I * 2 ^ t) (I * 2 ^ t + 2 ^ t - 1) w h1 h2 (by omega) hend)
  rw [cv_own] at KC
  have KZ := Lib.hid (fun w => cover_cv N 0 X w h1 h2 (by omega) h4)
  have KA := Lib.hid (fun w => cover_cv N 0 (2 ^ N - 1) w h1 h2 (by omega) (by omega))
  have hown := cv_own N 0
  rw [Nat.zero_mul, Nat.zero_add] at hown
  rw [hown] at KA
  have hpn := wrap_pow h2
  have hct := cv_zero 0 X
  have hva := (gr_chain N 0 (X + 1) (by omega) (by omega)).2
  rw [← cv_gr 0 0 X (by omega)] at hva
  have hlen := cv_len 0 0 X (by omega) N h4
  rw [if_neg (by omega)] at hlen
  clear hown hend hsp hI hIv hle
  generalize cv 0 0 X = L at *
  have HCT := Lib.hid (fun j k => Nat.le_trans (cnt_le L j k) (hct k))
  have HV := Lib.hid hva
  clear hct hva h4
  have hpN := pow_pos2 N
  obtain ⟨Z, hZ⟩ : ∃ Z, 2 ^ N - 1 = Z := ⟨_, rfl⟩
  rw [hZ] at KA
  have hZi : IntKind.u64.wrap (((2 ^ N : Nat) : Int) - 1) = (Z : Int) := by rw [IntKind.wrap_u64]; omega
  have hZt : IntKind.u64.wrap ((2 : Int) ^ N - 1) = (Z : Int) := by rw [← hZi]; push_cast; rfl
  clear hZ
  generalize I * 2 ^ t + 2 ^ t - 1 = E at *
  generalize I * 2 ^ t = A at *
  have hq := pair_eq N 0
  generalize hm : L.length = m at *
  have HM := Lib.hid hm; clear hm
  have hz := zero38
  clear hpt
  go_enter Try.func8, Try.ntmps8
  go_wp2_with fail
  refine (shown_any _).mono ?_
  rintro e w1 ⟨rfl, hb1⟩
  have B1 := Lib.hid hb1; clear hb1
  go_wp2_with fail
  refine (KR.out _).mono ?_
  rintro e w2 ⟨rfl, hb2⟩
  have B2 := Lib.hid (B1.out.then hb2); clear hb2 B1 KR
  have P2 := Lib.hid (PAt.new w2 t I rfl)
  have BA := Lib.hid (B2.out.then ((Below.refl w2.heap.size w2).alloc (Nat.le_refl _) (.cells #[.int .i64 t, .int .u64 I] 30)))
  go_wp2_with fail
  generalize w2.alloc (.cells #[.int .i64 t, .int .u64 I] 30) = wa at *
  refine (KS.out _).mono ?_
  rintro e w3 ⟨rfl, hb3⟩
  have P3 := P2.out.below hb3
  have B3 := Lib.hid (BA.out.then hb3)
  have c0 := P3.c0
  have c1 := P3.c1
  have P3 := Lib.hid P3
  clear hb3 BA P2 KS B2
  go_wp2_with fail
  refine (KC.out _).mono ?_
  rintro e w4 ⟨a4, c4, rfl, hr4, hb4⟩
  have P4 := P3.out.below hb4
  have B4 := Lib.hid (B3.out.then hb4)
  have hnew : PRow (w4.alloc (.cells #[.int .i64 t, .int .u64 I] 30)) (some ⟨w4.heap.size, 0, none⟩) 1 [(t, I)] := ⟨rfl, .inr ⟨w4.heap.size, [], rfl, heap_alloc_new w4 _⟩⟩
  have hbb : Below w4.heap.size w4 (w4.alloc (.cells #[.int .i64 t, .int .u64 I] 30)) := (Below.refl _ _).alloc (Nat.le_refl _) _
  have hsm := (same_any [(t, I)] [(t, I)] a4 _ 1 c4 1 1 _ (hr4.below hbb) hnew (by omega) (by omega))
  rw [decide_eq_true rfl] at hsm
  have KM := Lib.hid hsm; clear hsm
  have BB := Lib.hid (B4.out.then hbb)
  clear c0 c1
  have c0 := P4.c0
  have c1 := P4.c1
  clear hb4 hr4 hnew hbb P3 B3 KC P4
  go_wp2_with fail
  refine KM.out.mono ?_
  rintro e w5 ⟨rfl, hb5⟩
  have B5 := Lib.hid (BB.out.then hb5); clear hb5 KM BB B4 c0 c1
  go_wp2_with fail
  refine (KZ.out _).mono ?_
  rintro e w6 ⟨a6, c6, rfl, hr6, hb6⟩
  have hba : Below w6.heap.size w6 (w6.alloc (.cells (arr fun _ => 0) 38)) := (Below.refl _ _).alloc (Nat.le_refl _) _
  have R3 := Lib.hid hr6
  have A3 := Lib.hid (LAt.new w6 fun _ => 0)
  have BA := Lib.hid hba
  have B6 := Lib.hid (B5.out.then hb6); clear hb6 B5 KZ hr6 hba
  go_wp2_with fail
  generalize w6.alloc (.cells (arr fun _ => 0) 38) = wa at *
  go_loopw [17] (fun u17 wr => ∃ j : Nat, j ≤ m ∧ u17 = .int .i64 j ∧ LAt wr w6.heap.size (cnt L j) ∧ Below w6.heap.size w6 wr) (fun i _ => m - (intOf i).toNat)
  case atStart => exact ⟨0, by omega, rfl, A3.out.congr (fun i _ => by simp [cnt]), BA.out⟩
  case round =>
    obtain ⟨j, hk, rfl, hat, hbr⟩ := hrel
    have HBR := Lib.hid hbr; clear hbr
    have HAT := Lib.hid hat; clear hat A3 BA
    by_cases hkm : j < m
    · obtain ⟨⟨p1, p2⟩, hp⟩ : ∃ p, L[j]? = some p := ⟨L[j]'(by rw [HM.out]; exact hkm), by rw [List.getElem?_eq_getElem]⟩
      obtain ⟨hv1, _⟩ := HV.out (p1, p2) (List.mem_of_getElem? hp)
      simp only at hv1
      have hp59 : p1 < 60 := by omega
      have hct := HCT.out (j + 1) p1
      rw [cnt_succ hp, if_pos rfl] at hct
      simp only at hct
      have hw1 := HAT.out.set p1 1
      have AW := Lib.hid (hw1.congr (g := cnt L (j + 1)) (fun i _ => by
        rw [cnt_succ hp]
        simp only
        by_cases h : i = p1
        · rw [if_pos h, if_pos h]; omega
        · rw [if_neg h, if_neg h]))
      have HBW := Lib.hid (HBR.out.setCell (p := ⟨w6.heap.size, p1, none⟩) (Nat.le_refl _) (.int .i64 ((1 : Nat) : Int)))
      have hcc := HAT.out.cell hp59
      have h0 : cnt L j p1 = 0 := by omega
      rw [h0] at hcc
      have hff := HAT.out.frozen p1
      obtain ⟨g, rfl, hd1, hd2⟩ := (R3.out.below HBR.out).cells hp
      simp only at hd1 hd2
      have hkn : (j : Int) < (m : Int) := by omega
      clear hw1 h0 hct
      have hn0 : decide ((p1 : Int) < 0) = false := by simp
      have hn1 : decide (59 < (p1 : Int)) = false := by simp; omega
      have hn2 : decide (59 < p1) = false := by simp; omega
      have hp60 : (p1 : Int) < 60 := by omega
      go_wp2_with fail
      go_roundw
      case rel => exact ⟨j + 1, by omega, by go_num, AW.out, HBW.out⟩
      case measure => simp [intOf]; omega
    · obtain rfl : j = m := by omega
      have B7 := Lib.hid (B6.out.then HBR.out)
      clear hkm
      go_wp2_with fail
      refine (KA.out _).mono ?_
      rintro e w8 ⟨a8, c8, rfl, hr8, hb8⟩
      have B8 := Lib.hid (B7.out.then hb8)
      obtain ⟨g8, rfl, hd1, hd2⟩ := hr8.cells (k := 0) (p := (N, 0)) rfl
      have he1 : w8.cell? ⟨g8, 0, none⟩ = some (.int .i64 N) := by simpa using hd1
      have he2 : w8.cell? ⟨g8, 1, none⟩ = some (.int .u64 0) := by simpa using hd2
      clear hd1 hd2 hr8 hb8
      go_wp2_with fail
      go_ret
      exact ⟨rfl, B8.out⟩
end Go.Proofs.Ytdbkbcihbajjdaa
