/- Cover of the reference walked. -/
import Derived.Test.YtdbkbcihbajjdaaCover
namespace Go.Proofs.Ytdbkbcihbajjdaa
open Go.RowKit
set_option linter.unusedVariables false

theorem lv_char {a e : Nat} (j : Nat) : j + 1 ≤ lv a e ↔ a % 2 ^ (j + 1) = 0 ∧ a + 2 ^ (j + 1) ≤ e := by
  induction a, e using lv.induct generalizing j with
  | case1 a e h2 ih =>
    rw [lv, if_pos h2]
    cases j with
    | zero => simp; exact h2
    | succ j =>
      have := ih j
      rw [show j + 1 + 1 ≤ lv (a / 2) (e / 2) + 1 ↔ j + 1 ≤ lv (a / 2) (e / 2) by omega, this]
      obtain ⟨b, rfl⟩ : ∃ b, a = 2 * b := ⟨a / 2, by omega⟩
      rw [show 2 * b / 2 = b by omega, Nat.pow_succ 2 (j + 1), Nat.mul_comm (2 ^ (j + 1)) 2, Nat.mul_mod_mul_left]
      omega
  | case2 a e h2 =>
    rw [lv, if_neg h2]
    constructor
    · intro h; omega
    · rintro ⟨h3, h4⟩
      exfalso
      apply h2
      have hp : 2 ^ (j + 1) = 2 * 2 ^ j := by rw [Nat.pow_succ, Nat.mul_comm]
      have hp0 := pow_pos2 j
      rw [hp] at h3 h4
      refine ⟨?_, by omega⟩
      have := Nat.mod_mul_right_mod a 2 (2 ^ j)
      omega
set_option maxRecDepth 100000 in
set_option maxHeartbeats 400000 in
theorem rcover_bad (n : Int) (lo hi : Nat) (w : World) (hlo : lo < 18446744073709551616) (hhi : hi < 18446744073709551616) (hbad : okC n lo hi = false) :
    Calls Try.prog 11 #[.int .i64 n, .int .u64 lo, .int .u64 hi] w (Cov n lo hi w) := by
  have HB := Lib.hid ((Below.refl w.heap.size w).alloc (Nat.le_refl _) (.cells #[] 30))
  have HF := Lib.hid hbad
  by_cases h1 : 1 ≤ n
  · by_cases h2 : n ≤ 59
    · obtain ⟨k, rfl⟩ := Int.eq_ofNat_of_zero_le (show 0 ≤ n by omega)
      have hk : k ≤ 59 := by omega
      have K2 := Lib.hid (fun w => two_any k w (by omega))
      by_cases h3 : lo ≤ hi
      · have h4 : ¬ hi < 2 ^ k := by
          intro h4
          unfold okC at hbad
          simp [h2, h3] at hbad
          have := hbad (by omega)
          omega
        have g0 : decide ((k : Int) < 1) = false := by simp; omega
        have g1 : decide (59 < (k : Int)) = false := by simp; omega
        have g2 : decide (hi < lo) = false := by simpa using h3
        generalize 2 ^ k = P at *
        clear hbad
        go_enter Try.func11, Try.ntmps11
        go_wp2_with (go_at_call 19; refine (K2.out _).mono ?_; rintro e w' ⟨rfl, rfl⟩)
        go_ret2
        exact cov_bad HF.out HB.out _ 0
      · have g : decide (hi < lo) = true := by simpa using h3
        have g0 : decide ((k : Int) < 1) = false := by simp; omega
        have g1 : decide (59 < (k : Int)) = false := by simp; omega
        clear hbad
        go_enter Try.func11, Try.ntmps11
        go_wp2_with fail
        go_ret2
        exact cov_bad HF.out HB.out _ 0
    · have g : decide (59 < n) = true := by simpa using h2
      have g0 : decide (n < 1) = false := by simpa using h1
      clear hbad
      go_enter Try.func11, Try.ntmps11
      go_wp2_with fail
      go_ret2
      exact cov_bad HF.out HB.out _ 0
  · have g : decide (n < 1) = true := by simpa using h1
    clear hbad
    go_enter Try.func11, Try.ntmps11
    go_wp2_with fail
    go_ret2
    exact cov_bad HF.out HB.out _ 0
theorem two_at {j Q : Nat} {i : Int} (hi : i = j) (hQ : 2 ^ j = Q) (hj : j ≤ 63) (w : World) : Calls Try.prog 19 #[.int .i64 i] w fun e w' => e = .returned (.int .u64 (Q : Int)) ∧ w = w' := by
  subst hi hQ; exact two_any j w hj
theorem ok_nat {n : Int} {lo hi : Nat} (h : okC n lo hi = true) : ∃ k : Nat, n = k ∧ 1 ≤ k ∧ k ≤ 59 ∧ lo ≤ hi ∧ hi < 2 ^ k := by
  unfold okC at h
  simp only [Bool.and_eq_true, decide_eq_true_eq] at h
  obtain ⟨⟨⟨h1, h2⟩, h3⟩, h4⟩ := h
  obtain ⟨k, rfl⟩ := Int.eq_ofNat_of_zero_le (show 0 ≤ n by omega)
  rw [Int.toNat_natCast] at h4
  exact ⟨k, rfl, by omega, by omega, h3, h4⟩
/-- What a round of the reference's Cover meets. -/
def RelR (B lo hi : Nat) (w : World) (a1 a8 : Value) (wr : World) : Prop :=
  ∃ (x m : Nat) (xs : List (Nat × Nat)), a1 = .int .u64 x ∧ x ≤ hi + 1 ∧ wr.ownsRow B 30 2 a8 m (pcells xs) ∧ xs ++ gr 0 x (hi + 1) = cv 0 lo hi ∧ Below B w wr
theorem owns_len {w : World} {base : Nat} {v : Value} {n : Nat} {l : List (Nat × Nat)} (h : w.ownsRow base 30 2 v n (pcells l)) : l.length = n := by
  have := h.1; rw [pcells_len] at this; omega
set_option maxRecDepth 100000 in
set_option maxHeartbeats 2000000 in
theorem rcover_good (n : Int) (lo hi : Nat) (w : World) (hok : okC n lo hi = true) :
    Calls Try.prog 11 #[.int .i64 n, .int .u64 lo, .int .u64 hi] w (Cov n lo hi w) := by
  have HF := Lib.hid hok
  obtain ⟨i0, hi0, hz0, hz1, hz2⟩ := info_parts info30
  obtain ⟨k, rfl, h1, h2, h3, h4⟩ := ok_nat hok
  clear hok
  have h59 := pow_le59 h2
  have KP := Lib.hid (fun w => two_any k w (by omega))
  have HC0 := Lib.hid (cv_gr 0 lo hi h3)
  have hcl := cv_len 0 lo hi h3 k h4
  have HCL := Lib.hid (show (cv 0 lo hi).length ≤ 119 by split at hcl <;> omega)
  have g0 : decide ((k : Int) < 1) = false := by simp; omega
  have g1 : decide (59 < (k : Int)) = false := by simp; omega
  have g2 : decide (hi < lo) = false := by simpa using h3
  have g3 : decide (2 ^ k ≤ hi) = false := by simpa using h4
  have H4 := Lib.hid h4
  have HS := Lib.hid (World.ownsRow_lit (e := 30) (size := 2) w #[] 0 (Nat.le_refl _) (by unfold maxLen; omega) rfl)
  have HB := Lib.hid ((Below.refl w.heap.size w).alloc (Nat.le_refl _) (.cells #[] 30))
  clear hcl
  have h4' : hi < 576460752303423488 := by omega
  clear h59 h4
  generalize hP : 2 ^ k = P at *
  have HPK := Lib.hid hP; clear hP
  go_enter Try.func11, Try.ntmps11
  go_wp2_with (go_at_call 19; refine (KP.out _).mono ?_; rintro e w' ⟨rfl, rfl⟩)
  clear g3 g2 g0 g1
  generalize w.alloc (.cells #[] 30) = w0 at *
  go_loopw [1, 8] (fun a1 a8 wr => RelR w.heap.size lo hi w a1 a8 wr) (fun a1 _ _ => (hi + 1 - (intOf a1).toNat))
  case atStart => exact ⟨lo, 0, [], rfl, by omega, HS.out, by rw [HC0.out]; rfl, HB.out⟩
  case round =>
    obtain ⟨x, m, xs, rfl, hx, ho, hcv, hb⟩ := hrel
    have hm : m ≤ 119 := by
      have := congrArg List.length hcv
      rw [List.length_append] at this
      have := HCL.out
      have := owns_len ho
      omega
    obtain ⟨a8, k8, rfl, hr, hk8⟩ := PRow.own ho
    have HO := Lib.hid ho; clear ho
    have HCV := Lib.hid hcv; clear hcv
    have HBR := Lib.hid hb; clear hb
    have HR := Lib.hid hr; clear hr
    clear HS HB HC0
    by_cases hle : x ≤ hi
    · have hlt : x < hi + 1 := by omega
      have hl := lv_le hlt
      obtain ⟨l, hlv⟩ : ∃ l, lv x (hi + 1) = l := ⟨_, rfl⟩
      have HCH := Lib.hid (fun j => lv_char (a := x) (e := hi + 1) j)
      have hst := gr_step 0 hlt
      rw [hlv] at hl HCH hst
      rw [Nat.zero_add] at hst
      have hlk : l ≤ k := by
        have h5 : 2 ^ l ≤ 2 ^ k := by have := H4.out; have := HPK.out; omega
        exact (Nat.pow_le_pow_iff_right (by omega)).1 h5
      have hp2 := pow_pos2 l
      have hdiv : (x : Int) / ((2 ^ l : Nat) : Int) = ((x / 2 ^ l : Nat) : Int) := by norm_cast
      have hDx : x / 2 ^ l ≤ x := Nat.div_le_self _ _
      generalize hQ2 : 2 ^ l = Q2 at *
      generalize x / Q2 = D at *
      have HST := Lib.hid hst; clear hst
      have hne0 : ¬ ((Q2 : Int) = 0) := by omega
      have hm4 : m + 1 ≤ maxLen := by unfold maxLen; omega
      have hn4 : (m + 1) * 16 ≤ 140737488355328 := by omega
      have HBS := Lib.hid (show w.heap.size ≤ wr.heap.size from HBR.out.size)
      have HQ2 := Lib.hid hQ2; clear hQ2
      obtain ⟨hl1, hl2⟩ := hl
      clear hl2 hlv
      go_wp2_with fail
      obtain ⟨wo, rfl⟩ : ∃ wo : World, wo = wr := ⟨_, rfl⟩
      go_loop [9, 32, 33, 34, 35, 36, 37, 38, 39, 40, 41, 42, 43, 44, 45, 46, 47, 48, 49, 50, 51, 52, 53, 54] (fun a9 _ _ _ _ _ _ _ _ _ _ _ _ _ _ _ _ _ _ _ _ _ _ _ => ∃ j : Nat, j ≤ l ∧ a9 = .int .i64 j) (fun a9 _ _ _ _ _ _ _ _ _ _ _ _ _ _ _ _ _ _ _ _ _ _ _ => l - (intOf a9).toNat)
      case atStart => exact ⟨0, by omega, rfl⟩
      case round =>
        obtain ⟨j, hj, rfl⟩ := hrel
        by_cases hjl : j < l
        · obtain ⟨c1, c2⟩ := (HCH.out j).1 (by omega)
          have hjk : (j : Int) < (k : Int) := by omega
          have hp1 := pow_pos2 (j + 1)
          have hrem : (x : Int) % ((2 ^ (j + 1) : Nat) : Int) = 0 := by norm_cast
          have K1 := Lib.hid (fun w => two_at (j := j + 1) (i := (j : Int) + 1) (by omega) rfl (by omega) w)
          generalize 2 ^ (j + 1) = Q1 at *
          have hge : decide ((Q1 : Int) - 1 ≤ (hi : Int) - (x : Int)) = true := by simp; omega
          clear c1
          go_wp2_with (go_at_call 19; refine (K1.out _).mono ?_; rintro e w' ⟨rfl, rfl⟩)
          exact ⟨⟨j + 1, by omega, congrArg (Value.int .i64) (by omega)⟩, by simp [intOf]; omega⟩
        · obtain rfl : j = l := by omega
          have hno : ¬ (x % 2 ^ (j + 1) = 0 ∧ x + 2 ^ (j + 1) ≤ hi + 1) := fun h => by have := (HCH.out j).2 h; omega
          have hQ2 := HQ2.out
          clear hjl hj
          by_cases hjk : (j : Int) < (k : Int)
          · have hp1 := pow_pos2 (j + 1)
            have hQ1b : 2 ^ (j + 1) ≤ 9223372036854775808 := pow_le63 (by omega)
            obtain ⟨r, hrr⟩ : ∃ r, x % 2 ^ (j + 1) = r := ⟨_, rfl⟩
            have hrem : (x : Int) % ((2 ^ (j + 1) : Nat) : Int) = (r : Int) := by rw [← hrr]; norm_cast
            rw [hrr] at hno
            clear hrr
            have K1 := Lib.hid (fun w => two_at (j := j + 1) (i := (j : Int) + 1) (by omega) rfl (by omega) w)
            generalize 2 ^ (j + 1) = Q1 at *
            by_cases hr0 : r = 0
            · subst hr0
              have hge : decide ((Q1 : Int) - 1 ≤ (hi : Int) - (x : Int)) = false := by simp; omega
              clear hno
              have K2 := Lib.hid (fun w => two_at (j := j) (i := (j : Int)) rfl hQ2 (by omega) w)
              clear hQ2
              go_wp2_with (first | (go_at_call 19; (with_reducible refine (K1.out _).mono ?_); rintro e w' ⟨rfl, rfl⟩) | (go_at_call 19; (with_reducible refine (K2.out _).mono ?_); rintro e w' ⟨rfl, rfl⟩) | (at_builtin; refine wpList_append_own_at _ rfl (.tmp 55) (.tmp 62) 24 rfl w.heap.size 30 i0 _ 2 16 Try.underlying24 hi0 hz0 hz1 hz2 rfl (by decide) _ _ _ rfl (HO.out.alloc _) ⟨wo.heap.size, 0, none⟩ 1 1 (pcells [(j, D)]) rfl rfl (news_p _ rfl j D) (one_cells _) hm4 hn4 (le_alloc HBS.out _) ?_; intro v1 w1 hown' hg' _ hat'; rw [← pcells_append] at hown'; have HB1 := Lib.hid ((HBR.out.alloc HBS.out _).grown hg' (le_alloc HBS.out _) (fun k hk => (HO.out.lt k hk).1)); obtain ⟨a1, c1, hv', _⟩ := PRow.own hown'; subst hv'; have HO1 := Lib.hid hown'; clear hown' hg' hat'))
              go_roundw
              case rel => exact ⟨x + Q2, m + 1, xs ++ [(j, D)], congrArg (Value.int .u64) (by omega), by omega, HO1.out, by rw [← HCV.out, HST.out]; simp, HB1.out⟩
              case measure => simp [intOf]; omega
            · have hr1 : ((r : Int) == 0) = false := by simp; omega
              clear hno hr0
              have K2 := Lib.hid (fun w => two_at (j := j) (i := (j : Int)) rfl hQ2 (by omega) w)
              clear hQ2
              go_wp2_with (first | (go_at_call 19; (with_reducible refine (K1.out _).mono ?_); rintro e w' ⟨rfl, rfl⟩) | (go_at_call 19; (with_reducible refine (K2.out _).mono ?_); rintro e w' ⟨rfl, rfl⟩) | (at_builtin; refine wpList_append_own_at _ rfl (.tmp 55) (.tmp 62) 24 rfl w.heap.size 30 i0 _ 2 16 Try.underlying24 hi0 hz0 hz1 hz2 rfl (by decide) _ _ _ rfl (HO.out.alloc _) ⟨wo.heap.size, 0, none⟩ 1 1 (pcells [(j, D)]) rfl rfl (news_p _ rfl j D) (one_cells _) hm4 hn4 (le_alloc HBS.out _) ?_; intro v1 w1 hown' hg' _ hat'; rw [← pcells_append] at hown'; have HB1 := Lib.hid ((HBR.out.alloc HBS.out _).grown hg' (le_alloc HBS.out _) (fun k hk => (HO.out.lt k hk).1)); obtain ⟨a1, c1, hv', _⟩ := PRow.own hown'; subst hv'; have HO1 := Lib.hid hown'; clear hown' hg' hat'))
              go_roundw
              case rel => exact ⟨x + Q2, m + 1, xs ++ [(j, D)], congrArg (Value.int .u64) (by omega), by omega, HO1.out, by rw [← HCV.out, HST.out]; simp, HB1.out⟩
              case measure => simp [intOf]; omega
          · have hjd : decide (j < k) = false := by simpa using hjk
            clear hno hjk
            have K2 := Lib.hid (fun w => two_at (j := j) (i := (j : Int)) rfl hQ2 (by omega) w)
            clear hQ2
            go_wp2_with (first | (go_at_call 19; (with_reducible refine (K2.out _).mono ?_); rintro e w' ⟨rfl, rfl⟩) | (at_builtin; refine wpList_append_own_at _ rfl (.tmp 55) (.tmp 62) 24 rfl w.heap.size 30 i0 _ 2 16 Try.underlying24 hi0 hz0 hz1 hz2 rfl (by decide) _ _ _ rfl (HO.out.alloc _) ⟨wo.heap.size, 0, none⟩ 1 1 (pcells [(j, D)]) rfl rfl (news_p _ rfl j D) (one_cells _) hm4 hn4 (le_alloc HBS.out _) ?_; intro v1 w1 hown' hg' _ hat'; rw [← pcells_append] at hown'; have HB1 := Lib.hid ((HBR.out.alloc HBS.out _).grown hg' (le_alloc HBS.out _) (fun k hk => (HO.out.lt k hk).1)); obtain ⟨a1, c1, hv', _⟩ := PRow.own hown'; subst hv'; have HO1 := Lib.hid hown'; clear hown' hg' hat'))
            go_roundw
            case rel => exact ⟨x + Q2, m + 1, xs ++ [(j, D)], congrArg (Value.int .u64) (by omega), by omega, HO1.out, by rw [← HCV.out, HST.out]; simp, HB1.out⟩
            case measure => simp [intOf]; omega
    · obtain rfl : x = hi + 1 := by omega
      have hfin := HCV.out
      rw [gr_nil, List.append_nil] at hfin
      have HO2 := Lib.hid (show wr.ownsRow w.heap.size 30 2 (.slice a8 m k8) m (pcells (cv 0 lo hi)) by rw [← hfin]; exact HO.out)
      clear hfin
      have hd : decide (((hi + 1 : Nat) : Int) ≤ (hi : Int)) = false := by simp; omega
      go_wp2_with fail
      go_ret2
      obtain ⟨_, _, e', hc⟩ := cov_good HF.out rfl HO2.out HBR.out
      cases e'
      exact hc
end Go.Proofs.Ytdbkbcihbajjdaa
