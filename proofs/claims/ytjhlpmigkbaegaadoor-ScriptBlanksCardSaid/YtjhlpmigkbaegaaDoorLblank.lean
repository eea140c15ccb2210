/- ScriptBlanks walked. -/
import Derived.Test.YtjhlpmigkbaegaaDoorLback
import Derived.Test.YtjhlpmigkbaegaaDoorBlank
import Derived.Test.YtjhlpmigkbaegaaDoorRwords
namespace Go.Proofs.YtjhlpmigkbaegaaDoor
open Go.RowKit
set_option linter.unusedVariables false
theorem bl_more (s : ByteArray) (n : Nat) : (s ++ bl n) ++ (⟨#[32]⟩ : ByteArray) = s ++ bl (n + 1) := by rw [ByteArray.append_assoc]; rfl
theorem bl_zero (s : ByteArray) : s = s ++ bl 0 := bytes_ext (by rw [ByteArray.size_append]; rfl) (fun i hi => by rw [bAt_left _ _ _ hi])
set_option maxRecDepth 100000 in
set_option maxHeartbeats 8000000 in
theorem blanks_torn (s : ByteArray) (xa xb : Int) (w : World) (hT : Tabs w) (j : Nat) (ht : tornAt (s.extract 0 (min (s.size : Int) 300).toNat) 0 = some j) : Calls Tryd.prog 5 #[.string s, .int .i64 xa, .int .i64 xb] w fun e w' => e = .returned (.bool true) ∧ Below w.heap.size w w' := by
  have KS := Lib.hid (shown_any w hT)
  have HT := Lib.hid hT
  have hs1 := cut_size s 300
  have ha0 := and_65535 xa
  have hb0 := and_65535 xb
  obtain ⟨X, hX⟩ : ∃ X : Nat, (xa % 65536).toNat = X := ⟨_, rfl⟩
  obtain ⟨Y, hY⟩ : ∃ Y : Nat, (xb % 65536).toNat = Y := ⟨_, rfl⟩
  rw [hX] at ha0
  rw [hY] at hb0
  clear hX hY
  obtain ⟨A, hA⟩ : ∃ A : Nat, X % 21 = A := ⟨_, rfl⟩
  obtain ⟨B, hB⟩ : ∃ B : Nat, Y % 21 = B := ⟨_, rfl⟩
  have hra : (X : Int) % 21 = (A : Int) := by omega
  have hrb : (Y : Int) % 21 = (B : Int) := by omega
  have hA21 : A < 21 := by omega
  have hB21 : B < 21 := by omega
  clear hT hA hB
  go_enter Tryd.func5, Tryd.ntmps5
  go_wp2_with fail
  refine KS.out.mono ?_
  rintro x w1 ⟨rfl, b1⟩
  have T1 := Lib.hid (HT.out.below b1); have B1 := Lib.hid b1; clear b1
  go_wp2_with fail
  rw [hra, hrb]
  clear ha0 hb0 hra hrb
  generalize s.extract 0 (min (s.size : Int) 300).toNat = t at *
  have KR := Lib.hid (fun w => rtorn_any t w (by omega))
  have hj := tornAt_le t 0 j ht
  have e1 : tornI t = (j : Int) := by unfold tornI; rw [ht]
  simp only [e1] at KR
  have hge : decide ((0 : Int) ≤ (j : Int)) = true := by simp
  go_loop [8, 9] (fun u8 u9 => ∃ k : Nat, k ≤ A ∧ u8 = .string (bl k) ∧ u9 = .int .i64 k) (fun _ u9 => A - (intOf u9).toNat)
  case atStart => exact ⟨0, by omega, rfl, rfl⟩
  case round =>
    obtain ⟨k, hk, rfl, rfl⟩ := hrel
    have hbk := bl_size k
    by_cases hlt : k < A
    · have g1 : decide ((k : Int) < (A : Int)) = true := by simp; omega
      have g2 : decide (k < A) = true := by simp; omega
      have q1 : ¬ 9223372036854775807 < (bl k).size + 1 := by omega
      go_wp2_with fail
      go_round
      case rel => exact ⟨k + 1, by omega, rfl, by go_num⟩
      case measure => simp [intOf]; omega
    · have g1 : decide ((k : Int) < (A : Int)) = false := by simp; omega
      have g2 : decide (k < A) = false := by simp; omega
      obtain rfl : k = A := by omega
      have q2 : ¬ 9223372036854775807 < (bl k).size + t.size := by omega
      have hsz2 : (bl k ++ t).size ≤ 320 := by rw [ByteArray.size_append]; omega
      have hpp := ahead_torn_parse k t (by omega) ht
      rw [Int.natCast_add] at hpp
      have KN := Lib.hid (fun W (hW : Tabs W) => parse_no hpp (by omega) W hW)
      unfold PN at KN
      clear hpp e1 ht
      go_wp2_with fail
      refine (KR.out _).mono ?_
      rintro x w2 ⟨rfl, rfl⟩
      go_wp2_with fail
      refine (KN.out _ T1.out).mono ?_
      rintro x w2 ⟨rfl, b2⟩
      have B2 := Lib.hid (B1.out.then b2); clear b2
      go_wp2_with fail
      refine (KR.out _).mono ?_
      rintro x w3 ⟨rfl, rfl⟩
      go_wp2_with fail
      go_ret
      exact ⟨rfl, B2.out⟩
theorem words_full (t : ByteArray) : ∀ p ∈ wordsOf t, 0 < p.1.size ∧ p.1.size ≤ t.size := by
  intro p hp
  unfold wordsOf at hp
  obtain ⟨q, hq, rfl⟩ := List.mem_map.1 hp
  have := wordsAt_in t 0 q hq
  have e := ext_size t q.1 q.2 this.2.2
  simp only
  omega
theorem place_in {t : ByteArray} {o : Option Cmd} {i e : Int} (h : parseV t = (o, i, e)) (he : e ≠ 0) (ht : t.size ≤ 65536) : 0 ≤ i ∧ i ≤ 65536 := by
  unfold parseV at h
  rw [if_neg (by omega)] at h
  cases hq : tornAt t 0 with
  | some j =>
    rw [hq] at h
    have := tornAt_le t 0 j hq
    simp only [Prod.mk.injEq] at h
    omega
  | none =>
    rw [hq] at h
    simp only at h
    split at h
    · simp only [Prod.mk.injEq] at h; omega
    · rename_i hl
      have hs : Sim (fun x y => 0 ≤ x ∧ x ≤ 65536) (wordsOf t) t.size (wordsOf t) t.size := by
        refine ⟨rfl, fun k p p' hp hp' => ?_, by omega⟩
        rw [hp] at hp'; cases hp'
        have := wordsOf_in t p (List.mem_of_getElem? hp)
        exact ⟨rfl, by omega⟩
      have := (told_sim hs hl).2.2
      rw [h] at this
      exact this he
set_option maxRecDepth 100000 in
set_option maxHeartbeats 8000000 in
theorem blanks_none0 (s : ByteArray) (xa xb : Int) (w : World) (hT : Tabs w) (ht : tornAt (s.extract 0 (min (s.size : Int) 300).toNat) 0 = none) (i e : Int) (hp : parseV (s.extract 0 (min (s.size : Int) 300).toNat) = (none, i, e)) (he : e = 0) : Calls Tryd.prog 5 #[.string s, .int .i64 xa, .int .i64 xb] w fun e w' => e = .returned (.bool true) ∧ Below w.heap.size w w' := by
  have KS := Lib.hid (shown_any w hT)
  have HT := Lib.hid hT
  have hs1 := cut_size s 300
  have ha0 := and_65535 xa
  have hb0 := and_65535 xb
  obtain ⟨X, hX⟩ : ∃ X : Nat, (xa % 65536).toNat = X := ⟨_, rfl⟩
  obtain ⟨Y, hY⟩ : ∃ Y : Nat, (xb % 65536).toNat = Y := ⟨_, rfl⟩
  rw [hX] at ha0
  rw [hY] at hb0
  clear hX hY
  obtain ⟨A, hA⟩ : ∃ A : Nat, X % 21 = A := ⟨_, rfl⟩
  obtain ⟨B, hB⟩ : ∃ B : Nat, Y % 21 = B := ⟨_, rfl⟩
  have hra : (X : Int) % 21 = (A : Int) := by omega
  have hrb : (Y : Int) % 21 = (B : Int) := by omega
  have hA21 : A < 21 := by omega
  have hB21 : B < 21 := by omega
  clear hT hA hB
  go_enter Tryd.func5, Tryd.ntmps5
  go_wp2_with fail
  refine KS.out.mono ?_
  rintro x w1 ⟨rfl, b1⟩
  have T1 := Lib.hid (HT.out.below b1); have B1 := Lib.hid b1; clear b1
  go_wp2_with fail
  rw [hra, hrb]
  clear ha0 hb0 hra hrb
  generalize s.extract 0 (min (s.size : Int) 300).toNat = t at *
  have KR := Lib.hid (fun w => rtorn_any t w (by omega))
  have e1 : tornI t = -1 := by unfold tornI; rw [ht]
  simp only [e1] at KR
  have KW := Lib.hid (fun w => rwords_any t w (by omega))
  unfold RWPost at KW
  go_loop [8, 9] (fun u8 u9 => ∃ k : Nat, k ≤ A ∧ u8 = .string (bl k) ∧ u9 = .int .i64 k) (fun _ u9 => A - (intOf u9).toNat)
  case atStart => exact ⟨0, by omega, rfl, rfl⟩
  case round =>
    obtain ⟨k, hk, rfl, rfl⟩ := hrel
    have hbk := bl_size k
    by_cases hlt : k < A
    · have g1 : decide ((k : Int) < (A : Int)) = true := by simp; omega
      have g2 : decide (k < A) = true := by simp; omega
      have q1 : ¬ 9223372036854775807 < (bl k).size + 1 := by omega
      go_wp2_with fail
      go_round
      case rel => exact ⟨k + 1, by omega, rfl, by go_num⟩
      case measure => simp [intOf]; omega
    · have g1 : decide ((k : Int) < (A : Int)) = false := by simp; omega
      have g2 : decide (k < A) = false := by simp; omega
      obtain rfl : k = A := by omega
      have q2 : ¬ 9223372036854775807 < (bl k).size + t.size := by omega
      have hsz2 : (bl k ++ t).size ≤ 320 := by rw [ByteArray.size_append]; omega
      have hap := ahead_parse k t (by omega) ht
      rw [hp] at hap
      obtain ⟨⟨o2, i2, e2⟩, hp2⟩ : ∃ r, parseV (bl k ++ t) = r := ⟨_, rfl⟩
      rw [hp2] at hap
      obtain ⟨r1, r2, r3⟩ := hap
      simp only at r1 r2 r3
      subst r1 r2
      subst he
      clear r3
      have K1 := Lib.hid (fun W (hW : Tabs W) => parse_no hp (by omega) W hW)
      have K2 := Lib.hid (fun W (hW : Tabs W) => parse_no hp2 (by omega) W hW)
      unfold PN at K1 K2
      have htS : tornAt (bl k ++ t) 0 = none := by rw [ahead_torn, ht]; rfl
      have hwS := ahead_wordS k t
      have HP := Lib.hid (And.intro hp2 (And.intro htS hwS))
      clear hp hp2 ht e1 htS hwS
      go_wp2_with fail
      refine (KR.out _).mono ?_
      rintro x w2 ⟨rfl, rfl⟩
      generalize bl k ++ t = S at *
      go_wp2_with fail
      refine (K1.out _ T1.out).mono ?_
      rintro x w2 ⟨rfl, b2⟩
      have T2 := Lib.hid (T1.out.below b2); have B2 := Lib.hid (B1.out.then b2); clear b2
      go_wp2_with fail
      refine (K2.out _ T2.out).mono ?_
      rintro x w3 ⟨rfl, b3⟩
      have T3 := Lib.hid (T2.out.below b3); have B3 := Lib.hid (B2.out.then b3); clear b3
      go_wp2_with fail
      go_quiet (fail)
      go_wp2_with fail
      go_loop [8, 19] (fun u8 u19 => ∃ n : Nat, n ≤ B ∧ u8 = .string (S ++ bl n) ∧ u19 = .int .i64 n) (fun _ u19 => B - (intOf u19).toNat)
      case atStart => exact ⟨0, by omega, congrArg Value.string (bl_zero S), rfl⟩
      case round =>
        obtain ⟨n, hn, rfl, rfl⟩ := hrel
        have hbn := bl_size n
        have hsz3 : (S ++ bl n).size ≤ 340 := by rw [ByteArray.size_append]; omega
        by_cases hlt2 : n < B
        · have g3 : decide ((n : Int) < (B : Int)) = true := by simp; omega
          have g4 : decide (n < B) = true := by simp; omega
          have q3 : ¬ 9223372036854775807 < (S ++ bl n).size + 1 := by omega
          have q4 : ¬ 9223372036854775807 < S.size + (bl n).size + 1 := by omega
          go_wp2_with fail
          go_round
          case rel => exact ⟨n + 1, by omega, congrArg Value.string (bl_more S n), by go_num⟩
          case measure => simp [intOf]; omega
        · have g3 : decide ((n : Int) < (B : Int)) = false := by simp; omega
          have g4 : decide (n < B) = false := by simp; omega
          have hfw := wordsOf_fst t
          have hne := words_full t
          have hlen := wordsOf_len t
          have hs3 : t.size ≤ 300 := hs1
          obtain ⟨L, hL⟩ : ∃ L, wordsOf t = L := ⟨_, rfl⟩
          rw [hL] at KW hfw hne hlen
          clear hL
          go_wp2_with fail
          refine (KW.out _).mono ?_
          rintro x w4 ⟨a4, c4, rfl, hrow, b4⟩
          have T4 := Lib.hid ((T3.out.below (below_drewN (Below.refl _ _) _)).below b4); have B4 := Lib.hid ((below_drewN B3.out _).then b4); clear b4
          by_cases hl0 : L = []
          · subst hl0
            have HSH := Lib.hid (show ∀ w, (wordS S 0).getLast? = some w → Shut w from fun w hw => by rw [HP.out.2.2, ← hfw] at hw; cases hw)
            clear hrow hne hfw
            simp only [List.length_nil]
            have hbp := behind_parse n S (by omega) HP.out.2.1 HSH.out
            rw [HP.out.1] at hbp
            obtain ⟨⟨o3, i3, e3⟩, hp3⟩ : ∃ r, parseV (S ++ bl n) = r := ⟨_, rfl⟩
            rw [hp3] at hbp
            obtain ⟨r1, r2⟩ := hbp
            simp only at r1 r2
            subst r1 r2
            have K3 := Lib.hid (fun W (hW : Tabs W) => parse_no hp3 (by omega) W hW)
            unfold PN at K3
            clear hp3 HP HSH
            go_wp2_with fail
            refine (K3.out _ T4.out).mono ?_
            rintro x w6 ⟨rfl, b6⟩
            have B6 := Lib.hid (B4.out.then b6); clear b6
            go_wp2_with fail
            go_quiet (fail)
            go_wp2_with fail
            go_ret
            exact ⟨rfl, below_drewN B6.out _⟩
          · have hlp := List.length_pos_iff.2 hl0
            obtain ⟨p, hpp⟩ : ∃ p, L[L.length - 1]? = some p := ⟨L[L.length - 1], List.getElem?_eq_getElem (by omega)⟩
            obtain ⟨g, rfl, hcell⟩ := hrow.cell hpp
            have hps := hne p (List.mem_of_getElem? hpp)
            have hlast : L.getLast? = some p := by rw [List.getLast?_eq_getElem?]; exact hpp
            have hlw : (wordS S 0).getLast? = some p.1 := by rw [HP.out.2.2, ← hfw, List.getLast?_map, hlast]; rfl
            obtain ⟨y, z⟩ := p
            simp only at hcell hps hlw
            have hb := bAt_get y 0 hps.1
            have hin0 : (0 : Int) < (y.size : Int) := by omega
            have HLW := Lib.hid hlw
            have KNM := Lib.hid (fun W => rnamed_any y W (by omega))
            clear hrow hne hfw hpp hlast hlw hl0
            generalize L.length = m at *
            have gm : decide ((0 : Int) < (m : Int)) = true := by simp; omega
            have gm2 : decide (0 < m) = true := by simp; omega
            have hc1 : ((m : Int) - 1) = ((m - 1 : Nat) : Int) := by omega
            have hc2 : ((m - 1 : Nat) : Int) < (m : Int) := by omega
            have hmle : m ≤ 1048576 := by omega
            have hc3 : (0 : Int) ≤ ((m - 1 : Nat) : Int) := by omega
            obtain ⟨b0, hb0⟩ : ∃ b0, bAt y 0 = b0 := ⟨_, rfl⟩
            rw [hb0] at hb
            by_cases h34 : b0 = 34
            · subst h34
              cases hnb : namedB y with
              | true =>
                have HSH := Lib.hid (show ∀ w, (wordS S 0).getLast? = some w → Shut w from fun w hw => by rw [HLW.out] at hw; cases hw; exact .inr hnb)
                rw [hnb] at KNM
                clear hnb HLW hb0
                go_wp2_with fail
                refine (KNM.out _).mono ?_
                rintro x w5 ⟨rfl, rfl⟩
                have hbp := behind_parse n S (by omega) HP.out.2.1 HSH.out
                rw [HP.out.1] at hbp
                obtain ⟨⟨o3, i3, e3⟩, hp3⟩ : ∃ r, parseV (S ++ bl n) = r := ⟨_, rfl⟩
                rw [hp3] at hbp
                obtain ⟨r1, r2⟩ := hbp
                simp only at r1 r2
                subst r1 r2
                have K3 := Lib.hid (fun W (hW : Tabs W) => parse_no hp3 (by omega) W hW)
                unfold PN at K3
                clear hp3 HP HSH
                go_wp2_with fail
                refine (K3.out _ T4.out).mono ?_
                rintro x w6 ⟨rfl, b6⟩
                have B6 := Lib.hid (B4.out.then b6); clear b6
                go_wp2_with fail
                go_quiet (fail)
                go_wp2_with fail
                go_ret
                exact ⟨rfl, below_drewN B6.out _⟩
              | false =>
                rw [hnb] at KNM
                clear hnb HLW hb0
                go_wp2_with fail
                refine (KNM.out _).mono ?_
                rintro x w5 ⟨rfl, rfl⟩
                have K3 := Lib.hid (fun W (hW : Tabs W) => parse_any (S ++ bl n) W (by omega) hW)
                unfold PV at K3
                generalize parseV (S ++ bl n) = r at *
                obtain ⟨o3, i3, e3⟩ := r
                clear HP
                go_wp2_with fail
                refine (K3.out _ T4.out).mono ?_
                rintro x w6 ⟨v, rfl, _, b6⟩
                have B6 := Lib.hid (B4.out.then b6); clear b6
                go_wp2_with fail
                go_quiet (fail)
                go_wp2_with fail
                go_ret
                exact ⟨rfl, below_drewN B6.out _⟩
            · have HSH := Lib.hid (show ∀ w, (wordS S 0).getLast? = some w → Shut w from fun w hw => by rw [HLW.out] at hw; cases hw; exact .inl (by rw [hb0]; exact h34))
              have g34 : ((b0 : Int) == 34) = false := by simp; omega
              clear HLW hb0 h34
              have hbp := behind_parse n S (by omega) HP.out.2.1 HSH.out
              rw [HP.out.1] at hbp
              obtain ⟨⟨o3, i3, e3⟩, hp3⟩ : ∃ r, parseV (S ++ bl n) = r := ⟨_, rfl⟩
              rw [hp3] at hbp
              obtain ⟨r1, r2⟩ := hbp
              simp only at r1 r2
              subst r1 r2
              have K3 := Lib.hid (fun W (hW : Tabs W) => parse_no hp3 (by omega) W hW)
              unfold PN at K3
              clear hp3 HP HSH
              go_wp2_with fail
              refine (K3.out _ T4.out).mono ?_
              rintro x w6 ⟨rfl, b6⟩
              have B6 := Lib.hid (B4.out.then b6); clear b6
              go_wp2_with fail
              go_quiet (fail)
              go_wp2_with fail
              go_ret
              exact ⟨rfl, below_drewN B6.out _⟩
set_option maxRecDepth 100000 in
set_option maxHeartbeats 8000000 in
theorem blanks_none1 (s : ByteArray) (xa xb : Int) (w : World) (hT : Tabs w) (ht : tornAt (s.extract 0 (min (s.size : Int) 300).toNat) 0 = none) (i e : Int) (hp : parseV (s.extract 0 (min (s.size : Int) 300).toNat) = (none, i, e)) (he : e ≠ 0) : Calls Tryd.prog 5 #[.string s, .int .i64 xa, .int .i64 xb] w fun e w' => e = .returned (.bool true) ∧ Below w.heap.size w w' := by
  have KS := Lib.hid (shown_any w hT)
  have HT := Lib.hid hT
  have hs1 := cut_size s 300
  have ha0 := and_65535 xa
  have hb0 := and_65535 xb
  obtain ⟨X, hX⟩ : ∃ X : Nat, (xa % 65536).toNat = X := ⟨_, rfl⟩
  obtain ⟨Y, hY⟩ : ∃ Y : Nat, (xb % 65536).toNat = Y := ⟨_, rfl⟩
  rw [hX] at ha0
  rw [hY] at hb0
  clear hX hY
  obtain ⟨A, hA⟩ : ∃ A : Nat, X % 21 = A := ⟨_, rfl⟩
  obtain ⟨B, hB⟩ : ∃ B : Nat, Y % 21 = B := ⟨_, rfl⟩
  have hra : (X : Int) % 21 = (A : Int) := by omega
  have hrb : (Y : Int) % 21 = (B : Int) := by omega
  have hA21 : A < 21 := by omega
  have hB21 : B < 21 := by omega
  clear hT hA hB
  go_enter Tryd.func5, Tryd.ntmps5
  go_wp2_with fail
  refine KS.out.mono ?_
  rintro x w1 ⟨rfl, b1⟩
  have T1 := Lib.hid (HT.out.below b1); have B1 := Lib.hid b1; clear b1
  go_wp2_with fail
  rw [hra, hrb]
  clear ha0 hb0 hra hrb
  generalize s.extract 0 (min (s.size : Int) 300).toNat = t at *
  have KR := Lib.hid (fun w => rtorn_any t w (by omega))
  have e1 : tornI t = -1 := by unfold tornI; rw [ht]
  simp only [e1] at KR
  have KW := Lib.hid (fun w => rwords_any t w (by omega))
  unfold RWPost at KW
  go_loop [8, 9] (fun u8 u9 => ∃ k : Nat, k ≤ A ∧ u8 = .string (bl k) ∧ u9 = .int .i64 k) (fun _ u9 => A - (intOf u9).toNat)
  case atStart => exact ⟨0, by omega, rfl, rfl⟩
  case round =>
    obtain ⟨k, hk, rfl, rfl⟩ := hrel
    have hbk := bl_size k
    by_cases hlt : k < A
    · have g1 : decide ((k : Int) < (A : Int)) = true := by simp; omega
      have g2 : decide (k < A) = true := by simp; omega
      have q1 : ¬ 9223372036854775807 < (bl k).size + 1 := by omega
      go_wp2_with fail
      go_round
      case rel => exact ⟨k + 1, by omega, rfl, by go_num⟩
      case measure => simp [intOf]; omega
    · have g1 : decide ((k : Int) < (A : Int)) = false := by simp; omega
      have g2 : decide (k < A) = false := by simp; omega
      obtain rfl : k = A := by omega
      have q2 : ¬ 9223372036854775807 < (bl k).size + t.size := by omega
      have hsz2 : (bl k ++ t).size ≤ 320 := by rw [ByteArray.size_append]; omega
      have hap := ahead_parse k t (by omega) ht
      rw [hp] at hap
      obtain ⟨⟨o2, i2, e2⟩, hp2⟩ : ∃ r, parseV (bl k ++ t) = r := ⟨_, rfl⟩
      rw [hp2] at hap
      obtain ⟨r1, r2, r3⟩ := hap
      simp only at r1 r2 r3
      subst r1 r2
      have hi2 := r3 he
      have hpl := place_in hp he (by omega)
      have he1 : decide (e2 = 0) = false := by simpa using he
      have he2 : (e2 != 0) = true := by simpa using he
      have he3 : (e2 == 0) = false := by simpa using he
      subst hi2
      clear r3
      have K1 := Lib.hid (fun W (hW : Tabs W) => parse_no hp (by omega) W hW)
      have K2 := Lib.hid (fun W (hW : Tabs W) => parse_no hp2 (by omega) W hW)
      unfold PN at K1 K2
      have htS : tornAt (bl k ++ t) 0 = none := by rw [ahead_torn, ht]; rfl
      have hwS := ahead_wordS k t
      have HP := Lib.hid (And.intro hp2 (And.intro htS hwS))
      clear hp hp2 ht e1 htS hwS
      go_wp2_with fail
      refine (KR.out _).mono ?_
      rintro x w2 ⟨rfl, rfl⟩
      generalize bl k ++ t = S at *
      go_wp2_with fail
      refine (K1.out _ T1.out).mono ?_
      rintro x w2 ⟨rfl, b2⟩
      have T2 := Lib.hid (T1.out.below b2); have B2 := Lib.hid (B1.out.then b2); clear b2
      go_wp2_with fail
      refine (K2.out _ T2.out).mono ?_
      rintro x w3 ⟨rfl, b3⟩
      have T3 := Lib.hid (T2.out.below b3); have B3 := Lib.hid (B2.out.then b3); clear b3
      go_wp2_with fail
      go_quiet (fail)
      go_wp2_with fail
      go_loop [8, 19] (fun u8 u19 => ∃ n : Nat, n ≤ B ∧ u8 = .string (S ++ bl n) ∧ u19 = .int .i64 n) (fun _ u19 => B - (intOf u19).toNat)
      case atStart => exact ⟨0, by omega, congrArg Value.string (bl_zero S), rfl⟩
      case round =>
        obtain ⟨n, hn, rfl, rfl⟩ := hrel
        have hbn := bl_size n
        have hsz3 : (S ++ bl n).size ≤ 340 := by rw [ByteArray.size_append]; omega
        by_cases hlt2 : n < B
        · have g3 : decide ((n : Int) < (B : Int)) = true := by simp; omega
          have g4 : decide (n < B) = true := by simp; omega
          have q3 : ¬ 9223372036854775807 < (S ++ bl n).size + 1 := by omega
          have q4 : ¬ 9223372036854775807 < S.size + (bl n).size + 1 := by omega
          go_wp2_with fail
          go_round
          case rel => exact ⟨n + 1, by omega, congrArg Value.string (bl_more S n), by go_num⟩
          case measure => simp [intOf]; omega
        · have g3 : decide ((n : Int) < (B : Int)) = false := by simp; omega
          have g4 : decide (n < B) = false := by simp; omega
          have hfw := wordsOf_fst t
          have hne := words_full t
          have hlen := wordsOf_len t
          have hs3 : t.size ≤ 300 := hs1
          obtain ⟨L, hL⟩ : ∃ L, wordsOf t = L := ⟨_, rfl⟩
          rw [hL] at KW hfw hne hlen
          clear hL
          go_wp2_with fail
          refine (KW.out _).mono ?_
          rintro x w4 ⟨a4, c4, rfl, hrow, b4⟩
          have T4 := Lib.hid ((T3.out.below (below_drewN (Below.refl _ _) _)).below b4); have B4 := Lib.hid ((below_drewN B3.out _).then b4); clear b4
          by_cases hl0 : L = []
          · subst hl0
            have HSH := Lib.hid (show ∀ w, (wordS S 0).getLast? = some w → Shut w from fun w hw => by rw [HP.out.2.2, ← hfw] at hw; cases hw)
            clear hrow hne hfw
            simp only [List.length_nil]
            have hbp := behind_parse n S (by omega) HP.out.2.1 HSH.out
            rw [HP.out.1] at hbp
            obtain ⟨⟨o3, i3, e3⟩, hp3⟩ : ∃ r, parseV (S ++ bl n) = r := ⟨_, rfl⟩
            rw [hp3] at hbp
            obtain ⟨r1, r2⟩ := hbp
            simp only at r1 r2
            subst r1 r2
            have K3 := Lib.hid (fun W (hW : Tabs W) => parse_no hp3 (by omega) W hW)
            unfold PN at K3
            clear hp3 HP HSH
            go_wp2_with fail
            refine (K3.out _ T4.out).mono ?_
            rintro x w6 ⟨rfl, b6⟩
            have B6 := Lib.hid (B4.out.then b6); clear b6
            go_wp2_with fail
            go_quiet (fail)
            go_wp2_with fail
            go_ret
            exact ⟨rfl, below_drewN B6.out _⟩
          · have hlp := List.length_pos_iff.2 hl0
            obtain ⟨p, hpp⟩ : ∃ p, L[L.length - 1]? = some p := ⟨L[L.length - 1], List.getElem?_eq_getElem (by omega)⟩
            obtain ⟨g, rfl, hcell⟩ := hrow.cell hpp
            have hps := hne p (List.mem_of_getElem? hpp)
            have hlast : L.getLast? = some p := by rw [List.getLast?_eq_getElem?]; exact hpp
            have hlw : (wordS S 0).getLast? = some p.1 := by rw [HP.out.2.2, ← hfw, List.getLast?_map, hlast]; rfl
            obtain ⟨y, z⟩ := p
            simp only at hcell hps hlw
            have hb := bAt_get y 0 hps.1
            have hin0 : (0 : Int) < (y.size : Int) := by omega
            have HLW := Lib.hid hlw
            have KNM := Lib.hid (fun W => rnamed_any y W (by omega))
            clear hrow hne hfw hpp hlast hlw hl0
            generalize L.length = m at *
            have gm : decide ((0 : Int) < (m : Int)) = true := by simp; omega
            have gm2 : decide (0 < m) = true := by simp; omega
            have hc1 : ((m : Int) - 1) = ((m - 1 : Nat) : Int) := by omega
            have hc2 : ((m - 1 : Nat) : Int) < (m : Int) := by omega
            have hmle : m ≤ 1048576 := by omega
            have hc3 : (0 : Int) ≤ ((m - 1 : Nat) : Int) := by omega
            obtain ⟨b0, hb0⟩ : ∃ b0, bAt y 0 = b0 := ⟨_, rfl⟩
            rw [hb0] at hb
            by_cases h34 : b0 = 34
            · subst h34
              cases hnb : namedB y with
              | true =>
                have HSH := Lib.hid (show ∀ w, (wordS S 0).getLast? = some w → Shut w from fun w hw => by rw [HLW.out] at hw; cases hw; exact .inr hnb)
                rw [hnb] at KNM
                clear hnb HLW hb0
                go_wp2_with fail
                refine (KNM.out _).mono ?_
                rintro x w5 ⟨rfl, rfl⟩
                have hbp := behind_parse n S (by omega) HP.out.2.1 HSH.out
                rw [HP.out.1] at hbp
                obtain ⟨⟨o3, i3, e3⟩, hp3⟩ : ∃ r, parseV (S ++ bl n) = r := ⟨_, rfl⟩
                rw [hp3] at hbp
                obtain ⟨r1, r2⟩ := hbp
                simp only at r1 r2
                subst r1 r2
                have K3 := Lib.hid (fun W (hW : Tabs W) => parse_no hp3 (by omega) W hW)
                unfold PN at K3
                clear hp3 HP HSH
                go_wp2_with fail
                refine (K3.out _ T4.out).mono ?_
                rintro x w6 ⟨rfl, b6⟩
                have B6 := Lib.hid (B4.out.then b6); clear b6
                go_wp2_with fail
                go_quiet (fail)
                go_wp2_with fail
                go_ret
                exact ⟨rfl, below_drewN B6.out _⟩
              | false =>
                rw [hnb] at KNM
                clear hnb HLW hb0
                go_wp2_with fail
                refine (KNM.out _).mono ?_
                rintro x w5 ⟨rfl, rfl⟩
                have K3 := Lib.hid (fun W (hW : Tabs W) => parse_any (S ++ bl n) W (by omega) hW)
                unfold PV at K3
                generalize parseV (S ++ bl n) = r at *
                obtain ⟨o3, i3, e3⟩ := r
                clear HP
                go_wp2_with fail
                refine (K3.out _ T4.out).mono ?_
                rintro x w6 ⟨v, rfl, _, b6⟩
                have B6 := Lib.hid (B4.out.then b6); clear b6
                go_wp2_with fail
                go_quiet (fail)
                go_wp2_with fail
                go_ret
                exact ⟨rfl, below_drewN B6.out _⟩
            · have HSH := Lib.hid (show ∀ w, (wordS S 0).getLast? = some w → Shut w from fun w hw => by rw [HLW.out] at hw; cases hw; exact .inl (by rw [hb0]; exact h34))
              have g34 : ((b0 : Int) == 34) = false := by simp; omega
              clear HLW hb0 h34
              have hbp := behind_parse n S (by omega) HP.out.2.1 HSH.out
              rw [HP.out.1] at hbp
              obtain ⟨⟨o3, i3, e3⟩, hp3⟩ : ∃ r, parseV (S ++ bl n) = r := ⟨_, rfl⟩
              rw [hp3] at hbp
              obtain ⟨r1, r2⟩ := hbp
              simp only at r1 r2
              subst r1 r2
              have K3 := Lib.hid (fun W (hW : Tabs W) => parse_no hp3 (by omega) W hW)
              unfold PN at K3
              clear hp3 HP HSH
              go_wp2_with fail
              refine (K3.out _ T4.out).mono ?_
              rintro x w6 ⟨rfl, b6⟩
              have B6 := Lib.hid (B4.out.then b6); clear b6
              go_wp2_with fail
              go_quiet (fail)
              go_wp2_with fail
              go_ret
              exact ⟨rfl, below_drewN B6.out _⟩
end Go.Proofs.YtjhlpmigkbaegaaDoor
