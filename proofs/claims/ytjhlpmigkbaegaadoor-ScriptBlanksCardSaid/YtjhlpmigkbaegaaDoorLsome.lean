/- ScriptBlanks walked. -/
import Derived.Test.YtjhlpmigkbaegaaDoorLblank
import Derived.Lib.QuietBelow
import Derived.BigQuiet
import Derived.Deep.DeepCutAuto
namespace Go.Proofs.YtjhlpmigkbaegaaDoor
open Go.RowKit
set_option linter.unusedVariables false
theorem arm_of {c : Cmd} {w3 : World} {v : Value} {x : ByteArray} (hx : textC c = x) (hT : Tabs w3) (hv : CmdV w3 v c) (KT : ∀ W, Tabs W → ∀ v, CmdV W v c → Calls Tryd.prog 11 #[v] W (fun e w' => e = .returned (.string (textC c)) ∧ Below W.heap.size W w')) :
    Hid (∀ d os, Calls Tryd.prog 11 #[v] (Sort.grow (redrawn w3 d) os) fun e w'' => e = .returned (.string x) ∧ ∃ p : Regrown, w'' = Sort.grow (redrawn w3 p.d) p.os) :=
  Lib.hid (fun d os => by subst hx; exact Calls.regrown_of (KT _ (hT.below (below_regrown w3 d os)) v (CmdV.below hv (below_regrown w3 d os))))
set_option maxRecDepth 100000 in
set_option maxHeartbeats 8000000 in
theorem blanks_some (s : ByteArray) (xa xb : Int) (w : World) (hT : Tabs w) (ht : tornAt (s.extract 0 (min (s.size : Int) 300).toNat) 0 = none) (i e : Int) (c : Cmd) (T : TypeId) (fn : FuncId) (hk0 : Kind T fn c) (hp : parseV (s.extract 0 (min (s.size : Int) 300).toNat) = (some c, i, e)) : Calls Tryd.prog 5 #[.string s, .int .i64 xa, .int .i64 xb] w fun e w' => e = .returned (.bool true) ∧ Below w.heap.size w w' := by
  have KS := Lib.hid (shown_any w hT)
  have HT := Lib.hid hT
  have hs1 := cut_size s 300
  have ha0 := and_65535 xa
  have hb0 := and_65535 xb
  obtain ⟨X, hX⟩ : ∃ X : Nat, (xa % 65536).toNat = X := ⟨_, rfl⟩
  obtain ⟨Y, hY⟩ : ∃ Y : Nat, (xb % 65536).toNat = Y := ⟨_, rfl⟩
  rw [hX] at ha0
  rw [hY] at hb0
  clear hX hY
  obtain ⟨A, hA⟩ : ∃ A : Nat, X % 21 = A := ⟨_, rfl⟩
  obtain ⟨B, hB⟩ : ∃ B : Nat, Y % 21 = B := ⟨_, rfl⟩
  have hra : (X : Int) % 21 = (A : Int) := by omega
  have hrb : (Y : Int) % 21 = (B : Int) := by omega
  have hA21 : A < 21 := by omega
  have hB21 : B < 21 := by omega
  clear hT hA hB
  go_enter Tryd.func5, Tryd.ntmps5
  go_wp2_with fail
  refine KS.out.mono ?_
  rintro x w1 ⟨rfl, b1⟩
  have T1 := Lib.hid (HT.out.below b1); have B1 := Lib.hid b1; clear b1
  go_wp2_with fail
  rw [hra, hrb]
  clear ha0 hb0 hra hrb
  generalize s.extract 0 (min (s.size : Int) 300).toNat = t at *
  have KR := Lib.hid (fun w => rtorn_any t w (by omega))
  have e1 : tornI t = -1 := by unfold tornI; rw [ht]
  simp only [e1] at KR
  have KW := Lib.hid (fun w => rwords_any t w (by omega))
  unfold RWPost at KW
  go_loop [8, 9] (fun u8 u9 => ∃ k : Nat, k ≤ A ∧ u8 = .string (bl k) ∧ u9 = .int .i64 k) (fun _ u9 => A - (intOf u9).toNat)
  case atStart => exact ⟨0, by omega, rfl, rfl⟩
  case round =>
    obtain ⟨k, hk, rfl, rfl⟩ := hrel
    have hbk := bl_size k
    by_cases hlt : k < A
    · have g1 : decide ((k : Int) < (A : Int)) = true := by simp; omega
      have g2 : decide (k < A) = true := by simp; omega
      have q1 : ¬ 9223372036854775807 < (bl k).size + 1 := by omega
      go_wp2_with fail
      go_round
      case rel => exact ⟨k + 1, by omega, rfl, by go_num⟩
      case measure => simp [intOf]; omega
    · have g1 : decide ((k : Int) < (A : Int)) = false := by simp; omega
      have g2 : decide (k < A) = false := by simp; omega
      obtain rfl : k = A := by omega
      have q2 : ¬ 9223372036854775807 < (bl k).size + t.size := by omega
      have hsz2 : (bl k ++ t).size ≤ 320 := by rw [ByteArray.size_append]; omega
      have hap := ahead_parse k t (by omega) ht
      rw [hp] at hap
      obtain ⟨⟨o2, i2, e2⟩, hp2⟩ : ∃ r, parseV (bl k ++ t) = r := ⟨_, rfl⟩
      rw [hp2] at hap
      obtain ⟨r1, r2, r3⟩ := hap
      simp only at r1 r2 r3
      obtain ⟨he, hok, _⟩ := back hp
      subst r1 r2 he
      clear r3
      have K1 := Lib.hid (fun W (hW : Tabs W) => parse_yes hk0 hp (by omega) W hW)
      have K2 := Lib.hid (fun W (hW : Tabs W) => parse_yes hk0 hp2 (by omega) W hW)
      have KT := Lib.hid (fun W (hT : Tabs W) v (hv : CmdV W v c) => text_cmd W hT v c hv hok)
      unfold PY at K1 K2
      unfold TPost at KT
      have htS : tornAt (bl k ++ t) 0 = none := by rw [ahead_torn, ht]; rfl
      have hwS := ahead_wordS k t
      have HP := Lib.hid (And.intro hp2 (And.intro htS hwS))
      clear hp hp2 ht e1 htS hwS
      go_wp2_with fail
      refine (KR.out _).mono ?_
      rintro x w2 ⟨rfl, rfl⟩
      generalize bl k ++ t = S at *
      go_wp2_with fail
      refine (K1.out _ T1.out).mono ?_
      rintro x w2 ⟨ux, rfl, hv, b2, _⟩
      have T2 := Lib.hid (T1.out.below b2); have B2 := Lib.hid (B1.out.then b2); clear b2
      go_wp2_with fail
      refine (K2.out _ T2.out).mono ?_
      rintro x w3 ⟨uy, rfl, hv2, b3, _⟩
      have T3 := Lib.hid (T2.out.below b3); have B3 := Lib.hid (B2.out.then b3)
      have HV1 := Lib.hid (CmdV.below hv b3)
      have HV2 := Lib.hid hv2
      clear b3 hv hv2
      obtain ⟨X, hX⟩ : ∃ X, textC c = X := ⟨_, rfl⟩
      have KX := arm_of hX T3.out HV1.out KT.out
      have KY := arm_of hX T3.out HV2.out KT.out
      clear HV2
      go_upto_region 16 with fail
      refine wp_region_quiet_below (by kernel_rfl) (by kernel_rfl) ?_
      repeat (go_big_quiet_step (first | with_reducible exact KX.out _ _ | with_reducible exact KY.out _ _))
      refine wpQuiet_nil ?_
      intro _ hw'
      obtain ⟨⟨dq, osq⟩, hw''⟩ := hw'
      subst hw''
      clear KX KY
      have hb := below_regrown w3 dq osq
      have T3 := Lib.hid (T3.out.below hb)
      have B3 := Lib.hid (B3.out.then hb)
      have HV1 := Lib.hid (CmdV.below HV1.out hb)
      generalize Sort.grow (redrawn w3 dq) osq = wc at *
      clear hb
      go_wp2_with fail
      go_loop [8, 19] (fun u8 u19 => ∃ n : Nat, n ≤ B ∧ u8 = .string (S ++ bl n) ∧ u19 = .int .i64 n) (fun _ u19 => B - (intOf u19).toNat)
      case atStart => exact ⟨0, by omega, congrArg Value.string (bl_zero S), rfl⟩
      case round =>
        obtain ⟨n, hn, rfl, rfl⟩ := hrel
        have hbn := bl_size n
        have hsz3 : (S ++ bl n).size ≤ 340 := by rw [ByteArray.size_append]; omega
        by_cases hlt2 : n < B
        · have g3 : decide ((n : Int) < (B : Int)) = true := by simp; omega
          have g4 : decide (n < B) = true := by simp; omega
          have q3 : ¬ 9223372036854775807 < (S ++ bl n).size + 1 := by omega
          have q4 : ¬ 9223372036854775807 < S.size + (bl n).size + 1 := by omega
          go_wp2_with fail
          go_round
          case rel => exact ⟨n + 1, by omega, congrArg Value.string (bl_more S n), by go_num⟩
          case measure => simp [intOf]; omega
        · have g3 : decide ((n : Int) < (B : Int)) = false := by simp; omega
          have g4 : decide (n < B) = false := by simp; omega
          have hfw := wordsOf_fst t
          have hne := words_full t
          have hlen := wordsOf_len t
          have hs3 : t.size ≤ 300 := hs1
          obtain ⟨L, hL⟩ : ∃ L, wordsOf t = L := ⟨_, rfl⟩
          rw [hL] at KW hfw hne hlen
          clear hL
          go_wp2_with fail
          refine (KW.out _).mono ?_
          rintro x w4 ⟨a4, c4, rfl, hrow, b4⟩
          have T4 := Lib.hid (T3.out.below b4); have B4 := Lib.hid (B3.out.then b4); have HV4 := Lib.hid (CmdV.below HV1.out b4); clear b4 HV1
          by_cases hl0 : L = []
          · subst hl0
            have HSH := Lib.hid (show ∀ w, (wordS S 0).getLast? = some w → Shut w from fun w hw => by rw [HP.out.2.2, ← hfw] at hw; cases hw)
            clear hrow hne hfw
            simp only [List.length_nil]
            have hbp := behind_parse n S (by omega) HP.out.2.1 HSH.out
            rw [HP.out.1] at hbp
            obtain ⟨⟨o3, i3, e3⟩, hp3⟩ : ∃ r, parseV (S ++ bl n) = r := ⟨_, rfl⟩
            rw [hp3] at hbp
            obtain ⟨r1, r2⟩ := hbp
            simp only at r1 r2
            subst r1 r2
            have K3 := Lib.hid (fun W (hW : Tabs W) => parse_yes hk0 hp3 (by omega) W hW)
            unfold PY at K3
            clear hp3 HP HSH
            go_wp2_with fail
            refine (K3.out _ T4.out).mono ?_
            rintro x w6 ⟨uz, rfl, hv3, b6, _⟩
            have T6 := Lib.hid (T4.out.below b6)
            have B6 := Lib.hid (B4.out.then b6)
            have KX := arm_of hX T6.out hv3 KT.out
            have KY := arm_of hX T6.out (CmdV.below HV4.out b6) KT.out
            clear b6 hv3 HV4 T4 T6 B4
            go_wp2_with fail
            refine wp_region_quiet_below (by kernel_rfl) (by kernel_rfl) ?_
            repeat (go_big_quiet_step (first | with_reducible exact KX.out _ _ | with_reducible exact KY.out _ _))
            refine wpQuiet_nil ?_
            intro _ hw'
            obtain ⟨⟨dq, osq⟩, hw''⟩ := hw'
            subst hw''
            have hb := below_regrown w6 dq osq
            generalize Sort.grow (redrawn w6 dq) osq = w7 at *
            go_wp2_with fail
            go_ret
            exact ⟨rfl, B6.out.then hb⟩
          · have hlp := List.length_pos_iff.2 hl0
            obtain ⟨p, hpp⟩ : ∃ p, L[L.length - 1]? = some p := ⟨L[L.length - 1], List.getElem?_eq_getElem (by omega)⟩
            obtain ⟨g, rfl, hcell⟩ := hrow.cell hpp
            have hps := hne p (List.mem_of_getElem? hpp)
            have hlast : L.getLast? = some p := by rw [List.getLast?_eq_getElem?]; exact hpp
            have hlw : (wordS S 0).getLast? = some p.1 := by rw [HP.out.2.2, ← hfw, List.getLast?_map, hlast]; rfl
            obtain ⟨y, z⟩ := p
            simp only at hcell hps hlw
            have hb := bAt_get y 0 hps.1
            have hin0 : (0 : Int) < (y.size : Int) := by omega
            have HLW := Lib.hid hlw
            have KNM := Lib.hid (fun W => rnamed_any y W (by omega))
            clear hrow hne hfw hpp hlast hlw hl0
            generalize L.length = m at *
            have gm : decide ((0 : Int) < (m : Int)) = true := by simp; omega
            have gm2 : decide (0 < m) = true := by simp; omega
            have hc1 : ((m : Int) - 1) = ((m - 1 : Nat) : Int) := by omega
            have hc2 : ((m - 1 : Nat) : Int) < (m : Int) := by omega
            have hmle : m ≤ 1048576 := by omega
            have hc3 : (0 : Int) ≤ ((m - 1 : Nat) : Int) := by omega
            obtain ⟨b0, hb0⟩ : ∃ b0, bAt y 0 = b0 := ⟨_, rfl⟩
            rw [hb0] at hb
            by_cases h34 : b0 = 34
            · subst h34
              cases hnb : namedB y with
              | true =>
                have HSH := Lib.hid (show ∀ w, (wordS S 0).getLast? = some w → Shut w from fun w hw => by rw [HLW.out] at hw; cases hw; exact .inr hnb)
                rw [hnb] at KNM
                clear hnb HLW hb0
                go_wp2_with fail
                refine (KNM.out _).mono ?_
                rintro x w5 ⟨rfl, rfl⟩
                have hbp := behind_parse n S (by omega) HP.out.2.1 HSH.out
                rw [HP.out.1] at hbp
                obtain ⟨⟨o3, i3, e3⟩, hp3⟩ : ∃ r, parseV (S ++ bl n) = r := ⟨_, rfl⟩
                rw [hp3] at hbp
                obtain ⟨r1, r2⟩ := hbp
                simp only at r1 r2
                subst r1 r2
                have K3 := Lib.hid (fun W (hW : Tabs W) => parse_yes hk0 hp3 (by omega) W hW)
                unfold PY at K3
                clear hp3 HP HSH
                go_wp2_with fail
                refine (K3.out _ T4.out).mono ?_
                rintro x w6 ⟨uz, rfl, hv3, b6, _⟩
                have T6 := Lib.hid (T4.out.below b6)
                have B6 := Lib.hid (B4.out.then b6)
                have KX := arm_of hX T6.out hv3 KT.out
                have KY := arm_of hX T6.out (CmdV.below HV4.out b6) KT.out
                clear b6 hv3 HV4 T4 T6 B4
                go_wp2_with fail
                refine wp_region_quiet_below (by kernel_rfl) (by kernel_rfl) ?_
                repeat (go_big_quiet_step (first | with_reducible exact KX.out _ _ | with_reducible exact KY.out _ _))
                refine wpQuiet_nil ?_
                intro _ hw'
                obtain ⟨⟨dq, osq⟩, hw''⟩ := hw'
                subst hw''
                have hb := below_regrown w6 dq osq
                generalize Sort.grow (redrawn w6 dq) osq = w7 at *
                go_wp2_with fail
                go_ret
                exact ⟨rfl, B6.out.then hb⟩
              | false =>
                rw [hnb] at KNM
                clear hnb HLW hb0
                go_wp2_with fail
                refine (KNM.out _).mono ?_
                rintro x w5 ⟨rfl, rfl⟩
                have K3 := Lib.hid (fun W (hW : Tabs W) => parse_any (S ++ bl n) W (by omega) hW)
                unfold PV at K3
                generalize parseV (S ++ bl n) = r at *
                obtain ⟨o3, i3, e3⟩ := r
                clear HP
                go_wp2_with fail
                refine (K3.out _ T4.out).mono ?_
                rintro x w6 ⟨v, rfl, _, b6⟩
                have B6 := Lib.hid (B4.out.then b6); clear b6
                go_wp2_with fail
                go_quiet (fail)
                go_wp2_with fail
                go_ret
                exact ⟨rfl, below_drewN B6.out _⟩
            · have HSH := Lib.hid (show ∀ w, (wordS S 0).getLast? = some w → Shut w from fun w hw => by rw [HLW.out] at hw; cases hw; exact .inl (by rw [hb0]; exact h34))
              have g34 : ((b0 : Int) == 34) = false := by simp; omega
              clear HLW hb0 h34
              have hbp := behind_parse n S (by omega) HP.out.2.1 HSH.out
              rw [HP.out.1] at hbp
              obtain ⟨⟨o3, i3, e3⟩, hp3⟩ : ∃ r, parseV (S ++ bl n) = r := ⟨_, rfl⟩
              rw [hp3] at hbp
              obtain ⟨r1, r2⟩ := hbp
              simp only at r1 r2
              subst r1 r2
              have K3 := Lib.hid (fun W (hW : Tabs W) => parse_yes hk0 hp3 (by omega) W hW)
              unfold PY at K3
              clear hp3 HP HSH
              go_wp2_with fail
              refine (K3.out _ T4.out).mono ?_
              rintro x w6 ⟨uz, rfl, hv3, b6, _⟩
              have T6 := Lib.hid (T4.out.below b6)
              have B6 := Lib.hid (B4.out.then b6)
              have KX := arm_of hX T6.out hv3 KT.out
              have KY := arm_of hX T6.out (CmdV.below HV4.out b6) KT.out
              clear b6 hv3 HV4 T4 T6 B4
              go_wp2_with fail
              refine wp_region_quiet_below (by kernel_rfl) (by kernel_rfl) ?_
              repeat (go_big_quiet_step (first | with_reducible exact KX.out _ _ | with_reducible exact KY.out _ _))
              refine wpQuiet_nil ?_
              intro _ hw'
              obtain ⟨⟨dq, osq⟩, hw''⟩ := hw'
              subst hw''
              have hb := below_regrown w6 dq osq
              generalize Sort.grow (redrawn w6 dq) osq = w7 at *
              go_wp2_with fail
              go_ret
              exact ⟨rfl, B6.out.then hb⟩
/-- The law: whatever the line is. -/
theorem lawBlanks (s : ByteArray) (xa xb : Int) (w : World) (hT : Tabs w) : Calls Tryd.prog 5 #[.string s, .int .i64 xa, .int .i64 xb] w fun e w' => e = .returned (.bool true) ∧ Below w.heap.size w w' := by
  cases ht : tornAt (s.extract 0 (min (s.size : Int) 300).toNat) 0 with
  | some j => exact blanks_torn s xa xb w hT j ht
  | none =>
    obtain ⟨⟨o, i, e⟩, hp⟩ : ∃ r, parseV (s.extract 0 (min (s.size : Int) 300).toNat) = r := ⟨_, rfl⟩
    cases o with
    | none =>
      by_cases he : e = 0
      · exact blanks_none0 s xa xb w hT ht i e hp he
      · exact blanks_none1 s xa xb w hT ht i e hp he
    | some c =>
      cases c with
      | create l => exact blanks_some s xa xb w hT ht i e _ _ _ (kind_create l) hp
      | open_ l => exact blanks_some s xa xb w hT ht i e _ _ _ (kind_open l) hp
      | add r => exact blanks_some s xa xb w hT ht i e _ _ _ (kind_add r) hp
      | tick => exact blanks_some s xa xb w hT ht i e _ _ _ (kind_tick) hp
      | query q x l => exact blanks_some s xa xb w hT ht i e _ _ _ (kind_query q x l) hp
      | pair q x y => exact blanks_some s xa xb w hT ht i e _ _ _ (kind_pair q x y) hp
      | imp l => exact blanks_some s xa xb w hT ht i e _ _ _ (kind_imp l) hp
end Go.Proofs.YtjhlpmigkbaegaaDoor
