/- Take of the reference walked. -/
import Derived.Test.YtnkndpgaoplamaaTake
import Derived.Deep.QuietTactic
import Derived.BigQuiet
namespace Go.Proofs.Ytnkndpgaoplamaa
open Go.RowKit
set_option linter.unusedVariables false

/-- The first K bytes are 128 or more. -/
def Lead (xs : List Int) (K : Nat) : Prop := ∀ j, j < K → ∃ x, xs[j]? = some x ∧ 128 ≤ x
theorem lead_at {xs : List Int} {K v k : Nat} (hb : Bytes xs) (h : Lead xs K) (hd : dec xs = some (v, k)) : K + 1 ≤ k ∧ k ≤ xs.length ∧ k ≤ 10 ∧ xs.take k = enc v ∧ v < 18446744073709551616 := by
  obtain ⟨h1, h2, h3⟩ := dec_is hb hd
  have h4 := congrArg List.length h3
  rw [List.length_take] at h4
  have hp := enc_pos v
  have h10 := enc_ten h1
  obtain ⟨x, hx1, hx2⟩ := (enc_last v).2
  refine ⟨?_, by omega, by omega, h3, h1⟩
  rcases Nat.lt_or_ge (k - 1) K with hk | hk
  · exfalso
    obtain ⟨y, hy1, hy2⟩ := h (k - 1) hk
    rw [← h2, ← h3, List.getElem?_take, if_pos (by omega), hy1] at hx1
    simp at hx1
    omega
  · omega
theorem lead_none {xs : List Int} {K : Nat} (hb : Bytes xs) (h : Lead xs K) (hK : xs.length ≤ K ∨ 9 < K) : dec xs = none := by
  cases hd : dec xs with
  | none => rfl
  | some p =>
    obtain ⟨v, k⟩ := p
    have := lead_at hb h hd
    omega
theorem lead_eq {xs : List Int} {K v k : Nat} {x : Int} (hb : Bytes xs) (h : Lead xs K) (hx : xs[K]? = some x) (hx2 : x < 128) (hd : dec xs = some (v, k)) : k = K + 1 := by
  obtain ⟨h1, h2, _, h3, _⟩ := lead_at hb h hd
  obtain ⟨_, h5, _⟩ := dec_is hb hd
  rcases Nat.lt_or_ge (K + 1) k with hk | hk
  · exfalso
    obtain ⟨y, hy1, hy2⟩ := (enc_last v).1 K (by omega)
    rw [← h3, List.getElem?_take, if_pos (by omega), hx] at hy1
    simp at hy1
    omega
  · omega
theorem rt_none {xs : List Int} {K : Nat} {x : Int} (hb : Bytes xs) (h : Lead xs K) (hx : xs[K]? = some x) (hx2 : x < 128) (hne : xs.take (K + 1) ≠ enc (val (xs.take (K + 1)) % 18446744073709551616)) : dec xs = none := by
  cases hd : dec xs with
  | none => rfl
  | some p =>
    obtain ⟨v, k⟩ := p
    exfalso
    have hk := lead_eq hb h hx hx2 hd
    obtain ⟨_, _, _, h3, h4⟩ := lead_at hb h hd
    subst hk
    apply hne
    rw [h3, val_enc, Nat.mod_eq_of_lt h4]
theorem rt_some {xs : List Int} {K U : Nat} (hU : U < 18446744073709551616) (h : xs.take (K + 1) = enc U) (hK : K < xs.length) : dec xs = some (U, K + 1) := by
  have h1 := congrArg List.length h
  rw [List.length_take] at h1
  have := dec_enc hU (xs.drop (K + 1))
  rw [← h, List.take_append_drop, h, ← h1] at this
  rw [this, Nat.min_eq_left (by omega)]
theorem val_drop {l : List Int} {t : Nat} {x : Int} (hx : l[t]? = some x) : val (l.drop t) = (x % 128).toNat + 128 * val (l.drop (t + 1)) := by
  rw [drop_at hx]; rfl
theorem below_drewN {B : Nat} {w w' : World} (h : Below B w w') (n : Nat) : Below B w (w'.drewN n) := ⟨h.os, h.tape, h.output, h.size, h.block⟩
set_option maxRecDepth 100000 in
set_option maxHeartbeats 2000000 in
theorem rtake_any (xs : List Int) (a : Option Addr) (n c : Nat) (w : World) (hr : Row w a n (xs.map bv)) (hb : Bytes xs) (hn : n ≤ 1048576) :
    Calls Try.prog 19 #[.slice a n c] w fun e w' => e = .returned (takeV (dec xs)) ∧ Below w.heap.size w w' := by
  have HL := Lib.hid (show xs.length = n from by simpa using hr.1)
  have HR := Lib.hid hr; clear hr
  have HB := Lib.hid hb; clear hb
  go_enter Try.func19, Try.ntmps19
  go_wp2
  go_loop [5] (fun i => ∃ K : Nat, K ≤ n ∧ i = .int .i64 K ∧ Lead xs K) (fun i => n - (intOf i).toNat)
  case atStart => exact ⟨0, by omega, rfl, fun j hj => by omega⟩
  case round =>
    obtain ⟨K, hK, rfl, hld⟩ := hrel
    have HLD := Lib.hid hld; clear hld
    by_cases hlt : K < n
    · obtain ⟨x, hx⟩ : ∃ x, xs[K]? = some x := ⟨xs[K]'(by rw [HL.out]; exact hlt), by rw [List.getElem?_eq_getElem]⟩
      obtain ⟨b, o, rfl, hc0, _⟩ := HR.out.2 K (bv x) (by simp [hx])
      have hc : w.cell? ⟨b, o + K, none⟩ = some (.int .u8 x) := hc0
      clear hc0
      have hxb := HB.out x (List.mem_of_getElem? hx)
      have HX := Lib.hid hx; clear hx
      by_cases hge : 128 ≤ x
      · go_wp2
        go_round
        case rel =>
          refine ⟨K + 1, by omega, by go_num, fun j hj => ?_⟩
          rcases Nat.lt_or_ge j K with h | h
          · exact HLD.out j h
          · have : j = K := by omega
            subst this; exact ⟨x, HX.out, hge⟩
        case measure => simp [intOf]; omega
      · have hlt2 : x < 128 := by omega
        by_cases h9 : 9 < K
        · have HN := Lib.hid (lead_none HB.out HLD.out (.inr h9))
          have hne : ((K : Int) == (n : Int)) = false := by rw [beq_eq_false_iff_ne]; omega
          clear hge
          go_wp2
          go_ret3
          exact ⟨by rw [HN.out]; rfl, Below.refl _ _⟩
        · have hne : ((K : Int) == (n : Int)) = false := by rw [beq_eq_false_iff_ne]; omega
          have h9' : ¬ (9 : Int) < (K : Int) := by omega
          clear hge
          have HK := Lib.hid (show (xs.take (K + 1)).length = K + 1 from by rw [List.length_take, HL.out]; omega)
          go_wp2
          go_loop [6, 7] (fun u i => ∃ j : Nat, j ≤ K + 1 ∧ i = .int .i64 ((j : Int) - 1) ∧ u = .int .u64 ((val ((xs.take (K + 1)).drop j) % 18446744073709551616 : Nat) : Int)) (fun _ i => (intOf i + 1).toNat)
          case atStart => exact ⟨K + 1, by omega, by simp, by rw [List.drop_of_length_le (by rw [HK.out]; omega)]; rfl⟩
          case round =>
            obtain ⟨j, hj, rfl, rfl⟩ := hrel
            rcases j with _ | t
            · rw [show (((0 : Nat) : Int) - 1) = -1 from rfl, List.drop_zero]
              have hne2 := fun h => rt_none HB.out HLD.out HX.out hlt2 h
              have hsome := fun h => rt_some (xs := xs) (K := K) (U := val (xs.take (K + 1)) % 18446744073709551616) (by omega) h (by rw [HL.out]; omega)
              have hU : val (xs.take (K + 1)) % 18446744073709551616 < 18446744073709551616 := by omega
              generalize val (xs.take (K + 1)) % 18446744073709551616 = U at *
              have HN := Lib.hid hne2; have HS := Lib.hid hsome
              have KB := Lib.hid (fun w => bytes_any U w hU)
              have HU := Lib.hid (enc_ten hU)
              clear hne2 hsome
              have hU2 : (U : Int) ≤ 18446744073709551615 := by omega
              clear hU
              go_wp2_with fail
              refine (KB.out _).mono ?_
              rintro e w1 ⟨v1, rfl, ho1, hb1⟩
              obtain ⟨a1, c1, rfl, r1⟩ := Row.own ho1
              rw [List.length_map] at r1 ⊢
              have R1 := Lib.hid r1; have B1 := Lib.hid hb1; clear ho1 r1 hb1
              by_cases hlen : (enc U).length = K + 1
              · rw [hlen] at R1
                have HLEN := Lib.hid hlen
                rw [hlen]
                clear hlen
                have heq : (((K + 1 : Nat) : Int) == (K : Int) + 1) = true := by simp
                have hneq : (((K + 1 : Nat) : Int) != (K : Int) + 1) = false := by simp
                go_wp2
                go_loopw [9] (fun i wr => ∃ k : Nat, k ≤ K + 1 ∧ i = .int .i64 k ∧ (∀ j, j < k → (enc U)[j]? = xs[j]?) ∧ Below w1.heap.size w1 wr) (fun i _ => K + 1 - (intOf i).toNat)
                case atStart => exact ⟨0, by omega, rfl, fun j hj => by omega, Below.refl _ _⟩
                case round =>
                  obtain ⟨k, hk, rfl, hsame, hbr⟩ := hrel
                  have HSM := Lib.hid hsame; clear hsame
                  have HBR := Lib.hid hbr; clear hbr
                  by_cases hkl : k < K + 1
                  · obtain ⟨y, hy⟩ : ∃ y, xs[k]? = some y := ⟨xs[k]'(by rw [HL.out]; omega), by rw [List.getElem?_eq_getElem]⟩
                    obtain ⟨z, hz⟩ : ∃ z, (enc U)[k]? = some z := ⟨(enc U)[k]'(by rw [HLEN.out]; omega), by rw [List.getElem?_eq_getElem]⟩
                    have HRW := HR.out.below (B1.out.then HBR.out)
                    have HR1 := R1.out.below HBR.out
                    obtain ⟨b', o', e', hc1, _⟩ := HRW.2 k (bv y) (by simp [hy])
                    simp only [Option.some.injEq, Addr.mk.injEq, and_true] at e'
                    obtain ⟨rfl, rfl⟩ := e'
                    have hcy : wr.cell? ⟨b, o + k, none⟩ = some (.int .u8 y) := hc1
                    obtain ⟨b2, o2, rfl, hc2, _⟩ := HR1.2 k (bv z) (by simp [hz])
                    have hcz : wr.cell? ⟨b2, o2 + k, none⟩ = some (.int .u8 z) := hc2
                    have HY := Lib.hid hy; have HZ := Lib.hid hz
                    have hkn : (k : Int) < (n : Int) := by omega
                    have hk1 : (k : Int) < ((K + 1 : Nat) : Int) := by omega
                    have hk2 : (k : Int) ≤ (K : Int) := by omega
                    have hk0 : (0 : Int) ≤ (k : Int) := by omega
                    clear hc1 hc2 hy hz HRW HR1 hc
                    by_cases hyz : z = y
                    · subst hyz
                      go_wp2
                      go_quiet (fail)
                      go_wp2
                      go_roundw
                      case rel =>
                        refine ⟨k + 1, by omega, by go_num, fun j hj => ?_, below_drewN HBR.out _⟩
                        rcases Nat.lt_or_ge j k with h | h
                        · exact HSM.out j h
                        · have : j = k := by omega
                          subst this; rw [HY.out, HZ.out]
                      case measure => simp [intOf]; omega
                    · have e1 : (z == y) = false := by rw [beq_eq_false_iff_ne]; exact hyz
                      have e2 : (z != y) = true := by rw [bne_iff_ne]; exact hyz
                      have HNN := Lib.hid (HN.out (fun h => hyz (by
                        have h2 : (xs.take (K + 1))[k]? = (enc U)[k]? := by rw [h]
                        rw [List.getElem?_take, if_pos hkl, HY.out, HZ.out] at h2
                        simpa using h2.symm)))
                      clear hyz
                      go_wp2
                      go_quiet (fail)
                      go_wp2
                      go_ret3
                      exact ⟨by rw [HNN.out]; rfl, below_drewN (B1.out.then HBR.out) _⟩
                  · obtain rfl : k = K + 1 := by omega
                    have HSO := Lib.hid (HS.out (by
                      apply List.ext_getElem?
                      intro j
                      rcases Nat.lt_or_ge j (K + 1) with h | h
                      · rw [List.getElem?_take, if_pos h, HSM.out j h]
                      · rw [List.getElem?_eq_none (by rw [HK.out]; exact h), List.getElem?_eq_none (by rw [HLEN.out]; exact h)]))
                    have hgt : ¬ ((K + 1 : Nat) : Int) ≤ (K : Int) := by omega
                    go_wp2
                    go_ret3
                    exact ⟨by rw [HSO.out]; rfl, B1.out.then HBR.out⟩
              · have HNN := Lib.hid (HN.out (fun h => hlen (by rw [← h, HK.out])))
                have hneq : (((enc U).length : Int) == (K : Int) + 1) = false := by rw [beq_eq_false_iff_ne]; omega
                have hneq2 : (((enc U).length : Int) != (K : Int) + 1) = true := by rw [bne_iff_ne]; omega
                generalize (enc U).length = m at *
                clear hlen
                go_wp2
                go_ret3
                exact ⟨by rw [HNN.out]; rfl, B1.out⟩
            · rw [show (((t + 1 : Nat) : Int) - 1) = (t : Int) by omega]
              obtain ⟨y, hy⟩ : ∃ y, xs[t]? = some y := ⟨xs[t]'(by rw [HL.out]; omega), by rw [List.getElem?_eq_getElem]⟩
              obtain ⟨b', o', e', hc1, _⟩ := HR.out.2 t (bv y) (by simp [hy])
              simp only [Option.some.injEq, Addr.mk.injEq, and_true] at e'
              obtain ⟨rfl, rfl⟩ := e'
              have hc2 : w.cell? ⟨b, o + t, none⟩ = some (.int .u8 y) := hc1
              clear hc1
              have hyb := HB.out y (List.mem_of_getElem? hy)
              have hv := val_drop (l := xs.take (K + 1)) (t := t) (x := y) (by rw [List.getElem?_take, if_pos (by omega)]; exact hy)
              have HV := Lib.hid hv
              clear hy hv
              have htn : (t : Int) < (n : Int) := by omega
              generalize hVV : val ((xs.take (K + 1)).drop (t + 1)) = V at *
              have hm : (V % 18446744073709551616 : Nat) < 18446744073709551616 := by omega
              have HVV := Lib.hid hVV; clear hVV
              generalize hMM : V % 18446744073709551616 = M at *
              have HMM := Lib.hid hMM; clear hMM
              have hm2 : (M : Int) ≤ 18446744073709551615 := by omega
              clear hc hxb
              go_wp2
              go_round
              case rel =>
                refine ⟨t, by omega, rfl, ?_⟩
                rw [HV.out]
                congr 1
                rw [IntKind.wrap_u64, IntKind.wrap_u64]
                have := HMM.out
                omega
              case measure => simp [intOf]
    · obtain rfl : K = n := by omega
      have HN := Lib.hid (lead_none HB.out HLD.out (.inl (by rw [HL.out]; omega)))
      have heq : ((K : Int) == (K : Int)) = true := by simp
      go_wp2
      go_ret3
      exact ⟨by rw [HN.out]; rfl, Below.refl _ _⟩
end Go.Proofs.Ytnkndpgaoplamaa
