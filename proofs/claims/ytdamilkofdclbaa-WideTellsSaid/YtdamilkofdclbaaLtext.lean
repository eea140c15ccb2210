/- Text of the reference. -/
import Derived.Test.YtdamilkofdclbaaLeq
import Derived.Test.YtdamilkofdclbaaText3
import Derived.Laws.BytesArg
import Derived.Lib.Bytes
namespace Go.Proofs.Ytdamilkofdclbaa
open Go.RowKit
open Go.Lib (strOfNums_toList bytesOf)
set_option linter.unusedVariables false

/-- The digits while they are divided: below j they are M's, from j on M / 10's. -/
def divF (M : Int) (j : Nat) : Nat → Int := fun t => if t < j then dg M t else dg (M / 10) t
theorem divF_ten (M : Int) (t : Nat) (h : t < 10) : dg M t = divF M 10 t := by simp [divF, h]
theorem divF_zero (M : Int) (t : Nat) : divF M 0 t = dg (M / 10) t := by simp [divF]
theorem divF_here (M : Int) (j : Nat) : divF M (j + 1) j = dg M j := by simp [divF]
theorem divF_step (M : Int) (j : Nat) (x : Int) (h : x = dg (M / 10) j) (t : Nat) : (if t = j then x else divF M (j + 1) t) = divF M j t := by
  subst h
  unfold divF
  by_cases e : t = j
  · subst e; rw [if_pos rfl, if_neg (by omega)]
  · rw [if_neg e]
    by_cases e2 : t < j
    · rw [if_pos (by omega), if_pos e2]
    · rw [if_neg (by omega), if_neg e2]
theorem high_step (X : Int) (j : Nat) : (X / pw j = 0) ↔ (X / pw (j + 1) = 0 ∧ dg X j = 0) := by
  rw [div_succ]; unfold dg; omega
theorem at_byte (w : World) (x : Int) : (convert 58 9 (.slice (some ⟨w.heap.size, 0, none⟩) 1 1)).run Try.prog (w.alloc (.cells #[.int .u8 x] 5)) = .ok (.string (strOfNums [x])) (w.alloc (.cells #[.int .u8 x] 5)) := by
  refine run_convert_bytes_arg _ 58 5 Try.underlying58 Try.underlying5 _ 0 1 1 [x] rfl (fun i hi => ?_) 9 Try.underlying9
  rw [Nat.zero_add, cell_of_row _ _ _ _ _ _ (heap_alloc_new w _)]
  obtain rfl : i = 0 := by omega
  rfl
theorem str_app (a b : List Int) : strOfNums (a ++ b) = strOfNums a ++ strOfNums b := by
  apply ByteArray.ext
  simp [strOfNums]
set_option maxRecDepth 100000 in
set_option maxHeartbeats 2000000 in
theorem ltext_any (v : Int) (w : World) (hv : Fits v) :
    Calls Try.prog 25 #[L v] w fun e w' => e = .returned (textV v) ∧ Below w.heap.size w w' := by
  have KB := Lib.hid (fun w => lbelow_any v w (fits_mid hv))
  have KM := Lib.hid (lminus_any v)
  have hV : v.natAbs < 10 ^ 40 ∧ v.natAbs < 340282366920938463463374607431768211456 := by unfold Fits at hv; omega
  have HV := Lib.hid hV
  unfold L at *
  have A0 := Lib.hid (At.new w (dg v) rfl)
  have H0 := Lib.hid ((Below.refl w.heap.size w).alloc (Nat.le_refl _) (.cells (arr (dg v)) 30))
  clear hV hv
  by_cases hneg : v < 0
  · have hd : decide (v < 0) = true := by simpa using hneg
    rw [hd] at KB
    go_enter Try.func25, Try.ntmps25
    go_wp2_with (refine wpList_load_row rfl 30 (.tmp 1) rfl w.heap.size rfl 30 _ _ _ A0.out Try.underlying30 rfl (by rw [arr_size]; exact info30) ?_)
    generalize w.alloc (.cells (arr (dg v)) 30) = w0 at *
    refine (KB.out _).mono ?_
    rintro e w1 ⟨rfl, hb1⟩
    have A1 := Lib.hid (A0.out.below hb1)
    have H1 := Lib.hid (H0.out.trans (hb1.mono H0.out.size))
    clear A0 H0 hb1
    go_wp2_with (refine wpList_load_row rfl 30 (.tmp 1) rfl w.heap.size rfl 30 _ _ _ A1.out Try.underlying30 rfl (by rw [arr_size]; exact info30) ?_)
    refine (KM.out _).mono ?_
    rintro e w2 ⟨rfl, hb2⟩
    have A2 := Lib.hid (A1.out.below hb2)
    have H2 := Lib.hid (H1.out.trans (hb2.mono H1.out.size))
    clear A1 H1 hb2
    go_wp2_with (refine wpList_store_row rfl 30 (.tmp 1) (.tmp 12) rfl w.heap.size (arr (dg (-v))) rfl rfl 30 _ A2.out (by rw [arr_size]; exact info30) (by rw [arr_size, arr_size]) (arr_one _) ?_)
    have A3 := Lib.hid (A2.out.row (dg (-v)))
    have H3 := Lib.hid (below_row H2.out (Nat.le_refl _) (arr (dg (-v))))
    generalize w2.setRow w.heap.size (arr (dg (-v))) = w3 at *
    rw [show -v = ((v.natAbs : Nat) : Int) by omega] at A3
    clear KB KM A2 H2 hd
    go_loopw [4, 5] (fun s z wr => ∃ (M : Nat) (ds : List Int), s = .string (strOfNums ds.reverse) ∧ z = .bool (decide (ds ≠ [] ∧ M = 0)) ∧ At wr w.heap.size (dg (M : Int)) ∧ Below w.heap.size w wr ∧ ds ++ rest M (decide (ds ≠ [])) = digs v.natAbs ∧ ds.length ≤ 40 ∧ M < 10 ^ (40 - ds.length) ∧ M < 340282366920938463463374607431768211456) (fun s _ _ => 41 - (match s with | .string x => x.size | _ => 0))
    case atStart => exact ⟨v.natAbs, [], rfl, rfl, A3.out, H3.out, by simp [rest], by simp, HV.out.1, HV.out.2⟩
    case round =>
      clear A3 H3
      obtain ⟨M, ds, rfl, rfl, hA, hb, hds, hlen, hM, hM2⟩ := hrel
      have A1 := Lib.hid hA; have H1 := Lib.hid hb; have HDS := Lib.hid hds; have HL := Lib.hid hlen; have HM := Lib.hid hM; have HM2 := Lib.hid hM2
      clear hA hb hds hlen hM hM2
      obtain ⟨wo, rfl⟩ : ∃ wo : World, wo = wr := ⟨_, rfl⟩
      by_cases hgo : M ≠ 0 ∨ decide (ds ≠ []) = false
      · have hz : decide (ds ≠ [] ∧ M = 0) = false := by
          rw [decide_eq_false_iff_not]
          rintro ⟨h1, h2⟩
          rcases hgo with h | h
          · exact h h2
          · simp at h; exact h1 h
        rw [hz]
        have HST := Lib.hid (rest_step M (decide (ds ≠ [])) hgo)
        have hlt0 : ds.length < 40 := by
          rcases Nat.lt_or_ge ds.length 40 with h | h
          · exact h
          · have h1 : ds.length = 40 := by have := HL.out; omega
            have h2 := HM.out
            rw [h1] at h2
            have h3 : M = 0 := by omega
            rcases hgo with h | h
            · exact absurd h3 h
            · have : ds = [] := by simpa using h
              subst this; simp at h1
        have HLT := Lib.hid hlt0
        have HGO := Lib.hid hgo
        clear hz hgo hlt0
        go_wp2
        go_loopw [5, 6, 7] (fun zz rr i wr => ∃ j : Nat, j ≤ 10 ∧ i = .int .i64 ((j : Int) - 1) ∧ rr = .int .i64 ((M : Int) / pw j % 10) ∧ zz = .bool (decide ((M : Int) / 10 / pw j = 0)) ∧ At wr w.heap.size (divF M j) ∧ Below w.heap.size w wr) (fun _ _ i _ => (intOf i + 1).toNat)
        case atStart =>
          have h10 : (M : Int) / pw 10 = 0 := Int.ediv_eq_zero_of_lt (by omega) (by rw [pw10]; have := HM2.out; omega)
          have h11 : (M : Int) / 10 / pw 10 = 0 := Int.ediv_eq_zero_of_lt (by omega) (by rw [pw10]; have := HM2.out; omega)
          exact ⟨10, by omega, rfl, by rw [h10]; rfl, by rw [h11]; rfl, A1.out.congr fun i hi => divF_ten _ i hi, H1.out⟩
        case round =>
          clear A1 H1
          obtain ⟨j, hj, rfl, rfl, rfl, hA, hb⟩ := hrel
          have A1 := Lib.hid hA; have H1 := Lib.hid hb
          clear hA hb
          rcases j with _ | t
          · rw [show (((0 : Nat) : Int) - 1) = -1 from rfl, show (M : Int) / pw 0 % 10 = ((M % 10 : Nat) : Int) by rw [pw_zero]; omega]
            have hz2 : decide ((M : Int) / 10 / pw 0 = 0) = decide (ds ++ [48 + ((M % 10 : Nat) : Int)] ≠ [] ∧ M / 10 = 0) := by
              congr 1; apply propext; rw [pw_zero]; simp; omega
            rw [hz2]
            have A2 := Lib.hid (A1.out.congr (g := dg ((M / 10 : Nat) : Int)) fun i _ => by rw [divF_zero]; congr 1)
            clear A1 hz2
            have hdd : IntKind.u8.wrap (48 + ((M % 10 : Nat) : Int)) = 48 + ((M % 10 : Nat) : Int) := by rw [IntKind.wrap_u8]; omega
            have hm0 : 0 ≤ ((M % 10 : Nat) : Int) := by omega
            have hm1 : ((M % 10 : Nat) : Int) ≤ 9 := by omega
            have kc := at_byte wr (48 + ((M % 10 : Nat) : Int))
            generalize hmm : ((M % 10 : Nat) : Int) = m at *
            generalize hbz : decide (ds ++ [48 + m] ≠ [] ∧ M / 10 = 0) = bz
            have HBZ := Lib.hid hbz; have HMM := Lib.hid hmm; clear hbz hmm
            have hsz : ¬ 9223372036854775807 < (strOfNums [48 + m]).size + (strOfNums ds.reverse).size := by
              rw [strOfNums_size, strOfNums_size]
              have := HL.out
              simp; omega
            go_wp2
            have e1 : strOfNums [48 + m] ++ strOfNums ds.reverse = strOfNums (ds ++ [48 + m]).reverse := by rw [← str_app]; congr 1; simp
            have hl2 := HL.out
            have hlt := HLT.out
            have hn2 := HM.out
            refine ⟨⟨M / 10, ds ++ [48 + m], by rw [e1], by rw [HBZ.out], A2.out.alloc _, H1.out.alloc H1.out.size _, ?_, by simp; omega, ?_, by have := HM2.out; omega⟩, ?_⟩
            · rw [← HDS.out, HST.out]; simp
            · rw [List.length_append, List.length_singleton]
              rw [show 40 - ds.length = (40 - (ds.length + 1)) + 1 from by omega, Nat.pow_succ] at hn2
              omega
            · rw [e1]
              simp only [strOfNums_size, List.length_reverse, List.length_append, List.length_singleton]
              omega
          · rw [show (((t + 1 : Nat) : Int) - 1) = (t : Int) by omega]
            have ht : t < 10 := by omega
            have ca := A1.out.cell ht
            rw [divF_here] at ca
            have fa := A1.out.frozen t
            have r1 := dg_range (M : Int) t
            have r2 : 0 ≤ (M : Int) / pw (t + 1) % 10 ∧ (M : Int) / pw (t + 1) % 10 ≤ 9 := by omega
            obtain ⟨q1, q2⟩ := dg_div10 (M : Int) (by omega) t
            have S1 := Lib.hid q1
            have S2 := Lib.hid q2
            have HS := Lib.hid (high_step ((M : Int) / 10) t)
            clear q1 q2
            have i0 : (0 : Int) ≤ (t : Int) := by omega
            have i1 : (t : Int) < 10 := by omega
            generalize dg (M : Int) t = d at *
            generalize (M : Int) / pw (t + 1) % 10 = r at *
            generalize hbz : decide ((M : Int) / 10 / pw (t + 1) = 0) = bz
            have HBZ := Lib.hid hbz; clear hbz
            cases bz
            · go_wp2
              go_roundw
              case rel =>
                refine ⟨t, by omega, rfl, by rw [S2.out], ?_, (A1.out.set _ _).congr fun i _ => divF_step _ _ _ S1.out i, H1.out.setCell (Nat.le_refl _) _⟩
                have := of_decide_eq_false HBZ.out
                rw [decide_eq_false (fun h => this (HS.out.1 h).1)]
              case measure => simp [intOf]
            · go_wp2
              go_roundw
              case rel =>
                refine ⟨t, by omega, rfl, by rw [S2.out], ?_, (A1.out.set _ _).congr fun i _ => divF_step _ _ _ S1.out i, H1.out.setCell (Nat.le_refl _) _⟩
                have := of_decide_eq_true HBZ.out
                rw [S1.out]
                congr 1
                rw [Bool.eq_iff_iff, decide_eq_true_iff, HS.out]
                simp [this]
              case measure => simp [intOf]
      · have hM0 : M = 0 := by
          rcases Nat.eq_zero_or_pos M with h | h
          · exact h
          · exact absurd (Or.inl (by omega)) hgo
        have hne : ds ≠ [] := fun h => hgo (Or.inr (by simp [h]))
        subst hM0
        rw [decide_eq_true (p := ds ≠ [] ∧ 0 = 0) ⟨hne, rfl⟩]
        have hdg : ds = digs v.natAbs := by
          have := HDS.out
          rw [decide_eq_true hne] at this
          simpa [rest] using this
        have hpos : 0 < (strOfNums ds.reverse).size := by
          rw [strOfNums_size, List.length_reverse]
          exact List.length_pos_iff.2 hne
        have hsz : ¬ 9223372036854775807 < (strOfNums ds.reverse).size + 1 := by
          rw [strOfNums_size]
          have := HL.out
          simp; omega
        have hem : (strOfNums ds.reverse).toList.isEmpty = false := by
          rw [Bool.eq_false_iff]
          intro h
          have h2 : (strOfNums ds.reverse).toList = [] := by simpa using h
          rw [strOfNums_toList] at h2
          have h3 := congrArg List.length h2
          unfold bytesOf at h3
          simp at h3
          exact hne h3
        have HDG := Lib.hid hdg
        clear hgo hne hdg
        go_wp2
        go_ret
        refine ⟨?_, H1.out⟩
        show Ending.returned (Value.string (strOfNums [45] ++ strOfNums ds.reverse)) = Ending.returned (textV v)
        unfold textV textRev
        rw [if_pos hneg, ← str_app, HDG.out, List.reverse_append]
        rfl
  · have hd : decide (v < 0) = false := by simpa using hneg
    rw [hd] at KB
    go_enter Try.func25, Try.ntmps25
    go_wp2_with (refine wpList_load_row rfl 30 (.tmp 1) rfl w.heap.size rfl 30 _ _ _ A0.out Try.underlying30 rfl (by rw [arr_size]; exact info30) ?_)
    generalize w.alloc (.cells (arr (dg v)) 30) = w0 at *
    refine (KB.out _).mono ?_
    rintro e w3 ⟨rfl, hb1⟩
    have A3 := Lib.hid (A0.out.below hb1)
    have H3 := Lib.hid (H0.out.trans (hb1.mono H0.out.size))
    clear A0 H0 hb1
    go_wp2_with fail
    rw [show v = ((v.natAbs : Nat) : Int) by omega] at A3
    clear KB KM hd
    go_loopw [4, 5] (fun s z wr => ∃ (M : Nat) (ds : List Int), s = .string (strOfNums ds.reverse) ∧ z = .bool (decide (ds ≠ [] ∧ M = 0)) ∧ At wr w.heap.size (dg (M : Int)) ∧ Below w.heap.size w wr ∧ ds ++ rest M (decide (ds ≠ [])) = digs v.natAbs ∧ ds.length ≤ 40 ∧ M < 10 ^ (40 - ds.length) ∧ M < 340282366920938463463374607431768211456) (fun s _ _ => 41 - (match s with | .string x => x.size | _ => 0))
    case atStart => exact ⟨v.natAbs, [], rfl, rfl, A3.out, H3.out, by simp [rest], by simp, HV.out.1, HV.out.2⟩
    case round =>
      clear A3 H3
      obtain ⟨M, ds, rfl, rfl, hA, hb, hds, hlen, hM, hM2⟩ := hrel
      have A1 := Lib.hid hA; have H1 := Lib.hid hb; have HDS := Lib.hid hds; have HL := Lib.hid hlen; have HM := Lib.hid hM; have HM2 := Lib.hid hM2
      clear hA hb hds hlen hM hM2
      obtain ⟨wo, rfl⟩ : ∃ wo : World, wo = wr := ⟨_, rfl⟩
      by_cases hgo : M ≠ 0 ∨ decide (ds ≠ []) = false
      · have hz : decide (ds ≠ [] ∧ M = 0) = false := by
          rw [decide_eq_false_iff_not]
          rintro ⟨h1, h2⟩
          rcases hgo with h | h
          · exact h h2
          · simp at h; exact h1 h
        rw [hz]
        have HST := Lib.hid (rest_step M (decide (ds ≠ [])) hgo)
        have hlt0 : ds.length < 40 := by
          rcases Nat.lt_or_ge ds.length 40 with h | h
          · exact h
          · have h1 : ds.length = 40 := by have := HL.out; omega
            have h2 := HM.out
            rw [h1] at h2
            have h3 : M = 0 := by omega
            rcases hgo with h | h
            · exact absurd h3 h
            · have : ds = [] := by simpa using h
              subst this; simp at h1
        have HLT := Lib.hid hlt0
        have HGO := Lib.hid hgo
        clear hz hgo hlt0
        go_wp2
        go_loopw [5, 6, 7] (fun zz rr i wr => ∃ j : Nat, j ≤ 10 ∧ i = .int .i64 ((j : Int) - 1) ∧ rr = .int .i64 ((M : Int) / pw j % 10) ∧ zz = .bool (decide ((M : Int) / 10 / pw j = 0)) ∧ At wr w.heap.size (divF M j) ∧ Below w.heap.size w wr) (fun _ _ i _ => (intOf i + 1).toNat)
        case atStart =>
          have h10 : (M : Int) / pw 10 = 0 := Int.ediv_eq_zero_of_lt (by omega) (by rw [pw10]; have := HM2.out; omega)
          have h11 : (M : Int) / 10 / pw 10 = 0 := Int.ediv_eq_zero_of_lt (by omega) (by rw [pw10]; have := HM2.out; omega)
          exact ⟨10, by omega, rfl, by rw [h10]; rfl, by rw [h11]; rfl, A1.out.congr fun i hi => divF_ten _ i hi, H1.out⟩
        case round =>
          clear A1 H1
          obtain ⟨j, hj, rfl, rfl, rfl, hA, hb⟩ := hrel
          have A1 := Lib.hid hA; have H1 := Lib.hid hb
          clear hA hb
          rcases j with _ | t
          · rw [show (((0 : Nat) : Int) - 1) = -1 from rfl, show (M : Int) / pw 0 % 10 = ((M % 10 : Nat) : Int) by rw [pw_zero]; omega]
            have hz2 : decide ((M : Int) / 10 / pw 0 = 0) = decide (ds ++ [48 + ((M % 10 : Nat) : Int)] ≠ [] ∧ M / 10 = 0) := by
              congr 1; apply propext; rw [pw_zero]; simp; omega
            rw [hz2]
            have A2 := Lib.hid (A1.out.congr (g := dg ((M / 10 : Nat) : Int)) fun i _ => by rw [divF_zero]; congr 1)
            clear A1 hz2
            have hdd : IntKind.u8.wrap (48 + ((M % 10 : Nat) : Int)) = 48 + ((M % 10 : Nat) : Int) := by rw [IntKind.wrap_u8]; omega
            have hm0 : 0 ≤ ((M % 10 : Nat) : Int) := by omega
            have hm1 : ((M % 10 : Nat) : Int) ≤ 9 := by omega
            have kc := at_byte wr (48 + ((M % 10 : Nat) : Int))
            generalize hmm : ((M % 10 : Nat) : Int) = m at *
            generalize hbz : decide (ds ++ [48 + m] ≠ [] ∧ M / 10 = 0) = bz
            have HBZ := Lib.hid hbz; have HMM := Lib.hid hmm; clear hbz hmm
            have hsz : ¬ 9223372036854775807 < (strOfNums [48 + m]).size + (strOfNums ds.reverse).size := by
              rw [strOfNums_size, strOfNums_size]
              have := HL.out
              simp; omega
            go_wp2
            have e1 : strOfNums [48 + m] ++ strOfNums ds.reverse = strOfNums (ds ++ [48 + m]).reverse := by rw [← str_app]; congr 1; simp
            have hl2 := HL.out
            have hlt := HLT.out
            have hn2 := HM.out
            refine ⟨⟨M / 10, ds ++ [48 + m], by rw [e1], by rw [HBZ.out], A2.out.alloc _, H1.out.alloc H1.out.size _, ?_, by simp; omega, ?_, by have := HM2.out; omega⟩, ?_⟩
            · rw [← HDS.out, HST.out]; simp
            · rw [List.length_append, List.length_singleton]
              rw [show 40 - ds.length = (40 - (ds.length + 1)) + 1 from by omega, Nat.pow_succ] at hn2
              omega
            · rw [e1]
              simp only [strOfNums_size, List.length_reverse, List.length_append, List.length_singleton]
              omega
          · rw [show (((t + 1 : Nat) : Int) - 1) = (t : Int) by omega]
            have ht : t < 10 := by omega
            have ca := A1.out.cell ht
            rw [divF_here] at ca
            have fa := A1.out.frozen t
            have r1 := dg_range (M : Int) t
            have r2 : 0 ≤ (M : Int) / pw (t + 1) % 10 ∧ (M : Int) / pw (t + 1) % 10 ≤ 9 := by omega
            obtain ⟨q1, q2⟩ := dg_div10 (M : Int) (by omega) t
            have S1 := Lib.hid q1
            have S2 := Lib.hid q2
            have HS := Lib.hid (high_step ((M : Int) / 10) t)
            clear q1 q2
            have i0 : (0 : Int) ≤ (t : Int) := by omega
            have i1 : (t : Int) < 10 := by omega
            generalize dg (M : Int) t = d at *
            generalize (M : Int) / pw (t + 1) % 10 = r at *
            generalize hbz : decide ((M : Int) / 10 / pw (t + 1) = 0) = bz
            have HBZ := Lib.hid hbz; clear hbz
            cases bz
            · go_wp2
              go_roundw
              case rel =>
                refine ⟨t, by omega, rfl, by rw [S2.out], ?_, (A1.out.set _ _).congr fun i _ => divF_step _ _ _ S1.out i, H1.out.setCell (Nat.le_refl _) _⟩
                have := of_decide_eq_false HBZ.out
                rw [decide_eq_false (fun h => this (HS.out.1 h).1)]
              case measure => simp [intOf]
            · go_wp2
              go_roundw
              case rel =>
                refine ⟨t, by omega, rfl, by rw [S2.out], ?_, (A1.out.set _ _).congr fun i _ => divF_step _ _ _ S1.out i, H1.out.setCell (Nat.le_refl _) _⟩
                have := of_decide_eq_true HBZ.out
                rw [S1.out]
                congr 1
                rw [Bool.eq_iff_iff, decide_eq_true_iff, HS.out]
                simp [this]
              case measure => simp [intOf]
      · have hM0 : M = 0 := by
          rcases Nat.eq_zero_or_pos M with h | h
          · exact h
          · exact absurd (Or.inl (by omega)) hgo
        have hne : ds ≠ [] := fun h => hgo (Or.inr (by simp [h]))
        subst hM0
        rw [decide_eq_true (p := ds ≠ [] ∧ 0 = 0) ⟨hne, rfl⟩]
        have hdg : ds = digs v.natAbs := by
          have := HDS.out
          rw [decide_eq_true hne] at this
          simpa [rest] using this
        have hpos : 0 < (strOfNums ds.reverse).size := by
          rw [strOfNums_size, List.length_reverse]
          exact List.length_pos_iff.2 hne
        have hsz : ¬ 9223372036854775807 < (strOfNums ds.reverse).size + 1 := by
          rw [strOfNums_size]
          have := HL.out
          simp; omega
        have hem : (strOfNums ds.reverse).toList.isEmpty = false := by
          rw [Bool.eq_false_iff]
          intro h
          have h2 : (strOfNums ds.reverse).toList = [] := by simpa using h
          rw [strOfNums_toList] at h2
          have h3 := congrArg List.length h2
          unfold bytesOf at h3
          simp at h3
          exact hne h3
        have HDG := Lib.hid hdg
        clear hgo hne hdg
        go_wp2
        go_ret
        refine ⟨?_, H1.out⟩
        show Ending.returned (Value.string (strOfNums [] ++ strOfNums ds.reverse)) = Ending.returned (textV v)
        unfold textV textRev
        rw [if_neg (by omega), ← str_app, HDG.out, List.append_nil]
        rfl
end Go.Proofs.Ytdamilkofdclbaa
