import Derived.Test.YtlmmmfkhmlafgaaLaws1
import Derived.Deep.RegionLaw
import Derived.Deep.QuietTactic
import Derived.BigQuiet
namespace Go.Proofs.Ytlmmmfkhmlafgaa
open Go.RowKit
set_option linter.unusedVariables false
set_option maxRecDepth 100000 in
set_option maxHeartbeats 1000000 in
theorem turned_walk (y j : Int) (a : Option Addr) (len cap : Nat) (l : List Int) (w : World) (hl : Row w a len (l.map i64v)) (hcap : len ≤ cap) (hcm : cap ≤ 9223372036854775807) (hnil : a = none → cap = 0) :
    Calls Try.prog 6 #[.slice a len cap, .int .i64 y, .int .i64 j] w fun e w' => e = .returned (.bool true) ∧ Below w.heap.size w w' := by
  obtain ⟨i0, hi, hz0, hz1, hz2⟩ := info_parts info2
  by_cases hle : len ≤ 200
  · have hm : len * 8 ≤ 140737488355328 := by omega
    have hm2 : len ≤ maxLen := by unfold maxLen; omega
    have hl2 := hl
    generalize l = L at hl2
    have hone := i64v_one L
    have hLn : L.length = len := by have := hl2.1; simpa using this
    have HLn := Lib.hid hLn; clear hLn
    go_enter Try.func6, Try.ntmps6
    go_wp2_with (first | (go_at_call 9; refine (shown_any _).mono ?_; rintro e w1 ⟨rfl, hb1⟩) | (at_builtin; refine wpList_append_fresh rfl (.tmp 20) (.tmp 25) 22 rfl w1.heap.size 2 i0 (.int .i64 0) 8 Try.underlying22 hi hz0 hz1 hz2 rfl _ _ rfl (owns_empty w1 2) a len cap (L.map i64v) rfl (hl2.below (hb1.alloc hb1.size _)) hnil hone hm2 hm (by simp) ?_))
    intro g c1 w2 hgB hnc hcm1 hrow hown hb2
    have hbw := (hb1.alloc hb1.size _).trans (hb2.mono hb1.size)
    have HR := Lib.hid hrow
    clear hb2 hrow hown
    obtain ⟨q, hq⟩ : ∃ q : Nat, (y % 65536).toNat = q := ⟨_, rfl⟩
    have hand := and_65535 y
    rw [hq] at hand
    clear hq
    have hk : q % (len + 1) ≤ len := by have := Nat.mod_lt q (show 0 < len + 1 by omega); omega
    have hrem : (q : Int) % ((len : Int) + 1) = ((q % (len + 1) : Nat) : Int) := by rw [Int.natCast_emod]; rfl
    generalize q % (len + 1) = k at *
    have HK := Lib.hid hrem; clear hrem
    go_wp2_with (at_builtin; rw [HK.out]; refine wpList_append_fresh rfl (.tmp 33) (.tmp 34) 22 rfl w2.heap.size 2 i0 (.int .i64 0) 8 Try.underlying22 hi hz0 hz1 hz2 rfl _ _ rfl (owns_empty w2 2) (some ⟨g, 0, none⟩) len c1 (L.map i64v) rfl (HR.out.below ((Below.refl _ _).alloc (Nat.le_refl _) _)) (by simp) hone hm2 hm (by simp) ?_)
    intro g2 c2 w3 hg2 hnc2 hcm2 hrow2 hown2 hb3
    have hb3 : Below w2.heap.size w2 w3 := ((Below.refl _ _).alloc (Nat.le_refl _) _).trans hb3
    have HR2 := Lib.hid hrow2
    have hrow3 : Row w3 (some ⟨g, 0, none⟩) len (L.map i64v) := HR.out.below hb3
    have hdrop : Row w3 (if c1 = k then some ⟨g, 0, none⟩ else some ⟨g, k, none⟩) (len - k) ((L.drop k).map i64v) := by
      split
      · rename_i e
        have e2 : len - k = 0 := by omega
        have e3 : L.drop k = [] := List.drop_eq_nil_of_le (by rw [HLn.out]; omega)
        rw [e2, e3]; exact Row.nil _ _
      · have := hrow3.drop k hk
        rw [Nat.zero_add, ← List.map_drop] at this
        exact this
    have htake : Row w3 (some ⟨g, 0, none⟩) k ((L.take k).map i64v) := by
      have := hrow3.take k hk
      rwa [← List.map_take] at this
    have HD := Lib.hid hdrop
    have HT := Lib.hid htake
    have HR3 := Lib.hid hrow3
    clear hdrop htake hrow3 hrow2 hown2
    have hne : (if c1 = k then (some ⟨g, 0, none⟩ : Option Addr) else some ⟨g, k, none⟩) = none → c1 - k = 0 := by split <;> simp
    have HNE := Lib.hid hne; clear hne
    have hone1 := i64v_one (L.drop k)
    have hone2 := i64v_one (L.take k)
    have hkc : k ≤ c1 := by omega
    have hki : (k : Int) ≤ (len : Int) := by omega
    have hm3 : 0 + (len - k) ≤ maxLen := by unfold maxLen; omega
    have hm4 : (0 + (len - k)) * 8 ≤ 140737488355328 := by omega
    have hm5 : 0 + (len - k) + k ≤ maxLen := by unfold maxLen; omega
    have hm6 : (0 + (len - k) + k) * 8 ≤ 140737488355328 := by omega
    have hperm : L.Perm (L.drop k ++ L.take k) := by
      have := List.perm_append_comm (l₁ := L.take k) (l₂ := L.drop k)
      rwa [List.take_append_drop] at this
    have HP := Lib.hid hperm; clear hperm
    have hsz : w3.heap.size ≤ (w3.alloc (.cells #[] 2)).drew.heap.size := by
      show w3.heap.size ≤ (w3.alloc (.cells #[] 2)).heap.size
      rw [World.size_alloc]; omega
    have hbE : Below w3.heap.size w3 (w3.alloc (.cells #[] 2)).drew := ((Below.refl _ _).alloc (Nat.le_refl _) _).drew
    go_wp2_with fail
    go_region_law (first
      | (refine step_append_copy rfl (.tmp 36) (.tmp 39) 22 rfl w3.heap.size 2 i0 (.int .i64 0) 8 Try.underlying22 hi hz0 hz1 hz2 rfl _ 0 [] rfl ((owns_empty w3 2).drew) _ (len - k) (c1 - k) ((L.drop k).map i64v) rfl (HD.out.below hbE) HNE.out hone1 hm3 hm4 hsz ?_; intro v4 w4 hown4 hb4; have HO4 := Lib.hid hown4; have HB4 := Lib.hid (hbE.trans hb4); clear hown4 hb4)
      | (refine step_append_copy rfl (.tmp 40) (.tmp 43) 22 rfl w3.heap.size 2 i0 (.int .i64 0) 8 Try.underlying22 hi hz0 hz1 hz2 rfl v4 _ _ rfl HO4.out (some ⟨g, 0, none⟩) k c1 ((L.take k).map i64v) rfl (HT.out.below HB4.out) (by simp) hone2 hm5 hm6 HB4.out.size ?_; intro v5 w5 hown5 hb5; have HO5 := Lib.hid hown5; have HB5 := Lib.hid (HB4.out.trans hb5); clear hown5 hb5))
    have ho5 := HO5.out
    rw [List.nil_append, show 0 + (len - k) + k = len from by omega, ← List.map_append] at ho5
    obtain ⟨a5, c5, h5, r5⟩ := Row.own ho5
    subst h5
    have hMl : (L.drop k ++ L.take k).length = len := by rw [← HP.out.length_eq, HLn.out]
    have hkp : ∀ i : Int, kthOf (L.drop k ++ L.take k) i = kthOf L i ∧ kthOk (L.drop k ++ L.take k) i = kthOk L i := fun i => by
      by_cases hin : 0 ≤ i ∧ i < (len : Int)
      · obtain ⟨t, rfl⟩ := Int.eq_ofNat_of_zero_le hin.1
        obtain ⟨q1, q2⟩ := kthIn HLn.out t (by omega)
        have := kthOf_eq (q2.perm HP.out)
        exact ⟨this.1, by rw [this.2, q1]⟩
      · have q1 := kthOut HLn.out i (by omega)
        have q2 := kthOut hMl i (by omega)
        exact ⟨by rw [q1.2, q2.2], by rw [q1.1, q2.1]⟩
    generalize hM : L.drop k ++ L.take k = M at *
    have hb5' : Below w3.heap.size w3 w5 := HB5.out
    have c6 : ∀ cc w6, Below w5.heap.size w5 w6 → Calls Try.prog 10 #[.slice (some ⟨g, 0, none⟩) len cc, .int .i64 j] w6 fun e w' => e = .returned (.tuple #[.int .i64 (kthOf L j), .bool (kthOk L j)]) ∧ Below w6.heap.size w6 w' := fun cc w6 h =>
      kth_any _ _ _ _ _ _ ((HR3.out.below hb5').below h) (by omega)
    have c7 : ∀ w6, Below w5.heap.size w5 w6 → Calls Try.prog 10 #[.slice a5 len c5, .int .i64 j] w6 fun e w' => e = .returned (.tuple #[.int .i64 (kthOf L j), .bool (kthOk L j)]) ∧ Below w6.heap.size w6 w' := fun w6 h => by
      have := kth_any a5 len c5 j M w6 (r5.below h) (by omega)
      rwa [(hkp j).1, (hkp j).2] at this
    have c8 : ∀ cc w6, Below w5.heap.size w5 w6 → Calls Try.prog 12 #[.slice (some ⟨g, 0, none⟩) len cc] w6 fun e w' => e = .returned (.tuple #[.int .i64 (kthOf L (mid len)), .bool (kthOk L (mid len))]) ∧ Below w6.heap.size w6 w' := fun cc w6 h =>
      median_any _ _ _ _ _ ((HR3.out.below hb5').below h) (by omega)
    have c9 : ∀ w6, Below w5.heap.size w5 w6 → Calls Try.prog 12 #[.slice a5 len c5] w6 fun e w' => e = .returned (.tuple #[.int .i64 (kthOf L (mid len)), .bool (kthOk L (mid len))]) ∧ Below w6.heap.size w6 w' := fun w6 h => by
      have := median_any a5 len c5 M w6 (r5.below h) (by omega)
      rwa [(hkp _).1, (hkp _).2] at this
    generalize kthOf L j = x1 at *
    generalize kthOk L j = x2 at *
    generalize kthOf L (mid len) = x3 at *
    generalize kthOk L (mid len) = x4 at *
    have C6 := Lib.hid c6
    have C7 := Lib.hid c7
    have C8 := Lib.hid c8
    have C9 := Lib.hid c9
    have hrA : Row w5 (some ⟨g, 0, none⟩) len (L.map i64v) := HR3.out.below hb5'
    have hrB : Row w5 (some ⟨g2, 0, none⟩) len (L.map i64v) := (HR2.out.below (hb5'))
    have HRA := Lib.hid hrA
    have HRB := Lib.hid hrB
    have hbw5 : Below w.heap.size w w5 := (hbw.trans (hb3.mono hbw.size)).trans (hb5'.mono (Nat.le_trans hbw.size hb3.size))
    have HBW := Lib.hid hbw5
    clear hbw5 hrA hrB c6 c7 c8 c9 hkp hMl hM ho5 r5 hb5' hbE
    go_wp2_with fail
    all_goals
      refine (C6.out _ _ (Below.refl _ _)).mono ?_
      rintro e w6 ⟨rfl, hb6⟩
      go_wp2_with fail
      refine (C7.out _ hb6).mono ?_
      rintro e w7 ⟨rfl, hb7⟩
      have hb7 := hb6.trans (hb7.mono hb6.size)
      go_wp2
      go_loopw [14] (fun i' wr => ∃ k' : Nat, k' ≤ len ∧ i' = .int .i64 k' ∧ Below w5.heap.size w5 wr) (fun i' _ => len - (intOf i').toNat)
      case atStart => exact ⟨0, by omega, rfl, hb7⟩
      case round =>
        obtain ⟨k', hk', rfl, hbr⟩ := hrel
        by_cases hlt : k' < len
        · obtain ⟨x, hx⟩ : ∃ x, L[k']? = some x := ⟨L[k']'(by rw [HLn.out]; exact hlt), by rw [List.getElem?_eq_getElem]⟩
          have cA : wr.cell? ⟨g, k', none⟩ = some (.int .i64 x) := by
            obtain ⟨b', o', e', hc', hlt'⟩ := HRA.out.2 k' (i64v x) (by simp [hx])
            simp only [Option.some.injEq, Addr.mk.injEq, and_true] at e'
            obtain ⟨rfl, rfl⟩ := e'
            rw [Nat.zero_add] at hc'
            rw [hbr.cell (by exact hlt')]
            exact hc'
          have cB : wr.cell? ⟨g2, k', none⟩ = some (.int .i64 x) := by
            obtain ⟨b', o', e', hc', hlt'⟩ := HRB.out.2 k' (i64v x) (by simp [hx])
            simp only [Option.some.injEq, Addr.mk.injEq, and_true] at e'
            obtain ⟨rfl, rfl⟩ := e'
            rw [Nat.zero_add] at hc'
            rw [hbr.cell (by exact hlt')]
            exact hc'
          clear hx
          go_wp2_with fail
          go_quiet (fail)
          go_wp2
          go_roundw
          case rel => exact ⟨k' + 1, by omega, by go_num, ⟨hbr.os, hbr.tape, hbr.output, hbr.size, hbr.block⟩⟩
          case measure => simp [intOf]; omega
        · go_wp2_with fail
          refine (C8.out _ _ hbr).mono ?_
          rintro e w8 ⟨rfl, hb8⟩
          have hb8 := hbr.trans (hb8.mono hbr.size)
          go_wp2_with fail
          refine (C9.out _ hb8).mono ?_
          rintro e w9 ⟨rfl, hb9⟩
          have hb9 := hb8.trans (hb9.mono hb8.size)
          go_wp2
          go_ret
          exact ⟨by simp, HBW.out.trans (hb9.mono HBW.out.size)⟩
  · obtain ⟨b, o, rfl, _⟩ := hl.some_of (by omega)
    have hgt : (200 : Int) < (len : Int) := by omega
    have hm : 200 * 8 ≤ 140737488355328 := by omega
    have hm2 : 200 ≤ maxLen := by unfold maxLen; omega
    have hl2 : Row w (some ⟨b, o, none⟩) 200 ((l.take 200).map i64v) := by
      have := hl.take 200 (by omega)
      rwa [← List.map_take] at this
    have hcc : 200 ≤ cap := by omega
    generalize l.take 200 = L at hl2
    have hone := i64v_one L
    have hLn : L.length = 200 := by have := hl2.1; simpa using this
    have HLn := Lib.hid hLn; clear hLn
    go_enter Try.func6, Try.ntmps6
    go_wp2_with (first | (go_at_call 9; refine (shown_any _).mono ?_; rintro e w1 ⟨rfl, hb1⟩) | (at_builtin; refine wpList_append_fresh rfl (.tmp 20) (.tmp 25) 22 rfl w1.heap.size 2 i0 (.int .i64 0) 8 Try.underlying22 hi hz0 hz1 hz2 rfl _ _ rfl (owns_empty w1 2) (some ⟨b, o, none⟩) 200 cap (L.map i64v) rfl (hl2.below (hb1.alloc hb1.size _)) (by simp) hone hm2 hm (by simp) ?_))
    intro g c1 w2 hgB hnc hcm1 hrow hown hb2
    have hbw := (hb1.alloc hb1.size _).trans (hb2.mono hb1.size)
    have HR := Lib.hid hrow
    clear hb2 hrow hown
    obtain ⟨q, hq⟩ : ∃ q : Nat, (y % 65536).toNat = q := ⟨_, rfl⟩
    have hand := and_65535 y
    rw [hq] at hand
    clear hq
    have hk : q % (200 + 1) ≤ 200 := by have := Nat.mod_lt q (show 0 < 200 + 1 by omega); omega
    have hrem : (q : Int) % 201 = ((q % (200 + 1) : Nat) : Int) := by rw [Int.natCast_emod]; rfl
    generalize q % (200 + 1) = k at *
    have HK := Lib.hid hrem; clear hrem
    go_wp2_with (at_builtin; rw [HK.out]; refine wpList_append_fresh rfl (.tmp 33) (.tmp 34) 22 rfl w2.heap.size 2 i0 (.int .i64 0) 8 Try.underlying22 hi hz0 hz1 hz2 rfl _ _ rfl (owns_empty w2 2) (some ⟨g, 0, none⟩) 200 c1 (L.map i64v) rfl (HR.out.below ((Below.refl _ _).alloc (Nat.le_refl _) _)) (by simp) hone hm2 hm (by simp) ?_)
    intro g2 c2 w3 hg2 hnc2 hcm2 hrow2 hown2 hb3
    have hb3 : Below w2.heap.size w2 w3 := ((Below.refl _ _).alloc (Nat.le_refl _) _).trans hb3
    have HR2 := Lib.hid hrow2
    have hrow3 : Row w3 (some ⟨g, 0, none⟩) 200 (L.map i64v) := HR.out.below hb3
    have hdrop : Row w3 (if c1 = k then some ⟨g, 0, none⟩ else some ⟨g, k, none⟩) (200 - k) ((L.drop k).map i64v) := by
      split
      · rename_i e
        have e2 : 200 - k = 0 := by omega
        have e3 : L.drop k = [] := List.drop_eq_nil_of_le (by rw [HLn.out]; omega)
        rw [e2, e3]; exact Row.nil _ _
      · have := hrow3.drop k hk
        rw [Nat.zero_add, ← List.map_drop] at this
        exact this
    have htake : Row w3 (some ⟨g, 0, none⟩) k ((L.take k).map i64v) := by
      have := hrow3.take k hk
      rwa [← List.map_take] at this
    have HD := Lib.hid hdrop
    have HT := Lib.hid htake
    have HR3 := Lib.hid hrow3
    clear hdrop htake hrow3 hrow2 hown2
    have hne : (if c1 = k then (some ⟨g, 0, none⟩ : Option Addr) else some ⟨g, k, none⟩) = none → c1 - k = 0 := by split <;> simp
    have HNE := Lib.hid hne; clear hne
    have hone1 := i64v_one (L.drop k)
    have hone2 := i64v_one (L.take k)
    have hkc : k ≤ c1 := by omega
    have hki : (k : Int) ≤ (200 : Int) := by omega
    have hm3 : 0 + (200 - k) ≤ maxLen := by unfold maxLen; omega
    have hm4 : (0 + (200 - k)) * 8 ≤ 140737488355328 := by omega
    have hm5 : 0 + (200 - k) + k ≤ maxLen := by unfold maxLen; omega
    have hm6 : (0 + (200 - k) + k) * 8 ≤ 140737488355328 := by omega
    have hperm : L.Perm (L.drop k ++ L.take k) := by
      have := List.perm_append_comm (l₁ := L.take k) (l₂ := L.drop k)
      rwa [List.take_append_drop] at this
    have HP := Lib.hid hperm; clear hperm
    have hsz : w3.heap.size ≤ (w3.alloc (.cells #[] 2)).drew.heap.size := by
      show w3.heap.size ≤ (w3.alloc (.cells #[] 2)).heap.size
      rw [World.size_alloc]; omega
    have hbE : Below w3.heap.size w3 (w3.alloc (.cells #[] 2)).drew := ((Below.refl _ _).alloc (Nat.le_refl _) _).drew
    go_wp2_with fail
    go_region_law (first
      | (refine step_append_copy rfl (.tmp 36) (.tmp 39) 22 rfl w3.heap.size 2 i0 (.int .i64 0) 8 Try.underlying22 hi hz0 hz1 hz2 rfl _ 0 [] rfl ((owns_empty w3 2).drew) _ (200 - k) (c1 - k) ((L.drop k).map i64v) rfl (HD.out.below hbE) HNE.out hone1 hm3 hm4 hsz ?_; intro v4 w4 hown4 hb4; have HO4 := Lib.hid hown4; have HB4 := Lib.hid (hbE.trans hb4); clear hown4 hb4)
      | (refine step_append_copy rfl (.tmp 40) (.tmp 43) 22 rfl w3.heap.size 2 i0 (.int .i64 0) 8 Try.underlying22 hi hz0 hz1 hz2 rfl v4 _ _ rfl HO4.out (some ⟨g, 0, none⟩) k c1 ((L.take k).map i64v) rfl (HT.out.below HB4.out) (by simp) hone2 hm5 hm6 HB4.out.size ?_; intro v5 w5 hown5 hb5; have HO5 := Lib.hid hown5; have HB5 := Lib.hid (HB4.out.trans hb5); clear hown5 hb5))
    have ho5 := HO5.out
    rw [List.nil_append, show 0 + (200 - k) + k = 200 from by omega, ← List.map_append] at ho5
    obtain ⟨a5, c5, h5, r5⟩ := Row.own ho5
    subst h5
    have hMl : (L.drop k ++ L.take k).length = 200 := by rw [← HP.out.length_eq, HLn.out]
    have hkp : ∀ i : Int, kthOf (L.drop k ++ L.take k) i = kthOf L i ∧ kthOk (L.drop k ++ L.take k) i = kthOk L i := fun i => by
      by_cases hin : 0 ≤ i ∧ i < (200 : Int)
      · obtain ⟨t, rfl⟩ := Int.eq_ofNat_of_zero_le hin.1
        obtain ⟨q1, q2⟩ := kthIn HLn.out t (by omega)
        have := kthOf_eq (q2.perm HP.out)
        exact ⟨this.1, by rw [this.2, q1]⟩
      · have q1 := kthOut HLn.out i (by omega)
        have q2 := kthOut hMl i (by omega)
        exact ⟨by rw [q1.2, q2.2], by rw [q1.1, q2.1]⟩
    generalize hM : L.drop k ++ L.take k = M at *
    have hb5' : Below w3.heap.size w3 w5 := HB5.out
    have c6 : ∀ cc w6, Below w5.heap.size w5 w6 → Calls Try.prog 10 #[.slice (some ⟨g, 0, none⟩) 200 cc, .int .i64 j] w6 fun e w' => e = .returned (.tuple #[.int .i64 (kthOf L j), .bool (kthOk L j)]) ∧ Below w6.heap.size w6 w' := fun cc w6 h =>
      kth_any _ _ _ _ _ _ ((HR3.out.below hb5').below h) (by omega)
    have c7 : ∀ w6, Below w5.heap.size w5 w6 → Calls Try.prog 10 #[.slice a5 200 c5, .int .i64 j] w6 fun e w' => e = .returned (.tuple #[.int .i64 (kthOf L j), .bool (kthOk L j)]) ∧ Below w6.heap.size w6 w' := fun w6 h => by
      have := kth_any a5 200 c5 j M w6 (r5.below h) (by omega)
      rwa [(hkp j).1, (hkp j).2] at this
    have c8 : ∀ cc w6, Below w5.heap.size w5 w6 → Calls Try.prog 12 #[.slice (some ⟨g, 0, none⟩) 200 cc] w6 fun e w' => e = .returned (.tuple #[.int .i64 (kthOf L (mid 200)), .bool (kthOk L (mid 200))]) ∧ Below w6.heap.size w6 w' := fun cc w6 h =>
      median_any _ _ _ _ _ ((HR3.out.below hb5').below h) (by omega)
    have c9 : ∀ w6, Below w5.heap.size w5 w6 → Calls Try.prog 12 #[.slice a5 200 c5] w6 fun e w' => e = .returned (.tuple #[.int .i64 (kthOf L (mid 200)), .bool (kthOk L (mid 200))]) ∧ Below w6.heap.size w6 w' := fun w6 h => by
      have := median_any a5 200 c5 M w6 (r5.below h) (by omega)
      rwa [(hkp _).1, (hkp _).2] at this
    generalize kthOf L j = x1 at *
    generalize kthOk L j = x2 at *
    generalize kthOf L (mid 200) = x3 at *
    generalize kthOk L (mid 200) = x4 at *
    have C6 := Lib.hid c6
    have C7 := Lib.hid c7
    have C8 := Lib.hid c8
    have C9 := Lib.hid c9
    have hrA : Row w5 (some ⟨g, 0, none⟩) 200 (L.map i64v) := HR3.out.below hb5'
    have hrB : Row w5 (some ⟨g2, 0, none⟩) 200 (L.map i64v) := (HR2.out.below (hb5'))
    have HRA := Lib.hid hrA
    have HRB := Lib.hid hrB
    have hbw5 : Below w.heap.size w w5 := (hbw.trans (hb3.mono hbw.size)).trans (hb5'.mono (Nat.le_trans hbw.size hb3.size))
    have HBW := Lib.hid hbw5
    clear hbw5 hrA hrB c6 c7 c8 c9 hkp hMl hM ho5 r5 hb5' hbE
    go_wp2_with fail
    all_goals
      refine (C6.out _ _ (Below.refl _ _)).mono ?_
      rintro e w6 ⟨rfl, hb6⟩
      go_wp2_with fail
      refine (C7.out _ hb6).mono ?_
      rintro e w7 ⟨rfl, hb7⟩
      have hb7 := hb6.trans (hb7.mono hb6.size)
      go_wp2
      go_loopw [14] (fun i' wr => ∃ k' : Nat, k' ≤ 200 ∧ i' = .int .i64 k' ∧ Below w5.heap.size w5 wr) (fun i' _ => 200 - (intOf i').toNat)
      case atStart => exact ⟨0, by omega, rfl, hb7⟩
      case round =>
        obtain ⟨k', hk', rfl, hbr⟩ := hrel
        by_cases hlt : k' < 200
        · obtain ⟨x, hx⟩ : ∃ x, L[k']? = some x := ⟨L[k']'(by rw [HLn.out]; exact hlt), by rw [List.getElem?_eq_getElem]⟩
          have cA : wr.cell? ⟨g, k', none⟩ = some (.int .i64 x) := by
            obtain ⟨b', o', e', hc', hlt'⟩ := HRA.out.2 k' (i64v x) (by simp [hx])
            simp only [Option.some.injEq, Addr.mk.injEq, and_true] at e'
            obtain ⟨rfl, rfl⟩ := e'
            rw [Nat.zero_add] at hc'
            rw [hbr.cell (by exact hlt')]
            exact hc'
          have cB : wr.cell? ⟨g2, k', none⟩ = some (.int .i64 x) := by
            obtain ⟨b', o', e', hc', hlt'⟩ := HRB.out.2 k' (i64v x) (by simp [hx])
            simp only [Option.some.injEq, Addr.mk.injEq, and_true] at e'
            obtain ⟨rfl, rfl⟩ := e'
            rw [Nat.zero_add] at hc'
            rw [hbr.cell (by exact hlt')]
            exact hc'
          clear hx
          go_wp2_with fail
          go_quiet (fail)
          go_wp2
          go_roundw
          case rel => exact ⟨k' + 1, by omega, by go_num, ⟨hbr.os, hbr.tape, hbr.output, hbr.size, hbr.block⟩⟩
          case measure => simp [intOf]; omega
        · go_wp2_with fail
          refine (C8.out _ _ hbr).mono ?_
          rintro e w8 ⟨rfl, hb8⟩
          have hb8 := hbr.trans (hb8.mono hbr.size)
          go_wp2_with fail
          refine (C9.out _ hb8).mono ?_
          rintro e w9 ⟨rfl, hb9⟩
          have hb9 := hb8.trans (hb9.mono hb8.size)
          go_wp2
          go_ret
          exact ⟨by simp, HBW.out.trans (hb9.mono HBW.out.size)⟩
end Go.Proofs.Ytlmmmfkhmlafgaa
