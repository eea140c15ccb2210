/- Text walked. -/
import Derived.Test.YtdamilkofdclbaaText2
import Derived.Test.YtdamilkofdclbaaDiv
import Derived.Test.YtdamilkofdclbaaRev3
namespace Go.Proofs.Ytdamilkofdclbaa
open Go.RowKit
set_option linter.unusedVariables false

theorem info5 : (Try.prog.info? 5).map (fun i => (i.zero, i.size, i.bytes)) = some (some (.int .u8 0), 1, 1) := by kernel_rfl
theorem row_bv (w : World) (x : Int) : Row (w.alloc (.cells #[bv x] 5)) (some ⟨w.heap.size, 0, none⟩) 1 [bv x] := by
  refine ⟨rfl, fun i y hy => ⟨w.heap.size, 0, rfl, ?_, by simp⟩⟩
  rw [Nat.zero_add, cell_of_row _ _ _ _ _ _ (heap_alloc_new w _)]
  rcases i with _ | i
  · simpa using hy
  · simp at hy
theorem own_below {w w' : World} {base : Nat} {e : TypeId} {size : Nat} {v : Value} {n : Nat} {xs : List Value} (h : w.ownsRow base e size v n xs) (hb : Below w.heap.size w w') : w'.ownsRow base e size v n xs := by
  refine ⟨h.1, ?_⟩
  rcases h.2 with h2 | ⟨g, cap, cur, e1, hg, hh, hr⟩
  · exact Or.inl h2
  · exact Or.inr ⟨g, cap, cur, e1, hg, (hb.block g (lt_of_block hh)).trans hh, hr⟩
theorem hiOf_div (N : Nat) : hiOf (N : Int) / 10 = hiOf ((N / 10 : Nat) : Int) := by unfold hiOf; omega
theorem div_lo (N : Nat) : (hiOf (N : Int) % 10 * 18446744073709551616 + loOf (N : Int)) / 10 = loOf ((N / 10 : Nat) : Int) := by unfold hiOf loOf; omega
theorem mod_lo (N : Nat) : (hiOf (N : Int) % 10 * 18446744073709551616 + loOf (N : Int)) % 10 = ((N % 10 : Nat) : Int) := by unfold hiOf loOf; omega

set_option maxRecDepth 100000 in
set_option maxHeartbeats 2000000 in
theorem text_any (v : Int) (w : World) (hv : Fits v) :
    Calls Try.prog 24 #[W v] w fun e w' => e = .returned (textV v) ∧ Below w.heap.size w w' := by
  have ks := fun w => size_any v w hv
  have hV : v.natAbs < 10 ^ 40 ∧ v.natAbs < 340282366920938463463374607431768211456 := by unfold Fits at hv; omega
  have KS := Lib.hid ks
  have HV := Lib.hid hV
  have c0 : (w.alloc (.cells #[.int .i64 (hiOf v), .int .u64 (loOf v)] 24)).cell? ⟨w.heap.size, 0, none⟩ = some (.int .i64 (hiOf v)) := (cell_of_row _ _ _ _ _ _ (heap_alloc_new w _)).trans rfl
  have c1 : (w.alloc (.cells #[.int .i64 (hiOf v), .int .u64 (loOf v)] 24)).cell? ⟨w.heap.size, 1, none⟩ = some (.int .u64 (loOf v)) := (cell_of_row _ _ _ _ _ _ (heap_alloc_new w _)).trans rfl
  have hb : Below w.heap.size w (w.alloc (.cells #[.int .i64 (hiOf v), .int .u64 (loOf v)] 24)) := (Below.refl _ _).alloc (Nat.le_refl _) _
  have hsz : (w.alloc (.cells #[.int .i64 (hiOf v), .int .u64 (loOf v)] 24)).heap.size = w.heap.size + 1 := by simp
  unfold W at KS ⊢
  clear ks hV hv
  go_enter Try.func24, Try.ntmps24
  go_wp2_with fail
  generalize w.alloc (.cells #[.int .i64 (hiOf v), .int .u64 (loOf v)] 24) = wa at *
  refine (KS.out _).mono ?_
  rintro e w1 ⟨rfl, hb1⟩
  rw [hsz] at hb1
  have d0 : w1.cell? ⟨w.heap.size, 0, none⟩ = some (.int .i64 (hiOf v)) := (hb1.cell (by simp)).trans c0
  have HB := Lib.hid (hb.trans (hb1.mono (by omega)))
  have HZ := Lib.hid (show w.heap.size + 1 ≤ w1.heap.size from by rw [← hsz]; exact hb1.size)
  clear hb1 c0 c1 hb hsz
  go_wp2_with fail
  have HD := Lib.hid d0; clear d0
  have O0 := Lib.hid (show w1.ownsRow w1.heap.size 5 1 (.slice none 0 0) 0 [] from ⟨rfl, Or.inl ⟨rfl, rfl⟩⟩)
  go_loopw [3, 4, 5] (fun h l s wr => ∃ (N : Nat) (ds : List Int), h = .int .u64 (hiOf (N : Int)) ∧ l = .int .u64 (loOf (N : Int)) ∧ wr.ownsRow w1.heap.size 5 1 s ds.length (ds.map bv) ∧ Below w1.heap.size w1 wr ∧ ds ++ rest N (decide (ds ≠ [])) = digs v.natAbs ∧ ds.length ≤ 40 ∧ N < 10 ^ (40 - ds.length) ∧ N < 340282366920938463463374607431768211456) (fun _ _ s _ => 41 - (match s with | .slice _ n _ => n | _ => 0))
  case atStart => exact ⟨v.natAbs, [], rfl, rfl, O0.out, Below.refl _ _, by simp [rest], by simp, HV.out.1, HV.out.2⟩
  case round =>
    obtain ⟨N, ds, rfl, rfl, hown, hb', hds, hlen, hN, hN2⟩ := hrel
    obtain ⟨ad, c, rfl, hrow⟩ := Row.own hown
    have HO := Lib.hid hown; have HBB := Lib.hid hb'; have HDS := Lib.hid hds; have HN := Lib.hid hN; have HL := Lib.hid hlen
    have d0 : wr.cell? ⟨w.heap.size, 0, none⟩ = some (.int .i64 (hiOf v)) := (hb'.cell (by simp; have := HZ.out; omega)).trans HD.out
    have HD2 := Lib.hid d0; clear d0 hrow hown hb' hds hN hlen
    by_cases hgo : N ≠ 0 ∨ decide (ds ≠ []) = false
    · have hst := rest_step N (decide (ds ≠ [])) hgo
      have HST := Lib.hid hst; clear hst
      have kd := fun w => div_any (hiOf (N : Int) % 10) (loOf (N : Int)) w (by omega) (by omega) (loOf_range _).1 (loOf_range _).2
      rw [div_lo, mod_lo] at kd
      have q1 := hiOf_div N
      have KD := Lib.hid kd; clear kd
      have hh0 : 0 ≤ hiOf (N : Int) := by unfold hiOf; omega
      have hh1 : hiOf (N : Int) ≤ 18446744073709551615 := by unfold hiOf; omega
      have hl := loOf_range (N : Int)
      have hcond : decide (0 < hiOf (N : Int)) = true ∨ (decide (0 < hiOf (N : Int)) = false ∧ decide (0 < loOf (N : Int)) = true) ∨ (decide (0 < hiOf (N : Int)) = false ∧ decide (0 < loOf (N : Int)) = false ∧ ((ds.length : Int) == 0) = true) := by
        by_cases a1 : 0 < hiOf (N : Int)
        · exact Or.inl (by simpa using a1)
        · have a2 : hiOf (N : Int) = 0 := by omega
          have b1 : decide (0 < hiOf (N : Int)) = false := by simpa using a1
          by_cases a3 : 0 < loOf (N : Int)
          · exact Or.inr (Or.inl ⟨b1, by simpa using a3⟩)
          · refine Or.inr (Or.inr ⟨b1, by simpa using a3, ?_⟩)
            have a4 : N = 0 := by unfold hiOf at a2; unfold loOf at a3; omega
            rcases hgo with h | h
            · exact absurd a4 h
            · have : ds = [] := by simpa using h
              subst this; rfl
      have hlt0 : ds.length < 40 := by
        rcases Nat.lt_or_ge ds.length 40 with h | h
        · exact h
        · have h1 : ds.length = 40 := by have := HL.out; omega
          have h2 := HN.out
          rw [h1] at h2
          have h3 : N = 0 := by omega
          rcases hgo with h | h
          · exact absurd h3 h
          · have : ds = [] := by simpa using h
            subst this; simp at h1
      have HLT := Lib.hid hlt0; clear hlt0
      clear hgo
      obtain ⟨i0, hi, hz0, hz1, hz2⟩ := info_parts info5
      rcases hcond with g1 | ⟨g1, g2⟩ | ⟨g1, g2, g3⟩
      all_goals go_wp2_with fail
      all_goals have hm1 : ds.length + 1 ≤ maxLen := by have := HL.out; unfold maxLen; omega
      all_goals have hm2 : (ds.length + 1) * 1 ≤ 140737488355328 := by have := HL.out; omega
      all_goals have hdd : IntKind.u8.wrap (48 + ((N % 10 : Nat) : Int)) = 48 + ((N % 10 : Nat) : Int) := by rw [IntKind.wrap_u8]; omega
      all_goals
        refine (KD.out _).mono ?_
        rintro e w2 ⟨rfl, hb2⟩
        have HB2 := Lib.hid (HBB.out.trans (hb2.mono HBB.out.size))
        have HO2 := Lib.hid (own_below HO.out hb2)
        clear hb2
      all_goals go_wp2_with (at_builtin; refine wpList_append_copy rfl (.tmp 33) (.tmp 37) 58 rfl w1.heap.size 5 i0 (.int .u8 0) 1 Try.underlying58 hi hz0 hz1 hz2 rfl _ ds.length (ds.map bv) rfl (HO2.out.alloc _) (some ⟨w2.heap.size, 0, none⟩) 1 1 [bv (48 + ((N % 10 : Nat) : Int))] rfl (row_bv w2 _) (by simp) (one_int .u8 _) hm1 hm2 (HB2.out.alloc HB2.out.size _).size ?_; intro v3 w3 hown3 hb3 hnil; have HO3 := Lib.hid hown3; have HB3 := Lib.hid ((HB2.out.alloc HB2.out.size _).trans hb3); clear hown3 hb3 hnil)
      all_goals
        obtain ⟨a3, c3, rfl, _⟩ := Row.own HO3.out
        have ho := HO3.out
        have hl2 := HL.out
        have hn2 := HN.out
        have hlt : ds.length < 40 := HLT.out
        refine ⟨⟨N / 10, ds ++ [48 + ((N % 10 : Nat) : Int)], by simp, by simp, by simpa using ho, HB3.out, ?_, by simp; omega, ?_, ?_⟩, by simp; omega⟩
        · rw [← HDS.out, HST.out]; simp
        · rw [List.length_append, List.length_singleton]
          rw [show 40 - ds.length = (40 - (ds.length + 1)) + 1 from by omega, Nat.pow_succ] at hn2
          omega
        · omega
    · have hN0 : N = 0 := by
        rcases Nat.eq_zero_or_pos N with h | h
        · exact h
        · exact absurd (Or.inl (by omega)) hgo
      have hne : ds ≠ [] := fun h => hgo (Or.inr (by simp [h]))
      subst hN0
      have hds : ds = digs v.natAbs := by
        have := HDS.out
        rw [decide_eq_true hne] at this
        simpa [rest] using this
      have hl1 : ((ds.length : Int) == 0) = false := by
        have : ds.length ≠ 0 := fun h => hne (List.length_eq_zero_iff.1 h)
        simp; omega
      have z1 : hiOf ((0 : Nat) : Int) = 0 := rfl
      have z2 : loOf ((0 : Nat) : Int) = 0 := rfl
      rw [z1, z2]
      have HDD := Lib.hid hds
      clear hgo hne hds
      by_cases hv0 : v < 0
      · have d1 : decide (hiOf v < 0) = true := by simp; unfold hiOf; omega
        have d2 := HD2.out
        obtain ⟨i0, hi, hz0, hz1, hz2⟩ := info_parts info5
        have hm1 : ds.length + 1 ≤ maxLen := by have := HL.out; unfold maxLen; omega
        have hm2 : (ds.length + 1) * 1 ≤ 140737488355328 := by have := HL.out; omega
        go_wp2_with (first | (at_builtin; refine wpList_append_copy rfl (.tmp 42) (.tmp 43) 58 rfl w1.heap.size 5 i0 (.int .u8 0) 1 Try.underlying58 hi hz0 hz1 hz2 rfl _ ds.length (ds.map bv) rfl (HO.out.alloc _) (some ⟨wr.heap.size, 0, none⟩) 1 1 [bv 45] rfl (row_bv wr _) (by simp) (one_int .u8 _) hm1 hm2 (HBB.out.alloc HBB.out.size _).size ?_; intro v3 w3 hown3 hb3 hnil; have HO3 := Lib.hid (show w3.ownsRow w1.heap.size 5 1 v3 (ds.length + 1) ((ds ++ [45]).map bv) from by simpa using hown3); have HB3 := Lib.hid ((HBB.out.alloc HBB.out.size _).trans hb3); clear hown3 hb3 hnil))
        have hpos : 0 < ds.length + 1 := by omega
        have hbig : ds.length + 1 ≤ 65535 := by have := HL.out; omega
        refine (reversed_own w1.heap.size v3 (ds.length + 1) (ds ++ [45]) w3 HO3.out hpos hbig).mono ?_
        rintro e w4 ⟨rfl, hb4⟩
        have HB4 := Lib.hid (HB.out.trans ((HB3.out.trans hb4).mono (by have := HZ.out; omega)))
        clear hb4
        go_wp2
        go_ret
        refine ⟨?_, HB4.out⟩
        show _ = Ending.returned (textV v)
        unfold textV textRev
        rw [if_pos hv0, HDD.out, List.reverse_append]
        rfl
      · have d1 : decide (hiOf v < 0) = false := by simp; unfold hiOf; omega
        have d2 := HD2.out
        have hpos : 0 < ds.length := by
          have : ds.length ≠ 0 := fun h => by rw [h] at hl1; simp at hl1
          omega
        have hbig : ds.length ≤ 65535 := by have := HL.out; omega
        go_wp2_with fail
        refine (reversed_own w1.heap.size (.slice ad ds.length c) ds.length ds wr HO.out hpos hbig).mono ?_
        rintro e w4 ⟨rfl, hb4⟩
        have HB4 := Lib.hid (HB.out.trans ((HBB.out.trans hb4).mono (by have := HZ.out; omega)))
        clear hb4
        go_wp2
        go_ret
        refine ⟨?_, HB4.out⟩
        show _ = Ending.returned (textV v)
        unfold textV textRev
        rw [if_neg (by omega), List.append_nil, HDD.out]
        rfl
end Go.Proofs.Ytdamilkofdclbaa
