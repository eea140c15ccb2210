/- The walk of the reference's Sorted. -/
import Derived.Test.YtlmmmfkhmlafgaaLaws1
import Derived.Deep.RegionLaw
import Derived.Deep.QuietTactic
import Derived.BigQuiet
namespace Go.Proofs.Ytlmmmfkhmlafgaa
open Go.RowKit
set_option linter.unusedVariables false

/-- What Sorted hands back: a slice that reads as a sorted row of the same numbers. -/
def IsSorted (l : List Int) (w : World) (e : Ending) (w' : World) : Prop :=
  ∃ (S : List Int) (a : Option Addr) (c : Nat), S.Pairwise (· ≤ ·) ∧ S.Perm l ∧ e = .returned (.slice a l.length c) ∧ Row w' a l.length (S.map i64v) ∧ Below w.heap.size w w'

theorem own_shape {w : World} {base B e : Nat} {v : Value} {n : Nat} {xs : List Value} (h : w.ownsRow base e 1 v n xs) (hn : 0 < n) (hb : B ≤ base) :
    ∃ g c, v = .slice (some ⟨g, 0, none⟩) n c ∧ n ≤ c ∧ c ≤ 9223372036854775807 ∧ w.ownsRow B e 1 (.slice (some ⟨g, 0, none⟩) n c) n xs := by
  obtain ⟨h1, h2⟩ := h
  rcases h2 with ⟨_, h0⟩ | ⟨g, cap, cur, hv, hg, r1, r2, r3, r4⟩
  · omega
  · unfold maxLen at r3
    exact ⟨g, cap, hv, r2, r3, h1, .inr ⟨g, cap, cur, rfl, Nat.le_trans hb hg, r1, r2, r3, r4⟩⟩
theorem cell_new (w : World) (v : Value) (t : TypeId) : (w.alloc (.cells #[v] t)).cell? ⟨w.heap.size, 0, none⟩ = some v := (cell_of_row _ _ _ _ _ _ (heap_alloc_new w (.cells #[v] t))).trans rfl
theorem row_one {w : World} {g : Nat} {v : Value} (h : w.cell? ⟨g, 0, none⟩ = some v) : Row w (some ⟨g, 0, none⟩) 1 [v] := by
  refine ⟨rfl, fun i x hx => ?_⟩
  match i, hx with
  | 0, hx =>
    simp at hx; subst hx
    exact ⟨g, 0, rfl, h, block_lt_of_cell h⟩
set_option maxRecDepth 100000 in
set_option maxHeartbeats 4000000 in
theorem sorted_any (a : Option Addr) (n c : Nat) (l : List Int) (w : World) (hl : Row w a n (l.map i64v)) (hn : n ≤ 1000) :
    Calls Try.prog 17 #[.slice a n c] w (IsSorted l w) := by
  obtain ⟨i0, hi, hz0, hz1, hz2⟩ := info_parts info2
  have hlen : l.length = n := by have := hl.1; simpa using this
  have HLn := Lib.hid hlen; clear hlen
  have HL := Lib.hid hl; clear hl
  have hst : (w.alloc (.cells #[] 2)).ownsRow w.heap.size 2 1 (.slice (some ⟨w.heap.size, 0, none⟩) 0 0) 0 [] := owns_empty w 2
  have HS := Lib.hid hst; clear hst
  have hb0 : Below w.heap.size w (w.alloc (.cells #[] 2)) := (Below.refl _ _).alloc (Nat.le_refl _) _
  go_enter Try.func17, Try.ntmps17
  go_wp2
  generalize w.alloc (.cells #[] 2) = w0 at *
  go_loopw [3, 4] (fun v i wr => ∃ (k : Nat) (S : List Int) (g c' : Nat), k ≤ n ∧ i = .int .i64 k ∧ S.Pairwise (· ≤ ·) ∧ S.Perm (l.take k) ∧ v = .slice (some ⟨g, 0, none⟩) k c' ∧ k ≤ c' ∧ c' ≤ 9223372036854775807 ∧ wr.ownsRow w.heap.size 2 1 (.slice (some ⟨g, 0, none⟩) k c') k (S.map i64v) ∧ Below w.heap.size w wr) (fun _ i _ => n - (intOf i).toNat)
  case atStart => exact ⟨0, [], w.heap.size, 0, by omega, rfl, List.Pairwise.nil, List.Perm.refl _, rfl, by omega, by omega, HS.out, hb0⟩
  case round =>
    obtain ⟨k, S, g, c', hk, rfl, hsort, hperm, rfl, hkc, hcm, hown, hbr⟩ := hrel
    clear HS hb0
    have HSo := Lib.hid hsort; clear hsort
    have HPe := Lib.hid hperm; clear hperm
    have HO := Lib.hid hown; clear hown
    have hSl : S.length = k := by rw [HPe.out.length_eq, List.length_take, HLn.out]; omega
    have HSl := Lib.hid hSl; clear hSl
    by_cases hlt : k < n
    · obtain ⟨x, hx⟩ : ∃ x, l[k]? = some x := ⟨l[k]'(by rw [HLn.out]; exact hlt), by rw [List.getElem?_eq_getElem]⟩
      obtain ⟨b, o, rfl, hc, hbl⟩ := HL.out.2 k (i64v x) (by simp [hx])
      have hc0 : w.cell? ⟨b, o + k, none⟩ = some (.int .i64 x) := hc
      have HC := Lib.hid hc0
      have htake : l.take (k + 1) = l.take k ++ [x] := by rw [List.take_add_one, hx]; rfl
      have HTk := Lib.hid htake
      clear hc hc0 hx htake
      go_wp2_with fail
      go_wp2
      generalize wr = w3 at *
      go_loopw [5] (fun t wr' => ∃ j : Nat, j ≤ k ∧ t = .int .i64 j ∧ (∀ y ∈ S.drop j, x < y) ∧ wr'.heap = w3.heap ∧ Below w.heap.size w wr') (fun t _ => (intOf t).toNat)
      case atStart => exact ⟨k, Nat.le_refl _, rfl, by rw [List.drop_eq_nil_of_le (by rw [HSl.out]; exact Nat.le_refl _)]; simp, rfl, hbr⟩
      case round =>
        obtain ⟨j, hj, rfl, hall, hheap, hbr2⟩ := hrel
        have HA := Lib.hid hall; clear hall
        have HH := Lib.hid hheap; clear hheap
        have hcx : wr.cell? ⟨b, o + k, none⟩ = some (.int .i64 x) := (hbr2.cell hbl).trans HC.out
        have hown3 : wr.ownsRow w.heap.size 2 1 (.slice (some ⟨g, 0, none⟩) k c') k (S.map i64v) := by
          have := HO.out
          refine ⟨this.1, ?_⟩
          rcases this.2 with h | h
          · exact .inl h
          · right; rw [HH.out]; exact h
        have HO3 := Lib.hid hown3; clear hown3
        by_cases hstop : 0 < j ∧ ∃ y, S[j - 1]? = some y ∧ x < y
        · obtain ⟨hj0, y, hy, hxy⟩ := hstop
          obtain ⟨t, rfl⟩ : ∃ t, j = t + 1 := ⟨j - 1, by omega⟩
          rw [Nat.add_sub_cancel] at hy
          have hcy : wr.cell? ⟨g, t, none⟩ = some (.int .i64 y) := by
            rw [HO3.out.cellAt t (by omega)]; simp [hy, i64v]
          have hall2 : ∀ z ∈ S.drop t, x < z := by
            intro z hz
            have ht : t < S.length := by rw [HSl.out]; omega
            rw [List.drop_eq_getElem_cons ht] at hz
            rcases List.mem_cons.1 hz with rfl | hz
            · rw [List.getElem?_eq_getElem ht] at hy
              simp only [Option.some.injEq] at hy
              omega
            · exact HA.out z hz
          have HA2 := Lib.hid hall2
          clear hall2 hy
          have hgt : (0 : Int) < ((t + 1 : Nat) : Int) := by omega
          have ht0 : (0 : Int) ≤ (t : Int) := by omega
          go_wp2_with fail
          go_quiet (fail)
          go_wp2
          go_roundw
          case rel => exact ⟨t, by omega, by go_num, HA2.out, HH.out, ⟨hbr2.os, hbr2.tape, hbr2.output, hbr2.size, hbr2.block⟩⟩
          case measure => first | (simp [intOf]; omega) | simp [intOf]
        · have hend : ∀ y, (S.take j).getLast? = some y → y ≤ x := by
            intro y hy
            have hj0 : 0 < j := by
              rcases Nat.eq_zero_or_pos j with h | h
              · subst h; simp at hy
              · exact h
            have hy' : S[j - 1]? = some y := by
              rw [List.getLast?_eq_getElem?, List.length_take, HSl.out, List.getElem?_take] at hy
              have e : min j k - 1 = j - 1 := by omega
              rw [e, if_pos (by omega)] at hy
              exact hy
            rcases Int.lt_or_le x y with h | h
            · exact absurd ⟨hj0, y, hy', h⟩ hstop
            · exact h
          have hins : (S.take j ++ x :: S.drop j).Pairwise (· ≤ ·) := Ord.insert_sorted (by rw [List.take_append_drop]; exact HSo.out) hend HA.out
          have hprm : (S.take j ++ x :: S.drop j).Perm (l.take (k + 1)) := by
            rw [HTk.out]
            refine List.perm_middle.trans ?_
            rw [List.take_append_drop]
            exact (List.Perm.cons x HPe.out).trans (List.perm_append_comm (l₁ := [x]) (l₂ := l.take k))
          have HI := Lib.hid hins
          have HP := Lib.hid hprm
          clear hins hprm hend
          have hsrc : ∀ w4, Below wr.heap.size wr w4 → Row w4 (if c' = j then some ⟨g, 0, none⟩ else some ⟨g, j, none⟩) (k - j) ((S.drop j).map i64v) ∧ Row w4 (some ⟨g, 0, none⟩) j ((S.take j).map i64v) := by
            intro w4 hb4
            obtain ⟨a9, c9, h9, r9⟩ := Row.own HO3.out
            simp only [Value.slice.injEq, true_and] at h9
            obtain ⟨rfl, rfl⟩ := h9
            have r9 := r9.below hb4
            refine ⟨?_, ?_⟩
            · split
              · rename_i e
                have e2 : k - j = 0 := by omega
                have e3 : S.drop j = [] := List.drop_eq_nil_of_le (by rw [HSl.out]; omega)
                rw [e2, e3]; exact Row.nil _ _
              · have := r9.drop j hj
                rw [Nat.zero_add, ← List.map_drop] at this
                exact this
            · have := r9.take j hj
              rwa [← List.map_take] at this
          have HSrc := Lib.hid hsrc; clear hsrc
          have hne : (if c' = j then (some ⟨g, 0, none⟩ : Option Addr) else some ⟨g, j, none⟩) = none → c' - j = 0 := by split <;> simp
          have HNE := Lib.hid hne; clear hne
          have hone1 := i64v_one (S.drop j)
          have hone2 := i64v_one (S.take j)
          have hki : (j : Int) ≤ (k : Int) := by omega
          have hjc : j ≤ c' := by omega
          have hm1 : k - j ≤ maxLen := by unfold maxLen; omega
          have hm2 : (k - j) * 8 ≤ 140737488355328 := by omega
          have hszr := hbr2.size
          have hstate : (0 < j ∧ ∃ y, S[j - 1]? = some y ∧ y ≤ x) ∨ j = 0 := by
            rcases Nat.eq_zero_or_pos j with h | h
            · exact .inr h
            · have hlt' : j - 1 < S.length := by rw [HSl.out]; omega
              refine .inl ⟨h, S[j - 1], List.getElem?_eq_getElem hlt', ?_⟩
              rcases Int.lt_or_le x S[j - 1] with h' | h'
              · exact absurd ⟨h, _, List.getElem?_eq_getElem hlt', h'⟩ hstop
              · exact h'
          clear hstop
          have hreg : ∀ nq, Below wr.heap.size wr (wr.drewN nq) := fun nq => ⟨rfl, rfl, rfl, Nat.le_refl _, fun _ _ => rfl⟩
          rcases hstate with ⟨hj0, y, hy, hyx⟩ | hj0
          · obtain ⟨t, ht⟩ : ∃ t, j = t + 1 := ⟨j - 1, by omega⟩
            have hy : S[t]? = some y := by rw [ht, Nat.add_sub_cancel] at hy; exact hy
            have hcy : wr.cell? ⟨g, t, none⟩ = some (.int .i64 y) := by
              rw [HO3.out.cellAt t (by omega)]; simp [hy, i64v]
            have hji : (j : Int) - 1 = (t : Int) := by omega
            have hgt : (0 : Int) < (j : Int) := by omega
            have ht0 : (0 : Int) ≤ (t : Int) := by omega
            have hxy : ¬ x < y := by omega
            clear hy ht
            go_wp2_with fail
            go_quiet (fail)
            have hb4 := hreg nq
            generalize wr.drewN nq = w4 at *
            clear hji
            go_wp2_with (at_builtin; refine wpList_append_fresh rfl (.tmp 32) (.tmp 35) 22 rfl w4.heap.size 2 i0 (.int .i64 0) 8 Try.underlying22 hi hz0 hz1 hz2 rfl _ _ rfl (owns_empty w4 2) _ (k - j) (c' - j) ((S.drop j).map i64v) rfl ((HSrc.out _ (hb4.alloc hb4.size _)).1) HNE.out hone1 hm1 hm2 (by simp) ?_)
            all_goals
              intro g2 c2 w5 hg2 hnc2 hcm2 hrow2 hown2 hb5
              have hb45 : Below w4.heap.size w4 w5 := ((Below.refl _ _).alloc (Nat.le_refl _) _).trans hb5
              have HB5 := Lib.hid (hb4.trans (hb45.mono hb4.size))
              have hrow2' : Row w5 (some ⟨g2, 0, none⟩) (k - j) ((S.drop j).map i64v) := by rw [List.map_drop]; exact hrow2
              have HR2 := Lib.hid hrow2'
              clear hrow2 hrow2' hown2 hb5 hb45
              have hbw5 : Below w.heap.size w w5 := hbr2.trans (HB5.out.mono hbr2.size)
              have hcx5 : w5.cell? ⟨b, o + k, none⟩ = some (.int .i64 x) := (hbw5.cell hbl).trans HC.out
              have hbl5 : b < w5.heap.size := Nat.lt_of_lt_of_le hbl hbw5.size
              have HBW5 := Lib.hid hbw5; clear hbw5
              have hb1 : Below w5.heap.size w5 (w5.alloc (.cells #[] 2)).drew := ((Below.refl _ _).alloc (Nat.le_refl _) _).drew
              have hb2 : Below w5.heap.size w5 ((w5.alloc (.cells #[] 2)).alloc (.cells #[i64v x] 2)).drew := (((Below.refl _ _).alloc (Nat.le_refl _) _).alloc (by simp) _).drew
              have hb3 : Below w5.heap.size w5 ((w5.alloc (.cells #[i64v x] 2)).alloc (.cells #[] 2)).drew := (((Below.refl _ _).alloc (Nat.le_refl _) _).alloc (by simp) _).drew
              have B1 := Lib.hid hb1
              have B2 := Lib.hid hb2
              have B3 := Lib.hid hb3
              have o1 : (w5.alloc (.cells #[] 2)).drew.ownsRow w5.heap.size 2 1 (.slice (some ⟨w5.heap.size, 0, none⟩) 0 0) 0 [] := owns_empty w5 2
              have o2 : ((w5.alloc (.cells #[] 2)).alloc (.cells #[i64v x] 2)).drew.ownsRow w5.heap.size 2 1 (.slice (some ⟨w5.heap.size, 0, none⟩) 0 0) 0 [] := (owns_empty w5 2).alloc _
              have o3 : ((w5.alloc (.cells #[i64v x] 2)).alloc (.cells #[] 2)).drew.ownsRow w5.heap.size 2 1 (.slice (some ⟨w5.heap.size + 1, 0, none⟩) 0 0) 0 [] := by
                have := World.ownsRow_lit (base := w5.heap.size) (e := 2) (size := 1) (w5.alloc (.cells #[i64v x] 2)) #[] 0 (by simp) (by unfold maxLen; omega) rfl
                rw [World.size_alloc] at this
                exact this
              have O1 := Lib.hid o1
              have O2 := Lib.hid o2
              have O3 := Lib.hid o3
              have HX2 := Lib.hid (show ((w5.alloc (.cells #[] 2)).alloc (.cells #[i64v x] 2)).drew.heap[w5.heap.size + 1]? = some (.cells #[i64v x] 2 (0, 0)) from heap_alloc2_new w5 _ _)
              have HX3 := Lib.hid (show ((w5.alloc (.cells #[i64v x] 2)).alloc (.cells #[] 2)).drew.heap[w5.heap.size]? = some (.cells #[i64v x] 2 (0, 0)) from heap_alloc2_old w5 _ _)
              clear hb1 hb2 hb3 o1 o2 o3
              have hm3 : 0 + j ≤ maxLen := by unfold maxLen; omega
              have hm4 : (0 + j) * 8 ≤ 140737488355328 := by omega
              have hm5 : 0 + j + 1 ≤ maxLen := by unfold maxLen; omega
              have hm6 : (0 + j + 1) * 8 ≤ 140737488355328 := by omega
              have hm7 : 0 + j + 1 + (k - j) ≤ maxLen := by unfold maxLen; omega
              have hm8 : (0 + j + 1 + (k - j)) * 8 ≤ 140737488355328 := by omega
              go_wp2_with fail
              go_region_law (first
                | (refine step_append_grown rfl (.tmp 37) (.tmp 40) 22 rfl w5.heap.size 2 i0 (.int .i64 0) 8 Try.underlying22 hi hz0 hz1 hz2 rfl (.slice (some ⟨w5.heap.size, 0, none⟩) 0 0) 0 [] rfl O1.out (some ⟨g, 0, none⟩) j _ ((S.take j).map i64v) rfl ((HSrc.out _ ((HB5.out.trans (B1.out.mono HB5.out.size)))).2) (by simp) hone2 hm3 hm4 B1.out.size ?_; intro v6 w6 hown6 hg6; have HO6 := Lib.hid hown6; have hb6 : Below w5.heap.size w5 w6 := B1.out.grown hg6 B1.out.size (fun kk hkk => (O1.out.lt kk hkk).1); have HB6 := Lib.hid hb6; have hcx6 : w6.cell? ⟨b, o + k, none⟩ = some (.int .i64 x) := (hb6.cell hbl5).trans hcx5; clear hown6 hg6 hb6)
                | (refine step_append_grown rfl (.tmp 37) (.tmp 40) 22 rfl w5.heap.size 2 i0 (.int .i64 0) 8 Try.underlying22 hi hz0 hz1 hz2 rfl (.slice (some ⟨w5.heap.size, 0, none⟩) 0 0) 0 [] rfl O2.out (some ⟨g, 0, none⟩) j _ ((S.take j).map i64v) rfl ((HSrc.out _ ((HB5.out.trans (B2.out.mono HB5.out.size)))).2) (by simp) hone2 hm3 hm4 B2.out.size ?_; intro v6 w6 hown6 hg6; have HO6 := Lib.hid hown6; have hb6 : Below w5.heap.size w5 w6 := B2.out.grown hg6 B2.out.size (fun kk hkk => (O2.out.lt kk hkk).1); have HB6 := Lib.hid hb6; have hcx6 : w6.cell? ⟨b, o + k, none⟩ = some (.int .i64 x) := (hb6.cell hbl5).trans hcx5; have hX : w6.cell? ⟨w5.heap.size + 1, 0, none⟩ = some (i64v x) := cell_of_one ((hg6.block _ (by simp) (by simp [Value.ownBlock])).trans HX2.out); have HX := Lib.hid hX; clear hX; clear hown6 hg6 hb6)
                | (refine step_append_grown rfl (.tmp 37) (.tmp 40) 22 rfl w5.heap.size 2 i0 (.int .i64 0) 8 Try.underlying22 hi hz0 hz1 hz2 rfl (.slice (some ⟨w5.heap.size + 1, 0, none⟩) 0 0) 0 [] rfl O3.out (some ⟨g, 0, none⟩) j _ ((S.take j).map i64v) rfl ((HSrc.out _ ((HB5.out.trans (B3.out.mono HB5.out.size)))).2) (by simp) hone2 hm3 hm4 B3.out.size ?_; intro v6 w6 hown6 hg6; have HO6 := Lib.hid hown6; have hb6 : Below w5.heap.size w5 w6 := B3.out.grown hg6 B3.out.size (fun kk hkk => (O3.out.lt kk hkk).1); have HB6 := Lib.hid hb6; have hcx6 : w6.cell? ⟨b, o + k, none⟩ = some (.int .i64 x) := (hb6.cell hbl5).trans hcx5; have hX : w6.cell? ⟨w5.heap.size, 0, none⟩ = some (i64v x) := cell_of_one ((hg6.block _ (by simp; omega) (by simp [Value.ownBlock])).trans HX3.out); have HX := Lib.hid hX; clear hX; clear hown6 hg6 hb6)
                | (refine step_append_grown rfl (.tmp 41) (.tmp 46) 22 rfl w5.heap.size 2 i0 (.int .i64 0) 8 Try.underlying22 hi hz0 hz1 hz2 rfl v6 _ _ rfl (HO6.out.alloc _) (some ⟨w6.heap.size, 0, none⟩) 1 1 [i64v x] rfl (row_one (cell_new w6 (i64v x) 2)) (by simp) (one_int .i64 x) hm5 hm6 (HB6.out.alloc HB6.out.size _).size ?_; intro v7 w7 hown7 hg7; have HO7 := Lib.hid hown7; have hb7 : Below w5.heap.size w5 w7 := (HB6.out.alloc HB6.out.size _).grown hg7 (HB6.out.alloc HB6.out.size _).size (fun kk hkk => (HO6.out.lt kk hkk).1); have HB7 := Lib.hid hb7; clear hown7 hg7 hb7)
                | (refine step_append_grown rfl (.tmp 41) (.tmp 46) 22 rfl w5.heap.size 2 i0 (.int .i64 0) 8 Try.underlying22 hi hz0 hz1 hz2 rfl v6 _ _ rfl HO6.out (some ⟨w5.heap.size + 1, 0, none⟩) 1 1 [i64v x] rfl (row_one HX.out) (by simp) (one_int .i64 x) hm5 hm6 HB6.out.size ?_; intro v7 w7 hown7 hg7; have HO7 := Lib.hid hown7; have hb7 : Below w5.heap.size w5 w7 := (HB6.out).grown hg7 HB6.out.size (fun kk hkk => (HO6.out.lt kk hkk).1); have HB7 := Lib.hid hb7; clear hown7 hg7 hb7)
                | (refine step_append_grown rfl (.tmp 41) (.tmp 46) 22 rfl w5.heap.size 2 i0 (.int .i64 0) 8 Try.underlying22 hi hz0 hz1 hz2 rfl v6 _ _ rfl HO6.out (some ⟨w5.heap.size, 0, none⟩) 1 1 [i64v x] rfl (row_one HX.out) (by simp) (one_int .i64 x) hm5 hm6 HB6.out.size ?_; intro v7 w7 hown7 hg7; have HO7 := Lib.hid hown7; have hb7 : Below w5.heap.size w5 w7 := (HB6.out).grown hg7 HB6.out.size (fun kk hkk => (HO6.out.lt kk hkk).1); have HB7 := Lib.hid hb7; clear hown7 hg7 hb7)
                | (refine step_append_grown rfl (.tmp 47) (.tmp 48) 22 rfl w5.heap.size 2 i0 (.int .i64 0) 8 Try.underlying22 hi hz0 hz1 hz2 rfl v7 _ _ rfl HO7.out (some ⟨g2, 0, none⟩) (k - j) _ ((S.drop j).map i64v) rfl (HR2.out.below HB7.out) (by simp) hone1 hm7 hm8 HB7.out.size ?_; intro v8 w8 hown8 hg8; have HO8 := Lib.hid hown8; have hb8 : Below w5.heap.size w5 w8 := HB7.out.grown hg8 HB7.out.size (fun kk hkk => (HO7.out.lt kk hkk).1); have HB8 := Lib.hid hb8; clear hown8 hg8 hb8))
              all_goals
                have ho8 := HO8.out
                rw [List.nil_append, show 0 + j + 1 + (k - j) = k + 1 from by omega] at ho8
                obtain ⟨g8, c8, hv8, q1, q2, q3⟩ := own_shape ho8 (by omega) HBW5.out.size
                subst hv8
                have q4 : w8.ownsRow w.heap.size 2 1 (.slice (some ⟨g8, 0, none⟩) (k + 1) c8) (k + 1) ((S.take j ++ x :: S.drop j).map i64v) := by
                  rw [List.map_append, List.map_cons]
                  simpa using q3
                have Q4 := Lib.hid q4
                have hbf : Below w.heap.size w w8 := HBW5.out.trans (HB8.out.mono HBW5.out.size)
                have HBF := Lib.hid hbf
                clear ho8 q3 q4 hbf
                go_wp2
                go_roundw
                case rel => exact ⟨k + 1, S.take j ++ x :: S.drop j, g8, c8, by omega, by go_num, HI.out, HP.out, rfl, q1, q2, Q4.out, HBF.out⟩
                case measure => simp [intOf]; omega
          · have hgt : ¬ (0 : Int) < (j : Int) := by omega
            have hg0 : decide (0 < j) = false := by simp; omega
            clear hj0
            go_wp2_with fail
            go_quiet (fail)
            have hb4 := hreg nq
            generalize wr.drewN nq = w4 at *
            go_wp2_with (at_builtin; refine wpList_append_fresh rfl (.tmp 32) (.tmp 35) 22 rfl w4.heap.size 2 i0 (.int .i64 0) 8 Try.underlying22 hi hz0 hz1 hz2 rfl _ _ rfl (owns_empty w4 2) _ (k - j) (c' - j) ((S.drop j).map i64v) rfl ((HSrc.out _ (hb4.alloc hb4.size _)).1) HNE.out hone1 hm1 hm2 (by simp) ?_)
            all_goals
              intro g2 c2 w5 hg2 hnc2 hcm2 hrow2 hown2 hb5
              have hb45 : Below w4.heap.size w4 w5 := ((Below.refl _ _).alloc (Nat.le_refl _) _).trans hb5
              have HB5 := Lib.hid (hb4.trans (hb45.mono hb4.size))
              have hrow2' : Row w5 (some ⟨g2, 0, none⟩) (k - j) ((S.drop j).map i64v) := by rw [List.map_drop]; exact hrow2
              have HR2 := Lib.hid hrow2'
              clear hrow2 hrow2' hown2 hb5 hb45
              have hbw5 : Below w.heap.size w w5 := hbr2.trans (HB5.out.mono hbr2.size)
              have hcx5 : w5.cell? ⟨b, o + k, none⟩ = some (.int .i64 x) := (hbw5.cell hbl).trans HC.out
              have hbl5 : b < w5.heap.size := Nat.lt_of_lt_of_le hbl hbw5.size
              have HBW5 := Lib.hid hbw5; clear hbw5
              have hb1 : Below w5.heap.size w5 (w5.alloc (.cells #[] 2)).drew := ((Below.refl _ _).alloc (Nat.le_refl _) _).drew
              have hb2 : Below w5.heap.size w5 ((w5.alloc (.cells #[] 2)).alloc (.cells #[i64v x] 2)).drew := (((Below.refl _ _).alloc (Nat.le_refl _) _).alloc (by simp) _).drew
              have hb3 : Below w5.heap.size w5 ((w5.alloc (.cells #[i64v x] 2)).alloc (.cells #[] 2)).drew := (((Below.refl _ _).alloc (Nat.le_refl _) _).alloc (by simp) _).drew
              have B1 := Lib.hid hb1
              have B2 := Lib.hid hb2
              have B3 := Lib.hid hb3
              have o1 : (w5.alloc (.cells #[] 2)).drew.ownsRow w5.heap.size 2 1 (.slice (some ⟨w5.heap.size, 0, none⟩) 0 0) 0 [] := owns_empty w5 2
              have o2 : ((w5.alloc (.cells #[] 2)).alloc (.cells #[i64v x] 2)).drew.ownsRow w5.heap.size 2 1 (.slice (some ⟨w5.heap.size, 0, none⟩) 0 0) 0 [] := (owns_empty w5 2).alloc _
              have o3 : ((w5.alloc (.cells #[i64v x] 2)).alloc (.cells #[] 2)).drew.ownsRow w5.heap.size 2 1 (.slice (some ⟨w5.heap.size + 1, 0, none⟩) 0 0) 0 [] := by
                have := World.ownsRow_lit (base := w5.heap.size) (e := 2) (size := 1) (w5.alloc (.cells #[i64v x] 2)) #[] 0 (by simp) (by unfold maxLen; omega) rfl
                rw [World.size_alloc] at this
                exact this
              have O1 := Lib.hid o1
              have O2 := Lib.hid o2
              have O3 := Lib.hid o3
              have HX2 := Lib.hid (show ((w5.alloc (.cells #[] 2)).alloc (.cells #[i64v x] 2)).drew.heap[w5.heap.size + 1]? = some (.cells #[i64v x] 2 (0, 0)) from heap_alloc2_new w5 _ _)
              have HX3 := Lib.hid (show ((w5.alloc (.cells #[i64v x] 2)).alloc (.cells #[] 2)).drew.heap[w5.heap.size]? = some (.cells #[i64v x] 2 (0, 0)) from heap_alloc2_old w5 _ _)
              clear hb1 hb2 hb3 o1 o2 o3
              have hm3 : 0 + j ≤ maxLen := by unfold maxLen; omega
              have hm4 : (0 + j) * 8 ≤ 140737488355328 := by omega
              have hm5 : 0 + j + 1 ≤ maxLen := by unfold maxLen; omega
              have hm6 : (0 + j + 1) * 8 ≤ 140737488355328 := by omega
              have hm7 : 0 + j + 1 + (k - j) ≤ maxLen := by unfold maxLen; omega
              have hm8 : (0 + j + 1 + (k - j)) * 8 ≤ 140737488355328 := by omega
              go_wp2_with fail
              go_region_law (first
                | (refine step_append_grown rfl (.tmp 37) (.tmp 40) 22 rfl w5.heap.size 2 i0 (.int .i64 0) 8 Try.underlying22 hi hz0 hz1 hz2 rfl (.slice (some ⟨w5.heap.size, 0, none⟩) 0 0) 0 [] rfl O1.out (some ⟨g, 0, none⟩) j _ ((S.take j).map i64v) rfl ((HSrc.out _ ((HB5.out.trans (B1.out.mono HB5.out.size)))).2) (by simp) hone2 hm3 hm4 B1.out.size ?_; intro v6 w6 hown6 hg6; have HO6 := Lib.hid hown6; have hb6 : Below w5.heap.size w5 w6 := B1.out.grown hg6 B1.out.size (fun kk hkk => (O1.out.lt kk hkk).1); have HB6 := Lib.hid hb6; have hcx6 : w6.cell? ⟨b, o + k, none⟩ = some (.int .i64 x) := (hb6.cell hbl5).trans hcx5; clear hown6 hg6 hb6)
                | (refine step_append_grown rfl (.tmp 37) (.tmp 40) 22 rfl w5.heap.size 2 i0 (.int .i64 0) 8 Try.underlying22 hi hz0 hz1 hz2 rfl (.slice (some ⟨w5.heap.size, 0, none⟩) 0 0) 0 [] rfl O2.out (some ⟨g, 0, none⟩) j _ ((S.take j).map i64v) rfl ((HSrc.out _ ((HB5.out.trans (B2.out.mono HB5.out.size)))).2) (by simp) hone2 hm3 hm4 B2.out.size ?_; intro v6 w6 hown6 hg6; have HO6 := Lib.hid hown6; have hb6 : Below w5.heap.size w5 w6 := B2.out.grown hg6 B2.out.size (fun kk hkk => (O2.out.lt kk hkk).1); have HB6 := Lib.hid hb6; have hcx6 : w6.cell? ⟨b, o + k, none⟩ = some (.int .i64 x) := (hb6.cell hbl5).trans hcx5; have hX : w6.cell? ⟨w5.heap.size + 1, 0, none⟩ = some (i64v x) := cell_of_one ((hg6.block _ (by simp) (by simp [Value.ownBlock])).trans HX2.out); have HX := Lib.hid hX; clear hX; clear hown6 hg6 hb6)
                | (refine step_append_grown rfl (.tmp 37) (.tmp 40) 22 rfl w5.heap.size 2 i0 (.int .i64 0) 8 Try.underlying22 hi hz0 hz1 hz2 rfl (.slice (some ⟨w5.heap.size + 1, 0, none⟩) 0 0) 0 [] rfl O3.out (some ⟨g, 0, none⟩) j _ ((S.take j).map i64v) rfl ((HSrc.out _ ((HB5.out.trans (B3.out.mono HB5.out.size)))).2) (by simp) hone2 hm3 hm4 B3.out.size ?_; intro v6 w6 hown6 hg6; have HO6 := Lib.hid hown6; have hb6 : Below w5.heap.size w5 w6 := B3.out.grown hg6 B3.out.size (fun kk hkk => (O3.out.lt kk hkk).1); have HB6 := Lib.hid hb6; have hcx6 : w6.cell? ⟨b, o + k, none⟩ = some (.int .i64 x) := (hb6.cell hbl5).trans hcx5; have hX : w6.cell? ⟨w5.heap.size, 0, none⟩ = some (i64v x) := cell_of_one ((hg6.block _ (by simp; omega) (by simp [Value.ownBlock])).trans HX3.out); have HX := Lib.hid hX; clear hX; clear hown6 hg6 hb6)
                | (refine step_append_grown rfl (.tmp 41) (.tmp 46) 22 rfl w5.heap.size 2 i0 (.int .i64 0) 8 Try.underlying22 hi hz0 hz1 hz2 rfl v6 _ _ rfl (HO6.out.alloc _) (some ⟨w6.heap.size, 0, none⟩) 1 1 [i64v x] rfl (row_one (cell_new w6 (i64v x) 2)) (by simp) (one_int .i64 x) hm5 hm6 (HB6.out.alloc HB6.out.size _).size ?_; intro v7 w7 hown7 hg7; have HO7 := Lib.hid hown7; have hb7 : Below w5.heap.size w5 w7 := (HB6.out.alloc HB6.out.size _).grown hg7 (HB6.out.alloc HB6.out.size _).size (fun kk hkk => (HO6.out.lt kk hkk).1); have HB7 := Lib.hid hb7; clear hown7 hg7 hb7)
                | (refine step_append_grown rfl (.tmp 41) (.tmp 46) 22 rfl w5.heap.size 2 i0 (.int .i64 0) 8 Try.underlying22 hi hz0 hz1 hz2 rfl v6 _ _ rfl HO6.out (some ⟨w5.heap.size + 1, 0, none⟩) 1 1 [i64v x] rfl (row_one HX.out) (by simp) (one_int .i64 x) hm5 hm6 HB6.out.size ?_; intro v7 w7 hown7 hg7; have HO7 := Lib.hid hown7; have hb7 : Below w5.heap.size w5 w7 := (HB6.out).grown hg7 HB6.out.size (fun kk hkk => (HO6.out.lt kk hkk).1); have HB7 := Lib.hid hb7; clear hown7 hg7 hb7)
                | (refine step_append_grown rfl (.tmp 41) (.tmp 46) 22 rfl w5.heap.size 2 i0 (.int .i64 0) 8 Try.underlying22 hi hz0 hz1 hz2 rfl v6 _ _ rfl HO6.out (some ⟨w5.heap.size, 0, none⟩) 1 1 [i64v x] rfl (row_one HX.out) (by simp) (one_int .i64 x) hm5 hm6 HB6.out.size ?_; intro v7 w7 hown7 hg7; have HO7 := Lib.hid hown7; have hb7 : Below w5.heap.size w5 w7 := (HB6.out).grown hg7 HB6.out.size (fun kk hkk => (HO6.out.lt kk hkk).1); have HB7 := Lib.hid hb7; clear hown7 hg7 hb7)
                | (refine step_append_grown rfl (.tmp 47) (.tmp 48) 22 rfl w5.heap.size 2 i0 (.int .i64 0) 8 Try.underlying22 hi hz0 hz1 hz2 rfl v7 _ _ rfl HO7.out (some ⟨g2, 0, none⟩) (k - j) _ ((S.drop j).map i64v) rfl (HR2.out.below HB7.out) (by simp) hone1 hm7 hm8 HB7.out.size ?_; intro v8 w8 hown8 hg8; have HO8 := Lib.hid hown8; have hb8 : Below w5.heap.size w5 w8 := HB7.out.grown hg8 HB7.out.size (fun kk hkk => (HO7.out.lt kk hkk).1); have HB8 := Lib.hid hb8; clear hown8 hg8 hb8))
              all_goals
                have ho8 := HO8.out
                rw [List.nil_append, show 0 + j + 1 + (k - j) = k + 1 from by omega] at ho8
                obtain ⟨g8, c8, hv8, q1, q2, q3⟩ := own_shape ho8 (by omega) HBW5.out.size
                subst hv8
                have q4 : w8.ownsRow w.heap.size 2 1 (.slice (some ⟨g8, 0, none⟩) (k + 1) c8) (k + 1) ((S.take j ++ x :: S.drop j).map i64v) := by
                  rw [List.map_append, List.map_cons]
                  simpa using q3
                have Q4 := Lib.hid q4
                have hbf : Below w.heap.size w w8 := HBW5.out.trans (HB8.out.mono HBW5.out.size)
                have HBF := Lib.hid hbf
                clear ho8 q3 q4 hbf
                go_wp2
                go_roundw
                case rel => exact ⟨k + 1, S.take j ++ x :: S.drop j, g8, c8, by omega, by go_num, HI.out, HP.out, rfl, q1, q2, Q4.out, HBF.out⟩
                case measure => simp [intOf]; omega
    · obtain rfl : k = n := by omega
      obtain ⟨a9, c9, h9, r9⟩ := Row.own HO.out
      have htk : l.take k = l := List.take_of_length_le (by rw [HLn.out]; exact Nat.le_refl _)
      have hfin : IsSorted l w (.returned (.slice (some ⟨g, 0, none⟩) k c')) wr := by
        simp only [Value.slice.injEq, true_and] at h9
        obtain ⟨rfl, rfl⟩ := h9
        have hp := HPe.out
        rw [htk] at hp
        exact ⟨S, _, _, HSo.out, hp, by rw [HLn.out], by rw [HLn.out]; exact r9, hbr⟩
      have HF := Lib.hid hfin
      clear hfin htk h9 r9
      go_wp2
      go_ret
      exact HF.out
end Go.Proofs.Ytlmmmfkhmlafgaa
