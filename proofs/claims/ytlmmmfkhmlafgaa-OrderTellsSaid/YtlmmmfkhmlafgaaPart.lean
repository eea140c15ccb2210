/- The walk of 'part'. -/
import Derived.Test.YtlmmmfkhmlafgaaParts
namespace Go.Proofs.Ytlmmmfkhmlafgaa
open Go.RowKit
set_option linter.unusedVariables false

set_option maxRecDepth 100000 in
set_option maxHeartbeats 1000000 in
theorem part_any (a : Option Addr) (n c : Nat) (by_ : Int) (l : List Int) (w : World) (hl : Row w a n (l.map i64v)) (hn : n ≤ 1000) :
    Calls Try.prog 16 #[.agg #[.slice a n c], .int .i64 by_] w (Parted l by_ w) := by
  obtain ⟨i0, hi, hz0, hz1, hz2⟩ := info_parts info2
  have hlen : l.length = n := by have := hl.1; simpa using this
  have HL := Lib.hid hl
  have HN := Lib.hid hlen
  clear hl hlen
  have hst : St w.heap.size (w.heap.size + 1) (w.heap.size + 1 + 1) w (((w.alloc (.cells #[.slice a n c] 34)).alloc (.cells #[.slice none 0 0] 34)).alloc (.cells #[.slice none 0 0] 34)) (.slice none 0 0) (.slice none 0 0) 0 0 [] [] := by
    refine ⟨by omega, by omega, by omega, ?_, ?_, World.ownsRow_nil _ _ _ _, World.ownsRow_nil _ _ _ _, .inl rfl, ?_, Nat.le_refl _⟩
    · rw [Below.heap_alloc _ _ _ (by simp)]
      have := heap_alloc_new (w.alloc (.cells #[.slice a n c] 34)) (.cells #[.slice none 0 0] 34)
      simpa using this
    · have := heap_alloc_new ((w.alloc (.cells #[.slice a n c] 34)).alloc (.cells #[.slice none 0 0] 34)) (.cells #[.slice none 0 0] 34)
      simpa using this
    · exact (((Below.refl _ _).alloc (Nat.le_refl _) _).alloc (by simp) _).alloc (by simp; omega) _
  have HS := Lib.hid hst; clear hst
  go_enter Try.func16, Try.ntmps16
  go_wp2
  generalize ((w.alloc (.cells #[.slice a n c] 34)).alloc (.cells #[.slice none 0 0] 34)).alloc (.cells #[.slice none 0 0] 34) = w0 at *
  go_loopw [6, 14] (fun s i wr => ∃ k : Nat, k ≤ n ∧ i = .int .i64 k ∧ s = .int .i64 (Ord.same (l.take k) by_ : Int) ∧ ∃ v4 v5, St w.heap.size (w.heap.size + 1) (w.heap.size + 1 + 1) w wr v4 v5 (Ord.less (l.take k) by_).length (Ord.more (l.take k) by_).length ((Ord.less (l.take k) by_).map i64v) ((Ord.more (l.take k) by_).map i64v)) (fun _ i _ => n - (intOf i).toNat)
  case atStart => exact ⟨0, by omega, rfl, rfl, _, _, HS.out⟩
  case round =>
    obtain ⟨k, hk, rfl, rfl, v4, v5, hst⟩ := hrel
    clear HS
    have c4 := cell_of_one hst.h4
    have c5 := cell_of_one hst.h5
    have f4 := free_of_one hst.h4
    have f5 := free_of_one hst.h5
    have hbel := hst.bel
    have hsz := hst.bel.size
    have HS := Lib.hid hst; clear hst
    by_cases hlt : k < n
    · obtain ⟨x, hx⟩ : ∃ x, l[k]? = some x := ⟨l[k]'(by rw [HN.out]; exact hlt), by rw [List.getElem?_eq_getElem]⟩
      obtain ⟨b, o, rfl, hc, hbl⟩ := HL.out.2 k (i64v x) (by simp [hx])
      have hcx : wr.cell? ⟨b, o + k, none⟩ = some (.int .i64 x) := by rw [hbel.cell hbl]; exact hc
      have htake : l.take (k + 1) = l.take k ++ [x] := by rw [List.take_add_one, hx]; rfl
      have e1 := Ord.less_snoc (l.take k) x by_
      have e2 := Ord.more_snoc (l.take k) x by_
      have e3 := Ord.same_snoc (l.take k) x by_
      rw [← htake] at e1 e2 e3
      have E1 := Lib.hid e1
      have E2 := Lib.hid e2
      have E3 := Lib.hid e3
      clear e1 e2 e3 htake hc hx hbel
      have hL1 : (Ord.less (l.take k) by_).length ≤ k := Nat.le_trans (List.length_filter_le _ _) (List.length_take_le _ _)
      have hL2 : (Ord.more (l.take k) by_).length ≤ k := Nat.le_trans (List.length_filter_le _ _) (List.length_take_le _ _)
      have hL3 : Ord.same (l.take k) by_ ≤ k := Nat.le_trans (List.length_filter_le _ _) (List.length_take_le _ _)
      rcases Int.lt_trichotomy x by_ with h | h | h
      · have hne : (x == by_) = false := by simp; omega
        have hm1 : (Ord.less (l.take k) by_).length + 1 ≤ maxLen := by unfold maxLen; omega
        have hm2 : ((Ord.less (l.take k) by_).length + 1) * 8 ≤ 140737488355328 := by omega
        go_wp2_with (at_builtin; refine wpList_append_own_at _ rfl (.tmp 25) (.tmp 27) 22 rfl w.heap.size 2 i0 (.int .i64 0) 1 8 Try.underlying22 hi hz0 hz1 hz2 rfl (by decide) v4 _ _ rfl (HS.out.o4.alloc _) ⟨wr.heap.size, 0, none⟩ 1 1 [i64v x] rfl rfl (news_one wr (i64v x) 2) (one_int .i64 x) hm1 hm2 (by simp; omega) ?_; intro v' w1 hown' hg' _ hat'; obtain ⟨a', c', hv', _⟩ := Row.own hown'; subst hv'; have hh := HS.out.held (.inl rfl) hg'; obtain ⟨d4, g4, d5, g5⟩ := hh; have HST := Lib.hid (HS.out.step4 hown' hg' hat'); clear hown' hg' hat')
        go_roundw
        case rel =>
          refine ⟨k + 1, by omega, by go_num, ?_, .slice a' ((Ord.less (l.take k) by_).length + 1) c', v5, ?_⟩
          · rw [E3.out, if_neg (by omega)]; simp
          · rw [E1.out, E2.out]
            rw [if_pos (by omega), if_neg (by omega)]
            simpa using HST.out
        case measure => simp [intOf]; omega
      · subst h
        go_wp2
        go_roundw
        case rel =>
          refine ⟨k + 1, by omega, by go_num, ?_, v4, v5, ?_⟩
          · rw [E3.out]; simp
          · rw [E1.out, E2.out]; simpa using HS.out
        case measure => simp [intOf]; omega
      · have hne : (x == by_) = false := by simp; omega
        have hm1 : (Ord.more (l.take k) by_).length + 1 ≤ maxLen := by unfold maxLen; omega
        have hm2 : ((Ord.more (l.take k) by_).length + 1) * 8 ≤ 140737488355328 := by omega
        go_wp2_with (at_builtin; refine wpList_append_own_at _ rfl (.tmp 36) (.tmp 38) 22 rfl w.heap.size 2 i0 (.int .i64 0) 1 8 Try.underlying22 hi hz0 hz1 hz2 rfl (by decide) v5 _ _ rfl (HS.out.o5.alloc _) ⟨wr.heap.size, 0, none⟩ 1 1 [i64v x] rfl rfl (news_one wr (i64v x) 2) (one_int .i64 x) hm1 hm2 (by simp; omega) ?_; intro v' w1 hown' hg' _ hat'; obtain ⟨a', c', hv', _⟩ := Row.own hown'; subst hv'; have hh := HS.out.held (.inr rfl) hg'; obtain ⟨d4, g4, d5, g5⟩ := hh; have HST := Lib.hid (HS.out.step5 hown' hg' hat'); clear hown' hg' hat')
        go_roundw
        case rel =>
          refine ⟨k + 1, by omega, by go_num, ?_, v4, .slice a' ((Ord.more (l.take k) by_).length + 1) c', ?_⟩
          · rw [E3.out, if_neg (by omega)]; simp
          · rw [E1.out, E2.out]
            rw [if_neg (by omega), if_pos (by omega)]
            simpa using HST.out
        case measure => simp [intOf]; omega
    · obtain rfl : k = n := by omega
      have htk : l.take k = l := List.take_of_length_le (by rw [HN.out]; exact Nat.le_refl _)
      rw [htk] at HS
      rw [htk]
      clear c4 c5 f4 f5 hbel hsz htk
      obtain ⟨a1, c1, e1, r1⟩ := Row.own HS.out.o4
      obtain ⟨a2, c2, e2, r2⟩ := Row.own HS.out.o5
      subst e1 e2
      have c4 := cell_of_one HS.out.h4
      have c5 := cell_of_one HS.out.h5
      have f4 := free_of_one HS.out.h4
      have f5 := free_of_one HS.out.h5
      have hfin : ∀ w', w'.heap = wr.heap → w'.os = wr.os → w'.tape = wr.tape → w'.output = wr.output → Parted l by_ w (.returned (.tuple #[.agg #[.slice a1 (Ord.less l by_).length c1], .agg #[.slice a2 (Ord.more l by_).length c2], .int .i64 (Ord.same l by_ : Int)])) w' := by
        intro w' hh ho ht hou
        have hb : Below wr.heap.size wr w' := ⟨ho, ht, hou, by rw [hh]; exact Nat.le_refl _, fun k _ => by rw [hh]⟩
        exact ⟨a1, c1, a2, c2, rfl, r1.below hb, r2.below hb, HS.out.bel.trans (hb.mono HS.out.bel.size)⟩
      have HF := Lib.hid hfin; clear hfin
      go_wp2
      go_region
      all_goals go_wp2
      all_goals rw [setCell_one_self HS.out.h4, setCell_one_self HS.out.h5]
      all_goals exact bodyPost_ret (v := .tuple #[.agg #[.slice a1 (Ord.less l by_).length c1], .agg #[.slice a2 (Ord.more l by_).length c2], .int .i64 (Ord.same l by_ : Int)]) (by simp [results, Try.results16, go_sem, c4, c5]) rfl (HF.out _ rfl rfl rfl rfl)
end Go.Proofs.Ytlmmmfkhmlafgaa
