/- The reference's words and texts walked. -/
import Derived.Test.YtjhlpmigkbaegaaDoorJoin
import Derived.Test.YtjhlpmigkbaegaaDoorWords
namespace Go.Proofs.YtjhlpmigkbaegaaDoor
open Go.RowKit
set_option linter.unusedVariables false
set_option linter.unusedSimpArgs false

/-- Where the reference's word ends: from place e on, with q quotes met. -/
def scan (s : ByteArray) (a e q : Nat) : Nat :=
  if e < s.size ∧ (bAt s e ≠ 32 ∨ q = 1) then scan s a (e + 1) (if bAt s e = 34 ∧ (e = a ∨ q = 1) then q + 1 else q) else e
termination_by s.size - e
theorem scan_go {s : ByteArray} {a e q : Nat} (h : e < s.size) (h2 : bAt s e ≠ 32 ∨ q = 1) : scan s a e q = scan s a (e + 1) (if bAt s e = 34 ∧ (e = a ∨ q = 1) then q + 1 else q) := by
  conv => lhs; rw [scan, if_pos ⟨h, h2⟩]
theorem scan_stop {s : ByteArray} {a e q : Nat} (h : ¬ (e < s.size ∧ (bAt s e ≠ 32 ∨ q = 1))) : scan s a e q = e := by rw [scan, if_neg h]
theorem scan_flat (s : ByteArray) (a e q : Nat) (hq : q ≠ 1) (ha : a ≤ e) (hs : e = a → bAt s a ≠ 34) : scan s a e q = skipTo s e := by
  by_cases h : e < s.size ∧ bAt s e ≠ 32
  · rw [scan_go h.1 (.inl h.2), if_neg (by rintro ⟨x, y | y⟩; · subst y; exact hs rfl x
                                           · exact hq y), skipTo, if_pos h]
    exact scan_flat s a (e + 1) q hq (by omega) (fun x => absurd x (by omega))
  · rw [scan_stop (by rintro ⟨x, y | y⟩; · exact h ⟨x, y⟩
                      · exact hq y), skipTo, if_neg h]
termination_by s.size - e
theorem scan_quoted (s : ByteArray) (a e : Nat) (ha : a < e) (he : e ≤ s.size) : scan s a e 1 = skipTo s (quoteFrom s e) := by
  by_cases h : e < s.size
  · by_cases hq : bAt s e = 34
    · rw [scan_go h (.inr rfl), if_pos ⟨hq, .inr rfl⟩, scan_flat s a (e + 1) 2 (by omega) (by omega) (fun x => absurd x (by omega)), quoteFrom, if_neg (by rintro ⟨x, y⟩; exact y hq)]
      conv => rhs; rw [skipTo, if_pos ⟨h, by rw [hq]; decide⟩]
    · rw [scan_go h (.inr rfl), if_neg (by rintro ⟨x, _⟩; exact hq x), scan_quoted s a (e + 1) (by omega) (by omega)]
      conv => rhs; rw [quoteFrom, if_pos ⟨h, hq⟩]
  · rw [scan_stop (by rintro ⟨x, _⟩; exact h x), quoteFrom, if_neg (by rintro ⟨x, _⟩; exact h x), skipTo, if_neg (by rintro ⟨x, _⟩; exact h x)]
termination_by s.size - e
theorem scan_word (s : ByteArray) (a : Nat) (h : a < s.size) (h2 : bAt s a ≠ 32) : scan s a a 0 = wordEnd s a := by
  unfold wordEnd
  by_cases hq : bAt s a = 34
  · rw [scan_go h (.inl h2), if_pos ⟨hq, .inl rfl⟩, wordFrom_q h hq]
    exact scan_quoted s a (a + 1) (by omega) h
  · rw [wordFrom_n hq]
    exact scan_flat s a a 0 (by omega) (Nat.le_refl _) (fun _ => hq)
theorem info38 : (Tryd.prog.info? 38).map (fun i => (i.zero, i.size, i.bytes)) = some (some (.agg #[.string ⟨#[]⟩, .int .i64 0]), 2, 24) := by kernel_rfl
/-- A slice that reads as a row of the reference's words. -/
def RRow (w : World) (a : Option Addr) (n : Nat) (l : List (ByteArray × Nat)) : Prop :=
  l.length = n ∧ (l = [] ∨ ∃ g rest, a = some ⟨g, 0, none⟩ ∧ w.heap[g]? = some (.cells (wblk l rest) 38 (0, 0)))
theorem RRow.cell {w : World} {a n l} (h : RRow w a n l) {k : Nat} {p : ByteArray × Nat} (hp : l[k]? = some p) : ∃ g, a = some ⟨g, 0, none⟩ ∧ w.cell? ⟨g, k * 2, none⟩ = some (.string p.1) := by
  rcases h.2 with rfl | ⟨g, rest, e, hh⟩
  · simp at hp
  · exact ⟨g, e, (cell_of_row _ _ _ _ _ _ hh).trans (wblk_get hp rest)⟩
theorem RRow.own {w : World} {base : Nat} {v : Value} {n : Nat} {l : List (ByteArray × Nat)} (h : w.ownsRow base 38 2 v n (wcells l)) :
    ∃ a c, v = .slice a n c ∧ RRow w a n l ∧ n ≤ c := by
  have hn : l.length = n := by
    have := h.1
    rw [wcells_len] at this
    omega
  rcases h with ⟨hl, ⟨rfl, he⟩ | ⟨g, cap, cur, rfl, hg, hh, hnc, hcm, hcs, ht⟩⟩
  · obtain rfl : l = [] := List.length_eq_zero_iff.1 (by omega)
    subst he
    exact ⟨none, 0, rfl, ⟨rfl, .inl rfl⟩, Nat.le_refl _⟩
  · refine ⟨_, cap, rfl, ⟨hn, .inr ⟨g, cur.toList.drop (n * 2), rfl, ?_⟩⟩, hnc⟩
    rw [hh]
    unfold wblk
    rw [← ht, List.take_append_drop]
theorem news_r (W : World) {s : Nat} (hs : W.heap.size = s) (x : ByteArray) (k : Nat) : ∀ j u, (wcells [(x, k)])[j]? = some u → (W.alloc (.cells #[.string x, .int .i64 k] 38)).cell? ((⟨s, 0, none⟩ : Addr).add j) = some u := by
  subst hs
  intro j u hj
  match j, hj with
  | 0, hj =>
    simp [wcells] at hj; subst hj
    exact (cell_of_row _ _ _ _ _ _ (heap_alloc_new W (.cells #[.string x, .int .i64 k] 38))).trans rfl
  | 1, hj =>
    simp [wcells] at hj; subst hj
    exact (cell_of_row _ _ _ _ _ _ (heap_alloc_new W (.cells #[.string x, .int .i64 k] 38))).trans rfl
theorem rowns_empty (w : World) : (w.alloc (.cells #[] 38)).ownsRow w.heap.size 38 2 (.slice (some ⟨w.heap.size, 0, none⟩) 0 0) 0 (wcells []) := by
  refine ⟨rfl, .inr ⟨w.heap.size, 0, #[], rfl, Nat.le_refl _, heap_alloc_new w _, Nat.le_refl _, by unfold maxLen; omega, rfl, rfl⟩⟩
theorem wlen_r {w : World} {base : Nat} {v : Value} {n : Nat} {l : List (ByteArray × Nat)} (h : w.ownsRow base 38 2 v n (wcells l)) : l.length = n := by
  have := h.1; rw [wcells_len] at this; omega
def RelRW (s : ByteArray) (w : World) (u3 u4 : Value) (wr : World) : Prop :=
  ∃ (pos m : Nat) (xs : List (ByteArray × Nat)), pos ≤ s.size ∧ u4 = .int .i64 pos ∧ m ≤ pos ∧ Hid (wr.ownsRow w.heap.size 38 2 u3 m (wcells xs)) ∧
    Hid (xs ++ (wordsAt s pos).map (fun p => (s.extract p.1 p.2, p.1)) = wordsOf s) ∧ Hid (Below w.heap.size w wr)
def RWPost (s : ByteArray) (w : World) (e : Ending) (w' : World) : Prop :=
  ∃ a c, e = .returned (.slice a (wordsOf s).length c) ∧ RRow w' a (wordsOf s).length (wordsOf s) ∧ Below w.heap.size w w'
set_option maxRecDepth 100000 in
set_option maxHeartbeats 4000000 in
theorem rwords_any (s : ByteArray) (w : World) (hs : s.size ≤ 1048576) : Calls Tryd.prog 13 #[.string s] w (RWPost s w) := by
  obtain ⟨i0, hi0, hz0, hz1, hz2⟩ := info_parts info38
  have HE0 := Lib.hid (rowns_empty w)
  have HB0 := Lib.hid ((Below.refl w.heap.size w).alloc (Nat.le_refl _) (.cells #[] 38))
  go_enter Tryd.func13, Tryd.ntmps13
  go_wp2
  go_loopw [3, 4] (fun u3 u4 wr => RelRW s w u3 u4 wr) (fun _ u4 _ => s.size - (intOf u4).toNat)
  case atStart => exact ⟨0, 0, [], by omega, rfl, by omega, HE0, Lib.hid rfl, HB0⟩
  case round =>
    obtain ⟨pos, m, xs, hp, rfl, hm, HO, HCV, HBR⟩ := hrel
    obtain ⟨a2, k2, rfl, HWR0⟩ := RRow.own HO.out
    have HWR := Lib.hid HWR0; clear HWR0 HE0 HB0
    by_cases hlt : pos < s.size
    · have hb := bAt_get s pos hlt
      have hin : (pos : Int) < (s.size : Int) := by omega
      have hi0' : (0 : Int) ≤ (pos : Int) := by omega
      have hm4 : m + 1 ≤ maxLen := by unfold maxLen; omega
      have hn4 : (m + 1) * 24 ≤ 140737488355328 := by omega
      have HBS := Lib.hid (show w.heap.size ≤ wr.heap.size from HBR.out.size)
      by_cases h32 : bAt s pos = 32
      · have HCV2 := Lib.hid (show xs ++ (wordsAt s (pos + 1)).map (fun p => (s.extract p.1 p.2, p.1)) = wordsOf s by
          rw [← HCV.out]; conv => rhs; rw [wordsAt, dif_pos hlt, dif_pos h32])
        rw [h32] at hb
        clear h32
        go_wp2_with fail
        go_roundw
        case rel => exact ⟨pos + 1, m, xs, by omega, by go_num, by omega, HO, HCV2, HBR⟩
        case measure => simp [intOf]; omega
      · have WG := Lib.hid (wordEnd_gt hlt h32)
        have WS := Lib.hid (show (wordsAt s pos) = (pos, wordEnd s pos) :: wordsAt s (wordEnd s pos) by conv => lhs; rw [wordsAt, dif_pos hlt, dif_neg h32])
        have HSC0 := Lib.hid (scan_word s pos hlt h32)
        obtain ⟨b0, hb0⟩ : ∃ b0, bAt s pos = b0 := ⟨_, rfl⟩
        rw [hb0] at hb h32
        have g32 : ((b0 : Int) == 32) = false := by simp; omega
        obtain ⟨wo, rfl⟩ : ∃ wo : World, wo = wr := ⟨_, rfl⟩
        clear h32 hb0
        go_wp2_with fail
        clear hb g32
        go_loop [5, 6] (fun u5 u6 => ∃ e q : Nat, pos ≤ e ∧ e ≤ s.size ∧ q ≤ e ∧ u5 = .int .i64 e ∧ u6 = .int .i64 q ∧ Hid (scan s pos e q = wordEnd s pos)) (fun u5 _ => s.size - (intOf u5).toNat)
        case atStart => exact ⟨pos, 0, by omega, by omega, by omega, rfl, rfl, HSC0⟩
        case round =>
          obtain ⟨e, q, he1, he2, hq2, rfl, rfl, HSC⟩ := hrel
          clear HSC0
          by_cases hes : e < s.size
          · have hbe := bAt_get s e hes
            have hes2 : (e : Int) < (s.size : Int) := by omega
            have hes3 : (0 : Int) ≤ (e : Int) := by omega
            obtain ⟨b2, hb2⟩ : ∃ b2, bAt s e = b2 := ⟨_, rfl⟩
            rw [hb2] at hbe
            by_cases h32 : b2 = 32
            · subst h32
              by_cases hq : q = 1
              · subst hq
                have HSC2 := Lib.hid (show scan s pos (e + 1) 1 = wordEnd s pos by
                  rw [← HSC.out, scan_go hes (.inr rfl), if_neg (by rw [hb2]; rintro ⟨x, _⟩; omega)])
                clear hb2
                go_wp2_with fail
                go_round
                case rel => exact ⟨e + 1, 1, by omega, by omega, by omega, by go_num, by go_num, HSC2⟩
                case measure => simp [intOf]; omega
              · have HFIN := Lib.hid (show e = wordEnd s pos by rw [← HSC.out, scan_stop (fun z => z.2.elim (fun x => x hb2) hq)])
                have gq : ((q : Int) == 1) = false := by simp; omega
                clear hb2 hq
                have hge := WG.out
                have hfin := HFIN.out
                have HCV2 := Lib.hid (show (xs ++ [(s.extract pos e, pos)]) ++ (wordsAt s e).map (fun p => (s.extract p.1 p.2, p.1)) = wordsOf s by
                  rw [← HCV.out, WS.out, ← hfin]; simp)
                have hgt : pos < e := by omega
                clear hge hfin
                go_wp2_with (at_builtin; refine wpList_append_own_at _ rfl (.tmp 50) (.tmp 57) 35 rfl w.heap.size 38 i0 _ 2 24 Tryd.underlying35 hi0 hz0 hz1 hz2 rfl (by decide) _ _ _ rfl (HO.out.alloc _) ⟨wo.heap.size, 0, none⟩ 1 1 (wcells [(s.extract pos e, pos)]) rfl rfl (news_r _ rfl _ pos) (one_wcells _) hm4 hn4 (le_alloc HBS.out _) ?_; intro v1 w1 hown' hg' _ hat'; rw [← wcells_append] at hown'; have HB1 := Lib.hid ((HBR.out.alloc HBS.out _).grown hg' (le_alloc HBS.out _) (fun k hk => (HO.out.lt k hk).1)); obtain ⟨a1, c1, hv', _⟩ := RRow.own hown'; subst hv'; have HO1 := Lib.hid hown'; clear hown' hg' hat')
                go_roundw
                case rel => exact ⟨e, m + 1, xs ++ [(s.extract pos e, pos)], by omega, rfl, by omega, Lib.hid HO1.out, HCV2, Lib.hid HB1.out⟩
                case measure => simp [intOf]; omega
            · have g2 : ((b2 : Int) != 32) = true := by simp; omega
              by_cases h34 : b2 = 34
              · subst h34
                by_cases hep : e = pos
                · subst hep
                  have HSC2 := Lib.hid (show scan s e (e + 1) (q + 1) = wordEnd s e by
                    rw [← HSC.out, scan_go hes (.inl (by rw [hb2]; decide)), if_pos ⟨hb2, .inl rfl⟩])
                  clear hb2 h32
                  go_wp2_with fail
                  go_round
                  case rel => exact ⟨e + 1, q + 1, by omega, by omega, by omega, by go_num, by go_num, HSC2⟩
                  case measure => simp [intOf]; omega
                · have gep : ((e : Int) == (pos : Int)) = false := by simp; omega
                  by_cases hq : q = 1
                  · subst hq
                    have HSC2 := Lib.hid (show scan s pos (e + 1) 2 = wordEnd s pos by
                      rw [← HSC.out, scan_go hes (.inr rfl), if_pos ⟨hb2, .inr rfl⟩])
                    clear hb2 h32
                    go_wp2_with fail
                    go_round
                    case rel => exact ⟨e + 1, 2, by omega, by omega, by omega, by go_num, by go_num, HSC2⟩
                    case measure => simp [intOf]; omega
                  · have gq : ((q : Int) == 1) = false := by simp; omega
                    have HSC2 := Lib.hid (show scan s pos (e + 1) q = wordEnd s pos by
                      rw [← HSC.out, scan_go hes (.inl (by rw [hb2]; decide)), if_neg (fun z => z.2.elim hep hq)])
                    clear hb2 h32 hq hep
                    go_wp2_with fail
                    go_round
                    case rel => exact ⟨e + 1, q, by omega, by omega, by omega, by go_num, rfl, HSC2⟩
                    case measure => simp [intOf]; omega
              · have g3 : ((b2 : Int) == 34) = false := by simp; omega
                have HSC2 := Lib.hid (show scan s pos (e + 1) q = wordEnd s pos by
                  rw [← HSC.out, scan_go hes (.inl (by rw [hb2]; exact h32)), if_neg (by rw [hb2]; rintro ⟨x, _⟩; exact h34 x)])
                clear hb2 h32 h34
                go_wp2_with fail
                go_round
                case rel => exact ⟨e + 1, q, by omega, by omega, by omega, by go_num, rfl, HSC2⟩
                case measure => simp [intOf]; omega
          · have HFIN := Lib.hid (show e = wordEnd s pos by rw [← HSC.out, scan_stop (by rintro ⟨x, _⟩; exact hes x)])
            have g2 : decide (e < s.size) = false := by simp; omega
            clear hes
            have hge := WG.out
            have hfin := HFIN.out
            have HCV2 := Lib.hid (show (xs ++ [(s.extract pos e, pos)]) ++ (wordsAt s e).map (fun p => (s.extract p.1 p.2, p.1)) = wordsOf s by
              rw [← HCV.out, WS.out, ← hfin]; simp)
            have hgt : pos < e := by omega
            clear hge hfin
            go_wp2_with (at_builtin; refine wpList_append_own_at _ rfl (.tmp 50) (.tmp 57) 35 rfl w.heap.size 38 i0 _ 2 24 Tryd.underlying35 hi0 hz0 hz1 hz2 rfl (by decide) _ _ _ rfl (HO.out.alloc _) ⟨wo.heap.size, 0, none⟩ 1 1 (wcells [(s.extract pos e, pos)]) rfl rfl (news_r _ rfl _ pos) (one_wcells _) hm4 hn4 (le_alloc HBS.out _) ?_; intro v1 w1 hown' hg' _ hat'; rw [← wcells_append] at hown'; have HB1 := Lib.hid ((HBR.out.alloc HBS.out _).grown hg' (le_alloc HBS.out _) (fun k hk => (HO.out.lt k hk).1)); obtain ⟨a1, c1, hv', _⟩ := RRow.own hown'; subst hv'; have HO1 := Lib.hid hown'; clear hown' hg' hat')
            go_roundw
            case rel => exact ⟨e, m + 1, xs ++ [(s.extract pos e, pos)], by omega, rfl, by omega, Lib.hid HO1.out, HCV2, Lib.hid HB1.out⟩
            case measure => simp [intOf]; omega
    · have HF := Lib.hid (show xs = wordsOf s by rw [← HCV.out, wordsAt, dif_neg hlt]; simp)
      have hl : xs.length = m := wlen_r HO.out
      have g2 : decide (pos < s.size) = false := by simp; omega
      go_wp2_with fail
      go_ret
      refine ⟨a2, k2, ?_, ?_, HBR.out⟩
      · rw [← HF.out, hl]; rfl
      · rw [← HF.out, hl]; exact HWR.out.1
theorem named_iff (s : ByteArray) : namedB s = true ↔ 2 ≤ s.size ∧ bAt s 0 = 34 ∧ bAt s (s.size - 1) = 34 ∧ ∀ k, 1 ≤ k → k < s.size - 1 → bAt s k ≠ 34 := by
  constructor
  · intro h
    obtain ⟨h1, h2, h3, h4⟩ := named_parts h
    exact ⟨h1, h2, h4, fun k a b => quoteFrom_before s 1 k a (by omega)⟩
  · rintro ⟨h1, h2, h3, h4⟩
    have e := quoteFrom_is s 1 (s.size - 1) (by omega) h3 h4 (by omega)
    unfold namedB
    simp only [Bool.and_eq_true, decide_eq_true_eq]
    refine ⟨⟨h1, h2⟩, ?_⟩
    rcases quoteAt_from s 0 (by omega) with ⟨a, b, c⟩ | ⟨a, b⟩
    · simp only [Nat.zero_add] at b c; omega
    · simp only [Nat.zero_add] at b; omega
theorem named_no {s : ByteArray} (h : ¬ (2 ≤ s.size ∧ bAt s 0 = 34 ∧ bAt s (s.size - 1) = 34 ∧ ∀ k, 1 ≤ k → k < s.size - 1 → bAt s k ≠ 34)) : namedB s = false := by
  cases hb : namedB s with
  | false => rfl
  | true => exact absurd ((named_iff s).1 hb) h
set_option maxRecDepth 100000 in
set_option maxHeartbeats 1000000 in
theorem rnamed_any (s : ByteArray) (w : World) (hs : s.size ≤ 1048576) : Calls Tryd.prog 14 #[.string s] w fun e w' => e = .returned (.bool (namedB s)) ∧ w = w' := by
  by_cases h1 : s.size < 2
  · rw [named_no (fun h => absurd h.1 (by omega))]
    have g1 : decide ((s.size : Int) < 2) = true := by simp; omega
    go_enter Tryd.func14, Tryd.ntmps14
    go_wp2_with fail
    go_ret
    exact ⟨rfl, rfl⟩
  · have g1 : decide ((s.size : Int) < 2) = false := by simp; omega
    have hin0 : (0 : Int) < (s.size : Int) := by omega
    have hb0 := bAt_get s 0 (by omega)
    by_cases h2 : bAt s 0 = 34
    · have hbl := bAt_get s (s.size - 1) (by omega)
      have hin1 : (s.size : Int) - 1 < (s.size : Int) := by omega
      have hin2 : (0 : Int) ≤ (s.size : Int) - 1 := by omega
      have hcast : ((s.size : Int) - 1) = ((s.size - 1 : Nat) : Int) := by omega
      rw [h2] at hb0
      by_cases h3 : bAt s (s.size - 1) = 34
      · rw [h3] at hbl
        go_enter Tryd.func14, Tryd.ntmps14
        go_wp2_with fail
        clear hb0 hbl
        go_loop [3] (fun u3 => ∃ i : Nat, 1 ≤ i ∧ i ≤ s.size - 1 ∧ u3 = .int .i64 i ∧ Hid (∀ k, 1 ≤ k → k < i → bAt s k ≠ 34)) (fun u3 => s.size - (intOf u3).toNat)
        case atStart => exact ⟨1, by omega, by omega, rfl, Lib.hid (fun k a b => absurd b (by omega))⟩
        case round =>
          obtain ⟨i, hi1, hi2, rfl, HN⟩ := hrel
          by_cases hlt : i < s.size - 1
          · have hb := bAt_get s i (by omega)
            have g2 : decide ((i : Int) < ((s.size - 1 : Nat) : Int)) = true := by simp; omega
            have g3 : (i : Int) < ((s.size - 1 : Nat) : Int) := by omega
            have hi3 : (i : Int) < (s.size : Int) := by omega
            have hi4 : (0 : Int) ≤ (i : Int) := by omega
            obtain ⟨b, hbb⟩ : ∃ b, bAt s i = b := ⟨_, rfl⟩
            rw [hbb] at hb
            by_cases hq : b = 34
            · subst hq
              have HV := Lib.hid (named_no (s := s) (fun h => h.2.2.2 i hi1 hlt hbb))
              clear hbb
              go_wp2_with fail
              go_ret
              exact ⟨by rw [HV.out]; rfl, rfl⟩
            · have HN2 := Lib.hid (show ∀ k, 1 ≤ k → k < i + 1 → bAt s k ≠ 34 from fun k a c => by
                rcases Nat.lt_or_ge k i with hl | hl
                · exact HN.out k a hl
                · obtain rfl : k = i := by omega
                  rw [hbb]; exact hq)
              have g4 : ((b : Int) == 34) = false := by simp; omega
              clear hbb hq
              go_wp2_with fail
              go_round
              case rel => exact ⟨i + 1, by omega, by omega, by go_num, HN2⟩
              case measure => simp [intOf]; omega
          · have HV := Lib.hid ((named_iff s).2 ⟨by omega, h2, h3, fun k a b => HN.out k a (by omega)⟩)
            have g2 : decide ((i : Int) < ((s.size - 1 : Nat) : Int)) = false := by simp; omega
            have g3 : decide (i < s.size - 1) = false := by simp; omega
            clear h2 h3
            go_wp2_with fail
            go_ret
            exact ⟨by rw [HV.out]; rfl, rfl⟩
      · rw [named_no (fun h => h3 h.2.2.1)]
        obtain ⟨b, hbb⟩ : ∃ b, bAt s (s.size - 1) = b := ⟨_, rfl⟩
        rw [hbb] at hbl h3
        have g4 : ((b : Int) != 34) = true := by simp; omega
        clear hbb h3
        go_enter Tryd.func14, Tryd.ntmps14
        go_wp2_with fail
        go_ret
        exact ⟨rfl, rfl⟩
    · rw [named_no (fun h => h2 h.2.1)]
      obtain ⟨b, hbb⟩ : ∃ b, bAt s 0 = b := ⟨_, rfl⟩
      rw [hbb] at hb0 h2
      have g4 : ((b : Int) != 34) = true := by simp; omega
      clear hbb h2
      go_enter Tryd.func14, Tryd.ntmps14
      go_wp2_with fail
      go_ret
      exact ⟨rfl, rfl⟩
end Go.Proofs.YtjhlpmigkbaegaaDoor
