/- The words of a line walked. -/
import Derived.Test.YtjhlpmigkbaegaaDoorLine
import Derived.Maps.AppendAt
import Derived.OneCell
namespace Go.Proofs.YtjhlpmigkbaegaaDoor
open Go.RowKit
set_option linter.unusedVariables false

theorem info78 : (Tryd.prog.info? 78).map (fun i => (i.zero, i.size, i.bytes)) = some (some (.agg #[.string ⟨#[]⟩, .int .i64 0]), 2, 24) := by kernel_rfl
/-- The cells of a row of words. -/
def wcells (l : List (ByteArray × Nat)) : List Value := l.flatMap fun p => [.string p.1, .int .i64 p.2]
theorem wcells_cons (p : ByteArray × Nat) (l : List (ByteArray × Nat)) : wcells (p :: l) = .string p.1 :: .int .i64 p.2 :: wcells l := rfl
theorem wcells_append (l m : List (ByteArray × Nat)) : wcells (l ++ m) = wcells l ++ wcells m := by simp [wcells]
theorem wcells_len (l : List (ByteArray × Nat)) : (wcells l).length = l.length * 2 := by
  induction l with
  | nil => rfl
  | cons p l ih => rw [wcells_cons, List.length_cons, List.length_cons, ih, List.length_cons]; omega
theorem wcells_get (l : List (ByteArray × Nat)) (k : Nat) : (wcells l)[k * 2]? = l[k]?.map fun p => .string p.1 := by
  induction l generalizing k with
  | nil => simp [wcells]
  | cons p l ih =>
    rw [wcells_cons]
    cases k with
    | zero => simp
    | succ k => rw [show (k + 1) * 2 = k * 2 + 1 + 1 by omega, List.getElem?_cons_succ, List.getElem?_cons_succ, ih, List.getElem?_cons_succ]
theorem wcells_get1 (l : List (ByteArray × Nat)) (k : Nat) : (wcells l)[k * 2 + 1]? = l[k]?.map fun p => .int .i64 p.2 := by
  induction l generalizing k with
  | nil => simp [wcells]
  | cons p l ih =>
    rw [wcells_cons]
    cases k with
    | zero => simp
    | succ k => rw [show (k + 1) * 2 + 1 = (k * 2 + 1) + 1 + 1 by omega, List.getElem?_cons_succ, List.getElem?_cons_succ, ih, List.getElem?_cons_succ]
/-- The cells of a block that holds a row of words, and more. -/
def wblk (l : List (ByteArray × Nat)) (rest : List Value) : Array Value := (wcells l ++ rest).toArray
theorem wblk_get {l : List (ByteArray × Nat)} {k : Nat} {p : ByteArray × Nat} (h : l[k]? = some p) (rest : List Value) : (wblk l rest)[k * 2]? = some (.string p.1) := by
  have hk := (List.getElem?_eq_some_iff.1 h).1
  unfold wblk
  rw [List.getElem?_toArray, List.getElem?_append_left (by rw [wcells_len]; omega), wcells_get, h]; rfl
theorem wblk_get1 {l : List (ByteArray × Nat)} {k : Nat} {p : ByteArray × Nat} (h : l[k]? = some p) (rest : List Value) : (wblk l rest)[k * 2 + 1]? = some (.int .i64 p.2) := by
  have hk := (List.getElem?_eq_some_iff.1 h).1
  unfold wblk
  rw [List.getElem?_toArray, List.getElem?_append_left (by rw [wcells_len]; omega), wcells_get1, h]; rfl
/-- A slice that reads as a row of words. -/
def WRow (w : World) (a : Option Addr) (n : Nat) (l : List (ByteArray × Nat)) : Prop :=
  l.length = n ∧ (l = [] ∨ ∃ g rest, a = some ⟨g, 0, none⟩ ∧ w.heap[g]? = some (.cells (wblk l rest) 78 (0, 0)))
theorem WRow.cells {w : World} {a n l} (h : WRow w a n l) {k : Nat} {p : ByteArray × Nat} (hp : l[k]? = some p) :
    ∃ g, a = some ⟨g, 0, none⟩ ∧ g < w.heap.size ∧ w.cell? ⟨g, k * 2, none⟩ = some (.string p.1) ∧ w.cell? ⟨g, k * 2 + 1, none⟩ = some (.int .i64 p.2) := by
  rcases h.2 with rfl | ⟨g, rest, e, hh⟩
  · simp at hp
  · exact ⟨g, e, lt_of_block hh, (cell_of_row _ _ _ _ _ _ hh).trans (wblk_get hp rest), (cell_of_row _ _ _ _ _ _ hh).trans (wblk_get1 hp rest)⟩
theorem WRow.own {w : World} {base : Nat} {v : Value} {n : Nat} {l : List (ByteArray × Nat)} (h : w.ownsRow base 78 2 v n (wcells l)) :
    ∃ a c, v = .slice a n c ∧ WRow w a n l ∧ n ≤ c := by
  have hn : l.length = n := by
    have := h.1
    rw [wcells_len] at this
    omega
  rcases h with ⟨hl, ⟨rfl, he⟩ | ⟨g, cap, cur, rfl, hg, hh, hnc, hcm, hcs, ht⟩⟩
  · obtain rfl : l = [] := List.length_eq_zero_iff.1 (by omega)
    subst he
    exact ⟨none, 0, rfl, ⟨rfl, .inl rfl⟩, Nat.le_refl _⟩
  · refine ⟨_, cap, rfl, ⟨hn, .inr ⟨g, cur.toList.drop (n * 2), rfl, ?_⟩⟩, hnc⟩
    rw [hh]
    unfold wblk
    rw [← ht, List.take_append_drop]
theorem one_wcells (l : List (ByteArray × Nat)) : ∀ u ∈ wcells l, u.oneCell' = true := by
  intro u hu
  unfold wcells at hu
  simp only [List.mem_flatMap, List.mem_cons, List.not_mem_nil, or_false] at hu
  obtain ⟨p, _, rfl | rfl⟩ := hu <;> rfl
theorem le_alloc {B : Nat} {W : World} (h : B ≤ W.heap.size) (o : Obj) : B ≤ (W.alloc o).heap.size := by simp; omega
theorem news_w (W : World) {s : Nat} (hs : W.heap.size = s) (x : ByteArray) (k : Nat) : ∀ j u, (wcells [(x, k)])[j]? = some u → (W.alloc (.cells #[.string x, .int .i64 k] 78)).cell? ((⟨s, 0, none⟩ : Addr).add j) = some u := by
  subst hs
  intro j u hj
  match j, hj with
  | 0, hj =>
    simp [wcells] at hj; subst hj
    exact (cell_of_row _ _ _ _ _ _ (heap_alloc_new W (.cells #[.string x, .int .i64 k] 78))).trans rfl
  | 1, hj =>
    simp [wcells] at hj; subst hj
    exact (cell_of_row _ _ _ _ _ _ (heap_alloc_new W (.cells #[.string x, .int .i64 k] 78))).trans rfl
theorem wowns_len {w : World} {base : Nat} {v : Value} {n : Nat} {l : List (ByteArray × Nat)} (h : w.ownsRow base 78 2 v n (wcells l)) : l.length = n := by
  have := h.1; rw [wcells_len] at this; omega
theorem ib_any (s : ByteArray) (c : Int) (w : World) :
    Calls Tryd.prog 31 #[.string s, .int .u8 c] w fun e w' => e = .returned (.int .i64 (Lib.indexByte s.data.toList c.toNat.toUInt8)) ∧ w = w' :=
  (Tryd.strings_IndexByte s c w).mono fun _ _ h => ⟨h.1, h.2.symm⟩
/-- What a round of words meets. -/
def RelW (s : ByteArray) (w : World) (u2 u3 : Value) (wr : World) : Prop :=
  ∃ (pos m : Nat) (xs : List (ByteArray × Nat)), pos ≤ s.size ∧ u3 = .int .i64 pos ∧ m ≤ pos ∧ Hid (wr.ownsRow w.heap.size 78 2 u2 m (wcells xs)) ∧
    Hid (xs ++ (wordsAt s pos).map (fun p => (s.extract p.1 p.2, p.1)) = wordsOf s) ∧ Hid (Below w.heap.size w wr)
/-- What words answers. -/
def WordsPost (s : ByteArray) (w : World) (e : Ending) (w' : World) : Prop :=
  ∃ a c, e = .returned (.slice a (wordsOf s).length c) ∧ WRow w' a (wordsOf s).length (wordsOf s) ∧ Below w.heap.size w w'
set_option maxRecDepth 100000 in
set_option maxHeartbeats 4000000 in
theorem words_any (s : ByteArray) (w : World) (hs : s.size ≤ 1048576) : Calls Tryd.prog 23 #[.string s] w (WordsPost s w) := by
  obtain ⟨i0, hi0, hz0, hz1, hz2⟩ := info_parts info78
  go_enter Tryd.func23, Tryd.ntmps23
  go_wp2
  go_loopw [2, 3] (fun u2 u3 wr => RelW s w u2 u3 wr) (fun _ u3 _ => s.size - (intOf u3).toNat)
  case atStart => exact ⟨0, 0, [], by omega, rfl, by omega, Lib.hid (World.ownsRow_nil _ _ _ _), Lib.hid rfl, Lib.hid (Below.refl _ _)⟩
  case round =>
    obtain ⟨pos, m, xs, hp, rfl, hm, HO, HCV, HBR⟩ := hrel
    obtain ⟨a2, k2, rfl, HWR0⟩ := WRow.own HO.out
    have HWR := Lib.hid HWR0; clear HWR0
    by_cases hlt : pos < s.size
    · have hb := bAt_get s pos hlt
      have hin : (pos : Int) < (s.size : Int) := by omega
      have hi0' : (0 : Int) ≤ (pos : Int) := by omega
      have hm4 : m + 1 ≤ maxLen := by unfold maxLen; omega
      have hn4 : (m + 1) * 24 ≤ 140737488355328 := by omega
      have HBS := Lib.hid (show w.heap.size ≤ wr.heap.size from HBR.out.size)
      by_cases h32 : bAt s pos = 32
      · have HCV2 := Lib.hid (show xs ++ (wordsAt s (pos + 1)).map (fun p => (s.extract p.1 p.2, p.1)) = wordsOf s by
          rw [← HCV.out]; conv => rhs; rw [wordsAt, dif_pos hlt, dif_pos h32])
        rw [h32] at hb
        clear h32
        go_wp2_with fail
        go_roundw
        case rel => exact ⟨pos + 1, m, xs, by omega, by go_num, by omega, HO, HCV2, HBR⟩
        case measure => simp [intOf]; omega
      · have WG := Lib.hid (wordEnd_gt hlt h32)
        have WS := Lib.hid (show (wordsAt s pos) = (pos, wordEnd s pos) :: wordsAt s (wordEnd s pos) by conv => lhs; rw [wordsAt, dif_pos hlt, dif_neg h32])
        obtain ⟨b0, hb0⟩ : ∃ b0, bAt s pos = b0 := ⟨_, rfl⟩
        rw [hb0] at hb h32
        have g32 : ((b0 : Int) == 32) = false := by simp; omega
        obtain ⟨wo, rfl⟩ : ∃ wo : World, wo = wr := ⟨_, rfl⟩
        by_cases h34 : b0 = 34
        · subst h34
          have KI := Lib.hid (fun w => ib_any (s.extract (pos + 1) s.size) 34 w)
          by_cases hq : 0 ≤ quoteAt s pos
          · obtain ⟨q, hqe⟩ := Int.eq_ofNat_of_zero_le hq
            have hqs := (quoteAt_some hq).1
            have hwe : skipTo s (pos + 1 + q) = wordEnd s pos := by
              unfold wordEnd wordFrom; rw [if_pos hb0, if_pos hq, hqe]; rfl
            have hqe2 : Lib.indexByte (s.extract (pos + 1) s.size).data.toList ((34 : Int).toNat.toUInt8) = (q : Int) := hqe
            rw [hqe2] at KI
            have hq9 : (quoteAt s pos).toNat = q := by rw [hqe]; rfl
            rw [hq9] at hqs
            obtain ⟨e0, he0⟩ : ∃ e0, pos + 1 + q = e0 := ⟨_, rfl⟩
            rw [he0] at hwe hqs
            have hgeq : decide (0 ≤ (q : Int)) = true := by simp
            have hei : (pos : Int) + 1 + (q : Int) = (e0 : Int) := by omega
            have HEI := Lib.hid hei
            have hpe : pos ≤ e0 := by omega
            clear hqe hqe2 hq9 hq h32 hb0 hei
            go_wp2_with fail
            refine (KI.out _).mono ?_
            rintro e w' ⟨rfl, rfl⟩
            have HE := Lib.hid hwe
            clear hwe
            go_wp2_with fail
            go_loop [4] (fun u4 => ∃ e : Nat, e0 ≤ e ∧ e ≤ s.size ∧ u4 = .int .i64 e ∧ Hid (skipTo s e = wordEnd s pos)) (fun u4 => s.size - (intOf u4).toNat)
            case atStart => exact ⟨e0, by omega, by omega, congrArg (Value.int .i64) (by have := HEI.out; omega), HE⟩
            case round =>
              obtain ⟨e, he1, he2, rfl, HSK⟩ := hrel
              by_cases hes : e < s.size
              · have hbe := bAt_get s e hes
                have hes2 : (e : Int) < (s.size : Int) := by omega
                have hes3 : (0 : Int) ≤ (e : Int) := by omega
                obtain ⟨b2, hb2⟩ : ∃ b2, bAt s e = b2 := ⟨_, rfl⟩
                rw [hb2] at hbe
                by_cases h32 : b2 = 32
                · have HFIN := Lib.hid (show e = wordEnd s pos by rw [← HSK.out, skipTo, if_neg (by rw [hb2]; omega)])
                  have g2 : ((b2 : Int) != 32) = false := by simp; omega
                  clear h32 hb2
                  have hge := WG.out
                  have hfin := HFIN.out
                  have HCV2 := Lib.hid (show (xs ++ [(s.extract pos e, pos)]) ++ (wordsAt s e).map (fun p => (s.extract p.1 p.2, p.1)) = wordsOf s by
                    rw [← HCV.out, WS.out, ← hfin]; simp)
                  have hgt : pos < e := by omega
                  clear hge hfin
                  go_wp2_with (at_builtin; refine wpList_append_own_at _ rfl (.tmp 46) (.tmp 53) 45 rfl w.heap.size 78 i0 _ 2 24 Tryd.underlying45 hi0 hz0 hz1 hz2 rfl (by decide) _ _ _ rfl (HO.out.alloc _) ⟨wo.heap.size, 0, none⟩ 1 1 (wcells [(s.extract pos e, pos)]) rfl rfl (news_w _ rfl _ pos) (one_wcells _) hm4 hn4 (le_alloc HBS.out _) ?_; intro v1 w1 hown' hg' _ hat'; rw [← wcells_append] at hown'; have HB1 := Lib.hid ((HBR.out.alloc HBS.out _).grown hg' (le_alloc HBS.out _) (fun k hk => (HO.out.lt k hk).1)); obtain ⟨a1, c1, hv', _⟩ := WRow.own hown'; subst hv'; have HO1 := Lib.hid hown'; clear hown' hg' hat')
                  go_roundw
                  case rel => exact ⟨e, m + 1, xs ++ [(s.extract pos e, pos)], by omega, rfl, by omega, Lib.hid HO1.out, HCV2, Lib.hid HB1.out⟩
                  case measure => simp [intOf]; omega
                · have HSK2 := Lib.hid (show skipTo s (e + 1) = wordEnd s pos by rw [← HSK.out]; conv => rhs; rw [skipTo, if_pos ⟨hes, by rw [hb2]; exact h32⟩])
                  have g2 : ((b2 : Int) != 32) = true := by simp; omega
                  clear h32 hb2
                  go_wp2_with fail
                  go_round
                  case rel => exact ⟨e + 1, by omega, by omega, by go_num, HSK2⟩
                  case measure => simp [intOf]; omega
              · have HFIN := Lib.hid (show e = wordEnd s pos by rw [← HSK.out, skipTo, if_neg (by omega)])
                have g2 : decide (e < s.size) = false := by simp; omega
                clear hes
                have hge := WG.out
                have hfin := HFIN.out
                have HCV2 := Lib.hid (show (xs ++ [(s.extract pos e, pos)]) ++ (wordsAt s e).map (fun p => (s.extract p.1 p.2, p.1)) = wordsOf s by
                  rw [← HCV.out, WS.out, ← hfin]; simp)
                have hgt : pos < e := by omega
                clear hge hfin
                go_wp2_with (at_builtin; refine wpList_append_own_at _ rfl (.tmp 46) (.tmp 53) 45 rfl w.heap.size 78 i0 _ 2 24 Tryd.underlying45 hi0 hz0 hz1 hz2 rfl (by decide) _ _ _ rfl (HO.out.alloc _) ⟨wo.heap.size, 0, none⟩ 1 1 (wcells [(s.extract pos e, pos)]) rfl rfl (news_w _ rfl _ pos) (one_wcells _) hm4 hn4 (le_alloc HBS.out _) ?_; intro v1 w1 hown' hg' _ hat'; rw [← wcells_append] at hown'; have HB1 := Lib.hid ((HBR.out.alloc HBS.out _).grown hg' (le_alloc HBS.out _) (fun k hk => (HO.out.lt k hk).1)); obtain ⟨a1, c1, hv', _⟩ := WRow.own hown'; subst hv'; have HO1 := Lib.hid hown'; clear hown' hg' hat')
                go_roundw
                case rel => exact ⟨e, m + 1, xs ++ [(s.extract pos e, pos)], by omega, rfl, by omega, Lib.hid HO1.out, HCV2, Lib.hid HB1.out⟩
                case measure => simp [intOf]; omega
          · have hqn : quoteAt s pos = -1 := by
              have := Lib.indexByte_ge (s.extract (pos + 1) s.size).data.toList 34
              unfold quoteAt at hq ⊢
              omega
            have hwe : skipTo s s.size = wordEnd s pos := by
              unfold wordEnd wordFrom; rw [if_pos hb0, if_neg hq]
            have hqe2 : Lib.indexByte (s.extract (pos + 1) s.size).data.toList ((34 : Int).toNat.toUInt8) = -1 := hqn
            rw [hqe2] at KI
            obtain ⟨e0, he0⟩ : ∃ e0, s.size = e0 := ⟨_, rfl⟩
            have hqs : e0 ≤ s.size := by omega
            rw [he0] at hwe
            have hpe : pos ≤ e0 := by omega
            have HEI := Lib.hid he0
            clear hqn hqe2 hq h32 hb0 he0
            go_wp2_with fail
            refine (KI.out _).mono ?_
            rintro e w' ⟨rfl, rfl⟩
            have HE := Lib.hid hwe
            clear hwe
            go_wp2_with fail
            go_loop [4] (fun u4 => ∃ e : Nat, e0 ≤ e ∧ e ≤ s.size ∧ u4 = .int .i64 e ∧ Hid (skipTo s e = wordEnd s pos)) (fun u4 => s.size - (intOf u4).toNat)
            case atStart => exact ⟨e0, by omega, by omega, congrArg (Value.int .i64) (by have := HEI.out; omega), HE⟩
            case round =>
              obtain ⟨e, he1, he2, rfl, HSK⟩ := hrel
              by_cases hes : e < s.size
              · have hbe := bAt_get s e hes
                have hes2 : (e : Int) < (s.size : Int) := by omega
                have hes3 : (0 : Int) ≤ (e : Int) := by omega
                obtain ⟨b2, hb2⟩ : ∃ b2, bAt s e = b2 := ⟨_, rfl⟩
                rw [hb2] at hbe
                by_cases h32 : b2 = 32
                · have HFIN := Lib.hid (show e = wordEnd s pos by rw [← HSK.out, skipTo, if_neg (by rw [hb2]; omega)])
                  have g2 : ((b2 : Int) != 32) = false := by simp; omega
                  clear h32 hb2
                  have hge := WG.out
                  have hfin := HFIN.out
                  have HCV2 := Lib.hid (show (xs ++ [(s.extract pos e, pos)]) ++ (wordsAt s e).map (fun p => (s.extract p.1 p.2, p.1)) = wordsOf s by
                    rw [← HCV.out, WS.out, ← hfin]; simp)
                  have hgt : pos < e := by omega
                  clear hge hfin
                  go_wp2_with (at_builtin; refine wpList_append_own_at _ rfl (.tmp 46) (.tmp 53) 45 rfl w.heap.size 78 i0 _ 2 24 Tryd.underlying45 hi0 hz0 hz1 hz2 rfl (by decide) _ _ _ rfl (HO.out.alloc _) ⟨wo.heap.size, 0, none⟩ 1 1 (wcells [(s.extract pos e, pos)]) rfl rfl (news_w _ rfl _ pos) (one_wcells _) hm4 hn4 (le_alloc HBS.out _) ?_; intro v1 w1 hown' hg' _ hat'; rw [← wcells_append] at hown'; have HB1 := Lib.hid ((HBR.out.alloc HBS.out _).grown hg' (le_alloc HBS.out _) (fun k hk => (HO.out.lt k hk).1)); obtain ⟨a1, c1, hv', _⟩ := WRow.own hown'; subst hv'; have HO1 := Lib.hid hown'; clear hown' hg' hat')
                  go_roundw
                  case rel => exact ⟨e, m + 1, xs ++ [(s.extract pos e, pos)], by omega, rfl, by omega, Lib.hid HO1.out, HCV2, Lib.hid HB1.out⟩
                  case measure => simp [intOf]; omega
                · have HSK2 := Lib.hid (show skipTo s (e + 1) = wordEnd s pos by rw [← HSK.out]; conv => rhs; rw [skipTo, if_pos ⟨hes, by rw [hb2]; exact h32⟩])
                  have g2 : ((b2 : Int) != 32) = true := by simp; omega
                  clear h32 hb2
                  go_wp2_with fail
                  go_round
                  case rel => exact ⟨e + 1, by omega, by omega, by go_num, HSK2⟩
                  case measure => simp [intOf]; omega
              · have HFIN := Lib.hid (show e = wordEnd s pos by rw [← HSK.out, skipTo, if_neg (by omega)])
                have g2 : decide (e < s.size) = false := by simp; omega
                clear hes
                have hge := WG.out
                have hfin := HFIN.out
                have HCV2 := Lib.hid (show (xs ++ [(s.extract pos e, pos)]) ++ (wordsAt s e).map (fun p => (s.extract p.1 p.2, p.1)) = wordsOf s by
                  rw [← HCV.out, WS.out, ← hfin]; simp)
                have hgt : pos < e := by omega
                clear hge hfin
                go_wp2_with (at_builtin; refine wpList_append_own_at _ rfl (.tmp 46) (.tmp 53) 45 rfl w.heap.size 78 i0 _ 2 24 Tryd.underlying45 hi0 hz0 hz1 hz2 rfl (by decide) _ _ _ rfl (HO.out.alloc _) ⟨wo.heap.size, 0, none⟩ 1 1 (wcells [(s.extract pos e, pos)]) rfl rfl (news_w _ rfl _ pos) (one_wcells _) hm4 hn4 (le_alloc HBS.out _) ?_; intro v1 w1 hown' hg' _ hat'; rw [← wcells_append] at hown'; have HB1 := Lib.hid ((HBR.out.alloc HBS.out _).grown hg' (le_alloc HBS.out _) (fun k hk => (HO.out.lt k hk).1)); obtain ⟨a1, c1, hv', _⟩ := WRow.own hown'; subst hv'; have HO1 := Lib.hid hown'; clear hown' hg' hat')
                go_roundw
                case rel => exact ⟨e, m + 1, xs ++ [(s.extract pos e, pos)], by omega, rfl, by omega, Lib.hid HO1.out, HCV2, Lib.hid HB1.out⟩
                case measure => simp [intOf]; omega
        · have hwe : skipTo s pos = wordEnd s pos := by
            unfold wordEnd wordFrom; rw [hb0, if_neg h34]
          have g34 : ((b0 : Int) == 34) = false := by simp; omega
          obtain ⟨e0, he0⟩ : ∃ e0, pos = e0 := ⟨_, rfl⟩
          have hqs : e0 ≤ s.size := by omega
          have hwe : skipTo s e0 = wordEnd s pos := by rw [← he0]; exact hwe
          have hpe : pos ≤ e0 := by omega
          have HEI := Lib.hid he0
          clear h34 h32 hb0 he0
          have HE := Lib.hid hwe
          clear hwe
          go_wp2_with fail
          go_loop [4] (fun u4 => ∃ e : Nat, e0 ≤ e ∧ e ≤ s.size ∧ u4 = .int .i64 e ∧ Hid (skipTo s e = wordEnd s pos)) (fun u4 => s.size - (intOf u4).toNat)
          case atStart => exact ⟨e0, by omega, by omega, congrArg (Value.int .i64) (by have := HEI.out; omega), HE⟩
          case round =>
            obtain ⟨e, he1, he2, rfl, HSK⟩ := hrel
            by_cases hes : e < s.size
            · have hbe := bAt_get s e hes
              have hes2 : (e : Int) < (s.size : Int) := by omega
              have hes3 : (0 : Int) ≤ (e : Int) := by omega
              obtain ⟨b2, hb2⟩ : ∃ b2, bAt s e = b2 := ⟨_, rfl⟩
              rw [hb2] at hbe
              by_cases h32 : b2 = 32
              · have HFIN := Lib.hid (show e = wordEnd s pos by rw [← HSK.out, skipTo, if_neg (by rw [hb2]; omega)])
                have g2 : ((b2 : Int) != 32) = false := by simp; omega
                clear h32 hb2
                have hge := WG.out
                have hfin := HFIN.out
                have HCV2 := Lib.hid (show (xs ++ [(s.extract pos e, pos)]) ++ (wordsAt s e).map (fun p => (s.extract p.1 p.2, p.1)) = wordsOf s by
                  rw [← HCV.out, WS.out, ← hfin]; simp)
                have hgt : pos < e := by omega
                clear hge hfin
                go_wp2_with (at_builtin; refine wpList_append_own_at _ rfl (.tmp 46) (.tmp 53) 45 rfl w.heap.size 78 i0 _ 2 24 Tryd.underlying45 hi0 hz0 hz1 hz2 rfl (by decide) _ _ _ rfl (HO.out.alloc _) ⟨wo.heap.size, 0, none⟩ 1 1 (wcells [(s.extract pos e, pos)]) rfl rfl (news_w _ rfl _ pos) (one_wcells _) hm4 hn4 (le_alloc HBS.out _) ?_; intro v1 w1 hown' hg' _ hat'; rw [← wcells_append] at hown'; have HB1 := Lib.hid ((HBR.out.alloc HBS.out _).grown hg' (le_alloc HBS.out _) (fun k hk => (HO.out.lt k hk).1)); obtain ⟨a1, c1, hv', _⟩ := WRow.own hown'; subst hv'; have HO1 := Lib.hid hown'; clear hown' hg' hat')
                go_roundw
                case rel => exact ⟨e, m + 1, xs ++ [(s.extract pos e, pos)], by omega, rfl, by omega, Lib.hid HO1.out, HCV2, Lib.hid HB1.out⟩
                case measure => simp [intOf]; omega
              · have HSK2 := Lib.hid (show skipTo s (e + 1) = wordEnd s pos by rw [← HSK.out]; conv => rhs; rw [skipTo, if_pos ⟨hes, by rw [hb2]; exact h32⟩])
                have g2 : ((b2 : Int) != 32) = true := by simp; omega
                clear h32 hb2
                go_wp2_with fail
                go_round
                case rel => exact ⟨e + 1, by omega, by omega, by go_num, HSK2⟩
                case measure => simp [intOf]; omega
            · have HFIN := Lib.hid (show e = wordEnd s pos by rw [← HSK.out, skipTo, if_neg (by omega)])
              have g2 : decide (e < s.size) = false := by simp; omega
              clear hes
              have hge := WG.out
              have hfin := HFIN.out
              have HCV2 := Lib.hid (show (xs ++ [(s.extract pos e, pos)]) ++ (wordsAt s e).map (fun p => (s.extract p.1 p.2, p.1)) = wordsOf s by
                rw [← HCV.out, WS.out, ← hfin]; simp)
              have hgt : pos < e := by omega
              clear hge hfin
              go_wp2_with (at_builtin; refine wpList_append_own_at _ rfl (.tmp 46) (.tmp 53) 45 rfl w.heap.size 78 i0 _ 2 24 Tryd.underlying45 hi0 hz0 hz1 hz2 rfl (by decide) _ _ _ rfl (HO.out.alloc _) ⟨wo.heap.size, 0, none⟩ 1 1 (wcells [(s.extract pos e, pos)]) rfl rfl (news_w _ rfl _ pos) (one_wcells _) hm4 hn4 (le_alloc HBS.out _) ?_; intro v1 w1 hown' hg' _ hat'; rw [← wcells_append] at hown'; have HB1 := Lib.hid ((HBR.out.alloc HBS.out _).grown hg' (le_alloc HBS.out _) (fun k hk => (HO.out.lt k hk).1)); obtain ⟨a1, c1, hv', _⟩ := WRow.own hown'; subst hv'; have HO1 := Lib.hid hown'; clear hown' hg' hat')
              go_roundw
              case rel => exact ⟨e, m + 1, xs ++ [(s.extract pos e, pos)], by omega, rfl, by omega, Lib.hid HO1.out, HCV2, Lib.hid HB1.out⟩
              case measure => simp [intOf]; omega
    · obtain rfl : pos = s.size := by omega
      have hfin : xs = wordsOf s := by
        have := HCV.out
        rw [wordsAt, dif_neg (by omega)] at this
        simpa using this
      have HF := Lib.hid hfin
      have hlen := wowns_len HO.out
      rw [hfin] at hlen
      have HL := Lib.hid hlen
      clear hfin hlen
      go_wp2_with fail
      go_ret
      refine ⟨a2, k2, ?_, ?_, HBR.out⟩
      · rw [HL.out]; rfl
      · have := HWR.out.1
        rw [HF.out] at this
        rw [HL.out]; exact this
end Go.Proofs.YtjhlpmigkbaegaaDoor
