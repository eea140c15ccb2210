/- Words of texts, one behind the other. Plain. -/
import Derived.Test.YtjhlpmigkbaegaaDoorCat
import Derived.Test.YtjhlpmigkbaegaaDoorParse
namespace Go.Proofs.YtjhlpmigkbaegaaDoor
open Go.RowKit
set_option linter.unusedVariables false

theorem bAt_left (x y : ByteArray) (i : Nat) (h : i < x.size) : bAt (x ++ y) i = bAt x i := by unfold bAt; rw [get_app_left x y i h]
theorem bAt_right (x y : ByteArray) (i : Nat) : bAt (x ++ y) (x.size + i) = bAt y i := by unfold bAt; rw [get_app_right]
theorem bAt_right0 (x y : ByteArray) : bAt (x ++ y) x.size = bAt y 0 := bAt_right x y 0
/-- The first quote from a place on; the text's length where there is none. -/
def quoteFrom (s : ByteArray) (i : Nat) : Nat := if i < s.size ∧ bAt s i ≠ 34 then quoteFrom s (i + 1) else i
termination_by s.size - i
theorem quoteFrom_ge (s : ByteArray) (e : Nat) : e ≤ quoteFrom s e := by
  induction e using quoteFrom.induct (s := s) with
  | case1 e h ih => rw [quoteFrom, if_pos h]; omega
  | case2 e h => rw [quoteFrom, if_neg h]; omega
theorem quoteFrom_le (s : ByteArray) (e : Nat) (he : e ≤ s.size) : quoteFrom s e ≤ s.size := by
  induction e using quoteFrom.induct (s := s) with
  | case1 e h ih => rw [quoteFrom, if_pos h]; exact ih (by omega)
  | case2 e h => rw [quoteFrom, if_neg h]; exact he
theorem quoteFrom_is (s : ByteArray) (i j : Nat) (hij : i ≤ j) (hq : bAt s j = 34) (hb : ∀ k, i ≤ k → k < j → bAt s k ≠ 34) (hj : j < s.size) : quoteFrom s i = j := by
  induction i using quoteFrom.induct (s := s) with
  | case1 e h ih =>
    have : e ≠ j := by rintro rfl; exact h.2 hq
    rw [quoteFrom, if_pos h]
    exact ih (by omega) (fun k hk => hb k (by omega))
  | case2 e h =>
    rw [quoteFrom, if_neg h]
    rcases Nat.lt_or_ge e j with hl | hl
    · exact absurd ⟨by omega, hb e (Nat.le_refl _) hl⟩ h
    · omega
theorem quoteFrom_no (s : ByteArray) (i : Nat) (hi : i ≤ s.size) (hb : ∀ k, i ≤ k → k < s.size → bAt s k ≠ 34) : quoteFrom s i = s.size := by
  induction i using quoteFrom.induct (s := s) with
  | case1 e h ih => rw [quoteFrom, if_pos h]; exact ih (by omega) (fun k hk => hb k (by omega))
  | case2 e h =>
    rw [quoteFrom, if_neg h]
    rcases Nat.lt_or_ge e s.size with hl | hl
    · exact absurd ⟨hl, hb e (Nat.le_refl _) hl⟩ h
    · omega
theorem quoteFrom_q (s : ByteArray) (i : Nat) (h : quoteFrom s i < s.size) : bAt s (quoteFrom s i) = 34 := by
  induction i using quoteFrom.induct (s := s) with
  | case1 e h1 ih => rw [quoteFrom, if_pos h1] at h ⊢; exact ih h
  | case2 e h1 =>
    rw [quoteFrom, if_neg h1] at h ⊢
    by_cases hq : bAt s e = 34
    · exact hq
    · exact absurd ⟨h, hq⟩ h1
theorem quoteFrom_before (s : ByteArray) (i k : Nat) (hi : i ≤ k) (hk : k < quoteFrom s i) : bAt s k ≠ 34 := by
  induction i using quoteFrom.induct (s := s) with
  | case1 e h1 ih =>
    rw [quoteFrom, if_pos h1] at hk
    rcases Nat.lt_or_ge e k with hl | hl
    · exact ih hl hk
    · obtain rfl : e = k := by omega
      exact h1.2
  | case2 e h1 => rw [quoteFrom, if_neg h1] at hk; omega
/-- 'quoteAt' by 'quoteFrom'. -/
theorem quoteAt_from (s : ByteArray) (a : Nat) (ha : a < s.size) :
    (0 ≤ quoteAt s a ∧ a + 1 + (quoteAt s a).toNat = quoteFrom s (a + 1) ∧ quoteFrom s (a + 1) < s.size) ∨ (¬ 0 ≤ quoteAt s a ∧ quoteFrom s (a + 1) = s.size) := by
  have hsz : (s.extract (a + 1) s.size).data.toList.length = s.size - (a + 1) := by
    have := ext_size s (a + 1) s.size (Nat.le_refl _)
    rw [← this]; rfl
  have hget : ∀ k, a + 1 ≤ k → k < s.size → (s.extract (a + 1) s.size).data.toList[k - (a + 1)]? = some (s.get! k) := by
    intro k h1 h2
    rw [bAt_list _ _ (by rw [ext_size s _ _ (Nat.le_refl _)]; omega)]
    have := ext_get s (a + 1) s.size (k - (a + 1)) (Nat.le_refl _) (by omega)
    rw [show a + 1 + (k - (a + 1)) = k by omega] at this
    unfold bAt at this
    rw [UInt8.toNat_inj.1 this]
  by_cases h : 0 ≤ quoteAt s a
  · refine .inl ⟨h, ?_⟩
    have hq := quoteAt_some h
    obtain ⟨o, ho⟩ := Int.eq_ofNat_of_zero_le h
    have hn := (Lib.indexByte_some (l := (s.extract (a + 1) s.size).data.toList) (c := 34) (o := o) ho).2
    have ho2 : (quoteAt s a).toNat = o := by rw [ho]; rfl
    rw [ho2] at hq ⊢
    have : quoteFrom s (a + 1) = a + 1 + o := by
      refine quoteFrom_is s (a + 1) (a + 1 + o) (by omega) hq.2 (fun k h1 h2 => ?_) hq.1
      intro hk
      have e := hget k h1 (by omega)
      apply hn (k - (a + 1)) (by omega)
      rw [e]
      unfold bAt at hk
      rw [show s.get! k = 34 from UInt8.toNat_inj.1 (by rw [hk]; rfl)]
    exact ⟨this.symm, by omega⟩
  · refine .inr ⟨h, quoteFrom_no s (a + 1) (by omega) (fun k h1 h2 hk => ?_)⟩
    have hm : quoteAt s a = -1 := by
      have := Lib.indexByte_ge (s.extract (a + 1) s.size).data.toList 34
      unfold quoteAt at h ⊢
      omega
    have hn := Lib.indexByte_none hm (k - (a + 1))
    rw [hget k h1 h2] at hn
    apply hn
    unfold bAt at hk
    rw [show s.get! k = 34 from UInt8.toNat_inj.1 (by rw [hk]; rfl)]
theorem wordFrom_q {s : ByteArray} {a : Nat} (ha : a < s.size) (hq : bAt s a = 34) : wordFrom s a = quoteFrom s (a + 1) := by
  unfold wordFrom
  rw [if_pos hq]
  rcases quoteAt_from s a ha with ⟨h, e, _⟩ | ⟨h, e⟩
  · rw [if_pos h, e]
  · rw [if_neg h, e]
theorem wordFrom_n {s : ByteArray} {a : Nat} (hq : bAt s a ≠ 34) : wordFrom s a = a := by unfold wordFrom; rw [if_neg hq]
/-! ### behind a text -/
theorem skip_right (x y : ByteArray) (i : Nat) : skipTo (x ++ y) (x.size + i) = x.size + skipTo y i := by
  induction i using skipTo.induct (s := y) with
  | case1 i h ih =>
    rw [skipTo, if_pos ⟨by rw [ByteArray.size_append]; omega, by rw [bAt_right]; exact h.2⟩, Nat.add_assoc, ih]
    conv => rhs; rw [skipTo, if_pos h]
  | case2 i h =>
    rw [skipTo, if_neg (by rw [ByteArray.size_append, bAt_right]; intro hh; exact h ⟨by omega, hh.2⟩)]
    rw [skipTo, if_neg h]
theorem quote_right (x y : ByteArray) (i : Nat) : quoteFrom (x ++ y) (x.size + i) = x.size + quoteFrom y i := by
  induction i using quoteFrom.induct (s := y) with
  | case1 i h ih =>
    rw [quoteFrom, if_pos ⟨by rw [ByteArray.size_append]; omega, by rw [bAt_right]; exact h.2⟩, Nat.add_assoc, ih]
    conv => rhs; rw [quoteFrom, if_pos h]
  | case2 i h =>
    rw [quoteFrom, if_neg (by rw [ByteArray.size_append, bAt_right]; intro hh; exact h ⟨by omega, hh.2⟩)]
    rw [quoteFrom, if_neg h]
theorem wordEnd_right (x y : ByteArray) (i : Nat) (hi : i < y.size) : wordEnd (x ++ y) (x.size + i) = x.size + wordEnd y i := by
  unfold wordEnd
  have e : wordFrom (x ++ y) (x.size + i) = x.size + wordFrom y i := by
    by_cases hq : bAt y i = 34
    · rw [wordFrom_q (by rw [ByteArray.size_append]; omega) (by rw [bAt_right]; exact hq), wordFrom_q hi hq, Nat.add_assoc, quote_right]
    · rw [wordFrom_n (by rw [bAt_right]; exact hq), wordFrom_n hq]
  rw [e, skip_right]
/-- Words, some places on. -/
def shiftW (n : Nat) (p : Nat × Nat) : Nat × Nat := (n + p.1, n + p.2)
theorem words_right (x y : ByteArray) (i : Nat) : wordsAt (x ++ y) (x.size + i) = (wordsAt y i).map (shiftW x.size) := by
  fun_induction wordsAt y i with
  | case1 i h h2 ih =>
    rw [wordsAt, dif_pos (by rw [ByteArray.size_append]; omega), dif_pos (by rw [bAt_right]; exact h2), Nat.add_assoc, ih]
  | case2 i h h2 ih =>
    rw [wordsAt, dif_pos (by rw [ByteArray.size_append]; omega), dif_neg (by rw [bAt_right]; exact h2), wordEnd_right x y i h, ih]
    rfl
  | case3 i h =>
    rw [wordsAt, dif_neg (by rw [ByteArray.size_append]; omega)]; rfl
theorem ext_right (x y : ByteArray) (a b : Nat) : (x ++ y).extract (x.size + a) (x.size + b) = y.extract a b := by
  apply ByteArray.ext
  rw [ByteArray.data_extract, ByteArray.data_extract, ByteArray.data_append]
  apply Array.ext_getElem?
  intro i
  rw [Array.getElem?_extract, Array.getElem?_extract, Array.size_append]
  have e1 : x.data.size = x.size := rfl
  have e2 : y.data.size = y.size := rfl
  by_cases h : i < min b y.size - a
  · rw [if_pos (by omega), if_pos (by omega), Array.getElem?_append_right (by omega)]
    congr 1; omega
  · rw [if_neg (by omega), if_neg (by omega)]
theorem ext_left (x y : ByteArray) (a b : Nat) (hb : b ≤ x.size) : (x ++ y).extract a b = x.extract a b := by
  apply ByteArray.ext
  rw [ByteArray.data_extract, ByteArray.data_extract, ByteArray.data_append]
  apply Array.ext_getElem?
  intro i
  rw [Array.getElem?_extract, Array.getElem?_extract, Array.size_append]
  have e1 : x.data.size = x.size := rfl
  by_cases h : i < min b x.size - a
  · rw [if_pos (by omega), if_pos (by omega), Array.getElem?_append_left (by omega)]
  · rw [if_neg (by omega), if_neg (by omega)]
theorem ext_all (x : ByteArray) : x.extract 0 x.size = x := by
  apply ByteArray.ext
  rw [ByteArray.data_extract]
  exact Array.extract_size
/-- What the words say, without their places. -/
def wordS (s : ByteArray) (i : Nat) : List ByteArray := (wordsAt s i).map fun p => s.extract p.1 p.2
theorem wordsOf_fst (s : ByteArray) : (wordsOf s).map Prod.fst = wordS s 0 := by unfold wordsOf wordS; rw [List.map_map]; rfl
theorem wordS_right (x y : ByteArray) (i : Nat) : wordS (x ++ y) (x.size + i) = wordS y i := by
  unfold wordS
  rw [words_right, List.map_map]
  apply List.map_congr_left
  intro p _
  exact ext_right x y p.1 p.2
/-- A text that is one word, if a blank stands behind it, or nothing. -/
def IsWord (v : ByteArray) : Prop := 0 < v.size ∧ bAt v 0 ≠ 32 ∧ ∀ y : ByteArray, (y.size = 0 ∨ bAt y 0 = 32) → wordEnd (v ++ y) 0 = v.size
theorem wordS_word {v : ByteArray} (h : IsWord v) (y : ByteArray) (hy : y.size = 0 ∨ bAt y 0 = 32) : wordS (v ++ y) 0 = v :: wordS y 0 := by
  have hw : wordsAt (v ++ y) 0 = (0, v.size) :: wordsAt (v ++ y) v.size := by
    conv => lhs; rw [wordsAt]
    rw [dif_pos (by rw [ByteArray.size_append]; have := h.1; omega), dif_neg (by rw [bAt_left _ _ _ h.1]; exact h.2.1), h.2.2 y hy]
  have e := wordS_right v y 0
  unfold wordS at e ⊢
  rw [hw, List.map_cons]
  simp only
  rw [ext_left v y 0 v.size (Nat.le_refl _), ext_all]
  rw [Nat.add_zero] at e
  rw [e]
theorem wordS_nil {y : ByteArray} (h : y.size = 0) : wordS y 0 = [] := by unfold wordS; rw [wordsAt, dif_neg (by omega)]; rfl
/-- A blank. -/
def sp : ByteArray := ⟨#[32]⟩
theorem sp_size : sp.size = 1 := rfl
theorem sp_at : bAt sp 0 = 32 := rfl
theorem wordS_sp (z : ByteArray) : wordS (sp ++ z) 0 = wordS z 0 := by
  have e := wordS_right sp z 0
  rw [Nat.add_zero] at e
  rw [← e, sp_size]
  unfold wordS
  congr 1
  conv => lhs; rw [wordsAt]
  rw [dif_pos (by rw [ByteArray.size_append, sp_size]; omega), dif_pos (by rw [bAt_left _ _ _ (by rw [sp_size]; omega)]; exact sp_at)]
/-- Words, a blank ahead of each. -/
def tailW : List ByteArray → ByteArray
  | [] => ⟨#[]⟩
  | w :: ws => sp ++ (w ++ tailW ws)
/-- Words behind a word, with one blank between. -/
def lineW (v : ByteArray) : List ByteArray → ByteArray
  | [] => v
  | w :: ws => lineW (v ++ (sp ++ w)) ws
theorem lineW_eq (v : ByteArray) (ws : List ByteArray) : lineW v ws = v ++ tailW ws := by
  induction ws generalizing v with
  | nil =>
    show v = v ++ ⟨#[]⟩
    apply ByteArray.ext; rw [ByteArray.data_append]; exact (Array.append_empty).symm
  | cons w ws ih =>
    show lineW (v ++ (sp ++ w)) ws = v ++ (sp ++ (w ++ tailW ws))
    rw [ih, ByteArray.append_assoc, ByteArray.append_assoc]
theorem tailW_head (ws : List ByteArray) : (tailW ws).size = 0 ∨ bAt (tailW ws) 0 = 32 := by
  cases ws with
  | nil => exact .inl rfl
  | cons w ws =>
    refine .inr ?_
    show bAt (sp ++ (w ++ tailW ws)) 0 = 32
    rw [bAt_left _ _ _ (by rw [sp_size]; omega)]; exact sp_at
theorem wordS_tail (ws : List ByteArray) (h : ∀ w ∈ ws, IsWord w) : wordS (tailW ws) 0 = ws := by
  induction ws with
  | nil => exact wordS_nil rfl
  | cons w ws ih =>
    show wordS (sp ++ (w ++ tailW ws)) 0 = w :: ws
    rw [wordS_sp, wordS_word (h w List.mem_cons_self) _ (tailW_head ws), ih (fun u hu => h u (List.mem_cons_of_mem _ hu))]
theorem wordS_line (v : ByteArray) (ws : List ByteArray) (hv : IsWord v) (h : ∀ w ∈ ws, IsWord w) : wordS (lineW v ws) 0 = v :: ws := by
  rw [lineW_eq, wordS_word hv _ (tailW_head ws), wordS_tail ws h]
/-! ### two kinds of words -/
/-- A word without blanks, quotes, and bytes of longer characters. -/
def PlainW (w : ByteArray) : Prop := 0 < w.size ∧ ∀ i, i < w.size → bAt w i ≠ 32 ∧ bAt w i ≠ 34 ∧ bAt w i < 128
theorem skip_stop (y : ByteArray) (hy : y.size = 0 ∨ bAt y 0 = 32) : skipTo y 0 = 0 := by
  rw [skipTo, if_neg (by rintro ⟨h1, h2⟩; rcases hy with h | h; · omega
                         · exact h2 h)]
theorem skip_over (x y : ByteArray) (i : Nat) (hi : i ≤ x.size) (h : ∀ k, i ≤ k → k < x.size → bAt x k ≠ 32) (hy : y.size = 0 ∨ bAt y 0 = 32) : skipTo (x ++ y) i = x.size := by
  rcases Nat.lt_or_ge i x.size with hl | hl
  · rw [skipTo, if_pos ⟨by rw [ByteArray.size_append]; omega, by rw [bAt_left _ _ _ hl]; exact h i (Nat.le_refl _) hl⟩]
    exact skip_over x y (i + 1) hl (fun k hk => h k (by omega)) hy
  · obtain rfl : i = x.size := by omega
    have := skip_right x y 0
    rw [Nat.add_zero, skip_stop y hy, Nat.add_zero] at this
    exact this
termination_by x.size - i
theorem PlainW.word {w : ByteArray} (h : PlainW w) : IsWord w := by
  refine ⟨h.1, (h.2 0 h.1).1, fun y hy => ?_⟩
  unfold wordEnd
  rw [wordFrom_n (by rw [bAt_left _ _ _ h.1]; exact (h.2 0 h.1).2.1)]
  exact skip_over w y 0 (Nat.zero_le _) (fun k _ hk => (h.2 k hk).1) hy
theorem named_parts {w : ByteArray} (h : namedB w = true) : 2 ≤ w.size ∧ bAt w 0 = 34 ∧ quoteFrom w 1 = w.size - 1 ∧ bAt w (w.size - 1) = 34 := by
  unfold namedB at h
  simp only [Bool.and_eq_true, decide_eq_true_eq] at h
  obtain ⟨⟨h1, h2⟩, h3⟩ := h
  rcases quoteAt_from w 0 (by omega) with ⟨a, b, c⟩ | ⟨a, b⟩
  · simp only [Nat.zero_add] at b c
    have e : quoteFrom w 1 = w.size - 1 := by omega
    have := quoteFrom_q w 1 (by omega)
    rw [e] at this
    exact ⟨h1, h2, e, this⟩
  · omega
theorem named_word {w : ByteArray} (h : namedB w = true) : IsWord w := by
  obtain ⟨h1, h2, h3, h4⟩ := named_parts h
  refine ⟨by omega, by rw [h2]; decide, fun y hy => ?_⟩
  unfold wordEnd
  have e : wordFrom (w ++ y) 0 = w.size - 1 := by
    rw [wordFrom_q (by rw [ByteArray.size_append]; omega) (by rw [bAt_left _ _ _ (by omega)]; exact h2)]
    refine quoteFrom_is _ 1 _ (by omega) (by rw [bAt_left _ _ _ (by omega)]; exact h4) (fun k a b => ?_) (by rw [ByteArray.size_append]; omega)
    rw [bAt_left _ _ _ (by omega)]
    exact quoteFrom_before w 1 k a (by omega)
  rw [e]
  refine skip_over w y _ (by omega) (fun k a b => ?_) hy
  obtain rfl : k = w.size - 1 := by omega
  rw [h4]; decide
end Go.Proofs.YtjhlpmigkbaegaaDoor
