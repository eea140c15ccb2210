/- Blanks ahead of a line and behind it. Plain. -/
import Derived.Test.YtjhlpmigkbaegaaDoorBack
namespace Go.Proofs.YtjhlpmigkbaegaaDoor
open Go.RowKit
set_option linter.unusedVariables false

/-- So many blanks. -/
def bl : Nat → ByteArray
  | 0 => ⟨#[]⟩
  | n + 1 => bl n ++ ⟨#[32]⟩
theorem bl_size (n : Nat) : (bl n).size = n := by
  induction n with
  | zero => rfl
  | succ n ih => show (bl n ++ ⟨#[32]⟩).size = n + 1; rw [ByteArray.size_append, ih]; rfl
theorem bl_at (n i : Nat) (h : i < n) : bAt (bl n) i = 32 := by
  induction n with
  | zero => omega
  | succ n ih =>
    show bAt (bl n ++ ⟨#[32]⟩) i = 32
    rcases Nat.lt_or_ge i n with hl | hl
    · rw [bAt_left _ _ _ (by rw [bl_size]; exact hl)]; exact ih hl
    · obtain rfl : i = n := by omega
      have := bAt_right0 (bl i) ⟨#[32]⟩
      rw [bl_size] at this
      rw [this]; rfl
theorem bl_untorn (n : Nat) : tornAt (bl n) 0 = none := ascii_untorn _ 0 (fun k _ hk => by rw [bl_size] at hk; rw [bl_at n k hk]; decide)
theorem bl_words (n : Nat) (y : ByteArray) (i : Nat) (hi : i ≤ n) : wordsAt (bl n ++ y) i = wordsAt (bl n ++ y) n := by
  rcases Nat.lt_or_ge i n with hl | hl
  · rw [← bl_words n y (i + 1) hl]
    conv => lhs; rw [wordsAt, dif_pos (by rw [ByteArray.size_append, bl_size]; omega), dif_pos (by rw [bAt_left _ _ _ (by rw [bl_size]; exact hl)]; exact bl_at n i hl)]
  · rw [show i = n by omega]
termination_by n - i
theorem ahead_words (n : Nat) (t : ByteArray) : wordsOf (bl n ++ t) = (wordsOf t).map fun p => (p.1, n + p.2) := by
  unfold wordsOf
  rw [bl_words n t 0 (Nat.zero_le _)]
  have e := words_right (bl n) t 0
  rw [Nat.add_zero, bl_size] at e
  rw [e, List.map_map, List.map_map]
  apply List.map_congr_left
  intro p _
  have := ext_right (bl n) t p.1 p.2
  rw [bl_size] at this
  show ((bl n ++ t).extract (n + p.1) (n + p.2), n + p.1) = _
  rw [this]; rfl
theorem ahead_wordS (n : Nat) (t : ByteArray) : wordS (bl n ++ t) 0 = wordS t 0 := by
  rw [← wordsOf_fst, ← wordsOf_fst, ahead_words, List.map_map]; rfl
theorem ahead_sim (n : Nat) (t : ByteArray) : Sim (fun x y => y = x + (n : Int)) (wordsOf t) t.size (wordsOf (bl n ++ t)) (bl n ++ t).size := by
  rw [ahead_words]
  refine ⟨by simp, fun i p p' hp hp' => ?_, by rw [ByteArray.size_append, bl_size]; omega⟩
  rw [List.getElem?_map, hp] at hp'
  simp only [Option.map_some, Option.some.injEq] at hp'
  subst hp'
  exact ⟨rfl, by simp only; omega⟩
theorem ahead_torn (n : Nat) (t : ByteArray) : tornAt (bl n ++ t) 0 = (tornAt t 0).map fun x => n + x := by
  have := torn_app (bl n) t (bl_untorn n)
  rw [bl_size] at this
  exact this
theorem parse_untorn {s : ByteArray} (hs : s.size ≤ 65536) (ht : tornAt s 0 = none) : parseV s = if wordsOf s = [] then (none, 0, 0) else told (wordsOf s) s.size (runCmd (wordsOf s) s.size) := by
  unfold parseV
  rw [if_neg (by omega), ht]
/-- Blanks ahead change nothing but places. -/
theorem ahead_parse (n : Nat) (t : ByteArray) (hs : (bl n ++ t).size ≤ 65536) (ht : tornAt t 0 = none) :
    (parseV (bl n ++ t)).1 = (parseV t).1 ∧ (parseV (bl n ++ t)).2.2 = (parseV t).2.2 ∧ ((parseV t).2.2 ≠ 0 → (parseV (bl n ++ t)).2.1 = (parseV t).2.1 + (n : Int)) := by
  have hsz : t.size ≤ 65536 := by rw [ByteArray.size_append] at hs; omega
  rw [parse_untorn hs (by rw [ahead_torn, ht]; rfl), parse_untorn hsz ht]
  by_cases hl : wordsOf t = []
  · rw [if_pos hl, if_pos (by rw [ahead_words, hl]; rfl)]
    exact ⟨rfl, rfl, fun h => absurd rfl h⟩
  · rw [if_neg hl, if_neg (by rw [ahead_words]; simpa using hl)]
    obtain ⟨h1, h2, h3⟩ := told_sim (ahead_sim n t) hl
    exact ⟨h1.symm, h2.symm, h3⟩
theorem ahead_torn_parse (n : Nat) (t : ByteArray) (hs : (bl n ++ t).size ≤ 65536) {i : Nat} (ht : tornAt t 0 = some i) : parseV (bl n ++ t) = (none, ((n + i : Nat) : Int), 13) := by
  unfold parseV
  rw [if_neg (by omega), ahead_torn, ht]
  rfl
/-! ### behind -/
theorem bl_none (n : Nat) : wordS (bl n) 0 = [] := by
  have e : bl n = bl n ++ ⟨#[]⟩ := bytes_ext (by rw [ByteArray.size_append]; rfl) (fun i hi => by rw [bAt_left _ _ _ hi])
  have := ahead_wordS n ⟨#[]⟩
  rw [← e] at this
  rw [this]
  exact wordS_nil rfl
theorem bl_head (n : Nat) : (bl n).size = 0 ∨ bAt (bl n) 0 = 32 := by
  cases n with
  | zero => exact .inl rfl
  | succ n => exact .inr (bl_at _ 0 (by omega))
theorem skip_left (x y : ByteArray) (i : Nat) (hi : i ≤ x.size) (h : skipTo x i < x.size) : skipTo (x ++ y) i = skipTo x i := by
  induction i using skipTo.induct (s := x) with
  | case1 i h1 ih =>
    rw [skipTo, if_pos h1] at h
    rw [skipTo, if_pos ⟨by rw [ByteArray.size_append]; omega, by rw [bAt_left _ _ _ h1.1]; exact h1.2⟩, ih (by omega) h]
    conv => rhs; rw [skipTo, if_pos h1]
  | case2 i h1 =>
    rw [skipTo, if_neg h1] at h
    rw [skipTo, if_neg (by rw [bAt_left _ _ _ h]; exact fun hh => h1 ⟨h, hh.2⟩)]
    rw [skipTo, if_neg h1]
theorem quote_left (x y : ByteArray) (i : Nat) (h : quoteFrom x i < x.size) : quoteFrom (x ++ y) i = quoteFrom x i := by
  refine quoteFrom_is _ i _ (quoteFrom_ge x i) ?_ (fun k a b => ?_) (by rw [ByteArray.size_append]; omega)
  · rw [bAt_left _ _ _ h]; exact quoteFrom_q x i h
  · rw [bAt_left _ _ _ (by omega)]; exact quoteFrom_before x i k a b
theorem skip_at_most (x : ByteArray) (i k : Nat) (hi : i ≤ k) (hk : k < x.size) (h : bAt x k = 32) : skipTo x i ≤ k := by
  by_cases hc : i < x.size ∧ bAt x i ≠ 32
  · rw [skipTo, if_pos hc]
    have : i ≠ k := by rintro rfl; exact hc.2 h
    exact skip_at_most x (i + 1) k (by omega) hk h
  · rw [skipTo, if_neg hc]; exact hi
termination_by x.size - i
/-- A last word behind which blanks may stand. -/
def Shut (w : ByteArray) : Prop := bAt w 0 ≠ 34 ∨ namedB w = true
theorem wordEnd_left (x y : ByteArray) (i : Nat) (hi : i < x.size) (hy : y.size = 0 ∨ bAt y 0 = 32) (h32 : bAt x i ≠ 32) (h : wordEnd x i = x.size → Shut (x.extract i x.size)) : wordEnd (x ++ y) i = wordEnd x i := by
  have hq0 : bAt (x ++ y) i = bAt x i := bAt_left x y i hi
  by_cases hq : bAt x i = 34
  · have e1 : wordFrom x i = quoteFrom x (i + 1) := wordFrom_q hi hq
    have e2 : wordFrom (x ++ y) i = quoteFrom (x ++ y) (i + 1) := wordFrom_q (by rw [ByteArray.size_append]; omega) (by rw [hq0]; exact hq)
    have hQle := quoteFrom_le x (i + 1) hi
    by_cases hQ : quoteFrom x (i + 1) < x.size
    · unfold wordEnd at h ⊢
      rw [e1] at h ⊢
      rw [e2, quote_left x y (i + 1) hQ]
      by_cases hE : skipTo x (quoteFrom x (i + 1)) < x.size
      · exact skip_left x y _ hQle hE
      · have hEe : skipTo x (quoteFrom x (i + 1)) = x.size := by
          have := skipTo_le x _ hQle
          omega
        rw [hEe]
        refine skip_over x y _ hQle (fun k a b hk => ?_) hy
        have hcl : skipTo x (quoteFrom x (i + 1)) ≤ k := skip_at_most x _ k a b hk
        omega
    · have hQe : quoteFrom x (i + 1) = x.size := by omega
      exfalso
      have hE : wordEnd x i = x.size := by
        unfold wordEnd
        rw [e1, hQe, skipTo, if_neg (by rintro ⟨z, _⟩; omega)]
      have hb0 := ext_get x i x.size 0 (Nat.le_refl _) (by omega)
      rcases h hE with hs | hs
      · rw [hb0, Nat.add_zero] at hs; exact hs hq
      · obtain ⟨n1, n2, n3, n4⟩ := named_parts hs
        have hsz := ext_size x i x.size (Nat.le_refl _)
        have hb1 := ext_get x i x.size (x.size - i - 1) (Nat.le_refl _) (by omega)
        rw [hsz] at n4 n1
        rw [n4] at hb1
        have := quoteFrom_before x (i + 1) (i + (x.size - i - 1)) (by omega) (by omega)
        exact this hb1.symm
  · unfold wordEnd
    rw [wordFrom_n hq, wordFrom_n (by rw [hq0]; exact hq)]
    by_cases hE : skipTo x i < x.size
    · exact skip_left x y i (by omega) hE
    · have hEe : skipTo x i = x.size := by
        have := skipTo_le x i (by omega)
        omega
      rw [hEe]
      refine skip_over x y i (by omega) (fun k a b hk => ?_) hy
      have hcl : skipTo x i ≤ k := skip_at_most x _ k a b hk
      omega
theorem wordS_more (x y : ByteArray) (hy : y.size = 0 ∨ bAt y 0 = 32) (hn : wordS y 0 = []) (i : Nat) (hi : i ≤ x.size) (h : ∀ w, (wordS x i).getLast? = some w → Shut w) : wordS (x ++ y) i = wordS x i := by
  by_cases hl : i < x.size
  · have hl2 : i < (x ++ y).size := by rw [ByteArray.size_append]; omega
    by_cases h2 : bAt x i = 32
    · rw [wordS_blank x i hl h2] at h ⊢
      rw [wordS_blank (x ++ y) i hl2 (by rw [bAt_left _ _ _ hl]; exact h2)]
      exact wordS_more x y hy hn (i + 1) hl h
    · have hw := wordEnd_gt hl h2
      rw [wordS_next x i hl h2] at h ⊢
      have hE : wordEnd (x ++ y) i = wordEnd x i := by
        refine wordEnd_left x y i hl hy h2 (fun hE => ?_)
        refine h _ ?_
        rw [hE, wordS_none x x.size (by omega)]; rfl
      rw [wordS_next (x ++ y) i hl2 (by rw [bAt_left _ _ _ hl]; exact h2), hE, ext_left x y _ _ hw.2]
      rw [wordS_more x y hy hn (wordEnd x i) hw.2 (fun w hw2 => h w (by
        cases hc : wordS x (wordEnd x i) with
        | nil => rw [hc] at hw2; cases hw2
        | cons a l => rw [hc] at hw2; rw [List.getLast?_cons_cons]; exact hw2))]
  · obtain rfl : i = x.size := by omega
    have e := wordS_right x y 0
    rw [Nat.add_zero, hn] at e
    rw [e, wordS_none x x.size (by omega)]
termination_by x.size - i
/-- Blanks behind change nothing, where the last word is no text without an end. -/
theorem behind_parse (n : Nat) (s : ByteArray) (hs : (s ++ bl n).size ≤ 65536) (ht : tornAt s 0 = none) (h : ∀ w, (wordS s 0).getLast? = some w → Shut w) :
    (parseV (s ++ bl n)).1 = (parseV s).1 ∧ (parseV (s ++ bl n)).2.2 = (parseV s).2.2 := by
  have hsz : s.size ≤ 65536 := by rw [ByteArray.size_append] at hs; omega
  rw [parse_untorn hs (by rw [torn_app s _ ht, bl_untorn]; rfl), parse_untorn hsz ht]
  have e := wordS_more s (bl n) (bl_head n) (bl_none n) 0 (Nat.zero_le _) h
  rw [← wordsOf_fst, ← wordsOf_fst] at e
  by_cases hl : wordsOf s = []
  · have h2 : wordsOf (s ++ bl n) = [] := by rw [hl] at e; simpa using e
    rw [if_pos hl, if_pos h2]
    exact ⟨rfl, rfl⟩
  · have h2 : wordsOf (s ++ bl n) ≠ [] := by intro q; rw [q] at e; exact hl (by simpa using e.symm)
    rw [if_neg hl, if_neg h2]
    obtain ⟨h1, h2, _⟩ := told_sim (sim_of_words s.size (s ++ bl n).size e.symm) hl
    exact ⟨h1.symm, h2.symm⟩
end Go.Proofs.YtjhlpmigkbaegaaDoor
