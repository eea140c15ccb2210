/- The text of a command says the same command. Plain. -/
import Derived.Test.YtjhlpmigkbaegaaDoorShape3
namespace Go.Proofs.YtjhlpmigkbaegaaDoor
open Go.RowKit
set_option linter.unusedVariables false

/-- A character has its own bytes: with fewer behind it, it is the same; all but its first byte are no first bytes. -/
theorem decodeN_less {n n' b0 b1 b2 b3 c1 c2 c3 c m : Nat} (h : Lib.decodeN n' b0 c1 c2 c3 = (c, m)) (hc : ¬ (c = 65533 ∧ m = 1)) :
    (m ≤ n → (1 < m → b1 = c1) → (2 < m → b2 = c2) → (3 < m → b3 = c3) → Lib.decodeN n b0 b1 b2 b3 = (c, m)) ∧ (1 < m → c1 / 64 = 2) ∧ (2 < m → c2 / 64 = 2) ∧ (3 < m → c3 / 64 = 2) ∧ m ≤ 4 := by
  unfold Lib.decodeN at h ⊢
  split at h
  · rename_i q; cases h
    exact ⟨fun _ _ _ _ => by rw [if_pos q], fun w => absurd w (by omega), fun w => absurd w (by omega), fun w => absurd w (by omega), by omega⟩
  · rename_i q0
    split at h
    · rename_i q1
      split at h
      · rename_i r1; cases h
        refine ⟨fun hn h1 _ _ => ?_, fun _ => q1.2.2, fun w => absurd w (by omega), fun w => absurd w (by omega), by omega⟩
        obtain rfl := h1 (by omega)
        rw [if_neg q0, if_pos ⟨q1.1, by omega, q1.2.2⟩, if_pos r1]
      · cases h; exact absurd ⟨rfl, rfl⟩ hc
    · rename_i q1
      split at h
      · rename_i q2
        split at h
        · rename_i r2; cases h
          refine ⟨fun hn h1 h2 _ => ?_, fun _ => q2.2.1.2, fun _ => q2.2.2.2, fun w => absurd w (by omega), by omega⟩
          obtain rfl := h1 (by omega)
          obtain rfl := h2 (by omega)
          rw [if_neg q0, if_neg (by rintro ⟨a, b⟩; omega), if_pos ⟨q2.1, ⟨by omega, q2.2.1.2⟩, ⟨by omega, q2.2.2.2⟩⟩, if_pos r2]
        · cases h; exact absurd ⟨rfl, rfl⟩ hc
      · rename_i q2
        split at h
        · rename_i q3
          split at h
          · rename_i r3; cases h
            refine ⟨fun hn h1 h2 h3 => ?_, fun _ => q3.2.1.2, fun _ => q3.2.2.1.2, fun _ => q3.2.2.2.2, by omega⟩
            obtain rfl := h1 (by omega)
            obtain rfl := h2 (by omega)
            obtain rfl := h3 (by omega)
            rw [if_neg q0, if_neg (by rintro ⟨a, b⟩; omega), if_neg (by rintro ⟨a, b⟩; omega), if_pos ⟨q3.1, ⟨by omega, q3.2.1.2⟩, ⟨by omega, q3.2.2.1.2⟩, ⟨by omega, q3.2.2.2.2⟩⟩, if_pos r3]
          · cases h; exact absurd ⟨rfl, rfl⟩ hc
        · cases h; exact absurd ⟨rfl, rfl⟩ hc
theorem decode_cut (x y : ByteArray) (i : Nat) (hi : i < x.size) (hy : y.size = 0 ∨ bAt y 0 < 128) (h : Utf8.decode (x ++ y) i ≠ (65533, 1)) : Utf8.decode x i = Utf8.decode (x ++ y) i := by
  have hle := dec_le (x ++ y) i (by rw [ByteArray.size_append]; omega)
  obtain ⟨⟨c, m⟩, hcm⟩ : ∃ p, Utf8.decode (x ++ y) i = p := ⟨_, rfl⟩
  rw [hcm] at h hle ⊢
  rw [Lib.decode_at] at hcm
  rw [Lib.decode_at, ← get_app_left x y i hi]
  have L := decodeN_less (n := x.size - i) (b1 := (x.get! (i + 1)).toNat) (b2 := (x.get! (i + 2)).toNat) (b3 := (x.get! (i + 3)).toNat) hcm (by rintro ⟨rfl, rfl⟩; exact h rfl)
  rw [ByteArray.size_append] at hle
  simp only at hle
  have hm : i + m ≤ x.size := by
    rcases Nat.lt_or_ge x.size (i + m) with hlt | hge
    · exfalso
      rcases hy with hy | hy
      · omega
      · have e0 : (y.get! 0).toNat = bAt y 0 := rfl
        have ex : ∀ j, i + j = x.size → ((x ++ y).get! (i + j)).toNat = bAt y 0 := fun j hj => by
          rw [hj]; exact bAt_right0 x y
        obtain ⟨_, L1, L2, L3, L4⟩ := L
        rcases (show x.size - i = 1 ∨ x.size - i = 2 ∨ x.size - i = 3 by omega) with q | q | q
        · have := L1 (by omega); rw [ex 1 (by omega)] at this; omega
        · have := L2 (by omega); rw [ex 2 (by omega)] at this; omega
        · have := L3 (by omega); rw [ex 3 (by omega)] at this; omega
    · exact hge
  refine L.1 (by omega) (fun q => ?_) (fun q => ?_) (fun q => ?_)
  · rw [get_app_left x y _ (by omega)]
  · rw [get_app_left x y _ (by omega)]
  · rw [get_app_left x y _ (by omega)]
theorem torn_cut (x y : ByteArray) (i : Nat) (hi : i ≤ x.size) (hy : y.size = 0 ∨ bAt y 0 < 128) (h : tornAt (x ++ y) i = none) : tornAt x i = none ∧ tornAt (x ++ y) x.size = none := by
  induction i using tornAt.induct (s := x) with
  | case1 i h1 h2 =>
    exfalso
    rw [tornAt, if_pos (by rw [ByteArray.size_append]; omega)] at h
    split at h
    · cases h
    · rename_i hq
      have := decode_cut x y i h1 hy hq
      rw [h2] at this
      exact hq this.symm
  | case2 i h1 h2 ih =>
    rw [tornAt, if_pos (by rw [ByteArray.size_append]; omega), decode_left x y i h1 h2, if_neg h2] at h
    have := ih (dec_le x i h1) h
    rw [tornAt, if_pos h1, if_neg h2]
    exact this
  | case3 i h1 =>
    obtain rfl : i = x.size := by omega
    exact ⟨by rw [tornAt, if_neg (by omega)], h⟩
theorem torn_both (x y : ByteArray) (hy : y.size = 0 ∨ bAt y 0 < 128) (h : tornAt (x ++ y) 0 = none) : tornAt x 0 = none ∧ tornAt y 0 = none := by
  obtain ⟨h1, h2⟩ := torn_cut x y 0 (Nat.zero_le _) hy h
  refine ⟨h1, ?_⟩
  have := torn_right x y 0
  rw [Nat.add_zero, h2] at this
  cases hq : tornAt y 0 with
  | none => rfl
  | some k => rw [hq] at this; cases this
theorem ext_join (s : ByteArray) (a b c : Nat) (h1 : a ≤ b) (h2 : b ≤ c) (h3 : c ≤ s.size) : s.extract a b ++ s.extract b c = s.extract a c := by
  have e1 := ext_size s a b (by omega)
  have e2 := ext_size s b c h3
  have e3 := ext_size s a c h3
  refine bytes_ext (by rw [ByteArray.size_append]; omega) (fun i hi => ?_)
  rw [ByteArray.size_append] at hi
  rw [ext_get s a c i h3 (by omega)]
  rcases Nat.lt_or_ge i (b - a) with hl | hl
  · rw [bAt_left _ _ _ (by omega), ext_get s a b i (by omega) (by omega)]
  · have := bAt_right (s.extract a b) (s.extract b c) (i - (b - a))
    rw [e1, show b - a + (i - (b - a)) = i by omega] at this
    rw [this, ext_get s b c _ h3 (by omega)]
    congr 1; omega
/-- A piece of a text that is whole characters, cut where single bytes stand, is such a text. -/
theorem torn_piece (s : ByteArray) (a b : Nat) (hab : a < b) (hb : b ≤ s.size) (h : tornAt s 0 = none) (ha : bAt s a < 128) (he : b = s.size ∨ bAt s b < 128) : tornAt (s.extract a b) 0 = none := by
  have e1 : s.extract 0 a ++ s.extract a s.size = s := by rw [ext_join s 0 a s.size (Nat.zero_le _) (by omega) (Nat.le_refl _), ext_all]
  have h1 : tornAt (s.extract a s.size) 0 = none := by
    rw [← e1] at h
    refine (torn_both _ _ (.inr ?_) h).2
    rw [ext_get s a s.size 0 (Nat.le_refl _) (by omega)]; exact ha
  rw [← ext_join s a b s.size (by omega) hb (Nat.le_refl _)] at h1
  refine (torn_both _ _ ?_ h1).1
  rcases he with he | he
  · left; rw [ext_size s b s.size (Nat.le_refl _)]; omega
  · rcases Nat.lt_or_ge b s.size with hl | hl
    · right; rw [ext_get s b s.size 0 (Nat.le_refl _) (by omega)]; exact he
    · left; rw [ext_size s b s.size (Nat.le_refl _)]; omega
theorem ascii_untorn (w : ByteArray) (i : Nat) (h : ∀ k, i ≤ k → k < w.size → bAt w k < 128) : tornAt w i = none := by
  rw [tornAt]
  split
  · rename_i hi
    have hd : Utf8.decode w i = (bAt w i, 1) := by
      rw [Lib.decode_at]; unfold Lib.decodeN
      rw [if_pos (show (w.get! i).toNat < 128 from h i (Nat.le_refl _) hi)]; rfl
    rw [hd, if_neg (by intro e; simp only [Prod.mk.injEq, and_true] at e; have := h i (Nat.le_refl _) hi; omega)]
    exact ascii_untorn w (i + 1) (fun k hk => h k (by omega))
  · rfl
termination_by w.size - i
theorem PlainW.untorn {w : ByteArray} (h : PlainW w) : tornAt w 0 = none := ascii_untorn w 0 (fun k _ hk => (h.2 k hk).2.2)
theorem untorn_tail (ws : List ByteArray) (h : ∀ w ∈ ws, tornAt w 0 = none) : tornAt (tailW ws) 0 = none := by
  induction ws with
  | nil => rw [tornAt, if_neg (by show ¬ 0 < (⟨#[]⟩ : ByteArray).size; decide)]
  | cons w ws ih =>
    show tornAt (sp ++ (w ++ tailW ws)) 0 = none
    rw [torn_app sp _ (ascii_untorn sp 0 (fun k _ hk => by rw [sp_size] at hk; obtain rfl : k = 0 := by omega
                                                           rw [sp_at]; decide)), torn_app w _ (h w List.mem_cons_self), ih (fun u hu => h u (List.mem_cons_of_mem _ hu))]
    rfl
theorem untorn_line (v : ByteArray) (ws : List ByteArray) (hv : tornAt v 0 = none) (h : ∀ w ∈ ws, tornAt w 0 = none) : tornAt (lineW v ws) 0 = none := by
  rw [lineW_eq, torn_app v _ hv, untorn_tail ws h]; rfl
/-! ### where words end; how long they are -/
theorem skip_end (s : ByteArray) (e : Nat) (he : e ≤ s.size) : skipTo s e = s.size ∨ bAt s (skipTo s e) = 32 := by
  induction e using skipTo.induct (s := s) with
  | case1 e h ih => rw [skipTo, if_pos h]; exact ih (by omega)
  | case2 e h =>
    rw [skipTo, if_neg h]
    by_cases h2 : bAt s e = 32
    · exact .inr h2
    · left
      rcases Nat.lt_or_ge e s.size with hl | hl
      · exact absurd ⟨hl, h2⟩ h
      · omega
theorem word_ends (s : ByteArray) (i : Nat) : ∀ p ∈ wordsAt s i, p.2 = s.size ∨ bAt s p.2 = 32 := by
  fun_induction wordsAt s i with
  | case1 i h h2 ih => exact ih
  | case2 i h h2 ih =>
    intro p hp
    rcases List.mem_cons.1 hp with rfl | hp
    · exact skip_end s _ (wordFrom_le h).2
    · exact ih p hp
  | case3 i h => intro p hp; simp at hp
/-- How many bytes words have, with one more for each. -/
def tot : List ByteArray → Nat
  | [] => 0
  | w :: ws => w.size + 1 + tot ws
theorem lineW_size (v : ByteArray) (ws : List ByteArray) : (lineW v ws).size + 1 = tot (v :: ws) := by
  induction ws generalizing v with
  | nil => rfl
  | cons w ws ih =>
    show (lineW (v ++ (sp ++ w)) ws).size + 1 = _
    rw [ih]
    simp only [tot, ByteArray.size_append, sp_size]
    omega
theorem wordS_blank (s : ByteArray) (i : Nat) (h : i < s.size) (h2 : bAt s i = 32) : wordS s i = wordS s (i + 1) := by
  unfold wordS; congr 1; conv => lhs; rw [wordsAt, dif_pos h, dif_pos h2]
theorem wordS_next (s : ByteArray) (i : Nat) (h : i < s.size) (h2 : bAt s i ≠ 32) : wordS s i = s.extract i (wordEnd s i) :: wordS s (wordEnd s i) := by
  unfold wordS; conv => lhs; rw [wordsAt, dif_pos h, dif_neg h2]
  rfl
theorem wordS_none (s : ByteArray) (i : Nat) (h : ¬ i < s.size) : wordS s i = [] := by
  unfold wordS; rw [wordsAt, dif_neg h]; rfl
theorem wordS_tot (s : ByteArray) (i : Nat) (hi : i ≤ s.size) : tot (wordS s i) ≤ s.size - i + 1 := by
  by_cases h : i < s.size
  · by_cases h2 : bAt s i = 32
    · rw [wordS_blank s i h h2]
      have := wordS_tot s (i + 1) (by omega)
      omega
    · have hw := wordEnd_gt h h2
      have hs : wordEnd s i = s.size ∨ bAt s (wordEnd s i) = 32 := skip_end s _ (wordFrom_le h).2
      rw [wordS_next s i h h2]
      simp only [tot]
      rw [ext_size s i (wordEnd s i) hw.2]
      by_cases hl : wordEnd s i < s.size
      · rw [wordS_blank s _ hl (hs.resolve_left (by omega))]
        have := wordS_tot s (wordEnd s i + 1) (by omega)
        omega
      · rw [wordS_none s _ hl]
        simp only [tot]
        omega
  · rw [wordS_none s i h]
    simp only [tot]
    omega
termination_by s.size - i
/-! ### the law -/
theorem told_zero {L : List (ByteArray × Nat)} {fin : Nat} {r : Option Cmd × Nat × Int} (h : (told L fin r).2.2 = 0) : (told L fin r).2.1 = 0 := by
  unfold told at h ⊢
  split
  · rename_i q; rw [if_pos q] at h; cases h
  · rename_i q
    rw [if_neg q] at h
    split
    · rename_i q2; rw [if_pos q2] at h; cases h
    · rfl
theorem sim_of_words {L L' : List (ByteArray × Nat)} (fin fin' : Nat) (h : L.map Prod.fst = L'.map Prod.fst) : Sim (fun _ _ => True) L fin L' fin' := by
  refine ⟨by have := congrArg List.length h; simpa using this, fun i p p' hp hp' => ⟨?_, trivial⟩, trivial⟩
  have := congrArg (fun l => l[i]?) h
  simp only [List.getElem?_map, hp, hp', Option.map_some, Option.some.injEq] at this
  exact this
/-- What a line that says a command has come of. -/
theorem parse_parts {s : ByteArray} {c : Cmd} {i e : Int} (h : parseV s = (some c, i, e)) : s.size ≤ 65536 ∧ tornAt s 0 = none ∧ wordsOf s ≠ [] ∧ told (wordsOf s) s.size (runCmd (wordsOf s) s.size) = (some c, i, e) := by
  unfold parseV at h
  split at h
  · cases h
  · cases ht : tornAt s 0 with
    | some k => rw [ht] at h; cases h
    | none =>
      rw [ht] at h
      simp only at h
      split at h
      · cases h
      · exact ⟨by omega, rfl, by assumption, h⟩
theorem told_some_err {L : List (ByteArray × Nat)} {fin : Nat} {r : Option Cmd × Nat × Int} {c : Cmd} {i e : Int} (h : told L fin r = (some c, i, e)) : e = 0 ∧ i = 0 := by
  unfold told at h
  split at h
  · cases h
  · split at h
    · cases h
    · simp only [Prod.mk.injEq] at h; exact ⟨h.2.2.symm, h.2.1.symm⟩
theorem back {s : ByteArray} {c : Cmd} {i e : Int} (h : parseV s = (some c, i, e)) :
    e = 0 ∧ c.Ok ∧ parseV (textC c) = (some c, 0, 0) ∧ (textC c).size ≤ s.size ∧ 0 < (textC c).size := by
  obtain ⟨h1, h2, h3, h4⟩ := parse_parts h
  obtain ⟨rfl, rfl⟩ := told_some_err h4
  have hz : ∀ p ∈ wordsOf s, p.1.size ≤ 1048576 := fun p hp => by have := (wordsOf_in s p hp).1; omega
  obtain ⟨v, ws, S, hok, hverb⟩ := shape_any h3 h4 hz
  have hwS : wordS s 0 = v :: ws := by rw [← wordsOf_fst]; exact S.words
  have hsz := wordS_tot s 0 (Nat.zero_le _)
  rw [hwS, ← lineW_size, ← S.text] at hsz
  have hvw := (verb_plain S.verb)
  have hiw : ∀ w ∈ ws, IsWord w := fun w hw => (S.kinds w hw).elim PlainW.word named_word
  have hu : ∀ w ∈ ws, tornAt w 0 = none := fun w hw => by
    rcases S.kinds w hw with hk | hk
    · exact hk.untorn
    · have hm : w ∈ wordS s 0 := by rw [hwS]; exact List.mem_cons_of_mem _ hw
      unfold wordS at hm
      obtain ⟨p, hp, rfl⟩ := List.mem_map.1 hm
      have hin := wordsAt_in s 0 p hp
      have hen := word_ends s 0 p hp
      have hnp := named_parts hk
      refine torn_piece s p.1 p.2 hin.2.1 hin.2.2 h2 ?_ (hen.imp id (fun q => by omega))
      have := ext_get s p.1 p.2 0 hin.2.2 (by omega)
      rw [Nat.add_zero] at this
      rw [← this, hnp.2.1]; decide
  have ht : tornAt (textC c) 0 = none := by rw [S.text]; exact untorn_line v ws hvw.untorn hu
  have hw2 : (wordsOf (textC c)).map Prod.fst = v :: ws := by rw [wordsOf_fst, S.text]; exact wordS_line v ws hvw.word hiw
  have hne : wordsOf (textC c) ≠ [] := by intro q; rw [q] at hw2; cases hw2
  have hsim := told_sim (sim_of_words s.size (textC c).size (S.words.trans hw2.symm)) h3
  rw [h4] at hsim
  obtain ⟨g1, g2, _⟩ := hsim
  simp only at g1 g2
  have g3 := told_zero g2.symm
  refine ⟨rfl, hok, ?_, by omega, ?_⟩
  · unfold parseV
    rw [if_neg (by omega), ht]
    simp only
    rw [if_neg hne]
    generalize told (wordsOf (textC c)) (textC c).size (runCmd (wordsOf (textC c)) (textC c).size) = r at *
    obtain ⟨o, x, y⟩ := r
    simp only at g1 g2 g3
    rw [← g1, ← g2, g3]
  · have e1 := lineW_size v ws
    rw [← S.text] at e1
    simp only [tot] at e1
    have := hvw.1
    omega
end Go.Proofs.YtjhlpmigkbaegaaDoor
