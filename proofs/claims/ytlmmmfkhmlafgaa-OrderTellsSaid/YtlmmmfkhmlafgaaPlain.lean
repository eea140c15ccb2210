/- The k-th number of a row, told by counts; no program in sight. -/
namespace Go.Proofs.Ytlmmmfkhmlafgaa.Ord

def below (l : List Int) (x : Int) : Nat := (l.filter (· < x)).length
def upto (l : List Int) (x : Int) : Nat := (l.filter (· ≤ x)).length
/-- x is the k-th of l in order. -/
structure Is (l : List Int) (k : Nat) (x : Int) : Prop where
  lo : below l x ≤ k
  hi : k < upto l x

theorem below_nil (x : Int) : below [] x = 0 := rfl
theorem upto_nil (x : Int) : upto [] x = 0 := rfl
theorem below_cons (a : Int) (l : List Int) (x : Int) : below (a :: l) x = below l x + if a < x then 1 else 0 := by
  unfold below; rw [List.filter_cons]; by_cases h : a < x <;> simp [h]
theorem upto_cons (a : Int) (l : List Int) (x : Int) : upto (a :: l) x = upto l x + if a ≤ x then 1 else 0 := by
  unfold upto; rw [List.filter_cons]; by_cases h : a ≤ x <;> simp [h]
theorem below_append (l m : List Int) (x : Int) : below (l ++ m) x = below l x + below m x := by unfold below; rw [List.filter_append, List.length_append]
theorem upto_append (l m : List Int) (x : Int) : upto (l ++ m) x = upto l x + upto m x := by unfold upto; rw [List.filter_append, List.length_append]
theorem below_le (l : List Int) (x : Int) : below l x ≤ upto l x := by
  induction l with
  | nil => exact Nat.le_refl _
  | cons a l ih => rw [below_cons, upto_cons]; split <;> split <;> omega
theorem upto_len (l : List Int) (x : Int) : upto l x ≤ l.length := List.length_filter_le _ _
theorem upto_below {l : List Int} {x y : Int} (h : x < y) : upto l x ≤ below l y := by
  induction l with
  | nil => exact Nat.le_refl _
  | cons a l ih => rw [below_cons, upto_cons]; split <;> split <;> omega
theorem below_mono {l : List Int} {x y : Int} (h : x ≤ y) : below l x ≤ below l y := by
  induction l with
  | nil => exact Nat.le_refl _
  | cons a l ih => rw [below_cons, below_cons]; split <;> split <;> omega
theorem below_perm {l m : List Int} (h : l.Perm m) (x : Int) : below l x = below m x := (h.filter _).length_eq
theorem upto_perm {l m : List Int} (h : l.Perm m) (x : Int) : upto l x = upto m x := (h.filter _).length_eq

theorem Is.unique {l : List Int} {k : Nat} {x y : Int} (hx : Is l k x) (hy : Is l k y) : x = y := by
  have a := hx.lo; have b := hx.hi; have c := hy.lo; have d := hy.hi
  rcases Int.lt_trichotomy x y with h | h | h
  · have := upto_below (l := l) h; omega
  · exact h
  · have := upto_below (l := l) h; omega
theorem Is.le {l : List Int} {j k : Nat} {x y : Int} (hx : Is l j x) (hy : Is l k y) (h : j ≤ k) : x ≤ y := by
  have a := hx.lo; have b := hx.hi; have c := hy.lo; have d := hy.hi
  rcases Int.lt_or_le y x with h' | h'
  · have := upto_below (l := l) h'; omega
  · exact h'
theorem Is.lt {l : List Int} {k : Nat} {x : Int} (h : Is l k x) : k < l.length := Nat.lt_of_lt_of_le h.hi (upto_len l x)
theorem Is.perm {l m : List Int} {k : Nat} {x : Int} (h : Is l k x) (p : l.Perm m) : Is m k x :=
  ⟨by rw [← below_perm p]; exact h.lo, by rw [← upto_perm p]; exact h.hi⟩

/-! parting -/
def less (l : List Int) (b : Int) : List Int := l.filter (· < b)
def more (l : List Int) (b : Int) : List Int := l.filter (b < ·)
def same (l : List Int) (b : Int) : Nat := (l.filter (· == b)).length
theorem less_snoc (l : List Int) (a b : Int) : less (l ++ [a]) b = less l b ++ (if a < b then [a] else []) := by
  unfold less; rw [List.filter_append]; by_cases h : a < b <;> simp [h]
theorem more_snoc (l : List Int) (a b : Int) : more (l ++ [a]) b = more l b ++ (if b < a then [a] else []) := by
  unfold more; rw [List.filter_append]; by_cases h : b < a <;> simp [h]
theorem same_snoc (l : List Int) (a b : Int) : same (l ++ [a]) b = same l b + (if a = b then 1 else 0) := by
  unfold same; rw [List.filter_append, List.length_append]; by_cases h : a = b <;> simp [h]
theorem less_below (l : List Int) (b x : Int) : below (less l b) x = if x ≤ b then below l x else below l b := by
  induction l with
  | nil => simp [less, below]
  | cons a l ih =>
    have e : less (a :: l) b = (if a < b then [a] else []) ++ less l b := by unfold less; rw [List.filter_cons]; by_cases h : a < b <;> simp [h]
    rw [e, below_append, ih]
    rw [below_cons, below_cons]
    by_cases h : a < b <;> by_cases h2 : x ≤ b <;> by_cases h3 : a < x <;> simp [h, h2, h3, below_cons, below_nil] <;> omega
theorem less_upto {l : List Int} {b x : Int} (h0 : x < b) : upto (less l b) x = upto l x := by
  induction l with
  | nil => rfl
  | cons a l ih =>
    have e : less (a :: l) b = (if a < b then [a] else []) ++ less l b := by unfold less; rw [List.filter_cons]; by_cases h : a < b <;> simp [h]
    rw [e, upto_append, ih, upto_cons]
    by_cases h : a < b <;> by_cases h3 : a ≤ x <;> simp [h, h3, upto_cons, upto_nil] <;> omega
theorem counts (l : List Int) (b : Int) : (less l b).length = below l b ∧ upto l b = below l b + same l b := by
  refine ⟨rfl, ?_⟩
  induction l with
  | nil => rfl
  | cons a l ih =>
    have e : same (a :: l) b = same l b + if a = b then 1 else 0 := by unfold same; rw [List.filter_cons]; by_cases h : a = b <;> simp [h]
    rw [below_cons, upto_cons, e, ih]
    split <;> split <;> split <;> omega
theorem more_counts {l : List Int} {b x : Int} (h0 : b < x) : below l x = upto l b + below (more l b) x ∧ upto l x = upto l b + upto (more l b) x := by
  induction l with
  | nil => exact ⟨rfl, rfl⟩
  | cons a l ih =>
    have e : more (a :: l) b = (if b < a then [a] else []) ++ more l b := by unfold more; rw [List.filter_cons]; by_cases h : b < a <;> simp [h]
    rw [e, below_append, upto_append, below_cons, upto_cons, upto_cons, ih.1, ih.2]
    by_cases h : b < a <;> by_cases h2 : a < x <;> by_cases h3 : a ≤ x <;> simp [h, h2, h3, below_cons, below_nil, upto_cons, upto_nil] <;> (try split) <;> omega
theorem lengths (l : List Int) (b : Int) : l.length = (less l b).length + same l b + (more l b).length := by
  induction l with
  | nil => rfl
  | cons a l ih =>
    have e1 : (less (a :: l) b).length = (less l b).length + if a < b then 1 else 0 := by unfold less; rw [List.filter_cons]; by_cases h : a < b <;> simp [h]
    have e2 : (more (a :: l) b).length = (more l b).length + if b < a then 1 else 0 := by unfold more; rw [List.filter_cons]; by_cases h : b < a <;> simp [h]
    have e3 : same (a :: l) b = same l b + if a = b then 1 else 0 := by unfold same; rw [List.filter_cons]; by_cases h : a = b <;> simp [h]
    rw [e1, e2, e3, List.length_cons, ih]
    split <;> split <;> split <;> omega
theorem same_pos {l : List Int} {b : Int} (h : b ∈ l) : 0 < same l b := by
  unfold same
  apply List.length_pos_of_mem (a := b)
  simp [h]
theorem Is.mem {l : List Int} {k : Nat} {x : Int} (h : Is l k x) : x ∈ l := by
  have := (counts l x).2
  have h1 := h.lo; have h2 := h.hi
  have hp : 0 < same l x := by omega
  unfold same at hp
  obtain ⟨y, hy⟩ := List.exists_mem_of_length_pos hp
  simp at hy
  obtain ⟨hy1, rfl⟩ := hy
  exact hy1
/-- k lies among what is less. -/
theorem Is.of_less {l : List Int} {k : Nat} {b x : Int} (h : Is (less l b) k x) : Is l k x := by
  have hm := h.mem
  have hb : x < b := by unfold less at hm; simpa using (List.mem_filter.1 hm).2
  have h1 := h.lo; have h2 := h.hi
  rw [less_below, if_pos (by omega)] at h1
  rw [less_upto hb] at h2
  exact ⟨h1, h2⟩
/-- .. is among what is the same .. -/
theorem Is.of_same {l : List Int} {k : Nat} {b : Int} (h1 : ¬ k < (less l b).length) (h2 : k < (less l b).length + same l b) : Is l k b := by
  have := counts l b
  exact ⟨by omega, by omega⟩
/-- .. or among what is more. -/
theorem Is.of_more {l : List Int} {k : Nat} {b x : Int} (h0 : ¬ k < (less l b).length + same l b) (h : Is (more l b) (k - ((less l b).length + same l b)) x) : Is l k x := by
  have hm := h.mem
  have hb : b < x := by unfold more at hm; simpa using (List.mem_filter.1 hm).2
  have h1 := h.lo; have h2 := h.hi
  have c := counts l b
  have m := more_counts (l := l) hb
  exact ⟨by omega, by omega⟩

/-! sorted rows -/
theorem Is.of_sorted {s : List Int} (h : s.Pairwise (· ≤ ·)) (k : Nat) (x : Int) (hk : s[k]? = some x) : Is s k x := by
  induction s generalizing k with
  | nil => simp at hk
  | cons a s ih =>
    rw [List.pairwise_cons] at h
    cases k with
    | zero =>
      simp at hk
      subst hk
      refine ⟨?_, ?_⟩
      · have : below (a :: s) a = 0 := by
          unfold below
          rw [List.length_eq_zero_iff, List.filter_eq_nil_iff]
          intro y hy
          rcases List.mem_cons.1 hy with rfl | hy
          · simp
          · have := h.1 y hy; simp; omega
        omega
      · rw [upto_cons]; simp
    | succ k =>
      simp at hk
      have := ih h.2 k hk
      have hax : a ≤ x := h.1 x (List.mem_of_getElem? hk)
      have h1 := this.lo; have h2 := this.hi
      refine ⟨?_, ?_⟩
      · rw [below_cons]; split <;> omega
      · rw [upto_cons, if_pos hax]; omega
theorem insert_sorted {p q : List Int} {x : Int} (hs : (p ++ q).Pairwise (· ≤ ·)) (hp : ∀ y, p.getLast? = some y → y ≤ x) (hq : ∀ y ∈ q, x < y) :
    (p ++ x :: q).Pairwise (· ≤ ·) := by
  rw [List.pairwise_append] at hs ⊢
  refine ⟨hs.1, List.pairwise_cons.2 ⟨fun y hy => Int.le_of_lt (hq y hy), hs.2.1⟩, fun a ha b hb => ?_⟩
  rcases List.mem_cons.1 hb with rfl | hb
  · cases hp' : p.getLast? with
    | none => rw [List.getLast?_eq_none_iff] at hp'; subst hp'; cases ha
    | some y =>
      have hy := hp y hp'
      obtain ⟨r, hr⟩ := List.getLast?_eq_some_iff.1 hp'
      rw [hr] at hs ha
      rcases List.mem_append.1 ha with ha | ha
      · have := (List.pairwise_append.1 hs.1).2.2 a ha y (by simp)
        omega
      · simp at ha; omega
  · exact hs.2.2 a ha b hb
/-- the least one -/
def least : List Int → Int → Int
  | [], m => m
  | a :: l, m => least l (min m a)
theorem least_snoc (l : List Int) (m a : Int) : least (l ++ [a]) m = min (least l m) a := by
  induction l generalizing m with
  | nil => rfl
  | cons b l ih => exact ih _
theorem Is.of_least {l : List Int} {m : Int} (hm : m ∈ l) (hl : ∀ y ∈ l, m ≤ y) : Is l 0 m := by
  refine ⟨?_, ?_⟩
  · have : below l m = 0 := by
      unfold below
      rw [List.length_eq_zero_iff, List.filter_eq_nil_iff]
      intro y hy
      have := hl y hy; simp; omega
    omega
  · unfold upto
    apply List.length_pos_of_mem (a := m)
    simp [hm]
end Go.Proofs.Ytlmmmfkhmlafgaa.Ord

namespace Go.Proofs.Ytlmmmfkhmlafgaa.Ord
theorem exists_kth {l : List Int} {k : Nat} (h : k < l.length) : ∃ x, Is l k x := by
  have hp : (l.mergeSort (fun a b => decide (a ≤ b))).Perm l := List.mergeSort_perm l _
  have hs : (l.mergeSort (fun a b => decide (a ≤ b))).Pairwise (fun a b => decide (a ≤ b) = true) :=
    List.pairwise_mergeSort (le := fun a b => decide (a ≤ b)) (fun a b c h1 h2 => by simp at *; omega) (fun a b => by simp; omega) l
  have hs' : (l.mergeSort (fun a b => decide (a ≤ b))).Pairwise (· ≤ ·) := hs.imp (fun h => by simpa using h)
  have hk : k < (l.mergeSort (fun a b => decide (a ≤ b))).length := by rw [hp.length_eq]; exact h
  exact ⟨_, (Is.of_sorted hs' k _ (List.getElem?_eq_getElem hk)).perm hp⟩
/-- The k-th number (0, if there is none). -/
noncomputable def kth (l : List Int) (k : Nat) : Int := @Classical.epsilon Int ⟨0⟩ (Is l k)
theorem kth_is {l : List Int} {k : Nat} (h : k < l.length) : Is l k (kth l k) := @Classical.epsilon_spec Int (Is l k) (exists_kth h)
theorem kth_eq {l : List Int} {k : Nat} {x : Int} (h : Is l k x) : kth l k = x := (kth_is h.lt).unique h
theorem kth_mem {l : List Int} {k : Nat} (h : k < l.length) : kth l k ∈ l := (kth_is h).mem
end Go.Proofs.Ytlmmmfkhmlafgaa.Ord
