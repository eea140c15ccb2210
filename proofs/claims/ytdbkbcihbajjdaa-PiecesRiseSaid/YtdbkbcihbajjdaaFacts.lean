/- What holds of the pieces of a span: plain. -/
import Derived.Test.YtdbkbcihbajjdaaPlain
namespace Go.Proofs.Ytdbkbcihbajjdaa

/-- The lesser side's piece, the greater side's piece, the rest. -/
theorem cv_cases {P : Nat → Nat → Nat → List (Nat × Nat) → Prop}
    (one : ∀ L k, P L k k [(L, k)])
    (more : ∀ L lo hi lo' hi' m, lo < hi → (lo' = lo ∧ lo % 2 = 0 ∨ lo' = lo + 1 ∧ lo % 2 = 1) → (hi' = hi ∧ hi % 2 = 1 ∨ hi' + 1 = hi ∧ hi % 2 = 0) →
      (lo' ≤ hi' ∧ P (L + 1) (lo' / 2) (hi' / 2) m ∨ hi' < lo' ∧ m = []) →
      P L lo hi ((if lo % 2 = 1 then [(L, lo)] else []) ++ m ++ (if hi % 2 = 0 then [(L, hi)] else [])))
    (L lo hi : Nat) (h : lo ≤ hi) : P L lo hi (cv L lo hi) := by
  induction hn : hi - lo using Nat.strongRecOn generalizing L lo hi with
  | _ n ih =>
    rw [cv]
    by_cases hlt : lo < hi
    · rw [if_pos hlt]
      refine more L lo hi (if lo % 2 = 1 then lo + 1 else lo) (if hi % 2 = 0 then hi - 1 else hi) _ hlt (by split <;> omega) (by split <;> omega) ?_
      by_cases hc : (if lo % 2 = 1 then lo + 1 else lo) ≤ (if hi % 2 = 0 then hi - 1 else hi)
      · refine .inl ⟨hc, ?_⟩
        rw [if_pos hc]
        exact ih _ (by revert hc; split <;> split <;> omega) (L + 1) _ _ (by omega) rfl
      · exact .inr ⟨by omega, by rw [if_neg hc]⟩
    · rw [if_neg hlt]
      obtain rfl : lo = hi := by omega
      exact one L lo
theorem cv_ne (L lo hi : Nat) (h : lo ≤ hi) : cv L lo hi ≠ [] := by
  refine cv_cases (P := fun _ _ _ l => l ≠ []) (fun _ _ => by simp) (fun L lo hi lo' hi' m hlt h1 h2 h3 => ?_) L lo hi h
  intro hc
  simp only [List.append_eq_nil_iff] at hc
  obtain ⟨⟨c1, c2⟩, c3⟩ := hc
  have o1 : ¬ lo % 2 = 1 := fun h => by rw [if_pos h] at c1; simp at c1
  have o2 : ¬ hi % 2 = 0 := fun h => by rw [if_pos h] at c3; simp at c3
  rcases h3 with ⟨_, h3⟩ | ⟨h3, _⟩
  · exact h3 c2
  · omega
theorem cv_level (L lo hi : Nat) (h : lo ≤ hi) : ∀ p ∈ cv L lo hi, L ≤ p.1 := by
  refine cv_cases (P := fun L _ _ l => ∀ p ∈ l, L ≤ p.1) (fun L k => by simp) (fun L lo hi lo' hi' m hlt h1 h2 h3 => ?_) L lo hi h
  intro p hp
  simp only [List.mem_append] at hp
  rcases hp with (hp | hp) | hp
  · split at hp
    · simp at hp; subst hp; exact Nat.le_refl _
    · simp at hp
  · rcases h3 with ⟨_, h3⟩ | ⟨_, h3⟩
    · have := h3 p hp; omega
    · subst h3; simp at hp
  · split at hp
    · simp at hp; subst hp; exact Nat.le_refl _
    · simp at hp
theorem cv_len (L lo hi : Nat) (h : lo ≤ hi) : ∀ n, hi < 2 ^ n → (cv L lo hi).length ≤ 2 * n + (if n = 0 then 1 else 0) := by
  refine cv_cases (P := fun _ _ hi l => ∀ n, hi < 2 ^ n → l.length ≤ 2 * n + (if n = 0 then 1 else 0)) (fun L k n hn => ?_) (fun L lo hi lo' hi' m hlt h1 h2 h3 n hn => ?_) L lo hi h
  · simp; split <;> omega
  · obtain ⟨k, rfl⟩ : ∃ k, n = k + 1 := ⟨n - 1, by
      rcases n with _ | n
      · simp at hn; omega
      · omega⟩
    rw [Nat.pow_succ] at hn
    have hm : m.length ≤ 2 * k + (if k = 0 then 1 else 0) := by
      rcases h3 with ⟨_, h3⟩ | ⟨_, h3⟩
      · exact h3 k (by omega)
      · subst h3; simp
    simp only [List.length_append]
    by_cases hk : k = 0
    · subst hk
      simp at hn hm
      have : lo = 0 ∧ hi = 1 := by omega
      obtain ⟨rfl, rfl⟩ := this
      simp; omega
    · rw [if_neg hk] at hm
      have a1 : (if lo % 2 = 1 then [(L, lo)] else []).length ≤ 1 := by split <;> simp
      have a2 : (if hi % 2 = 0 then [(L, hi)] else []).length ≤ 1 := by split <;> simp
      have e0 : (if k + 1 = 0 then 1 else 0) = 0 := if_neg (by omega)
      rw [e0]
      omega
theorem cnt_none {k L : Nat} {m : List (Nat × Nat)} (h : ∀ p ∈ m, L ≤ p.1) (hk : k < L) : (m.countP fun p => p.1 == k) = 0 := by
  rw [List.countP_eq_zero]
  intro p hp
  have := h p hp
  simp; omega
/-- Of each level two at most. -/
theorem cv_count (L lo hi : Nat) (h : lo ≤ hi) : ∀ k, ((cv L lo hi).countP fun p => p.1 == k) ≤ 2 := by
  refine (cv_cases (P := fun L _ _ l => (∀ p ∈ l, L ≤ p.1) ∧ ∀ k, (l.countP fun p => p.1 == k) ≤ 2) (fun L k => ⟨by simp, fun j => by simp [List.countP_cons]; split <;> omega⟩) (fun L lo hi lo' hi' m hlt h1 h2 h3 => ?_) L lo hi h).2
  have hm : (∀ p ∈ m, L + 1 ≤ p.1) ∧ ∀ k, (m.countP fun p => p.1 == k) ≤ 2 := by
    rcases h3 with ⟨_, h3⟩ | ⟨_, h3⟩
    · exact h3
    · subst h3; simp
  constructor
  · intro p hp
    simp only [List.mem_append] at hp
    rcases hp with (hp | hp) | hp
    · split at hp
      · simp at hp; subst hp; exact Nat.le_refl _
      · simp at hp
    · have := hm.1 p hp; omega
    · split at hp
      · simp at hp; subst hp; exact Nat.le_refl _
      · simp at hp
  · intro k
    simp only [List.countP_append]
    by_cases hk : k = L
    · subst hk
      rw [cnt_none hm.1 (by omega)]
      have a1 : (if lo % 2 = 1 then [(k, lo)] else []).countP (fun p => p.1 == k) ≤ 1 := by split <;> simp
      have a2 : (if hi % 2 = 0 then [(k, hi)] else []).countP (fun p => p.1 == k) ≤ 1 := by split <;> simp
      omega
    · have a1 : (if lo % 2 = 1 then [(L, lo)] else []).countP (fun p => p.1 == k) = 0 := by
        split
        · simp; omega
        · rfl
      have a2 : (if hi % 2 = 0 then [(L, hi)] else []).countP (fun p => p.1 == k) = 0 := by
        split
        · simp; omega
        · rfl
      have := hm.2 k
      omega
/-- From 0 on: of each level one at most. -/
theorem cv_zero (L hi : Nat) : ∀ k, ((cv L 0 hi).countP fun p => p.1 == k) ≤ 1 := by
  have := cv_cases (P := fun L lo _ l => lo = 0 → (∀ p ∈ l, L ≤ p.1) ∧ ∀ k, (l.countP fun p => p.1 == k) ≤ 1) (fun L k _ => ⟨by simp, fun j => by simp [List.countP_cons]; split <;> omega⟩) (fun L lo hi lo' hi' m hlt h1 h2 h3 h0 => ?_) L 0 hi (by omega) rfl
  · exact this.2
  · subst h0
    have hm : (∀ p ∈ m, L + 1 ≤ p.1) ∧ ∀ k, (m.countP fun p => p.1 == k) ≤ 1 := by
      rcases h3 with ⟨_, h3⟩ | ⟨_, h3⟩
      · exact h3 (by omega)
      · subst h3; simp
    rw [if_neg (by omega), List.nil_append]
    constructor
    · intro p hp
      simp only [List.mem_append] at hp
      rcases hp with hp | hp
      · have := hm.1 p hp; omega
      · split at hp
        · simp at hp; subst hp; exact Nat.le_refl _
        · simp at hp
    · intro k
      simp only [List.countP_append]
      by_cases hk : k = L
      · subst hk
        rw [cnt_none hm.1 (by omega)]
        have a2 : (if hi % 2 = 0 then [(k, hi)] else []).countP (fun p => p.1 == k) ≤ 1 := by split <;> simp
        omega
      · have a2 : (if hi % 2 = 0 then [(L, hi)] else []).countP (fun p => p.1 == k) = 0 := by
          split
          · simp; omega
          · rfl
        have := hm.2 k
        omega
/-- No two that follow each other are the halves of one. -/
def noHalf : List (Nat × Nat) → Prop
  | p :: q :: r => ¬ (p.1 = q.1 ∧ q.2 = p.2 + 1 ∧ q.2 % 2 = 1) ∧ noHalf (q :: r)
  | _ => True
theorem noHalf_cons {p : Nat × Nat} {m : List (Nat × Nat)} (h : ∀ q ∈ m, p.1 < q.1) (hm : noHalf m) : noHalf (p :: m) := by
  cases m with
  | nil => trivial
  | cons q r => exact ⟨fun hc => by have := h q (by simp); omega, hm⟩
theorem noHalf_snoc {m : List (Nat × Nat)} {q : Nat × Nat} (h : ∀ p ∈ m, q.1 < p.1) (hm : noHalf m) : noHalf (m ++ [q]) := by
  induction m with
  | nil => trivial
  | cons p r ih =>
    cases r with
    | nil => exact ⟨fun hc => by have := h p (by simp); omega, trivial⟩
    | cons p2 r2 => exact ⟨hm.1, ih (fun x hx => h x (List.mem_cons_of_mem _ hx)) hm.2⟩
theorem noHalf_two {a b : Nat × Nat} {m : List (Nat × Nat)} (h1 : ∀ q ∈ m, a.1 < q.1) (h2 : ∀ q ∈ m, b.1 < q.1) (hab : ¬ (a.1 = b.1 ∧ b.2 = a.2 + 1 ∧ b.2 % 2 = 1)) (hm : noHalf m) : noHalf (a :: m ++ [b]) := by
  cases m with
  | nil => exact ⟨hab, trivial⟩
  | cons q r => exact ⟨fun hc => by have := h1 q (by simp); omega, noHalf_snoc h2 hm⟩
/-- Levels that fall, or stay. -/
def down : List (Nat × Nat) → Prop
  | p :: q :: r => ¬ p.1 < q.1 ∧ down (q :: r)
  | _ => True
/-- Levels that rise, and then fall. -/
def hill : List (Nat × Nat) → Prop
  | p :: q :: r => (p.1 < q.1 ∧ hill (q :: r)) ∨ (¬ p.1 < q.1 ∧ down (q :: r))
  | _ => True
theorem down_snoc {m : List (Nat × Nat)} {q : Nat × Nat} (h : ∀ p ∈ m, q.1 < p.1) (hm : down m) : down (m ++ [q]) := by
  induction m with
  | nil => trivial
  | cons p r ih =>
    cases r with
    | nil => exact ⟨by have := h p (by simp); omega, trivial⟩
    | cons p2 r2 => exact ⟨hm.1, ih (fun x hx => h x (List.mem_cons_of_mem _ hx)) hm.2⟩
theorem hill_snoc {m : List (Nat × Nat)} {q : Nat × Nat} (h : ∀ p ∈ m, q.1 < p.1) (hm : hill m) : hill (m ++ [q]) := by
  induction m with
  | nil => trivial
  | cons p r ih =>
    cases r with
    | nil => exact .inr ⟨by have := h p (by simp); omega, trivial⟩
    | cons p2 r2 =>
      rcases hm with ⟨h1, h2⟩ | ⟨h1, h2⟩
      · exact .inl ⟨h1, ih (fun x hx => h x (List.mem_cons_of_mem _ hx)) h2⟩
      · exact .inr ⟨h1, down_snoc (m := p2 :: r2) (fun x hx => h x (List.mem_cons_of_mem _ hx)) h2⟩
theorem hill_cons {p : Nat × Nat} {m : List (Nat × Nat)} (h : ∀ q ∈ m, p.1 < q.1) (hm : hill m) : hill (p :: m) := by
  cases m with
  | nil => trivial
  | cons q r => exact .inl ⟨h q (by simp), hm⟩
theorem cv_shape (L lo hi : Nat) (h : lo ≤ hi) : noHalf (cv L lo hi) ∧ hill (cv L lo hi) := by
  refine (cv_cases (P := fun L _ _ l => (∀ p ∈ l, L ≤ p.1) ∧ noHalf l ∧ hill l) (fun L k => ⟨by simp, trivial, trivial⟩) (fun L lo hi lo' hi' m hlt h1 h2 h3 => ?_) L lo hi h).2
  have hm : (∀ p ∈ m, L + 1 ≤ p.1) ∧ noHalf m ∧ hill m := by
    rcases h3 with ⟨_, h3⟩ | ⟨_, h3⟩
    · exact h3
    · subst h3; exact ⟨by simp, trivial, trivial⟩
  have hL : ∀ q ∈ m, L < q.1 := fun q hq => hm.1 q hq
  constructor
  · intro p hp
    simp only [List.mem_append] at hp
    rcases hp with (hp | hp) | hp
    · split at hp
      · simp at hp; subst hp; exact Nat.le_refl _
      · simp at hp
    · have := hm.1 p hp; omega
    · split at hp
      · simp at hp; subst hp; exact Nat.le_refl _
      · simp at hp
  · by_cases c1 : lo % 2 = 1 <;> by_cases c2 : hi % 2 = 0
    · rw [if_pos c1, if_pos c2]
      refine ⟨noHalf_two hL hL (by simp; omega) hm.2.1, ?_⟩
      cases m with
      | nil => exact .inr ⟨by simp, trivial⟩
      | cons q r => exact .inl ⟨hL q (by simp), hill_snoc hL hm.2.2⟩
    · rw [if_pos c1, if_neg c2, List.append_nil]
      exact ⟨noHalf_cons hL hm.2.1, hill_cons hL hm.2.2⟩
    · rw [if_neg c1, if_pos c2, List.nil_append]
      exact ⟨noHalf_snoc hL hm.2.1, hill_snoc hL hm.2.2⟩
    · rw [if_neg c1, if_neg c2, List.nil_append, List.append_nil]
      exact hm.2
/-- A piece's own span is that piece alone. -/
theorem lv_own (k x : Nat) : lv (x * 2 ^ k) (x * 2 ^ k + 2 ^ k) = k := by
  induction k with
  | zero => rw [lv_odd (by simp)]
  | succ k ih =>
    have := lv_two (a := x * 2 ^ k) (e := x * 2 ^ k + 2 ^ k) (x := 0) (by have := pow_pos2 k; omega) (by omega)
    rw [ih, Nat.add_zero] at this
    rw [show x * 2 ^ (k + 1) = 2 * (x * 2 ^ k) by rw [Nat.pow_succ]; grind, show 2 * (x * 2 ^ k) + 2 ^ (k + 1) = 2 * (x * 2 ^ k + 2 ^ k) by rw [Nat.pow_succ]; omega]
    exact this
theorem cv_own (k x : Nat) : cv 0 (x * 2 ^ k) (x * 2 ^ k + 2 ^ k - 1) = [(k, x)] := by
  have hp := pow_pos2 k
  rw [cv_gr 0 _ _ (by omega), show x * 2 ^ k + 2 ^ k - 1 + 1 = x * 2 ^ k + 2 ^ k by omega, gr_step 0 (by omega), lv_own, gr_nil, Nat.mul_div_cancel _ hp, Nat.zero_add]
end Go.Proofs.Ytdbkbcihbajjdaa
