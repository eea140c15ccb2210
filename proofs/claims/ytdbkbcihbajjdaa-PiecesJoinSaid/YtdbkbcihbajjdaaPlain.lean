/- Spans cut into pieces: the plain law. -/
namespace Go.Proofs.Ytdbkbcihbajjdaa

/-- What Cover answers from level L on: both sides at once. -/
def cv (L lo hi : Nat) : List (Nat × Nat) :=
  if lo < hi then
    (if lo % 2 = 1 then [(L, lo)] else []) ++
    (if (if lo % 2 = 1 then lo + 1 else lo) ≤ (if hi % 2 = 0 then hi - 1 else hi) then
      cv (L + 1) ((if lo % 2 = 1 then lo + 1 else lo) / 2) ((if hi % 2 = 0 then hi - 1 else hi) / 2) else []) ++
    (if hi % 2 = 0 then [(L, hi)] else [])
  else [(L, lo)]
termination_by hi - lo
decreasing_by all_goals (split <;> split <;> omega)
/-- The level of the greatest piece that begins at a and ends at e at the latest. -/
def lv (a e : Nat) : Nat := if a % 2 = 0 ∧ a + 2 ≤ e then lv (a / 2) (e / 2) + 1 else 0
termination_by e
theorem lv_le {a e : Nat} (h : a < e) : a + 2 ^ lv a e ≤ e ∧ a % 2 ^ lv a e = 0 := by
  induction a, e using lv.induct with
  | case1 a e h2 ih =>
    rw [lv, if_pos h2, Nat.pow_succ]
    obtain ⟨i1, i2⟩ := ih (by omega)
    refine ⟨by omega, ?_⟩
    generalize lv (a / 2) (e / 2) = k at *
    have e1 : a = a / 2 * 2 := by omega
    rw [e1, Nat.mul_mod_mul_right, i2, Nat.zero_mul]
  | case2 a e h2 => rw [lv, if_neg h2]; simp; omega
theorem pow_pos2 (k : Nat) : 0 < 2 ^ k := Nat.pow_pos (by omega)
/-- From the left, the greatest that fits, again and again. -/
def gr (L a e : Nat) : List (Nat × Nat) :=
  if a < e then (L + lv a e, a / 2 ^ lv a e) :: gr L (a + 2 ^ lv a e) e else []
termination_by e - a
decreasing_by (have := pow_pos2 (lv a e); omega)
theorem gr_step (L : Nat) {a e : Nat} (h : a < e) : gr L a e = (L + lv a e, a / 2 ^ lv a e) :: gr L (a + 2 ^ lv a e) e := by rw [gr, if_pos h]
theorem gr_stop (L : Nat) {a e : Nat} (h : ¬ a < e) : gr L a e = [] := by rw [gr, if_neg h]
theorem gr_nil (L e : Nat) : gr L e e = [] := by rw [gr, if_neg (by omega)]
theorem lv_odd {a e : Nat} (h : ¬ (a % 2 = 0 ∧ a + 2 ≤ e)) : lv a e = 0 := by rw [lv, if_neg h]
theorem gr_one (L : Nat) {a e : Nat} (h : a < e) (h2 : ¬ (a % 2 = 0 ∧ a + 2 ≤ e)) : gr L a e = (L, a) :: gr L (a + 1) e := by
  rw [gr_step L h, lv_odd h2]; simp
theorem lv_two {a e x : Nat} (h : a < e) (hx : x < 2) : lv (2 * a) (2 * e + x) = lv a e + 1 := by
  rw [lv, if_pos (by omega), show 2 * a / 2 = a by omega, show (2 * e + x) / 2 = e by omega]
theorem div_two (a k : Nat) : 2 * a / 2 ^ (k + 1) = a / 2 ^ k := by
  rw [Nat.pow_succ, Nat.mul_comm (2 ^ k) 2, Nat.mul_div_mul_left _ _ (by omega)]
theorem gr_two (L a e : Nat) : gr L (2 * a) (2 * e) = gr (L + 1) a e := by
  induction a using gr.induct (e := e) with
  | case1 a h ih =>
    have hl := lv_two (x := 0) h (by omega)
    rw [Nat.add_zero] at hl
    rw [gr_step L (a := 2 * a) (e := 2 * e) (by omega), gr_step (L + 1) h, hl, div_two, show 2 * a + 2 ^ (lv a e + 1) = 2 * (a + 2 ^ lv a e) by rw [Nat.pow_succ]; omega, ih]
    congr 2; omega
  | case2 a h => rw [gr_stop L (by omega), gr_stop (L + 1) h]
theorem gr_tail (L a e : Nat) (h : a ≤ e) : gr L (2 * a) (2 * e + 1) = gr L (2 * a) (2 * e) ++ [(L, 2 * e)] := by
  induction a using gr.induct (e := e) with
  | case1 a h1 ih =>
    have hl := lv_two (x := 0) h1 (by omega)
    rw [Nat.add_zero] at hl
    have hl1 := lv_two (x := 1) h1 (by omega)
    have hb := (lv_le h1).1
    rw [gr_step L (a := 2 * a) (e := 2 * e + 1) (by omega), hl1, gr_step L (a := 2 * a) (e := 2 * e) (by omega), hl, show 2 * a + 2 ^ (lv a e + 1) = 2 * (a + 2 ^ lv a e) by rw [Nat.pow_succ]; omega, ih hb]
    rfl
  | case2 a h1 =>
    obtain rfl : a = e := by omega
    rw [gr_one L (by omega) (by omega), gr_nil, gr_nil]; rfl
/-- Both ways answer alike. -/
theorem cv_gr (L lo hi : Nat) (h : lo ≤ hi) : cv L lo hi = gr L lo (hi + 1) := by
  induction hn : hi - lo using Nat.strongRecOn generalizing L lo hi with
  | _ n ih =>
    rw [cv]
    by_cases hlt : lo < hi
    · rw [if_pos hlt]
      have hl : gr L lo (hi + 1) = (if lo % 2 = 1 then [(L, lo)] else []) ++ gr L (if lo % 2 = 1 then lo + 1 else lo) (hi + 1) := by
        split
        · rw [gr_one L (by omega) (by omega)]; rfl
        · rfl
      have hev : (if lo % 2 = 1 then lo + 1 else lo) % 2 = 0 ∧ (if lo % 2 = 1 then lo + 1 else lo) ≤ hi ∧ lo ≤ (if lo % 2 = 1 then lo + 1 else lo) := by split <;> omega
      rw [hl, List.append_assoc]
      generalize (if lo % 2 = 1 then lo + 1 else lo) = lo' at *
      congr 1
      obtain ⟨a, rfl⟩ : ∃ a, lo' = 2 * a := ⟨lo' / 2, by omega⟩
      rw [show 2 * a / 2 = a by omega]
      by_cases hh : hi % 2 = 0
      · simp only [if_pos hh]
        obtain ⟨e, rfl⟩ : ∃ e, hi = 2 * e := ⟨hi / 2, by omega⟩
        rw [gr_tail L a e (by omega), gr_two]
        congr 1
        by_cases hc : 2 * a ≤ 2 * e - 1
        · rw [if_pos hc, show (2 * e - 1) / 2 = e - 1 by omega, ih (e - 1 - a) (by omega) (L + 1) a (e - 1) (by omega) rfl, show e - 1 + 1 = e by omega]
        · rw [if_neg hc]
          obtain rfl : a = e := by omega
          rw [gr_nil]
      · simp only [if_neg hh]
        obtain ⟨e, rfl⟩ : ∃ e, hi = 2 * e + 1 := ⟨hi / 2, by omega⟩
        rw [if_pos (by omega), show (2 * e + 1) / 2 = e by omega, ih (e - a) (by omega) (L + 1) a e (by omega) rfl, show 2 * e + 1 + 1 = 2 * (e + 1) by omega, gr_two, List.append_nil]
    · rw [if_neg hlt]
      obtain rfl : lo = hi := by omega
      rw [gr_one L (by omega) (by omega), gr_nil]
end Go.Proofs.Ytdbkbcihbajjdaa
