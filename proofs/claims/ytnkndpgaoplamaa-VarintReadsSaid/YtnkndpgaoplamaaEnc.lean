/- A number's bytes: the plain law. -/
namespace Go.Proofs.Ytnkndpgaoplamaa

/-- A number's bytes, the lowest seven bits first. -/
def enc (u : Nat) : List Int := if u < 128 then [(u : Int)] else (128 + ((u % 128 : Nat) : Int)) :: enc (u / 128)
decreasing_by omega
theorem enc_small {u : Nat} (h : u < 128) : enc u = [(u : Int)] := by rw [enc, if_pos h]
theorem enc_big {u : Nat} (h : ¬ u < 128) : enc u = (128 + ((u % 128 : Nat) : Int)) :: enc (u / 128) := by rw [enc, if_neg h]
theorem enc_pos (u : Nat) : 1 ≤ (enc u).length := by
  rw [enc]; split <;> simp
theorem enc_len (k : Nat) : ∀ u : Nat, u < 128 ^ (k + 1) → (enc u).length ≤ k + 1 := by
  induction k with
  | zero => intro u h; rw [enc_small (by simpa using h)]; simp
  | succ k ih =>
    intro u h
    by_cases h1 : u < 128
    · rw [enc_small h1]; simp
    · rw [enc_big h1, List.length_cons]
      have := ih (u / 128) (by rw [Nat.pow_succ] at h; omega)
      omega
theorem enc_ten {u : Nat} (h : u < 18446744073709551616) : (enc u).length ≤ 10 := by
  refine enc_len 9 u ?_
  have : (128 : Nat) ^ (9 + 1) = 1180591620717411303424 := by decide
  omega
theorem enc_byte (u : Nat) : ∀ x ∈ enc u, 0 ≤ x ∧ x ≤ 255 := by
  induction u using enc.induct with
  | case1 u h => rw [enc_small h]; intro x hx; simp at hx; omega
  | case2 u h ih =>
    rw [enc_big h]
    intro x hx
    rcases List.mem_cons.1 hx with rfl | hx
    · omega
    · exact ih x hx
theorem enc_mono (v : Nat) : ∀ u, u ≤ v → (enc u).length ≤ (enc v).length := by
  induction v using enc.induct with
  | case1 v h => intro u hu; rw [enc_small h, enc_small (by omega)]; simp
  | case2 v h ih =>
    intro u hu
    rw [enc_big h]
    by_cases h1 : u < 128
    · rw [enc_small h1]; simp
    · rw [enc_big h1, List.length_cons, List.length_cons]
      have := ih (u / 128) (by omega)
      omega
end Go.Proofs.Ytnkndpgaoplamaa
