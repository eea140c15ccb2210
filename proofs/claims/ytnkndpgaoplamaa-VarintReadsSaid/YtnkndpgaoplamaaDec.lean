/- Numbers taken out of bytes: the plain law. -/
import Derived.Test.YtnkndpgaoplamaaEnc
namespace Go.Proofs.Ytnkndpgaoplamaa

/-- The first number, and how many bytes it has; i bytes were read ahead. -/
def decG : List Int → Nat → Option (Nat × Nat)
  | [], _ => none
  | x :: r, i => if x < 128 then (if (x = 0 ∧ 0 < i) ∨ (i = 9 ∧ 1 < x) ∨ 9 < i then none else some (x.toNat, 1))
    else if 9 ≤ i then none else (decG r (i + 1)).map fun p => (128 * p.1 + (x % 128).toNat, p.2 + 1)
def dec (b : List Int) : Option (Nat × Nat) := decG b 0
def Bytes (b : List Int) : Prop := ∀ x ∈ b, 0 ≤ x ∧ x ≤ 255
theorem Bytes.tail {x : Int} {r : List Int} (h : Bytes (x :: r)) : Bytes r := fun y hy => h y (List.mem_cons_of_mem _ hy)
theorem Bytes.drop {b : List Int} (h : Bytes b) (k : Nat) : Bytes (b.drop k) := fun y hy => h y (List.mem_of_mem_drop hy)
theorem Bytes.take {b : List Int} (h : Bytes b) (k : Nat) : Bytes (b.take k) := fun y hy => h y (List.mem_of_mem_take hy)
/-- How great a number may be whose bytes begin behind i others. -/
def room (i : Nat) : Nat := 18446744073709551616 / 128 ^ i
theorem room_succ (i : Nat) : room (i + 1) = room i / 128 := by unfold room; rw [Nat.pow_succ, Nat.div_div_eq_div_mul]
theorem room9 : room 9 = 2 := by decide
theorem room_big {i : Nat} (h : i < 9) : 256 ≤ room i := by
  have h8 : room 8 = 256 := by decide
  unfold room at *
  rw [← h8]
  exact Nat.div_le_div_left (Nat.pow_le_pow_right (by omega) (by omega)) (Nat.pow_pos (by omega))
theorem room_mul {i : Nat} (h : i < 9) : room i = 128 * room (i + 1) := by
  have key : ∀ i : Fin 9, room i.val = 128 * room (i.val + 1) := by decide
  exact key ⟨i, h⟩
theorem decG_is {b : List Int} : ∀ {i v k : Nat}, Bytes b → decG b i = some (v, k) → i ≤ 9 ∧ v < room i ∧ k = (enc v).length ∧ b.take k = enc v ∧ (0 < i → 0 < v) := by
  induction b with
  | nil => intro i v k _ h; simp [decG] at h
  | cons x r ih =>
    intro i v k hb h
    have hx := hb x (by simp)
    unfold decG at h
    split at h
    · rename_i h1
      split at h
      · cases h
      · rename_i h2
        simp only [Option.some.injEq, Prod.mk.injEq] at h
        obtain ⟨rfl, rfl⟩ := h
        have hi : i ≤ 9 := by omega
        have e : enc x.toNat = [x] := by rw [enc_small (by omega)]; congr 1; omega
        refine ⟨hi, ?_, by rw [e]; rfl, by rw [e]; simp, by omega⟩
        rcases Nat.lt_or_ge i 9 with h9 | h9
        · have := room_big h9; omega
        · have h9' : i = 9 := by omega
          subst h9'
          rw [room9]; omega
    · rename_i h1
      split at h
      · cases h
      · rename_i h2
        cases hr : decG r (i + 1) with
        | none => rw [hr] at h; simp at h
        | some p =>
          rw [hr] at h
          simp only [Option.map_some, Option.some.injEq, Prod.mk.injEq] at h
          obtain ⟨rfl, rfl⟩ := h
          obtain ⟨q1, q2, q3, q4, q5⟩ := ih hb.tail hr
          have hp := q5 (by omega)
          have hge : ¬ 128 * p.1 + (x % 128).toNat < 128 := by omega
          have e1 : (128 * p.1 + (x % 128).toNat) / 128 = p.1 := by omega
          have e2 : (128 : Int) + (((128 * p.1 + (x % 128).toNat) % 128 : Nat) : Int) = x := by omega
          have e : enc (128 * p.1 + (x % 128).toNat) = x :: enc p.1 := by rw [enc_big hge, e1, e2]
          rw [room_succ] at q2
          refine ⟨by omega, by omega, by rw [e, List.length_cons, q3], ?_, by omega⟩
          rw [e, List.take_succ_cons, q4]
theorem decG_enc (v : Nat) : ∀ (i : Nat) (r : List Int), i ≤ 9 → v < room i → (0 < i → 0 < v) → decG (enc v ++ r) i = some (v, (enc v).length) := by
  induction v using enc.induct with
  | case1 v h =>
    intro i r hi hv hp
    rw [enc_small h]
    simp only [List.cons_append, List.nil_append, decG]
    rw [if_pos (by omega), if_neg]
    · simp
    · rintro (⟨h1, h2⟩ | ⟨h1, h2⟩ | h1)
      · have := hp h2; omega
      · subst h1; rw [room9] at hv; omega
      · omega
  | case2 v h ih =>
    intro i r hi hv hp
    have h9 : i ≠ 9 := fun h9 => by subst h9; rw [room9] at hv; omega
    rw [enc_big h]
    simp only [List.cons_append, decG]
    rw [if_neg (by omega), if_neg (by omega), ih (i + 1) r (by omega) (by have := room_mul (show i < 9 by omega); omega) (by omega)]
    simp
    omega
theorem dec_is {b : List Int} {v k : Nat} (hb : Bytes b) (h : dec b = some (v, k)) : v < 18446744073709551616 ∧ k = (enc v).length ∧ b.take k = enc v := by
  obtain ⟨_, h2, h3, h4, _⟩ := decG_is hb h
  exact ⟨by have : room 0 = 18446744073709551616 := by decide
            omega, h3, h4⟩
theorem dec_enc {v : Nat} (hv : v < 18446744073709551616) (r : List Int) : dec (enc v ++ r) = some (v, (enc v).length) :=
  decG_enc v 0 r (by omega) (by have : room 0 = 18446744073709551616 := by decide
                                omega) (by omega)
/-- The sum of the sevens of bits. -/
def val : List Int → Nat
  | [] => 0
  | x :: r => (x % 128).toNat + 128 * val r
theorem val_enc (v : Nat) : val (enc v) = v := by
  induction v using enc.induct with
  | case1 v h => rw [enc_small h]; simp [val]; omega
  | case2 v h ih => rw [enc_big h]; simp only [val]; rw [ih]; omega
/-- All bytes of a number but the last one are 128 or more. -/
theorem enc_last (v : Nat) : (∀ j, j + 1 < (enc v).length → ∃ x, (enc v)[j]? = some x ∧ 128 ≤ x) ∧ ∃ x, (enc v)[(enc v).length - 1]? = some x ∧ x < 128 := by
  induction v using enc.induct with
  | case1 v h => rw [enc_small h]; simp; omega
  | case2 v h ih =>
    have hp := enc_pos (v / 128)
    rw [enc_big h]
    refine ⟨fun j hj => ?_, ?_⟩
    · rcases j with _ | j
      · exact ⟨_, rfl, by omega⟩
      · simp only [List.length_cons] at hj
        simpa using ih.1 j (by omega)
    · obtain ⟨x, h1, h2⟩ := ih.2
      refine ⟨x, ?_, h2⟩
      rw [List.length_cons, show (enc (v / 128)).length + 1 - 1 = ((enc (v / 128)).length - 1) + 1 by omega]
      simpa using h1
/-- Many numbers, one behind the other. -/
def decs : Nat → List Int → Option (List Nat × Nat)
  | 0, _ => some ([], 0)
  | n + 1, b => match dec b with
    | none => none
    | some (v, k) => (decs n (b.drop k)).map fun p => (v :: p.1, k + p.2)
theorem decs_len : ∀ (n : Nat) {b : List Int} {l : List Nat} {m : Nat}, Bytes b → decs n b = some (l, m) → n ≤ m ∧ m ≤ b.length ∧ l.length = n := by
  intro n
  induction n with
  | zero => intro b l m _ h; simp [decs] at h; obtain ⟨rfl, rfl⟩ := h; simp
  | succ n ih =>
    intro b l m hb h
    unfold decs at h
    split at h
    · cases h
    · rename_i v k hd
      cases hr : decs n (b.drop k) with
      | none => rw [hr] at h; simp at h
      | some p =>
        rw [hr] at h
        simp only [Option.map_some, Option.some.injEq, Prod.mk.injEq] at h
        obtain ⟨rfl, rfl⟩ := h
        obtain ⟨_, h2, h3⟩ := dec_is hb hd
        obtain ⟨q1, q2, q3⟩ := ih (hb.drop k) hr
        have h4 := congrArg List.length h3
        rw [List.length_take] at h4
        have h5 := enc_pos v
        rw [List.length_drop] at q2
        refine ⟨by omega, by omega, by simp [q3]⟩
end Go.Proofs.Ytnkndpgaoplamaa
