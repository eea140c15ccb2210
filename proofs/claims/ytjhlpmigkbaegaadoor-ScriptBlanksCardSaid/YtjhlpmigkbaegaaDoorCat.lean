/- Two texts, one behind the other: plain. -/
import Derived.Test.YtjhlpmigkbaegaaDoorLine
import Derived.Test.YtjhlpmigkbaegaaDoorRef
namespace Go.Proofs.YtjhlpmigkbaegaaDoor
open Go.RowKit
set_option linter.unusedVariables false
/-- A character that is there stays so with more behind it. -/
theorem decodeN_more {n n' b0 b1 b2 b3 c1 c2 c3 c m : Nat} (h : Lib.decodeN n b0 b1 b2 b3 = (c, m)) (hc : ¬ (c = 65533 ∧ m = 1)) (hn : n ≤ n')
    (h1 : 1 < n → c1 = b1) (h2 : 2 < n → c2 = b2) (h3 : 3 < n → c3 = b3) : Lib.decodeN n' b0 c1 c2 c3 = (c, m) := by
  unfold Lib.decodeN at h ⊢
  split at h
  · rename_i q; rw [if_pos q]; exact h
  · rename_i q0
    rw [if_neg q0]
    split at h
    · rename_i q1
      obtain rfl := h1 q1.2.1
      rw [if_pos ⟨q1.1, by omega, q1.2.2⟩]; exact h
    · rename_i q1
      split at h
      · rename_i q2
        obtain rfl := h1 q2.2.1.1
        obtain rfl := h2 q2.2.2.1
        rw [if_neg (by rintro ⟨a, b⟩; omega), if_pos ⟨q2.1, ⟨by omega, q2.2.1.2⟩, ⟨by omega, q2.2.2.2⟩⟩]; exact h
      · rename_i q2
        split at h
        · rename_i q3
          obtain rfl := h1 q3.2.1.1
          obtain rfl := h2 q3.2.2.1.1
          obtain rfl := h3 q3.2.2.2.1
          rw [if_neg (by rintro ⟨a, b⟩; omega), if_neg (by rintro ⟨a, b⟩; omega), if_pos ⟨q3.1, ⟨by omega, q3.2.1.2⟩, ⟨by omega, q3.2.2.1.2⟩, ⟨by omega, q3.2.2.2.2⟩⟩]; exact h
        · cases h; exact absurd ⟨rfl, rfl⟩ hc
theorem get_app_left (s t : ByteArray) (i : Nat) (h : i < s.size) : (s ++ t).get! i = s.get! i := by
  obtain ⟨⟨a⟩⟩ := s
  obtain ⟨⟨b⟩⟩ := t
  show (ByteArray.mk _).get! i = _
  simp only [ByteArray.size, List.size_toArray] at h
  simp [ByteArray.get!, Array.getElem!_eq_getD, Array.getD_eq_getD_getElem?, List.getElem?_append_left h]
theorem get_app_right (s t : ByteArray) (i : Nat) : (s ++ t).get! (s.size + i) = t.get! i := by
  obtain ⟨⟨a⟩⟩ := s
  obtain ⟨⟨b⟩⟩ := t
  show (ByteArray.mk _).get! _ = _
  simp [ByteArray.get!, ByteArray.size, Array.getElem!_eq_getD, Array.getD_eq_getD_getElem?, List.getElem?_append_right]
theorem decode_left (s t : ByteArray) (i : Nat) (h : i < s.size) (hd : Utf8.decode s i ≠ (65533, 1)) : Utf8.decode (s ++ t) i = Utf8.decode s i := by
  rw [Lib.decode_at] at hd
  rw [Lib.decode_at, Lib.decode_at s i, ByteArray.size_append, get_app_left s t i h]
  obtain ⟨⟨c, m⟩, hcm⟩ : ∃ p, Lib.decodeN (s.size - i) (s.get! i).toNat (s.get! (i + 1)).toNat (s.get! (i + 2)).toNat (s.get! (i + 3)).toNat = p := ⟨_, rfl⟩
  rw [hcm] at hd ⊢
  refine decodeN_more hcm (by rintro ⟨rfl, rfl⟩; exact hd rfl) (by omega) (fun q => ?_) (fun q => ?_) (fun q => ?_)
  · rw [get_app_left s t _ (by omega)]
  · rw [get_app_left s t _ (by omega)]
  · rw [get_app_left s t _ (by omega)]
theorem decode_right (s t : ByteArray) (i : Nat) : Utf8.decode (s ++ t) (s.size + i) = Utf8.decode t i := by
  rw [Lib.decode_at, Lib.decode_at t i, ByteArray.size_append, get_app_right]
  rw [show s.size + i + 1 = s.size + (i + 1) by omega, show s.size + i + 2 = s.size + (i + 2) by omega, show s.size + i + 3 = s.size + (i + 3) by omega]
  rw [get_app_right, get_app_right, get_app_right, show s.size + t.size - (s.size + i) = t.size - i by omega]
theorem torn_right (s t : ByteArray) (i : Nat) : tornAt (s ++ t) (s.size + i) = (tornAt t i).map (fun x => s.size + x) := by
  induction i using tornAt.induct (s := t) with
  | case1 i h1 h2 =>
    rw [tornAt, if_pos (by rw [ByteArray.size_append]; omega), decode_right, if_pos h2]
    rw [tornAt, if_pos h1, if_pos h2]; rfl
  | case2 i h1 h2 ih =>
    rw [tornAt, if_pos (by rw [ByteArray.size_append]; omega), decode_right, if_neg h2, Nat.add_assoc, ih]
    conv => rhs; rw [tornAt, if_pos h1, if_neg h2]
  | case3 i h1 =>
    rw [tornAt, if_neg (by rw [ByteArray.size_append]; omega)]
    rw [tornAt, if_neg h1]; rfl
theorem torn_left (s t : ByteArray) (i : Nat) (hi : i ≤ s.size) (h : tornAt s i = none) : tornAt (s ++ t) i = tornAt (s ++ t) s.size := by
  induction i using tornAt.induct (s := s) with
  | case1 i h1 h2 => rw [tornAt, if_pos h1, if_pos h2] at h; cases h
  | case2 i h1 h2 ih =>
    rw [tornAt, if_pos h1, if_neg h2] at h
    conv => lhs; rw [tornAt, if_pos (by rw [ByteArray.size_append]; omega), decode_left s t i h1 h2, if_neg h2]
    exact ih (dec_le s i h1) h
  | case3 i h1 => rw [show i = s.size by omega]
theorem torn_app (s t : ByteArray) (h : tornAt s 0 = none) : tornAt (s ++ t) 0 = (tornAt t 0).map (fun x => s.size + x) := by
  rw [torn_left s t 0 (by omega) h]
  exact torn_right s t 0
theorem key_right (s t : ByteArray) (i k : Nat) : keyAt (s ++ t) (s.size + i) k = keyAt t i k := by
  induction i, k using keyAt.induct (s := t) with
  | case1 i k h1 ih =>
    rw [keyAt, if_pos (by rw [ByteArray.size_append]; omega), decode_right, Nat.add_assoc, ih]
    conv => rhs; rw [keyAt, if_pos h1]
  | case2 i k h1 =>
    rw [keyAt, if_neg (by rw [ByteArray.size_append]; omega)]
    rw [keyAt, if_neg h1]
theorem key_left (s t : ByteArray) (i k : Nat) (hi : i ≤ s.size) (h : tornAt s i = none) : keyAt (s ++ t) i k = keyAt (s ++ t) s.size (keyAt s i k) := by
  induction i using tornAt.induct (s := s) generalizing k with
  | case1 i h1 h2 => rw [tornAt, if_pos h1, if_pos h2] at h; cases h
  | case2 i h1 h2 ih =>
    rw [tornAt, if_pos h1, if_neg h2] at h
    conv => lhs; rw [keyAt, if_pos (by rw [ByteArray.size_append]; omega), decode_left s t i h1 h2]
    rw [ih _ (dec_le s i h1) h]
    have e : keyAt s i k = keyAt s (i + (Utf8.decode s i).2) ((k * 1114112 + ((Utf8.decode s i).1 + 1)) % PR) := by conv => lhs; rw [keyAt, if_pos h1]
    rw [e]
  | case3 i h1 =>
    obtain rfl : i = s.size := by omega
    rw [show keyAt s s.size k = k by rw [keyAt, if_neg (by omega)]]
theorem key_app (s t : ByteArray) (k : Nat) (h : tornAt s 0 = none) : keyAt (s ++ t) 0 k = keyAt t 0 (keyAt s 0 k) := by
  rw [key_left s t 0 k (by omega) h]
  exact key_right s t 0 _
theorem mod_mul (x y P : Nat) : (x % P * y) % P = (x * y) % P := by rw [Nat.mul_mod, Nat.mod_mod, ← Nat.mul_mod]
theorem pow_step (P B k c z m : Nat) : ((k * B + c) % P * B ^ m + z) % P = (k * B ^ (m + 1) + (c % P * B ^ m + z) % P) % P := by
  rw [← Nat.mod_add_mod, mod_mul, Nat.mod_add_mod, Nat.add_mod_mod]
  rw [show k * B ^ (m + 1) + (c % P * B ^ m + z) = c % P * B ^ m + (k * B ^ (m + 1) + z) by omega]
  rw [← Nat.mod_add_mod (c % P * B ^ m), mod_mul, Nat.mod_add_mod]
  rw [Nat.add_mul, Nat.pow_succ, Nat.mul_assoc, Nat.mul_comm B]
  congr 1
  omega
theorem key_pow (t : ByteArray) (i k : Nat) (hk : k < PR) (h : tornAt t i = none) : keyAt t i k = (k * 1114112 ^ charsAt t i + keyAt t i 0) % PR := by
  induction i using tornAt.induct (s := t) generalizing k with
  | case1 i h1 h2 => rw [tornAt, if_pos h1, if_pos h2] at h; cases h
  | case2 i h1 h2 ih =>
    rw [tornAt, if_pos h1, if_neg h2] at h
    have e1 : charsAt t i = charsAt t (i + (Utf8.decode t i).2) + 1 := by conv => lhs; rw [charsAt, if_pos h1, if_neg h2]
    have e2 : ∀ x, keyAt t i x = keyAt t (i + (Utf8.decode t i).2) ((x * 1114112 + ((Utf8.decode t i).1 + 1)) % PR) := fun x => by conv => lhs; rw [keyAt, if_pos h1]
    rw [e1, e2 k, e2 0]
    rw [ih _ (Nat.mod_lt _ PR_pos) h, ih ((0 * 1114112 + ((Utf8.decode t i).1 + 1)) % PR) (Nat.mod_lt _ PR_pos) h]
    rw [Nat.zero_mul, Nat.zero_add]
    exact pow_step PR 1114112 k ((Utf8.decode t i).1 + 1) _ _
  | case3 i h1 =>
    rw [keyAt, if_neg h1, charsAt, if_neg h1, keyAt, if_neg h1, Nat.pow_zero, Nat.mul_one, Nat.add_zero, Nat.mod_eq_of_lt hk]
end Go.Proofs.YtjhlpmigkbaegaaDoor
