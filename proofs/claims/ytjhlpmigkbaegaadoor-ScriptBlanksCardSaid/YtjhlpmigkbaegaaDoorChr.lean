/- The reference's character: plain. -/
import Derived.Test.YtjhlpmigkbaegaaDoorKey
namespace Go.Proofs.YtjhlpmigkbaegaaDoor
open Go.RowKit
set_option linter.unusedVariables false

/-- The character at the head of n bytes that begin so, and its width; (0, 0): none. -/
def chN (n b0 b1 b2 b3 : Nat) : Nat × Nat := if Lib.decodeN n b0 b1 b2 b3 = (65533, 1) then (0, 0) else Lib.decodeN n b0 b1 b2 b3
theorem chN_no {n b0 b1 b2 b3 : Nat} (h : Lib.decodeN n b0 b1 b2 b3 = (65533, 1)) : chN n b0 b1 b2 b3 = (0, 0) := by unfold chN; rw [if_pos h]
theorem chN_yes {n b0 b1 b2 b3 c m : Nat} (h : Lib.decodeN n b0 b1 b2 b3 = (c, m)) (hc : ¬ (c = 65533 ∧ m = 1)) : chN n b0 b1 b2 b3 = (c, m) := by
  unfold chN; rw [h, if_neg (by simpa using hc)]
theorem chN_ascii {n b0 b1 b2 b3 : Nat} (h : b0 < 128) : chN n b0 b1 b2 b3 = (b0, 1) :=
  chN_yes (by unfold Lib.decodeN; rw [if_pos h]) (by omega)
theorem chN_bad {n b0 b1 b2 b3 : Nat} (h : 128 ≤ b0) (h2 : b0 < 192 ∨ 248 ≤ b0) (h3 : b0 < 256) : chN n b0 b1 b2 b3 = (0, 0) :=
  chN_no (by unfold Lib.decodeN; rw [if_neg (by omega), if_neg (by omega), if_neg (by omega), if_neg (by omega)])
theorem chN_two {n b0 b1 b2 b3 : Nat} (h1 : 192 ≤ b0) (h2 : b0 < 224) (hb : b1 < 256) :
    (2 ≤ n ∧ 128 ≤ b1 ∧ b1 < 192 ∧ 128 ≤ (b0 - 192) * 64 + (b1 - 128) → chN n b0 b1 b2 b3 = ((b0 - 192) * 64 + (b1 - 128), 2)) ∧
    (¬ (2 ≤ n ∧ 128 ≤ b1 ∧ b1 < 192 ∧ 128 ≤ (b0 - 192) * 64 + (b1 - 128)) → chN n b0 b1 b2 b3 = (0, 0)) := by
  by_cases c : 1 < n ∧ b1 / 64 = 2
  · have e : b0 % 32 * 64 + b1 % 64 = (b0 - 192) * 64 + (b1 - 128) := by omega
    by_cases d : (b0 - 192) * 64 + (b1 - 128) ≥ 128
    · have hd : Lib.decodeN n b0 b1 b2 b3 = ((b0 - 192) * 64 + (b1 - 128), 2) := by
        unfold Lib.decodeN
        rw [if_neg (by omega), if_pos (by omega), e, if_pos d]
      exact ⟨fun _ => chN_yes hd (by omega), fun h => absurd (by omega) h⟩
    · have hd : Lib.decodeN n b0 b1 b2 b3 = (65533, 1) := by
        unfold Lib.decodeN
        rw [if_neg (by omega), if_pos (by omega), e, if_neg d]
      exact ⟨fun h => absurd h (by omega), fun _ => chN_no hd⟩
  · have hd : Lib.decodeN n b0 b1 b2 b3 = (65533, 1) := by
      unfold Lib.decodeN
      rw [if_neg (by omega), if_neg (by omega), if_neg (by omega), if_neg (by omega)]
    exact ⟨fun h => absurd h (by omega), fun _ => chN_no hd⟩
theorem chN_three {n b0 b1 b2 b3 C : Nat} (h1 : 224 ≤ b0) (h2 : b0 < 240) (hb : b1 < 256) (hb2 : b2 < 256) (hC : C = ((b0 - 224) * 64 + (b1 - 128)) * 64 + (b2 - 128)) :
    (3 ≤ n ∧ 128 ≤ b1 ∧ b1 < 192 ∧ 128 ≤ b2 ∧ b2 < 192 ∧ 2048 ≤ C ∧ ¬ (55296 ≤ C ∧ C ≤ 57343) → chN n b0 b1 b2 b3 = (C, 3)) ∧
    (¬ (3 ≤ n ∧ 128 ≤ b1 ∧ b1 < 192 ∧ 128 ≤ b2 ∧ b2 < 192 ∧ 2048 ≤ C ∧ ¬ (55296 ≤ C ∧ C ≤ 57343)) → chN n b0 b1 b2 b3 = (0, 0)) := by
  by_cases c : (1 < n ∧ b1 / 64 = 2) ∧ (2 < n ∧ b2 / 64 = 2)
  · have e : b0 % 16 * 4096 + b1 % 64 * 64 + b2 % 64 = C := by omega
    by_cases d : C ≥ 2048 ∧ (C < 55296 ∨ (57344 ≤ C ∧ C ≤ 1114111))
    · have hd : Lib.decodeN n b0 b1 b2 b3 = (C, 3) := by
        unfold Lib.decodeN
        rw [if_neg (by omega), if_neg (by omega), if_pos (by omega), e, if_pos d]
      exact ⟨fun _ => chN_yes hd (by omega), fun h => absurd (by omega) h⟩
    · have hd : Lib.decodeN n b0 b1 b2 b3 = (65533, 1) := by
        unfold Lib.decodeN
        rw [if_neg (by omega), if_neg (by omega), if_pos (by omega), e, if_neg d]
      exact ⟨fun h => absurd h (by omega), fun _ => chN_no hd⟩
  · have hd : Lib.decodeN n b0 b1 b2 b3 = (65533, 1) := by
      unfold Lib.decodeN
      rw [if_neg (by omega), if_neg (by omega), if_neg (by omega), if_neg (by omega)]
    exact ⟨fun h => absurd h (by omega), fun _ => chN_no hd⟩
theorem chN_four {n b0 b1 b2 b3 C : Nat} (h1 : 240 ≤ b0) (h2 : b0 < 248) (hb : b1 < 256) (hb2 : b2 < 256) (hb3 : b3 < 256) (hC : C = (((b0 - 240) * 64 + (b1 - 128)) * 64 + (b2 - 128)) * 64 + (b3 - 128)) :
    (4 ≤ n ∧ 128 ≤ b1 ∧ b1 < 192 ∧ 128 ≤ b2 ∧ b2 < 192 ∧ 128 ≤ b3 ∧ b3 < 192 ∧ 65536 ≤ C ∧ C ≤ 1114111 → chN n b0 b1 b2 b3 = (C, 4)) ∧
    (¬ (4 ≤ n ∧ 128 ≤ b1 ∧ b1 < 192 ∧ 128 ≤ b2 ∧ b2 < 192 ∧ 128 ≤ b3 ∧ b3 < 192 ∧ 65536 ≤ C ∧ C ≤ 1114111) → chN n b0 b1 b2 b3 = (0, 0)) := by
  by_cases c : (1 < n ∧ b1 / 64 = 2) ∧ (2 < n ∧ b2 / 64 = 2) ∧ (3 < n ∧ b3 / 64 = 2)
  · have e : b0 % 8 * 262144 + b1 % 64 * 4096 + b2 % 64 * 64 + b3 % 64 = C := by omega
    by_cases d : C ≥ 65536 ∧ (C < 55296 ∨ (57344 ≤ C ∧ C ≤ 1114111))
    · have hd : Lib.decodeN n b0 b1 b2 b3 = (C, 4) := by
        unfold Lib.decodeN
        rw [if_neg (by omega), if_neg (by omega), if_neg (by omega), if_pos (by omega), e, if_pos d]
      exact ⟨fun _ => chN_yes hd (by omega), fun h => absurd (by omega) h⟩
    · have hd : Lib.decodeN n b0 b1 b2 b3 = (65533, 1) := by
        unfold Lib.decodeN
        rw [if_neg (by omega), if_neg (by omega), if_neg (by omega), if_pos (by omega), e, if_neg d]
      exact ⟨fun h => absurd h (by omega), fun _ => chN_no hd⟩
  · have hd : Lib.decodeN n b0 b1 b2 b3 = (65533, 1) := by
      unfold Lib.decodeN
      rw [if_neg (by omega), if_neg (by omega), if_neg (by omega), if_neg (by omega)]
    exact ⟨fun h => absurd h (by omega), fun _ => chN_no hd⟩
/-- The character at place i. -/
def chV (s : ByteArray) (i : Nat) : Nat × Nat := if Utf8.decode s i = (65533, 1) then (0, 0) else Utf8.decode s i
theorem chV_N (s : ByteArray) (i : Nat) : chV s i = chN (s.size - i) (s.get! i).toNat (s.get! (i + 1)).toNat (s.get! (i + 2)).toNat (s.get! (i + 3)).toNat := by
  unfold chV chN
  rw [Lib.decode_at]
end Go.Proofs.YtjhlpmigkbaegaaDoor
