/- A line's words: plain. -/
import Derived.Test.YtjhlpmigkbaegaaDoorRef
import Derived.Lib.IndexLaws
namespace Go.Proofs.YtjhlpmigkbaegaaDoor
open Go.RowKit
set_option linter.unusedVariables false

/-- The byte at a place. -/
def bAt (s : ByteArray) (i : Nat) : Nat := (s.get! i).toNat
theorem bAt_lt (s : ByteArray) (i : Nat) : bAt s i < 256 := (s.get! i).toNat_lt
theorem bAt_get (s : ByteArray) (i : Nat) (h : i < s.size) : (s[i]'h).toNat = bAt s i := get_byte s i h
theorem bAt_list (s : ByteArray) (i : Nat) (h : i < s.size) : s.data.toList[i]? = some (s.get! i) := by
  have := get_at s i h
  rw [Nat.add_zero] at this
  rw [this]
  simp only [Array.getElem?_toList]
  exact Array.getElem?_eq_getElem h
theorem ext_size (s : ByteArray) (a b : Nat) (hb : b ≤ s.size) : (s.extract a b).size = b - a := by rw [ByteArray.size_extract]; omega
theorem ext_get (s : ByteArray) (a b i : Nat) (hb : b ≤ s.size) (hi : a + i < b) : bAt (s.extract a b) i = bAt s (a + i) := by
  have h1 : i < (s.extract a b).size := by rw [ext_size s a b hb]; omega
  have e1 := bAt_list (s.extract a b) i h1
  have e2 := bAt_list s (a + i) (by omega)
  have e3 : (s.extract a b).data.toList[i]? = s.data.toList[a + i]? := by
    simp only [ByteArray.data_extract, Array.getElem?_toList]
    rw [Array.getElem?_extract]
    rw [if_pos]
    have : b ≤ s.data.size := hb
    omega
  rw [e3, e2] at e1
  unfold bAt
  rw [Option.some.inj e1]
/-- The first blank from a place on. -/
def skipTo (s : ByteArray) (e : Nat) : Nat := if e < s.size ∧ bAt s e ≠ 32 then skipTo s (e + 1) else e
termination_by s.size - e
theorem skipTo_ge (s : ByteArray) (e : Nat) : e ≤ skipTo s e := by
  induction e using skipTo.induct (s := s) with
  | case1 e h ih => rw [skipTo, if_pos h]; omega
  | case2 e h => rw [skipTo, if_neg h]; omega
theorem skipTo_le (s : ByteArray) (e : Nat) (he : e ≤ s.size) : skipTo s e ≤ s.size := by
  induction e using skipTo.induct (s := s) with
  | case1 e h ih => rw [skipTo, if_pos h]; exact ih (by omega)
  | case2 e h => rw [skipTo, if_neg h]; exact he
/-- The place of the next quote behind a place; the line's length. -/
def quoteAt (s : ByteArray) (a : Nat) : Int := Lib.indexByte (s.extract (a + 1) s.size).data.toList 34
theorem quoteAt_some {s : ByteArray} {a : Nat} (h : 0 ≤ quoteAt s a) : a + 1 + (quoteAt s a).toNat < s.size ∧ bAt s (a + 1 + (quoteAt s a).toNat) = 34 := by
  obtain ⟨i, hi⟩ := Int.eq_ofNat_of_zero_le h
  have h1 := (Lib.indexByte_some (l := (s.extract (a + 1) s.size).data.toList) (c := 34) (o := i) hi).1
  have hlt := (List.getElem?_eq_some_iff.1 h1).1
  have hsz : (s.extract (a + 1) s.size).data.toList.length = s.size - (a + 1) := by
    have := ext_size s (a + 1) s.size (Nat.le_refl _)
    rw [← this]; rfl
  rw [hsz] at hlt
  have hI : (quoteAt s a).toNat = i := by rw [hi]; rfl
  rw [hI]
  refine ⟨by omega, ?_⟩
  rw [← ext_get s (a + 1) s.size i (Nat.le_refl _) (by omega)]
  have := bAt_list (s.extract (a + 1) s.size) i (by rw [ext_size s _ _ (Nat.le_refl _)]; omega)
  rw [h1] at this
  unfold bAt
  simp only [Option.some.injEq] at this
  rw [← this]; rfl
def wordFrom (s : ByteArray) (a : Nat) : Nat := if bAt s a = 34 then (if 0 ≤ quoteAt s a then a + 1 + (quoteAt s a).toNat else s.size) else a
/-- Where the word ends that begins at a place. -/
def wordEnd (s : ByteArray) (a : Nat) : Nat := skipTo s (wordFrom s a)
theorem wordFrom_le {s : ByteArray} {a : Nat} (h : a < s.size) : a ≤ wordFrom s a ∧ wordFrom s a ≤ s.size := by
  unfold wordFrom
  split
  · split
    · rename_i h2; have := quoteAt_some h2; omega
    · omega
  · omega
theorem wordEnd_gt {s : ByteArray} {a : Nat} (h : a < s.size) (h2 : bAt s a ≠ 32) : a < wordEnd s a ∧ wordEnd s a ≤ s.size := by
  have hl := wordFrom_le h
  refine ⟨?_, skipTo_le s _ hl.2⟩
  unfold wordEnd
  by_cases hq : bAt s a = 34
  · have hg := skipTo_ge s (wordFrom s a)
    have : a < wordFrom s a := by
      unfold wordFrom
      rw [if_pos hq]
      split <;> omega
    omega
  · have e : wordFrom s a = a := by unfold wordFrom; rw [if_neg hq]
    rw [e, skipTo, if_pos ⟨h, h2⟩]
    have := skipTo_ge s (a + 1)
    omega
/-- The words from a place on: where they begin and end. -/
def wordsAt (s : ByteArray) (i : Nat) : List (Nat × Nat) :=
  if h : i < s.size then (if h2 : bAt s i = 32 then wordsAt s (i + 1) else (i, wordEnd s i) :: wordsAt s (wordEnd s i)) else []
termination_by s.size - i
decreasing_by
  · omega
  · have := wordEnd_gt h h2; omega
/-- The words of a line, and their places. -/
def wordsOf (s : ByteArray) : List (ByteArray × Nat) := (wordsAt s 0).map fun p => (s.extract p.1 p.2, p.1)
end Go.Proofs.YtjhlpmigkbaegaaDoor
