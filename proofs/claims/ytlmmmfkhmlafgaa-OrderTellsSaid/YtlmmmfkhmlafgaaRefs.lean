/- The contracts of the reference's Kth, Min, Median. -/
import Derived.Test.YtlmmmfkhmlafgaaSorted
namespace Go.Proofs.Ytlmmmfkhmlafgaa
open Go.RowKit
set_option linter.unusedVariables false

/-- The element at a place of what Sorted hands back is the k-th. -/
theorem sorted_at {S l : List Int} {k : Nat} (h : S.Pairwise (· ≤ ·)) (hp : S.Perm l) (hk : k < l.length) : S[k]? = some (kthOf l (k : Int)) := by
  have hk' : k < S.length := by rw [hp.length_eq]; exact hk
  rw [List.getElem?_eq_getElem hk']
  congr 1
  exact ((kthOf_eq ((Ord.Is.of_sorted h k _ (List.getElem?_eq_getElem hk')).perm hp)).1).symm

set_option maxRecDepth 100000 in
set_option maxHeartbeats 1000000 in
theorem refKth_any (a : Option Addr) (n c : Nat) (k : Int) (l : List Int) (w : World) (hl : Row w a n (l.map i64v)) (hn : n ≤ 1000) :
    Calls Try.prog 13 #[.slice a n c, .int .i64 k] w fun e w' => e = .returned (.tuple #[.int .i64 (kthOf l k), .bool (kthOk l k)]) ∧ Below w.heap.size w w' := by
  have hlen : l.length = n := by have := hl.1; simpa using this
  by_cases h0 : k < 0
  · obtain ⟨q1, q2⟩ := kthOut hlen k (by omega)
    rw [q1, q2]
    clear q1 q2
    go_enter Try.func13, Try.ntmps13
    go_wp2
    go_ret2
    exact ⟨rfl, Below.refl _ _⟩
  · by_cases h1 : (n : Int) ≤ k
    · obtain ⟨q1, q2⟩ := kthOut hlen k (by omega)
      rw [q1, q2]
      have hk0 : 0 ≤ k := by omega
      have hb1 : decide (k < 0) = false := by simp; omega
      clear q1 q2
      go_enter Try.func13, Try.ntmps13
      go_wp2
      go_ret2
      exact ⟨rfl, Below.refl _ _⟩
    · obtain ⟨j, rfl⟩ := Int.eq_ofNat_of_zero_le (show 0 ≤ k by omega)
      have hj : j < n := by omega
      have hb1 : decide ((j : Int) < 0) = false := by simp
      have hb2 : decide (n ≤ j) = false := by simp; omega
      have q1 := (kthIn hlen j hj).1
      rw [q1]
      have hat := fun S h hp => sorted_at (S := S) (l := l) (k := j) h hp (by omega)
      generalize kthOf l (j : Int) = x at *
      have HAT := Lib.hid hat
      have HL := Lib.hid hl
      have HN := Lib.hid hlen
      clear hat hl hlen q1 h0 h1
      go_enter Try.func13, Try.ntmps13
      go_wp2_with (go_at_call 17; refine (sorted_any _ _ _ _ _ HL.out hn).mono ?_; rintro e w1 ⟨S, a1, c1, hs, hp, he, hr, hb⟩; have hx := HAT.out S hs hp; have hr' := hr; rw [HN.out] at he hr'; subst he; obtain ⟨b, o, ha, hc, hbl⟩ := hr'.2 j (i64v x) (by simp [hx]); subst ha; have hcx : w1.cell? ⟨b, o + j, none⟩ = some (.int .i64 x) := hc; have HB := Lib.hid hb; clear hx hr hr' hb hc hp hs)
      go_ret2
      exact ⟨rfl, HB.out⟩

set_option maxRecDepth 100000 in
set_option maxHeartbeats 1000000 in
theorem refMedian_any (a : Option Addr) (n c : Nat) (l : List Int) (w : World) (hl : Row w a n (l.map i64v)) (hn : n ≤ 1000) :
    Calls Try.prog 15 #[.slice a n c] w fun e w' => e = .returned (.tuple #[.int .i64 (kthOf l (mid n)), .bool (kthOk l (mid n))]) ∧ Below w.heap.size w w' := by
  have hlen : l.length = n := by have := hl.1; simpa using this
  rw [mid_eq]
  by_cases h0 : n = 0
  · obtain ⟨q1, q2⟩ := kthOut hlen (((n - 1) / 2 : Nat) : Int) (by omega)
    rw [q1, q2]
    subst h0
    clear q1 q2 hl hlen
    go_enter Try.func15, Try.ntmps15
    go_wp2
    go_ret2
    exact ⟨rfl, Below.refl _ _⟩
  · have hj : (n - 1) / 2 < n := by omega
    have hb1 : ((n : Int) == 0) = false := by simp; omega
    have q1 := (kthIn hlen ((n - 1) / 2) hj).1
    rw [q1]
    have hat := fun S h hp => sorted_at (S := S) (l := l) (k := (n - 1) / 2) h hp (by omega)
    generalize kthOf l (((n - 1) / 2 : Nat) : Int) = x at *
    have hmid : ((n : Int) - 1) / 2 = (((n - 1) / 2 : Nat) : Int) := by omega
    have hn1 : 1 ≤ n := by omega
    generalize (n - 1) / 2 = j at *
    have HM := Lib.hid hmid
    have HAT := Lib.hid hat
    have HL := Lib.hid hl
    have HN := Lib.hid hlen
    clear hat hl hlen q1 h0
    go_enter Try.func15, Try.ntmps15
    go_wp2_with (go_at_call 17; refine (sorted_any _ _ _ _ _ HL.out hn).mono ?_; rintro e w1 ⟨S, a1, c1, hs, hp, he, hr, hb⟩; have hx := HAT.out S hs hp; have hr' := hr; rw [HN.out] at he hr'; subst he; obtain ⟨b, o, ha, hc, hbl⟩ := hr'.2 j (i64v x) (by simp [hx]); subst ha; have hcx : w1.cell? ⟨b, o + j, none⟩ = some (.int .i64 x) := hc; have HB := Lib.hid hb; clear hx hr hr' hb hc hp hs)
    go_ret2
    exact ⟨rfl, HB.out⟩
/-- m is the least of the first k and of m0. -/
def Least (l : List Int) (k : Nat) (m : Int) : Prop := m ∈ l ∧ ∀ y ∈ l.take k, m ≤ y
theorem Least.step {l : List Int} {k : Nat} {m x : Int} (h : Least l k m) (hx : l[k]? = some x) : Least l (k + 1) (if x < m then x else m) := by
  have ht : l.take (k + 1) = l.take k ++ [x] := by rw [List.take_add_one, hx]; rfl
  refine ⟨?_, ?_⟩
  · split
    · exact List.mem_of_getElem? hx
    · exact h.1
  · intro y hy
    rw [ht] at hy
    rcases List.mem_append.1 hy with hy | hy
    · have := h.2 y hy; split <;> omega
    · simp at hy; subst hy; split <;> omega

set_option maxRecDepth 100000 in
set_option maxHeartbeats 1000000 in
theorem refMin_any (a : Option Addr) (n c : Nat) (l : List Int) (w : World) (hl : Row w a n (l.map i64v)) (hn : n ≤ 1000) :
    Calls Try.prog 14 #[.slice a n c] w fun e w' => e = .returned (.tuple #[.int .i64 (kthOf l 0), .bool (kthOk l 0)]) ∧ Below w.heap.size w w' := by
  have hlen : l.length = n := by have := hl.1; simpa using this
  by_cases h0 : n = 0
  · obtain ⟨q1, q2⟩ := kthOut hlen 0 (by omega)
    rw [q1, q2]
    subst h0
    clear q1 q2 hl hlen
    go_enter Try.func14, Try.ntmps14
    go_wp2
    go_ret2
    exact ⟨rfl, Below.refl _ _⟩
  · have hb1 : ((n : Int) == 0) = false := by simp; omega
    have q1 := (kthIn hlen 0 (by omega)).1
    rw [show ((0 : Nat) : Int) = 0 from rfl] at q1
    rw [q1]
    have hlast : ∀ m, Least l n m → kthOf l 0 = m := fun m h => by
      have := kthOf_eq (Ord.Is.of_least h.1 (fun y hy => h.2 y (by rw [List.take_of_length_le (by omega)]; exact hy)))
      exact this.1
    have HLA := Lib.hid hlast
    obtain ⟨x, hx⟩ : ∃ x, l[0]? = some x := ⟨l[0]'(by omega), by rw [List.getElem?_eq_getElem]⟩
    obtain ⟨b, o, rfl, hc, hbl⟩ := hl.2 0 (i64v x) (by simp [hx])
    have hcx : w.cell? ⟨b, o, none⟩ = some (.int .i64 x) := hc
    have hle : Least l 0 x := ⟨List.mem_of_getElem? hx, by simp⟩
    have HLE := Lib.hid hle
    have HL := Lib.hid hl
    have HN := Lib.hid hlen
    have hn1 : 0 < n := by omega
    clear hlast hx hc hle hl hlen q1 h0
    go_enter Try.func14, Try.ntmps14
    go_wp2
    clear hcx
    go_loop [4, 5] (fun bst i => ∃ (k : Nat) (m : Int), k ≤ n ∧ i = .int .i64 k ∧ bst = .int .i64 m ∧ Least l k m) (fun _ i => n - (intOf i).toNat)
    case atStart => exact ⟨0, x, by omega, rfl, rfl, HLE.out⟩
    case round =>
      obtain ⟨k, m, hk, rfl, rfl, hm⟩ := hrel
      have HM := Lib.hid hm; clear hm
      by_cases hlt : k < n
      · obtain ⟨y, hy⟩ : ∃ y, l[k]? = some y := ⟨l[k]'(by rw [HN.out]; exact hlt), by rw [List.getElem?_eq_getElem]⟩
        obtain ⟨b', o', e', hc', _⟩ := HL.out.2 k (i64v y) (by simp [hy])
        simp only [Option.some.injEq, Addr.mk.injEq, and_true] at e'
        obtain ⟨rfl, rfl⟩ := e'
        have hcy : w.cell? ⟨b, o + k, none⟩ = some (.int .i64 y) := hc'
        have hs := HM.out.step hy
        have HS := Lib.hid hs
        clear hs hy hc'
        by_cases hym : y < m
        · go_wp2
          go_round
          case rel => exact ⟨k + 1, y, by omega, by go_num, rfl, by have := HS.out; rwa [if_pos hym] at this⟩
          case measure => simp [intOf]; omega
        · go_wp2
          go_round
          case rel => exact ⟨k + 1, m, by omega, by go_num, rfl, by have := HS.out; rwa [if_neg hym] at this⟩
          case measure => simp [intOf]; omega
      · obtain rfl : k = n := by omega
        have hfin := HLA.out m HM.out
        have HF := Lib.hid hfin
        clear hfin
        go_wp2
        go_ret2
        exact ⟨by rw [HF.out]; rfl, Below.refl _ _⟩
end Go.Proofs.Ytlmmmfkhmlafgaa
