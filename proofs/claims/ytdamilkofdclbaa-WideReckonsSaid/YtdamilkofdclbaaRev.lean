/- slices.Reverse of bytes. -/
import Derived.Test.YtdamilkofdclbaaRows
import Derived.Test.YtdamilkofdclbaaKit
namespace Go.Proofs.Ytdamilkofdclbaa
open Go.RowKit
set_option linter.unusedVariables false

/-- After k swaps from both ends of the first n cells. -/
structure Swapped (old cur : Array Value) (n k : Nat) : Prop where
  size : cur.size = old.size
  ends : ∀ i, i < n → (i < k ∨ n - k ≤ i) → cur[i]? = old[n - 1 - i]?
  mid : ∀ i, k ≤ i → i < n - k → cur[i]? = old[i]?
  rest : ∀ i, n ≤ i → cur[i]? = old[i]?
theorem Swapped.start (old : Array Value) (n : Nat) : Swapped old old n 0 := ⟨rfl, fun i h1 h2 => by omega, fun _ _ _ => rfl, fun _ _ => rfl⟩
theorem Swapped.step {old cur : Array Value} {n k : Nat} (h : Swapped old cur n k) (hk : 2 * k + 1 < n) (hn : n ≤ old.size) {x y : Value} (hx : old[k]? = some x) (hy : old[n - 1 - k]? = some y) :
    Swapped old ((cur.setIfInBounds k y).setIfInBounds (n - 1 - k) x) n (k + 1) := by
  have hs := h.size
  refine ⟨by simp [hs], fun i h1 h2 => ?_, fun i h1 h2 => ?_, fun i h1 => ?_⟩
  · by_cases e1 : i = n - 1 - k
    · subst e1
      rw [Array.getElem?_setIfInBounds_self_of_lt (by simp; omega), show n - 1 - (n - 1 - k) = k from by omega, hx]
    · rw [Array.getElem?_setIfInBounds_ne (by omega)]
      by_cases e2 : i = k
      · subst e2
        rw [Array.getElem?_setIfInBounds_self_of_lt (by omega), hy]
      · rw [Array.getElem?_setIfInBounds_ne (by omega)]
        exact h.ends i h1 (by omega)
  · rw [Array.getElem?_setIfInBounds_ne (by omega), Array.getElem?_setIfInBounds_ne (by omega)]
    exact h.mid i (by omega) (by omega)
  · rw [Array.getElem?_setIfInBounds_ne (by omega), Array.getElem?_setIfInBounds_ne (by omega)]
    exact h.rest i h1
theorem Swapped.done {old cur : Array Value} {n k : Nat} (h : Swapped old cur n k) (hk : n ≤ 2 * k + 1) (hn : n ≤ old.size) : cur.toList.take n = (old.toList.take n).reverse := by
  apply List.ext_getElem?
  intro i
  rw [List.getElem?_take]
  by_cases hi : i < n
  · rw [if_pos hi, List.getElem?_reverse (by simp; omega), List.getElem?_take]
    simp only [List.length_take, Array.length_toList, Nat.min_eq_left hn]
    rw [if_pos (by omega)]
    simp only [Array.getElem?_toList]
    by_cases e : i < k ∨ n - k ≤ i
    · exact h.ends i hi e
    · rw [h.mid i (by omega) (by omega), show n - 1 - i = i from by omega]
  · rw [if_neg hi, List.getElem?_eq_none (by simp; omega)]

set_option maxRecDepth 100000 in
set_option maxHeartbeats 1000000 in
theorem reverse_any (g n c : Nat) (old : Array Value) (w : World) (hh : w.heap[g]? = some (.cells old 5 (0, 0))) (hn : n ≤ old.size) (hc : n ≤ c) (hlen : n ≤ 65535) (hu : ∀ (i : Nat) (x : Value), i < n → old[i]? = some x → ∃ b : Int, x = .int .u8 b) :
    Calls Try.prog 40 #[.slice (some ⟨g, 0, none⟩) n c] w fun e w' => e = .returned (.tuple #[]) ∧ (∃ cur, cur.size = old.size ∧ cur.toList.take n = (old.toList.take n).reverse ∧ w'.heap[g]? = some (.cells cur 5 (0, 0))) ∧ Only g w w' := by
  have HH := Lib.hid hh; clear hh
  have HU := Lib.hid hu; clear hu
  go_enter Try.func40, Try.ntmps40
  go_wp2
  go_loopw [2, 3] (fun i j wr => ∃ (k : Nat) (cur : Array Value), 2 * k ≤ n + 1 ∧ i = .int .i64 k ∧ j = .int .i64 ((n : Int) - 1 - (k : Int)) ∧ Swapped old cur n k ∧ wr.heap[g]? = some (.cells cur 5 (0, 0)) ∧ Only g w wr) (fun i _ _ => n - (intOf i).toNat)
  case atStart => exact ⟨0, old, by omega, rfl, by go_num, Swapped.start old n, HH.out, Only.refl g w⟩
  case round =>
    obtain ⟨k, cur, hk, rfl, rfl, hsw, hh, ho⟩ := hrel
    have HW := Lib.hid hh; clear hh
    have HS := Lib.hid hsw; clear hsw
    have HO := Lib.hid ho; clear ho
    by_cases hlt : 2 * k + 1 < n
    · obtain ⟨m, hm⟩ : ∃ m, m = n - 1 - k := ⟨_, rfl⟩
      have hmi : (n : Int) - 1 - (k : Int) = (m : Int) := by omega
      rw [hmi]
      have hsz := HS.out.size
      obtain ⟨x, hx⟩ : ∃ x, old[k]? = some x := ⟨_, Array.getElem?_eq_getElem (by omega)⟩
      obtain ⟨y, hy⟩ : ∃ y, old[m]? = some y := ⟨_, Array.getElem?_eq_getElem (by omega)⟩
      obtain ⟨x, rfl⟩ := HU.out k _ (by omega) hx
      obtain ⟨y, rfl⟩ := HU.out m _ (by omega) hy
      have c0 : wr.cell? ⟨g, k, none⟩ = some (.int .u8 x) := by rw [cell_of_row _ _ _ _ _ _ HW.out, HS.out.mid k (by omega) (by omega)]; exact hx
      have c1 : wr.cell? ⟨g, m, none⟩ = some (.int .u8 y) := by rw [cell_of_row _ _ _ _ _ _ HW.out, HS.out.mid m (by omega) (by omega)]; exact hy
      have f0 : wr.frozen? ⟨g, k, none⟩ = false := frozen_of_row _ _ _ _ _ HW.out
      have f1 : wr.frozen? ⟨g, m, none⟩ = false := frozen_of_row _ _ _ _ _ HW.out
      have hst := HS.out.step hlt hn hx (by rw [← hm]; exact hy)
      rw [← hm] at hst
      have HST := Lib.hid hst
      have hkm : k ≠ m := by omega
      have hkn : (k : Int) < (n : Int) := by omega
      have hmn : (m : Int) < (n : Int) := by omega
      have hlt2 : (k : Int) < (m : Int) := by omega
      have HM := Lib.hid hm
      clear hst hx hy hsz hmi hm
      go_wp2_with fail
      go_region
      clear c0 c1 f0 f1
      have hmm : (m : Int) - 1 = (n : Int) - 1 - ((k : Int) + 1) := by have := HM.out; omega
      go_wp2
      go_roundw
      case rel =>
        refine ⟨k + 1, _, by omega, by go_num, by go_num, HST.out, ?_, ?_⟩
        · exact heap_setCell_same _ _ _ _ _ _ (heap_setCell_same _ _ _ _ _ _ HW.out)
        · exact ((HO.out.trans (Only.store wr g k _)).trans (Only.store _ g m _)).drew
      case measure => simp [intOf]; omega
    · have hd : decide ((k : Int) < (n : Int) - 1 - (k : Int)) = false := by simp; omega
      have hfin := HS.out.done (by omega) hn
      have HF := Lib.hid hfin
      have hsz := HS.out.size
      have HSZ := Lib.hid hsz
      clear hfin hsz hk
      go_wp2
      go_end0
      exact ⟨rfl, ⟨cur, HSZ.out, HF.out, HW.out⟩, HO.out⟩
end Go.Proofs.Ytdamilkofdclbaa
