/- slices.Reverse of pieces. -/
import Derived.Test.YtdbkbcihbajjdaaHalves
namespace Go.Proofs.Ytdbkbcihbajjdaa
open Go.RowKit
set_option linter.unusedVariables false

/-- The cells of a row of pieces. -/
def pcells (l : List (Nat × Nat)) : List Value := l.flatMap fun p => [.int .i64 p.1, .int .u64 p.2]
theorem pcells_cons (p : Nat × Nat) (l : List (Nat × Nat)) : pcells (p :: l) = .int .i64 p.1 :: .int .u64 p.2 :: pcells l := rfl
theorem pcells_append (l m : List (Nat × Nat)) : pcells (l ++ m) = pcells l ++ pcells m := by simp [pcells]
theorem pcells_len (l : List (Nat × Nat)) : (pcells l).length = l.length * 2 := by
  induction l with
  | nil => rfl
  | cons p l ih => rw [pcells_cons, List.length_cons, List.length_cons, ih, List.length_cons]; omega
theorem pcells_get (l : List (Nat × Nat)) (k : Nat) : (pcells l)[k * 2]? = l[k]?.map fun p => .int .i64 p.1 := by
  induction l generalizing k with
  | nil => simp [pcells]
  | cons p l ih =>
    rw [pcells_cons]
    cases k with
    | zero => simp
    | succ k => rw [show (k + 1) * 2 = k * 2 + 1 + 1 by omega, List.getElem?_cons_succ, List.getElem?_cons_succ, ih, List.getElem?_cons_succ]
theorem pcells_get1 (l : List (Nat × Nat)) (k : Nat) : (pcells l)[k * 2 + 1]? = l[k]?.map fun p => .int .u64 p.2 := by
  induction l generalizing k with
  | nil => simp [pcells]
  | cons p l ih =>
    rw [pcells_cons]
    cases k with
    | zero => simp
    | succ k => rw [show (k + 1) * 2 + 1 = (k * 2 + 1) + 1 + 1 by omega, List.getElem?_cons_succ, List.getElem?_cons_succ, ih, List.getElem?_cons_succ]
theorem pcells_set (l : List (Nat × Nat)) (k : Nat) (q : Nat × Nat) : ((pcells l).set (k * 2) (.int .i64 q.1)).set (k * 2 + 1) (.int .u64 q.2) = pcells (l.set k q) := by
  induction l generalizing k with
  | nil => simp [pcells]
  | cons p l ih =>
    rw [pcells_cons]
    cases k with
    | zero => simp [pcells_cons]
    | succ k => rw [show (k + 1) * 2 = k * 2 + 1 + 1 by omega, List.set_cons_succ, List.set_cons_succ, List.set_cons_succ, List.set_cons_succ, ih, List.set_cons_succ, pcells_cons]
/-- The cells of a block that holds a row of pieces, and more. -/
def pblk (l : List (Nat × Nat)) (rest : List Value) : Array Value := (pcells l ++ rest).toArray
theorem pblk_get {l : List (Nat × Nat)} {k : Nat} {p : Nat × Nat} (h : l[k]? = some p) (rest : List Value) : (pblk l rest)[k * 2]? = some (.int .i64 p.1) := by
  have hk := (List.getElem?_eq_some_iff.1 h).1
  unfold pblk
  rw [List.getElem?_toArray, List.getElem?_append_left (by rw [pcells_len]; omega), pcells_get, h]; rfl
theorem pblk_get1 {l : List (Nat × Nat)} {k : Nat} {p : Nat × Nat} (h : l[k]? = some p) (rest : List Value) : (pblk l rest)[k * 2 + 1]? = some (.int .u64 p.2) := by
  have hk := (List.getElem?_eq_some_iff.1 h).1
  unfold pblk
  rw [List.getElem?_toArray, List.getElem?_append_left (by rw [pcells_len]; omega), pcells_get1, h]; rfl
theorem pblk_set {l : List (Nat × Nat)} {k : Nat} (hk : k < l.length) (q : Nat × Nat) (rest : List Value) :
    ((pblk l rest).setIfInBounds (k * 2) (.int .i64 q.1)).setIfInBounds (k * 2 + 1) (.int .u64 q.2) = pblk (l.set k q) rest := by
  unfold pblk
  rw [← pcells_set, List.setIfInBounds_toArray, List.setIfInBounds_toArray, List.set_append_left _ _ (by rw [pcells_len]; omega), List.set_append_left _ _ (by rw [List.length_set, pcells_len]; omega)]
/-- After k swaps from both ends. -/
structure Swapped (old cur : List (Nat × Nat)) (k : Nat) : Prop where
  size : cur.length = old.length
  ends : ∀ i, i < old.length → (i < k ∨ old.length - k ≤ i) → cur[i]? = old[old.length - 1 - i]?
  mid : ∀ i, k ≤ i → i < old.length - k → cur[i]? = old[i]?
theorem Swapped.start (old : List (Nat × Nat)) : Swapped old old 0 := ⟨rfl, fun i h1 h2 => by omega, fun _ _ _ => rfl⟩
theorem Swapped.step {old cur : List (Nat × Nat)} {k : Nat} (h : Swapped old cur k) (hk : 2 * k + 1 < old.length) {x y : Nat × Nat} (hx : old[k]? = some x) (hy : old[old.length - 1 - k]? = some y) :
    Swapped old ((cur.set k y).set (old.length - 1 - k) x) (k + 1) := by
  have hs := h.size
  refine ⟨by simp [hs], fun i h1 h2 => ?_, fun i h1 h2 => ?_⟩
  · by_cases e1 : i = old.length - 1 - k
    · subst e1
      rw [List.getElem?_set_self (by simp; omega), show old.length - 1 - (old.length - 1 - k) = k from by omega, hx]
    · rw [List.getElem?_set_ne (by omega)]
      by_cases e2 : i = k
      · subst e2
        rw [List.getElem?_set_self (by omega), hy]
      · rw [List.getElem?_set_ne (by omega)]
        exact h.ends i h1 (by omega)
  · rw [List.getElem?_set_ne (by omega), List.getElem?_set_ne (by omega)]
    exact h.mid i (by omega) (by omega)
theorem Swapped.done {old cur : List (Nat × Nat)} {k : Nat} (h : Swapped old cur k) (hk : old.length ≤ 2 * k + 1) : cur = old.reverse := by
  apply List.ext_getElem?
  intro i
  by_cases hi : i < old.length
  · rw [List.getElem?_reverse hi]
    by_cases e : i < k ∨ old.length - k ≤ i
    · exact h.ends i hi e
    · rw [h.mid i (by omega) (by omega), show old.length - 1 - i = i from by omega]
  · rw [List.getElem?_eq_none (by rw [h.size]; omega), List.getElem?_eq_none (by simp; omega)]
theorem Swapped.len {old cur : List (Nat × Nat)} {k : Nat} (h : Swapped old cur k) : cur.length = old.length := h.size

set_option maxRecDepth 100000 in
set_option maxHeartbeats 1000000 in
theorem reverse_any (g c : Nat) (old : List (Nat × Nat)) (rest : List Value) (w : World) (n : Nat) (hn : old.length = n) (hh : w.heap[g]? = some (.cells (pblk old rest) 30 (0, 0))) (hlen : n ≤ 65535) :
    Calls Try.prog 18 #[.slice (some ⟨g, 0, none⟩) n c] w fun e w' => e = .returned (.tuple #[]) ∧ w'.heap[g]? = some (.cells (pblk old.reverse rest) 30 (0, 0)) ∧ Only g w w' := by
  have HH := Lib.hid hh; clear hh
  have HN := Lib.hid hn; clear hn
  go_enter Try.func18, Try.ntmps18
  go_wp2
  go_loopw [2, 3] (fun i j wr => ∃ (k : Nat) (cur : List (Nat × Nat)), 2 * k ≤ n + 1 ∧ i = .int .i64 k ∧ j = .int .i64 ((n : Int) - 1 - (k : Int)) ∧ Swapped old cur k ∧ wr.heap[g]? = some (.cells (pblk cur rest) 30 (0, 0)) ∧ Only g w wr) (fun i _ _ => n - (intOf i).toNat)
  case atStart => exact ⟨0, old, by omega, rfl, by go_num, Swapped.start old, HH.out, Only.refl g w⟩
  case round =>
    obtain ⟨k, cur, hk, rfl, rfl, hsw, hh, ho⟩ := hrel
    have HW := Lib.hid hh; clear hh
    have HS := Lib.hid hsw; clear hsw
    have HO := Lib.hid ho; clear ho
    by_cases hlt : 2 * k + 1 < n
    · obtain ⟨m, hm⟩ : ∃ m, m = n - 1 - k := ⟨_, rfl⟩
      have hmi : (n : Int) - 1 - (k : Int) = (m : Int) := by omega
      rw [hmi]
      have hsz := HS.out.size
      have hnn := HN.out
      obtain ⟨⟨x1, x2⟩, hx⟩ : ∃ x, old[k]? = some x := ⟨_, List.getElem?_eq_getElem (by omega)⟩
      obtain ⟨⟨y1, y2⟩, hy⟩ : ∃ y, old[m]? = some y := ⟨_, List.getElem?_eq_getElem (by omega)⟩
      have ux : cur[k]? = some (x1, x2) := by rw [HS.out.mid k (by omega) (by omega)]; exact hx
      have uy : cur[m]? = some (y1, y2) := by rw [HS.out.mid m (by omega) (by omega)]; exact hy
      have c0 : wr.cell? ⟨g, k * 2, none⟩ = some (.int .i64 x1) := (cell_of_row _ _ _ _ _ _ HW.out).trans (pblk_get ux rest)
      have c1 : wr.cell? ⟨g, k * 2 + 1, none⟩ = some (.int .u64 x2) := (cell_of_row _ _ _ _ _ _ HW.out).trans (pblk_get1 ux rest)
      have d0 : wr.cell? ⟨g, m * 2, none⟩ = some (.int .i64 y1) := (cell_of_row _ _ _ _ _ _ HW.out).trans (pblk_get uy rest)
      have d1 : wr.cell? ⟨g, m * 2 + 1, none⟩ = some (.int .u64 y2) := (cell_of_row _ _ _ _ _ _ HW.out).trans (pblk_get1 uy rest)
      have f0 : wr.frozen? ⟨g, k * 2, none⟩ = false := frozen_of_row _ _ _ _ _ HW.out
      have f1 : wr.frozen? ⟨g, k * 2 + 1, none⟩ = false := frozen_of_row _ _ _ _ _ HW.out
      have f2 : wr.frozen? ⟨g, m * 2, none⟩ = false := frozen_of_row _ _ _ _ _ HW.out
      have f3 : wr.frozen? ⟨g, m * 2 + 1, none⟩ = false := frozen_of_row _ _ _ _ _ HW.out
      have hst := HS.out.step (by omega) hx (by rw [hnn, ← hm]; exact hy)
      rw [hnn, ← hm] at hst
      have HST := Lib.hid hst
      have b1 : (cur.set k (y1, y2)).length = n := by simp; omega
      have hset := pblk_set (l := cur.set k (y1, y2)) (k := m) (by omega) (x1, x2) rest
      rw [← pblk_set (l := cur) (k := k) (by omega) (y1, y2) rest] at hset
      have HSET := Lib.hid hset
      have hkm : k ≠ m := by omega
      have hkn : (k : Int) < (n : Int) := by omega
      have hmn : (m : Int) < (n : Int) := by omega
      have hlt2 : (k : Int) < (m : Int) := by omega
      have HM := Lib.hid hm
      have e1 : k * 2 ≠ m * 2 := by omega
      have e2 : k * 2 ≠ m * 2 + 1 := by omega
      have e3 : k * 2 + 1 ≠ m * 2 := by omega
      clear hst hset b1 hx hy ux uy hsz hnn hmi hm
      go_wp2_with fail
      go_region
      clear c0 c1 d0 d1 f0 f1 f2 f3
      have hmm : (m : Int) - 1 = (n : Int) - 1 - ((k : Int) + 1) := by have := HM.out; omega
      go_wp2
      go_roundw
      case rel =>
        refine ⟨k + 1, _, by omega, by go_num, by go_num, HST.out, ?_, ?_⟩
        · refine (heap_setCell_same _ _ _ _ _ _ (heap_setCell_same _ _ _ _ _ _ (heap_setCell_same _ _ _ _ _ _ (heap_setCell_same _ _ _ _ _ _ HW.out)))).trans ?_
          rw [HSET.out]
        · exact ((((HO.out.trans (Only.store wr g _ _)).trans (Only.store _ g _ _)).trans (Only.store _ g _ _)).trans (Only.store _ g _ _)).drew
      case measure => simp [intOf]; omega
    · have hd : decide ((k : Int) < (n : Int) - 1 - (k : Int)) = false := by simp; omega
      have hfin := HS.out.done (by have := HN.out; omega)
      have HF := Lib.hid hfin
      clear hfin hk
      go_wp2
      go_end0
      exact ⟨rfl, by rw [← HF.out]; exact HW.out, HO.out⟩
end Go.Proofs.Ytdbkbcihbajjdaa
