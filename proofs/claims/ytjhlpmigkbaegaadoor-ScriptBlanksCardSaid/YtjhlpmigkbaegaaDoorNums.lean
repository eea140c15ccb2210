/- The reader: nums walked. -/
import Derived.Test.YtjhlpmigkbaegaaDoorRead
namespace Go.Proofs.YtjhlpmigkbaegaaDoor
open Go.RowKit
set_option linter.unusedVariables false

/-- n numbers, one behind the other; what the reader stands at then. -/
def runNums (L : List (ByteArray × Nat)) (fin : Nat) : Nat → Nat → Int → List Int × Nat × Int
  | 0, a, b => ([], a, b)
  | n + 1, a, b =>
    let r := runNums L fin n a b
    (r.1 ++ [numR L r.2.1 r.2.2], numA L r.2.1 r.2.2, numE L r.2.1 r.2.2 fin)
theorem runNums_len (L : List (ByteArray × Nat)) (fin n a : Nat) (b : Int) : (runNums L fin n a b).1.length = n := by
  induction n with
  | zero => rfl
  | succ n ih => simp [runNums, ih]
theorem numA_le (L : List (ByteArray × Nat)) (a : Nat) (b : Int) : numA L a b ≤ a + 1 := by unfold numA; split <;> omega
theorem runNums_le (L : List (ByteArray × Nat)) (fin n a : Nat) (b : Int) : (runNums L fin n a b).2.1 ≤ a + n := by
  induction n with
  | zero => simp [runNums]
  | succ n ih =>
    simp only [runNums]
    have := numA_le L (runNums L fin n a b).2.1 (runNums L fin n a b).2.2
    omega
def i64v (x : Int) : Value := .int .i64 x
/-- The cells of n numbers of which the first ones are told. -/
def fill (l : List Int) (n : Nat) : Array Value := (l.map i64v ++ List.replicate (n - l.length) (i64v 0)).toArray
theorem fill_zero (n : Nat) : fill [] n = Array.replicate n (i64v 0) := by simp [fill]
theorem fill_all (l : List Int) : fill l l.length = (l.map i64v).toArray := by simp [fill]
theorem fill_set (l : List Int) (n : Nat) (x : Int) (h : l.length < n) : (fill l n).setIfInBounds l.length (i64v x) = fill (l ++ [x]) n := by
  obtain ⟨k, hk⟩ : ∃ k, n - l.length = k + 1 := ⟨n - l.length - 1, by omega⟩
  unfold fill
  rw [hk, List.replicate_succ, List.setIfInBounds_toArray, List.set_append_right _ _ (by simp)]
  simp only [List.length_map, Nat.sub_self, List.set_cons_zero, List.map_append, List.length_append, List.length_singleton]
  rw [show n - (l.length + 1) = k by omega]
  simp
theorem fill_get (l : List Int) (n : Nat) (h : l.length < n) : (fill l n)[l.length]? = some (i64v 0) := by
  unfold fill
  rw [List.getElem?_toArray, List.getElem?_append_right (by simp), List.length_map, Nat.sub_self, List.getElem?_replicate, if_pos (by omega)]
theorem Turn.fresh {b : Nat} {w w' : World} (h : Turn b w w') {B : Nat} (hB : w.heap.size ≤ B) (i : Nat) (v : Value) : Turn b w (w'.setCell ⟨B, i, none⟩ v) :=
  ⟨h.os, h.tape, h.output, by have := h.size; simpa [World.setCell] using this, fun k hk hb => (heap_setCell_other _ _ _ _ (by simp only; omega)).trans (h.block k hk hb)⟩
theorem RS.other {w R g c L at_ bad fin} (h : RS w R g c L at_ bad fin) {B : Nat} (h1 : B ≠ R) (h2 : B ≠ g) (h3 : 8 ≤ B) (i : Nat) (v : Value) : RS (w.setCell ⟨B, i, none⟩ v) R g c L at_ bad fin := by
  have ho : Turn B w (w.setCell ⟨B, i, none⟩ v) := Turn.of_only (Only.store w B i v)
  exact ⟨by rw [heap_setCell_other _ _ _ _ h1.symm]; exact h.blk, h.row.turn ho h2.symm, h.ne, Nat.lt_of_lt_of_le h.glt ho.size, h.tabs.turn ho h3, h.low, h.len, h.fin, h.lo, h.hi, h.att, h.ws⟩
/-- A call behind which the reader stands so, and a new row of numbers lies. -/
def NPost (w : World) (R g c : Nat) (L : List (ByteArray × Nat)) (l : List Int) (n : Nat) (at_ : Nat) (bad : Int) (fin : Nat) (e : Ending) (w' : World) : Prop :=
  ∃ b, e = .returned (.slice (some ⟨b, 0, none⟩) n n) ∧ w.heap.size ≤ b ∧ b ≠ R ∧ w'.heap[b]? = some (.cells (l.map i64v).toArray 2 (0, 0)) ∧ Turn R w w' ∧ RS w' R g c L at_ bad fin
/-- What a round of nums meets. -/
def RelN (w : World) (R g c : Nat) (L : List (ByteArray × Nat)) (n a0 : Nat) (b0 : Int) (fin B : Nat) (u11 : Value) (wr : World) : Prop :=
  ∃ k : Nat, k ≤ n ∧ u11 = .int .i64 k ∧ Hid (wr.heap[B]? = some (.cells (fill (runNums L fin k a0 b0).1 n) 2 (0, 0))) ∧ Hid (Turn R w wr) ∧ Hid (RS wr R g c L (runNums L fin k a0 b0).2.1 (runNums L fin k a0 b0).2.2 fin)
set_option maxRecDepth 100000 in
set_option maxHeartbeats 1000000 in
theorem nums_any (n : Nat) (hn : n ≤ 5) (hmk : ∀ w, (Instr.makeSlice 62 (.int .i64 n) (.int .i64 n)).run Tryd.prog w = .ok (.slice (some ⟨w.heap.size, 0, none⟩) n n) (w.alloc (.cells (Array.replicate n (i64v 0)) 2)))
    {w : World} {R g c : Nat} {L : List (ByteArray × Nat)} {at_ : Nat} {bad : Int} {fin : Nat} (h : RS w R g c L at_ bad fin) (ha : at_ ≤ 1048570) :
    Calls Tryd.prog 33 #[.pointer (some ⟨R, 0, none⟩), .int .i64 n] w (NPost w R g c L (runNums L fin n at_ bad).1 n (runNums L fin n at_ bad).2.1 (runNums L fin n at_ bad).2.2 fin) := by
  have hR := lt_of_block h.blk
  have hgB : w.heap.size ≠ g := by have := h.glt; omega
  have hB8 : 8 ≤ w.heap.size := h.tabs.low
  have hba : Below w.heap.size w (w.alloc (.cells (Array.replicate n (i64v 0)) 2)) := (Below.refl _ _).alloc (Nat.le_refl _) _
  have H0 := Lib.hid (h.below hba)
  have T0 := Lib.hid (Turn.of_below (b := R) hba)
  have hnew : (w.alloc (.cells (Array.replicate n (i64v 0)) 2)).heap[w.heap.size]? = some (.cells (fill [] n) 2 (0, 0)) := by
    rw [fill_zero]; exact heap_alloc_new w _
  have N0 := Lib.hid hnew
  have hRB : w.heap.size ≠ R := by omega
  clear h hnew hba
  go_enter Tryd.func33, Tryd.ntmps33
  go_wp2_with fail
  generalize w.alloc (.cells (Array.replicate n (i64v 0)) 2) = wa at *
  go_loopw [11] (fun u11 wr => RelN w R g c L n at_ bad fin w.heap.size u11 wr) (fun u11 _ => n - (intOf u11).toNat)
  case atStart => exact ⟨0, by omega, rfl, N0, T0, H0⟩
  case round =>
    obtain ⟨k, hk, rfl, HN, HT, HR⟩ := hrel
    clear N0 T0 H0
    by_cases hlt : k < n
    · have hle := runNums_le L fin k at_ bad
      have KN := Lib.hid (num_any HR.out (by omega))
      have HS := Lib.hid (show runNums L fin (k + 1) at_ bad = ((runNums L fin k at_ bad).1 ++ [numR L (runNums L fin k at_ bad).2.1 (runNums L fin k at_ bad).2.2], numA L (runNums L fin k at_ bad).2.1 (runNums L fin k at_ bad).2.2, numE L (runNums L fin k at_ bad).2.1 (runNums L fin k at_ bad).2.2 fin) from rfl)
      have HL := Lib.hid (runNums_len L fin k at_ bad)
      generalize hrn : runNums L fin k at_ bad = st at *
      clear hrn
      obtain ⟨l, a, b⟩ := st
      simp only at HS HL hle KN HN
      have hkn : (k : Int) < (n : Int) := by omega
      have hk0 : (0 : Int) ≤ (k : Int) := by omega
      go_wp2_with fail
      refine KN.out.mono ?_
      rintro e w2 ⟨rfl, ht2, hr2⟩
      have HB2 := (ht2.block w.heap.size (lt_of_block HN.out) hRB).trans HN.out
      have HT2 := Lib.hid (HT.out.trans ht2)
      have HR2 := Lib.hid hr2
      have cc : w2.cell? ⟨w.heap.size, k, none⟩ = some (i64v 0) := by
        have h1 := HL.out
        have h2 := fill_get l n (by omega)
        rw [h1] at h2
        exact (cell_of_row _ _ _ _ _ _ HB2).trans h2
      unfold i64v at cc
      have ff : w2.frozen? ⟨w.heap.size, k, none⟩ = false := frozen_of_row _ _ _ _ _ HB2
      have hset := heap_setCell_same w2 w.heap.size k _ _ (i64v (numR L a b)) HB2
      have h9 : (fill l n).setIfInBounds k (i64v (numR L a b)) = fill (l ++ [numR L a b]) n := by
        have h1 := HL.out
        have h2 := fill_set l n (numR L a b) (by omega)
        rw [h1] at h2
        exact h2
      rw [h9] at hset
      have HN2 := Lib.hid hset
      have HR3 := Lib.hid (HR2.out.other hRB hgB hB8 k (i64v (numR L a b)))
      have HT3 := Lib.hid (HT2.out.fresh (Nat.le_refl _) k (i64v (numR L a b)))
      clear ht2 hr2 HB2 hset h9
      go_wp2_with fail
      go_roundw
      case rel => exact ⟨k + 1, by omega, by go_num, by rw [HS.out]; exact HN2, HT3, by rw [HS.out]; exact HR3⟩
      case measure => simp [intOf]; omega
    · obtain rfl : k = n := by omega
      have HL := Lib.hid (runNums_len L fin k at_ bad)
      have hfa := fill_all (runNums L fin k at_ bad).1
      rw [HL.out] at hfa
      have HN2 := Lib.hid (show wr.heap[w.heap.size]? = some (.cells ((runNums L fin k at_ bad).1.map i64v).toArray 2 (0, 0)) by rw [← hfa]; exact HN.out)
      clear hfa HN
      go_wp2_with fail
      go_ret
      exact ⟨_, rfl, Nat.le_refl _, hRB, HN2.out, HT.out, HR.out⟩
end Go.Proofs.YtjhlpmigkbaegaaDoor
