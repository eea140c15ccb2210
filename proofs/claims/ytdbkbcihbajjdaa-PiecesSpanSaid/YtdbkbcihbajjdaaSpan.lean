/- Span, Span of the reference walked. -/
import Derived.Test.YtdbkbcihbajjdaaBasic2
namespace Go.Proofs.Ytdbkbcihbajjdaa
open Go.RowKit
set_option linter.unusedVariables false

theorem _root_.Go.RowKit.Below.then {w w1 w2 : World} (h : Below w.heap.size w w1) (hb : Below w1.heap.size w1 w2) : Below w.heap.size w w2 := h.trans (hb.mono h.size)
/-- What Span answers. -/
def spanV (n L I : Int) : Value := if isP n L I then .tuple #[.int .u64 (I * 2 ^ L.toNat), .int .u64 (I * 2 ^ L.toNat + 2 ^ L.toNat - 1), .bool true] else .tuple #[.int .u64 0, .int .u64 0, .bool false]
theorem isP_nat {n L I : Int} (h0 : 0 ≤ I) (h : isP n L I = true) : ∃ (N l i : Nat), n = N ∧ L = l ∧ I = i ∧ 1 ≤ N ∧ N ≤ 59 ∧ l ≤ N ∧ i < 2 ^ (N - l) ∧ i * 2 ^ l + 2 ^ l ≤ 576460752303423488 := by
  unfold isP at h
  simp only [Bool.and_eq_true, decide_eq_true_eq] at h
  obtain ⟨⟨⟨⟨h1, h2⟩, h3⟩, h4⟩, h5⟩ := h
  obtain ⟨N, rfl⟩ := Int.eq_ofNat_of_zero_le (show 0 ≤ n by omega)
  obtain ⟨l, rfl⟩ := Int.eq_ofNat_of_zero_le h3
  obtain ⟨i, rfl⟩ := Int.eq_ofNat_of_zero_le h0
  have e : ((N : Int) - (l : Int)).toNat = N - l := by omega
  rw [e] at h5
  have h6 : i < 2 ^ (N - l) := by exact_mod_cast h5
  refine ⟨N, l, i, rfl, rfl, rfl, by omega, by omega, by omega, h6, ?_⟩
  have h7 : (i + 1) * 2 ^ l ≤ 2 ^ (N - l) * 2 ^ l := Nat.mul_le_mul_right _ h6
  rw [← Nat.pow_add, show N - l + l = N by omega, Nat.add_mul, Nat.one_mul] at h7
  exact Nat.le_trans h7 (pow_le59 (by omega))
set_option maxRecDepth 100000 in
set_option maxHeartbeats 400000 in
theorem span_any (n L I : Int) (w : World) (h0 : 0 ≤ I) :
    Calls Try.prog 13 #[.int .i64 n, .agg #[.int .i64 L, .int .u64 I]] w fun e w' => e = .returned (spanV n L I) ∧ Below w.heap.size w w' := by
  have a0 := Lib.hid (show (w.alloc (.cells #[.int .i64 L, .int .u64 I] 30)).heap[w.heap.size]? = some (.cells #[.int .i64 L, .int .u64 I] 30 (0, 0)) from heap_alloc_new w _)
  have c0 : (w.alloc (.cells #[.int .i64 L, .int .u64 I] 30)).cell? ⟨w.heap.size, 0, none⟩ = some (.int .i64 L) := (cell_of_row _ _ _ _ _ _ (heap_alloc_new w _)).trans rfl
  have c1 : (w.alloc (.cells #[.int .i64 L, .int .u64 I] 30)).cell? ⟨w.heap.size, 1, none⟩ = some (.int .u64 I) := (cell_of_row _ _ _ _ _ _ (heap_alloc_new w _)).trans rfl
  have K1 := Lib.hid (fun w => is_any n L I w h0)
  have B0 := Lib.hid ((Below.refl w.heap.size w).alloc (Nat.le_refl _) (.cells #[.int .i64 L, .int .u64 I] 30))
  cases hp : isP n L I with
  | false =>
    have HV := Lib.hid (show spanV n L I = .tuple #[.int .u64 0, .int .u64 0, .bool false] by unfold spanV; rw [hp]; rfl)
    rw [hp] at K1
    clear hp
    go_enter Try.func13, Try.ntmps13
    go_wp2_with fail
    refine (K1.out _).mono ?_
    rintro e w1 ⟨rfl, hb1⟩
    have B1 := Lib.hid (B0.out.then hb1); clear hb1
    go_wp2
    go_ret3
    exact ⟨by rw [HV.out]; rfl, B1.out⟩
  | true =>
    obtain ⟨N, l, i, rfl, rfl, rfl, h1, h2, h3, h4, h5⟩ := isP_nat h0 hp
    have hl : l ≤ 59 := by omega
    have hw := wrap_pow hl
    have hcast : (2 : Int) ^ l = ((2 ^ l : Nat) : Int) := by push_cast; rfl
    have HV := Lib.hid (show spanV N l i = .tuple #[.int .u64 ((i * 2 ^ l : Nat) : Int), .int .u64 (((i * 2 ^ l : Nat) : Int) + ((2 ^ l : Nat) : Int) - 1), .bool true] by unfold spanV; rw [hp]; simp)
    have hsh : IntKind.u64.wrap ((i : Int) * 2 ^ l) = ((i * 2 ^ l : Nat) : Int) := by
      rw [IntKind.wrap_u64, hcast]
      have : ((i : Int) * ((2 ^ l : Nat) : Int)) = ((i * 2 ^ l : Nat) : Int) := by push_cast; rfl
      rw [this]
      generalize i * 2 ^ l = P at *
      generalize 2 ^ l = Q at *
      omega
    have hpos := pow_pos2 l
    rw [hp] at K1
    clear hp hcast
    generalize hP : i * 2 ^ l = P at *
    generalize hQ : 2 ^ l = Q at *
    clear hP h4
    go_enter Try.func13, Try.ntmps13
    go_wp2_with fail
    refine (K1.out _).mono ?_
    rintro e w1 ⟨rfl, hb1⟩
    have B1 := Lib.hid (B0.out.then hb1)
    have a1 := (hb1.block _ (lt_of_block a0.out)).trans a0.out
    have c2 : w1.cell? ⟨w.heap.size, 0, none⟩ = some (.int .i64 l) := (cell_of_row _ _ _ _ _ _ a1).trans rfl
    have c3 : w1.cell? ⟨w.heap.size, 1, none⟩ = some (.int .u64 i) := (cell_of_row _ _ _ _ _ _ a1).trans rfl
    clear hb1 a1 c0 c1
    go_wp2_with fail
    go_quiet (fail)
    go_wp2
    go_ret3
    exact ⟨by rw [HV.out]; rfl, below_drewN B1.out _⟩
set_option maxRecDepth 100000 in
set_option maxHeartbeats 400000 in
theorem rspan_any (n L I : Int) (w : World) (h0 : 0 ≤ I) :
    Calls Try.prog 14 #[.int .i64 n, .agg #[.int .i64 L, .int .u64 I]] w fun e w' => e = .returned (spanV n L I) ∧ Below w.heap.size w w' := by
  have a0 := Lib.hid (show (w.alloc (.cells #[.int .i64 L, .int .u64 I] 30)).heap[w.heap.size]? = some (.cells #[.int .i64 L, .int .u64 I] 30 (0, 0)) from heap_alloc_new w _)
  have c0 : (w.alloc (.cells #[.int .i64 L, .int .u64 I] 30)).cell? ⟨w.heap.size, 0, none⟩ = some (.int .i64 L) := (cell_of_row _ _ _ _ _ _ (heap_alloc_new w _)).trans rfl
  have c1 : (w.alloc (.cells #[.int .i64 L, .int .u64 I] 30)).cell? ⟨w.heap.size, 1, none⟩ = some (.int .u64 I) := (cell_of_row _ _ _ _ _ _ (heap_alloc_new w _)).trans rfl
  have K1 := Lib.hid (fun w => ris_any n L I w h0)
  have B0 := Lib.hid ((Below.refl w.heap.size w).alloc (Nat.le_refl _) (.cells #[.int .i64 L, .int .u64 I] 30))
  cases hp : isP n L I with
  | false =>
    have HV := Lib.hid (show spanV n L I = .tuple #[.int .u64 0, .int .u64 0, .bool false] by unfold spanV; rw [hp]; rfl)
    rw [hp] at K1
    clear hp
    go_enter Try.func14, Try.ntmps14
    go_wp2_with fail
    refine (K1.out _).mono ?_
    rintro e w1 ⟨rfl, hb1⟩
    have B1 := Lib.hid (B0.out.then hb1); clear hb1
    go_wp2
    go_ret3
    exact ⟨by rw [HV.out]; rfl, B1.out⟩
  | true =>
    obtain ⟨N, l, i, rfl, rfl, rfl, h1, h2, h3, h4, h5⟩ := isP_nat h0 hp
    have hl : l ≤ 59 := by omega
    have K2 := Lib.hid (two_q l hl)
    have hcast : (2 : Int) ^ l = ((2 ^ l : Nat) : Int) := by push_cast; rfl
    have HV := Lib.hid (show spanV N l i = .tuple #[.int .u64 ((i * 2 ^ l : Nat) : Int), .int .u64 (((i * 2 ^ l : Nat) : Int) + ((2 ^ l : Nat) : Int) - 1), .bool true] by unfold spanV; rw [hp]; simp)
    have hsh : IntKind.u64.wrap ((i : Int) * ((2 ^ l : Nat) : Int)) = ((i * 2 ^ l : Nat) : Int) := by
      rw [IntKind.wrap_u64]
      have : ((i : Int) * ((2 ^ l : Nat) : Int)) = ((i * 2 ^ l : Nat) : Int) := by push_cast; rfl
      rw [this]
      generalize i * 2 ^ l = P at *
      generalize 2 ^ l = Q at *
      omega
    have hpos := pow_pos2 l
    rw [hp] at K1
    clear hp hcast
    generalize hP : i * 2 ^ l = P at *
    generalize hQ : 2 ^ l = Q at *
    clear hP h4
    go_enter Try.func14, Try.ntmps14
    go_wp2_with fail
    refine (K1.out _).mono ?_
    rintro e w1 ⟨rfl, hb1⟩
    have B1 := Lib.hid (B0.out.then hb1)
    have a1 := (hb1.block _ (lt_of_block a0.out)).trans a0.out
    have c2 : w1.cell? ⟨w.heap.size, 0, none⟩ = some (.int .i64 l) := (cell_of_row _ _ _ _ _ _ a1).trans rfl
    have c3 : w1.cell? ⟨w.heap.size, 1, none⟩ = some (.int .u64 i) := (cell_of_row _ _ _ _ _ _ a1).trans rfl
    clear hb1 a1 c0 c1
    go_wp2_with fail
    go_quiet (exact K2.out _ _)
    go_wp2
    go_ret3
    exact ⟨by rw [HV.out]; rfl, below_drewN B1.out _⟩
end Go.Proofs.Ytdbkbcihbajjdaa
