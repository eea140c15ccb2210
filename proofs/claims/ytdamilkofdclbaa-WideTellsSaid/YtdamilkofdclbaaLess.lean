/- The contracts of Less, Int, Times. -/
import Derived.Test.YtdamilkofdclbaaSub
import Derived.Lib.QuietBelow
namespace Go.Proofs.Ytdamilkofdclbaa
open Go.RowKit
set_option linter.unusedVariables false

set_option maxRecDepth 100000 in
set_option maxHeartbeats 1000000 in
theorem less_any (a b : Int) (w : World) :
    Calls Try.prog 26 #[W a, W b] w fun e w' => e = .returned (.bool (decide (a < b))) ∧ Below w.heap.size w w' := by
  have hlt : (a < b) ↔ (hiOf a < hiOf b ∨ hiOf a = hiOf b ∧ loOf a < loOf b) := by unfold hiOf loOf; omega
  unfold W
  rcases Int.lt_trichotomy (hiOf a) (hiOf b) with h | h | h
  · rw [decide_eq_true (hlt.2 (.inl h))]
    have dT : decide (hiOf a < hiOf b) = true := by simpa using h
    clear hlt h
    go_enter Try.func26, Try.ntmps26
    go_wp2
    go_ret
    exact ⟨rfl, ((Below.refl _ _).alloc (Nat.le_refl _) _).alloc (by simp) _⟩
  · have dT : decide (hiOf a < hiOf b) = false := by simp; omega
    have dE : (hiOf a == hiOf b) = true := by simpa using h
    have hd : decide (a < b) = decide (loOf a < loOf b) := by congr 1; apply propext; rw [hlt]; omega
    rw [hd]
    clear hlt h hd
    generalize hiOf a = H1 at *
    generalize hiOf b = H2 at *
    go_enter Try.func26, Try.ntmps26
    go_wp2
    all_goals go_ret
    all_goals exact ⟨by simp_all, ((Below.refl _ _).alloc (Nat.le_refl _) _).alloc (by simp) _⟩
  · have hn : ¬ a < b := fun h' => by rcases hlt.1 h' with h2 | h2 <;> omega
    rw [decide_eq_false hn]
    have dT : decide (hiOf a < hiOf b) = false := by simp; omega
    have dE : (hiOf a == hiOf b) = false := by simp; omega
    clear hlt h hn
    go_enter Try.func26, Try.ntmps26
    go_wp2
    go_ret
    exact ⟨rfl, ((Below.refl _ _).alloc (Nat.le_refl _) _).alloc (by simp) _⟩

/-- Does a number have sixty-four bits? -/
def Small (v : Int) : Prop := -9223372036854775808 ≤ v ∧ v ≤ 9223372036854775807
instance (v : Int) : Decidable (Small v) := by unfold Small; exact inferInstance
def smallV (v : Int) : Value := .tuple #[.int .i64 (if Small v then v else 0), .bool (decide (Small v))]
theorem int_low (v : Int) : Small (IntKind.i64.wrap (loOf v)) := by rw [IntKind.wrap_i64]; unfold Small loOf; omega
theorem int_same {v : Int} (h : Small v) : IntKind.i64.wrap (loOf v) = v := by rw [IntKind.wrap_i64]; unfold Small at h; unfold loOf; omega
theorem int_other {v : Int} (h : ¬ Small v) : ¬ (hiOf (IntKind.i64.wrap (loOf v)) = hiOf v ∧ loOf (IntKind.i64.wrap (loOf v)) = loOf v) := by
  intro ⟨h1, h2⟩
  have : IntKind.i64.wrap (loOf v) = v := by unfold hiOf loOf at *; omega
  exact h (this ▸ int_low v)

set_option maxRecDepth 100000 in
set_option maxHeartbeats 1000000 in
theorem int_any (v : Int) (w : World) :
    Calls Try.prog 21 #[W v] w fun e w' => e = .returned (smallV v) ∧ Below w.heap.size w w' := by
  have hn := int_low v
  have ho := fun d os => Calls.regrown_of (of_any (IntKind.i64.wrap (loOf v)) (Sort.grow (redrawn (w.alloc (.cells #[.int .i64 (hiOf v), .int .u64 (loOf v)] 24)) d) os) hn.1 hn.2)
  have c0 : (w.alloc (.cells #[.int .i64 (hiOf v), .int .u64 (loOf v)] 24)).cell? ⟨w.heap.size, 0, none⟩ = some (.int .i64 (hiOf v)) := (cell_of_row _ _ _ _ _ _ (heap_alloc_new w _)).trans rfl
  have c1 : (w.alloc (.cells #[.int .i64 (hiOf v), .int .u64 (loOf v)] 24)).cell? ⟨w.heap.size, 1, none⟩ = some (.int .u64 (loOf v)) := (cell_of_row _ _ _ _ _ _ (heap_alloc_new w _)).trans rfl
  have k0 := cell_regrown c0
  have k1 := cell_regrown c1
  have hz := IntWalk.i64_left (loOf v)
  unfold W at ho ⊢
  unfold smallV
  by_cases hs : Small v
  · rw [if_pos hs, decide_eq_true hs]
    have hv := int_same hs
    rw [hv] at ho hz
    have HO := Lib.hid ho
    have hz' : wrap64 (loOf v) = v := hz.symm
    clear ho hz hv hn hs c0 c1
    go_enter Try.func21, Try.ntmps21
    go_wp2_with fail
    refine wp_region_quiet_below (by kernel_rfl) (by kernel_rfl) ?_
    repeat (go_big_quiet_step (with_reducible exact HO.out _ _))
    refine wpQuiet_nil ?_
    intro _ hw'
    obtain ⟨⟨dq, osq⟩, hw''⟩ := hw'
    subst hw''
    go_wp2
    all_goals go_ret2
    all_goals exact ⟨by rw [hz']; rfl, ((Below.refl _ _).alloc (Nat.le_refl _) _).trans ((below_regrown _ dq osq).mono (by simp))⟩
  · rw [if_neg hs, decide_eq_false hs]
    have hne := int_other hs
    rw [hz] at ho hne
    obtain ⟨n, hnn⟩ : ∃ n, wrap64 (loOf v) = n := ⟨_, rfl⟩
    rw [hnn] at ho hne
    have HO := Lib.hid ho
    by_cases h1 : hiOf n = hiOf v
    · have hb1 : (hiOf n == hiOf v) = true := by simpa using h1
      have hb2 : (loOf n == loOf v) = false := by rw [beq_eq_false_iff_ne]; exact fun h2 => hne ⟨h1, h2⟩
      clear ho hz hn hs c0 c1 hne h1
      go_enter Try.func21, Try.ntmps21
      go_wp2_with fail
      refine wp_region_quiet_below (by kernel_rfl) (by kernel_rfl) ?_
      repeat (go_big_quiet_step (with_reducible exact HO.out _ _))
      refine wpQuiet_nil ?_
      intro _ hw'
      obtain ⟨⟨dq, osq⟩, hw''⟩ := hw'
      subst hw''
      go_wp2
      all_goals go_ret2
      all_goals exact ⟨rfl, ((Below.refl _ _).alloc (Nat.le_refl _) _).trans ((below_regrown _ dq osq).mono (by simp))⟩
    · have hb1 : (hiOf n == hiOf v) = false := by rw [beq_eq_false_iff_ne]; exact h1
      clear ho hz hn hs c0 c1 hne h1
      go_enter Try.func21, Try.ntmps21
      go_wp2_with fail
      refine wp_region_quiet_below (by kernel_rfl) (by kernel_rfl) ?_
      repeat (go_big_quiet_step (with_reducible exact HO.out _ _))
      refine wpQuiet_nil ?_
      intro _ hw'
      obtain ⟨⟨dq, osq⟩, hw''⟩ := hw'
      subst hw''
      go_wp2
      all_goals go_ret2
      all_goals exact ⟨rfl, ((Below.refl _ _).alloc (Nat.le_refl _) _).trans ((below_regrown _ dq osq).mono (by simp))⟩
end Go.Proofs.Ytdamilkofdclbaa
