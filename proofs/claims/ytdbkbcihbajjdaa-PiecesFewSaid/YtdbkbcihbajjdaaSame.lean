/- Are two rows of pieces the same? -/
import Derived.Test.YtdbkbcihbajjdaaRev
import Derived.Laws.StructEq
namespace Go.Proofs.Ytdbkbcihbajjdaa
open Go.RowKit
set_option linter.unusedVariables false

/-- A slice that reads as a row of pieces. -/
def PRow (w : World) (a : Option Addr) (n : Nat) (l : List (Nat × Nat)) : Prop :=
  l.length = n ∧ (l = [] ∨ ∃ g rest, a = some ⟨g, 0, none⟩ ∧ w.heap[g]? = some (.cells (pblk l rest) 30 (0, 0)))
theorem PRow.below {w w' : World} {a n l} (h : PRow w a n l) (hb : Below w.heap.size w w') : PRow w' a n l := by
  refine ⟨h.1, h.2.imp id ?_⟩
  rintro ⟨g, rest, e, hh⟩
  exact ⟨g, rest, e, (hb.block g (lt_of_block hh)).trans hh⟩
theorem PRow.cells {w : World} {a n l} (h : PRow w a n l) {k : Nat} {p : Nat × Nat} (hp : l[k]? = some p) :
    ∃ g, a = some ⟨g, 0, none⟩ ∧ w.cell? ⟨g, k * 2, none⟩ = some (.int .i64 p.1) ∧ w.cell? ⟨g, k * 2 + 1, none⟩ = some (.int .u64 p.2) := by
  rcases h.2 with rfl | ⟨g, rest, e, hh⟩
  · simp at hp
  · exact ⟨g, e, (cell_of_row _ _ _ _ _ _ hh).trans (pblk_get hp rest), (cell_of_row _ _ _ _ _ _ hh).trans (pblk_get1 hp rest)⟩
theorem PRow.own {w : World} {base : Nat} {v : Value} {n : Nat} {l : List (Nat × Nat)} (h : w.ownsRow base 30 2 v n (pcells l)) :
    ∃ a c, v = .slice a n c ∧ PRow w a n l ∧ n ≤ c := by
  have hn : l.length = n := by
    have := h.1
    rw [pcells_len] at this
    omega
  rcases h with ⟨hl, ⟨rfl, he⟩ | ⟨g, cap, cur, rfl, hg, hh, hnc, hcm, hcs, ht⟩⟩
  · obtain rfl : l = [] := List.length_eq_zero_iff.1 (by omega)
    subst he
    exact ⟨none, 0, rfl, ⟨rfl, .inl rfl⟩, Nat.le_refl _⟩
  · refine ⟨_, cap, rfl, ⟨hn, .inr ⟨g, cur.toList.drop (n * 2), rfl, ?_⟩⟩, hnc⟩
    rw [hh]
    unfold pblk
    rw [← ht, List.take_append_drop]
theorem pair_ne {ah al bh bl : Int} (h : ¬ (ah = bh ∧ al = bl)) (w : World) : (Op.equalIn 10000 30 (.agg #[.int .i64 ah, .int .u64 al]) (.agg #[.int .i64 bh, .int .u64 bl])).run Try.prog w = .ok false w := by
  by_cases h1 : ah = bh
  · have e1 : (ah == bh) = true := by simpa using h1
    have e2 : (al == bl) = false := by rw [beq_eq_false_iff_ne]; exact fun h2 => h ⟨h1, h2⟩
    simp [go_sem, e1, e2]
  · have e1 : (ah == bh) = false := by rw [beq_eq_false_iff_ne]; exact h1
    simp [go_sem, e1]
theorem pair_eq (ah al : Int) (w : World) : (Op.equalIn 10000 30 (.agg #[.int .i64 ah, .int .u64 al]) (.agg #[.int .i64 ah, .int .u64 al])).run Try.prog w = .ok true w := by
  simp [go_sem]
set_option maxRecDepth 100000 in
set_option maxHeartbeats 2000000 in
theorem same_any (l m : List (Nat × Nat)) (a1 a2 : Option Addr) (n1 c1 n2 c2 : Nat) (w : World) (hr1 : PRow w a1 n1 l) (hr2 : PRow w a2 n2 m) (hn1 : n1 ≤ 1048576) (hn2 : n2 ≤ 1048576) :
    Calls Try.prog 12 #[.slice a1 n1 c1, .slice a2 n2 c2] w fun e w' => e = .returned (.bool (decide (l = m))) ∧ Below w.heap.size w w' := by
  have HL1 := Lib.hid hr1.1
  have HL2 := Lib.hid hr2.1
  have R1 := Lib.hid hr1; have R2 := Lib.hid hr2; clear hr1 hr2
  by_cases hlen : n1 = n2
  · subst hlen
    have e1 : ((n1 : Int) == (n1 : Int)) = true := by simp
    go_enter Try.func12, Try.ntmps12
    go_wp2
    go_loopw [5] (fun i wr => ∃ k : Nat, k ≤ n1 ∧ i = .int .i64 k ∧ (∀ j, j < k → l[j]? = m[j]?) ∧ Below w.heap.size w wr) (fun i _ => n1 - (intOf i).toNat)
    case atStart => exact ⟨0, by omega, rfl, fun j hj => by omega, Below.refl _ _⟩
    case round =>
      obtain ⟨k, hk, rfl, hsame, hbr⟩ := hrel
      have HSM := Lib.hid hsame; clear hsame
      have HBR := Lib.hid hbr; clear hbr
      by_cases hkl : k < n1
      · obtain ⟨⟨y1, y2⟩, hy⟩ : ∃ y, l[k]? = some y := ⟨l[k]'(by rw [HL1.out]; omega), by rw [List.getElem?_eq_getElem]⟩
        obtain ⟨⟨z1, z2⟩, hz⟩ : ∃ z, m[k]? = some z := ⟨m[k]'(by rw [HL2.out]; omega), by rw [List.getElem?_eq_getElem]⟩
        obtain ⟨g1, rfl, hc1, hc2⟩ := (R1.out.below HBR.out).cells hy
        obtain ⟨g2, rfl, hd1, hd2⟩ := (R2.out.below HBR.out).cells hz
        have HY := Lib.hid hy; have HZ := Lib.hid hz
        have hkn : (k : Int) < (n1 : Int) := by omega
        have hk0 : (0 : Int) ≤ (k : Int) := by omega
        clear hy hz
        by_cases hyz : y1 = z1 ∧ y2 = z2
        · obtain ⟨rfl, rfl⟩ := hyz
          have hq := pair_eq y1 y2
          go_wp2
          go_quiet (fail)
          go_wp2
          go_roundw
          case rel =>
            refine ⟨k + 1, by omega, by go_num, fun j hj => ?_, below_drewN HBR.out _⟩
            rcases Nat.lt_or_ge j k with h | h
            · exact HSM.out j h
            · have : j = k := by omega
              subst this; rw [HY.out, HZ.out]
          case measure => simp [intOf]; omega
        · have hq := pair_ne (ah := y1) (al := y2) (bh := z1) (bl := z2) (by omega)
          have hne : decide (l = m) = false := by
            rw [decide_eq_false_iff_not]
            rintro rfl
            have := HY.out
            rw [HZ.out] at this
            simp at this
            exact hyz ⟨this.1.symm, this.2.symm⟩
          have HNN := Lib.hid hne
          clear hyz hne
          go_wp2
          go_quiet (fail)
          go_wp2
          go_ret
          exact ⟨by rw [HNN.out]; rfl, below_drewN HBR.out _⟩
      · obtain rfl : k = n1 := by omega
        have heq : decide (l = m) = true := by
          rw [decide_eq_true_eq]
          apply List.ext_getElem?
          intro j
          rcases Nat.lt_or_ge j k with h | h
          · exact HSM.out j h
          · rw [List.getElem?_eq_none (by rw [HL1.out]; exact h), List.getElem?_eq_none (by rw [HL2.out]; exact h)]
        have HE := Lib.hid heq
        clear heq hkl
        go_wp2
        go_ret
        exact ⟨by rw [HE.out]; rfl, HBR.out⟩
  · have hne : decide (l = m) = false := by
      rw [decide_eq_false_iff_not]
      rintro rfl
      exact hlen (by rw [← HL1.out, ← HL2.out])
    have HE := Lib.hid hne
    have e2 : ((n1 : Int) != (n2 : Int)) = true := by rw [bne_iff_ne]; omega
    clear hne hlen
    go_enter Try.func12, Try.ntmps12
    go_wp2
    go_ret
    exact ⟨by rw [HE.out]; rfl, Below.refl _ _⟩
end Go.Proofs.Ytdbkbcihbajjdaa
