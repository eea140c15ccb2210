/- What Cover keeps in memory; the closure that it defers. -/
import Derived.Test.YtdbkbcihbajjdaaSame
import Derived.Maps.AppendAt
import Derived.OneCell
import Derived.Defers
namespace Go.Proofs.Ytdbkbcihbajjdaa
open Go.RowKit
set_option linter.unusedVariables false

theorem own_ne {w : World} {base : Nat} {v : Value} {n : Nat} {xs : List Value} {b : Nat} {c : Array Value} {fr : Nat × Nat} (h : w.ownsRow base 30 2 v n xs) (hb : w.heap[b]? = some (.cells c 24 fr)) : v.ownBlock ≠ some b := by
  intro e
  rcases h.2 with ⟨rfl, _⟩ | ⟨g, cap, cur, rfl, _, hg, _⟩
  · simp [Value.ownBlock] at e
  · simp [Value.ownBlock] at e
    subst e
    rw [hg] at hb
    simp at hb

/-- Two rows of pieces of the call's own; the slices lie in the blocks b4, b5. -/
structure St (B b4 b5 : Nat) (w wr : World) (v4 v5 : Value) (n4 n5 : Nat) (xs ys : List (Nat × Nat)) : Prop where
  lt4 : B ≤ b4
  lt5 : B ≤ b5
  ne : b4 ≠ b5
  h4 : wr.heap[b4]? = some (.cells #[v4] 24 (0, 0))
  h5 : wr.heap[b5]? = some (.cells #[v5] 24 (0, 0))
  o4 : wr.ownsRow B 30 2 v4 n4 (pcells xs)
  o5 : wr.ownsRow B 30 2 v5 n5 (pcells ys)
  sep : v4.ownBlock = none ∨ v4.ownBlock ≠ v5.ownBlock
  bel : Below B w wr
  big : B ≤ w.heap.size

theorem St.len4 {B b4 b5 w wr v4 v5 n4 n5 xs ys} (h : St B b4 b5 w wr v4 v5 n4 n5 xs ys) : xs.length = n4 := by
  have := h.o4.1; rw [pcells_len] at this; omega
theorem St.len5 {B b4 b5 w wr v4 v5 n4 n5 xs ys} (h : St B b4 b5 w wr v4 v5 n4 n5 xs ys) : ys.length = n5 := by
  have := h.o5.1; rw [pcells_len] at this; omega
theorem St.swap {B b4 b5 w wr v4 v5 n4 n5 xs ys} (h : St B b4 b5 w wr v4 v5 n4 n5 xs ys) : v5.ownBlock = none ∨ v5.ownBlock ≠ v4.ownBlock := by
  cases h5 : v5.ownBlock with
  | none => exact .inl rfl
  | some g => exact .inr (fun e => by rcases h.sep with h' | h'; · rw [h'] at e; cases e
                                      · exact h' (by rw [← e, h5]))
theorem St.turn {B b4 b5 w wr v4 v5 n4 n5 xs ys} (h : St B b4 b5 w wr v4 v5 n4 n5 xs ys) : St B b5 b4 w wr v5 v4 n5 n4 ys xs :=
  ⟨h.lt5, h.lt4, fun e => h.ne e.symm, h.h5, h.h4, h.o5, h.o4, h.swap, h.bel, h.big⟩
theorem St.step4 {B b4 b5 w wr v4 v5 n4 n5 xs ys} (h : St B b4 b5 w wr v4 v5 n4 n5 xs ys) {o : Obj} {v' : Value} {w1 : World} {x : Nat × Nat}
    (hown : w1.ownsRow B 30 2 v' (n4 + 1) (pcells (xs ++ [x]))) (hg : (wr.alloc o).grownBy w1 v4.ownBlock) (hat : v'.ownBlock = v4.ownBlock ∨ v'.ownBlock = some (wr.alloc o).heap.size) :
    St B b4 b5 w (w1.setCell ⟨b4, 0, none⟩ v') v' v5 (n4 + 1) n5 (xs ++ [x]) ys := by
  have l4 := lt_of_block h.h4
  have l5 := lt_of_block h.h5
  have hw : ∀ k, k < wr.heap.size → some k ≠ v4.ownBlock → w1.heap[k]? = wr.heap[k]? := fun k hk hne => by
    rw [hg.block k (by simp; omega) hne, Below.heap_alloc _ _ _ hk]
  have e4 : w1.heap[b4]? = some (.cells #[v4] 24 (0, 0)) := by rw [hw b4 l4 (fun e => own_ne h.o4 h.h4 e.symm)]; exact h.h4
  have e5 : w1.heap[b5]? = some (.cells #[v5] 24 (0, 0)) := by rw [hw b5 l5 (fun e => own_ne h.o4 h.h5 e.symm)]; exact h.h5
  have o5 : w1.ownsRow B 30 2 v5 n5 (pcells ys) := (h.o5.alloc o).kept hg h.swap
  have bel1 : Below B w w1 := (h.bel.alloc (Nat.le_trans h.big h.bel.size) o).grown hg (by have := h.bel.size; have := h.big; simp; omega) (fun k hk => (h.o4.lt k hk).1)
  refine ⟨h.lt4, h.lt5, h.ne, one_setCell e4, ?_, ?_, ?_, ?_, bel1.setCell h.lt4 _, h.big⟩
  · rw [heap_setCell_other _ _ _ _ (fun e => h.ne e.symm)]; exact e5
  · exact ownsRow_setCell_other hown (own_ne hown e4) _
  · exact ownsRow_setCell_other o5 (own_ne o5 e4) _
  · rcases hat with e | e
    · rw [e]; exact h.sep
    · right
      rw [e]
      intro e2
      have := (h.o5.lt _ e2.symm).2
      simp at this
      omega
theorem St.step5 {B b4 b5 w wr v4 v5 n4 n5 xs ys} (h : St B b4 b5 w wr v4 v5 n4 n5 xs ys) {o : Obj} {v' : Value} {w1 : World} {x : Nat × Nat}
    (hown : w1.ownsRow B 30 2 v' (n5 + 1) (pcells (ys ++ [x]))) (hg : (wr.alloc o).grownBy w1 v5.ownBlock) (hat : v'.ownBlock = v5.ownBlock ∨ v'.ownBlock = some (wr.alloc o).heap.size) :
    St B b4 b5 w (w1.setCell ⟨b5, 0, none⟩ v') v4 v' n4 (n5 + 1) xs (ys ++ [x]) :=
  (h.turn.step4 hown hg hat).turn
theorem St.held {B b4 b5 w wr v4 v5 n4 n5 xs ys} (h : St B b4 b5 w wr v4 v5 n4 n5 xs ys) {o : Obj} {v : Value} {w1 : World} (hv : v = v4 ∨ v = v5)
    (hg : (wr.alloc o).grownBy w1 v.ownBlock) : w1.cell? ⟨b4, 0, none⟩ = some v4 ∧ w1.frozen? ⟨b4, 0, none⟩ = false ∧ w1.cell? ⟨b5, 0, none⟩ = some v5 ∧ w1.frozen? ⟨b5, 0, none⟩ = false := by
  have l4 := lt_of_block h.h4
  have l5 := lt_of_block h.h5
  have hw : ∀ k, k < wr.heap.size → some k ≠ v.ownBlock → w1.heap[k]? = wr.heap[k]? := fun k hk hne => by
    rw [hg.block k (by simp; omega) hne, Below.heap_alloc _ _ _ hk]
  have e4 : w1.heap[b4]? = some (.cells #[v4] 24 (0, 0)) := by
    rw [hw b4 l4 (fun e => by rcases hv with rfl | rfl; · exact own_ne h.o4 h.h4 e.symm
                              · exact own_ne h.o5 h.h4 e.symm)]; exact h.h4
  have e5 : w1.heap[b5]? = some (.cells #[v5] 24 (0, 0)) := by
    rw [hw b5 l5 (fun e => by rcases hv with rfl | rfl; · exact own_ne h.o4 h.h5 e.symm
                              · exact own_ne h.o5 h.h5 e.symm)]; exact h.h5
  exact ⟨cell_of_one e4, free_of_one e4, cell_of_one e5, free_of_one e5⟩
/-- The second row turned about. -/
theorem St.rev {B b4 b5 w wr v4 v5 n4 n5 xs ys} (h : St B b4 b5 w wr v4 v5 n4 n5 xs ys) {w1 : World}
    (hown : w1.ownsRow B 30 2 v5 n5 (pcells ys.reverse)) (hg : wr.grownBy w1 v5.ownBlock) (hs : w1.heap.size = wr.heap.size) :
    St B b4 b5 w w1 v4 v5 n4 n5 xs ys.reverse := by
  have l4 := lt_of_block h.h4
  have l5 := lt_of_block h.h5
  have e4 : w1.heap[b4]? = some (.cells #[v4] 24 (0, 0)) := by rw [hg.block b4 l4 (fun e => own_ne h.o5 h.h4 e.symm)]; exact h.h4
  have e5 : w1.heap[b5]? = some (.cells #[v5] 24 (0, 0)) := by rw [hg.block b5 l5 (fun e => own_ne h.o5 h.h5 e.symm)]; exact h.h5
  exact ⟨h.lt4, h.lt5, h.ne, e4, e5, h.o4.kept hg h.sep, hown, h.sep, h.bel.grown hg (Nat.le_trans h.big h.bel.size) (fun k hk => (h.o5.lt k hk).1), h.big⟩
/-- All in one row. -/
theorem St.close {B b4 b5 w wr v4 v5 n4 n5 xs ys} (h : St B b4 b5 w wr v4 v5 n4 n5 xs ys) {w1 : World} {v' : Value} {n : Nat} {zs : List (Nat × Nat)}
    (hown : w1.ownsRow B 30 2 v' n (pcells zs)) (hg : wr.grownBy w1 v4.ownBlock) :
    (w1.cell? ⟨b4, 0, none⟩ = some v4 ∧ w1.frozen? ⟨b4, 0, none⟩ = false) ∧ (w1.setCell ⟨b4, 0, none⟩ v').heap[b4]? = some (.cells #[v'] 24 (0, 0)) ∧ (w1.setCell ⟨b4, 0, none⟩ v').ownsRow B 30 2 v' n (pcells zs) ∧ Below B w (w1.setCell ⟨b4, 0, none⟩ v') := by
  have l4 := lt_of_block h.h4
  have e4 : w1.heap[b4]? = some (.cells #[v4] 24 (0, 0)) := by rw [hg.block b4 l4 (fun e => own_ne h.o4 h.h4 e.symm)]; exact h.h4
  exact ⟨⟨cell_of_one e4, free_of_one e4⟩, one_setCell e4, ownsRow_setCell_other hown (own_ne hown e4) _, (h.bel.grown hg (Nat.le_trans h.big h.bel.size) (fun k hk => (h.o4.lt k hk).1)).setCell h.lt4 _⟩
set_option maxRecDepth 100000 in
set_option maxHeartbeats 400000 in
theorem reverse_nil (w : World) : Calls Try.prog 18 #[.slice none 0 0] w fun e w' => e = .returned (.tuple #[]) ∧ w' = w := by
  go_enter Try.func18, Try.ntmps18
  go_wp2
  go_loop [2, 3] (fun i j => i = .int .i64 0 ∧ j = .int .i64 (-1)) (fun _ _ => 0)
  case atStart => exact ⟨rfl, rfl⟩
  case round =>
    obtain ⟨rfl, rfl⟩ := hrel
    go_wp2
    go_end0
    exact ⟨rfl, rfl⟩
theorem reverse_own {B : Nat} {v : Value} {n : Nat} {ys : List (Nat × Nat)} {w : World} (h : w.ownsRow B 30 2 v n (pcells ys)) (hn : n ≤ 65535) :
    Calls Try.prog 18 #[v] w fun e w' => e = .returned (.tuple #[]) ∧ w'.ownsRow B 30 2 v n (pcells ys.reverse) ∧ w.grownBy w' v.ownBlock ∧ w'.heap.size = w.heap.size := by
  have hl : ys.length = n := by have := h.1; rw [pcells_len] at this; omega
  rcases h.2 with ⟨rfl, rfl⟩ | ⟨g, cap, cur, rfl, hg, hh, hnc, hcm, hcs, ht⟩
  · obtain rfl : ys = [] := List.length_eq_zero_iff.1 hl
    refine (reverse_nil w).mono ?_
    rintro e w' ⟨rfl, rfl⟩
    exact ⟨rfl, h, ⟨rfl, rfl, rfl, Nat.le_refl _, fun _ _ _ => rfl⟩, rfl⟩
  · have hc : cur = pblk ys (cur.toList.drop (n * 2)) := by unfold pblk; rw [← ht, List.take_append_drop]
    rw [hc] at hh
    refine (reverse_any g cap ys _ w n hl hh hn).mono ?_
    rintro e w' ⟨rfl, hh', ho⟩
    refine ⟨rfl, ⟨by rw [pcells_len]; simp [hl], .inr ⟨g, cap, _, rfl, hg, hh', hnc, hcm, ?_, ?_⟩⟩, ⟨ho.os, ho.tape, ho.output, by rw [ho.size]; exact Nat.le_refl _, fun k _ hk => ho.block k (by simpa [Value.ownBlock] using hk)⟩, ho.size⟩
    · have hz := congrArg Array.size hc
      unfold pblk at hz ⊢
      simp [pcells_len] at hz ⊢
      omega
    · unfold pblk
      simp only []
      rw [List.take_append_of_le_length (by rw [pcells_len]; simp [hl]), List.take_of_length_le (by rw [pcells_len]; simp [hl])]
theorem one_cells (l : List (Nat × Nat)) : ∀ u ∈ pcells l, u.oneCell' = true := by
  intro u hu
  unfold pcells at hu
  simp only [List.mem_flatMap, List.mem_cons, List.not_mem_nil, or_false] at hu
  obtain ⟨p, _, rfl | rfl⟩ := hu <;> rfl
/-- What the closure leaves. -/
def Closed (B b4 : Nat) (w : World) (n : Nat) (zs : List (Nat × Nat)) (e : Ending) (w' : World) : Prop :=
  e = .returned (.tuple #[]) ∧ ∃ v', w'.heap[b4]? = some (.cells #[v'] 24 (0, 0)) ∧ w'.ownsRow B 30 2 v' n (pcells zs) ∧ Below B w w'
set_option maxRecDepth 100000 in
set_option maxHeartbeats 1000000 in
theorem clos_any {B b4 b5 w wr v4 v5 n4 n5 xs ys} (h : St B b4 b5 w wr v4 v5 n4 n5 xs ys) (hn4 : n4 ≤ 1000) (hn5 : n5 ≤ 1000) :
    CallsD Try.prog 17 #[.pointer (some ⟨b5, 0, none⟩), .pointer (some ⟨b4, 0, none⟩)] .returning wr fun e u' w' => u' = .returning ∧ Closed B b4 w (n4 + n5) (xs ++ ys.reverse) e w' := by
  obtain ⟨i0, hi, hz0, hz1, hz2⟩ := info_parts info30
  have c5 := cell_of_one h.h5
  have K := Lib.hid (reverse_own h.o5 (by omega))
  have hm1 : n4 + n5 ≤ maxLen := by unfold maxLen; omega
  have hm2 : (n4 + n5) * 16 ≤ 140737488355328 := by omega
  have HS := Lib.hid h; clear h
  go_enter_d Try.func17, Try.ntmps17
  go_wp2_with fail
  refine K.out.mono ?_
  rintro e w1 ⟨rfl, hown, hg, hs⟩
  have hst := HS.out.rev hown hg hs
  clear hown hg hs c5 K HS
  obtain ⟨a4, cp4, rfl, _⟩ := PRow.own hst.o4
  have c4 := cell_of_one hst.h4
  have c5 := cell_of_one hst.h5
  have HS := Lib.hid hst; clear hst
  rcases HS.out.o5.2 with ⟨rfl, rfl⟩ | ⟨g, cap, cur, hv, _⟩
  · have f4 := free_of_one HS.out.h4
    have hnil : ys.reverse = [] := List.length_eq_zero_iff.1 HS.out.len5
    have HZ := Lib.hid hnil; clear hnil
    go_wp2_with (at_builtin; refine wpList_append_own_none rfl (.tmp 4) (.tmp 5) 24 rfl B 30 i0 2 Try.underlying24 hi _ _ _ rfl HS.out.o4 rfl ?_)
    go_end0
    refine ⟨rfl, .slice a4 n4 cp4, ?_, ?_, ?_⟩
    · exact one_setCell HS.out.h4
    · rw [HZ.out, List.append_nil]; exact ownsRow_setCell_other HS.out.o4 (own_ne HS.out.o4 HS.out.h4) _
    · exact HS.out.bel.setCell HS.out.lt4 _
  · subst hv
    have hnews := HS.out.o5.cells (g := g) rfl
    have HN := Lib.hid hnews; clear hnews
    go_wp2_with (at_builtin; refine wpList_append_own _ rfl (.tmp 4) (.tmp 5) 24 rfl B 30 i0 _ 2 16 Try.underlying24 hi hz0 hz1 hz2 rfl (by decide) _ _ _ rfl HS.out.o4 ⟨g, 0, none⟩ n5 cap (pcells ys.reverse) rfl HS.out.o5.1 HN.out (one_cells _) hm1 hm2 (Nat.le_trans HS.out.big HS.out.bel.size) ?_; intro v' w2 hown hg _; rw [← pcells_append] at hown; obtain ⟨a', c', hv', _⟩ := PRow.own hown; subst hv'; have hcl := HS.out.close hown hg; obtain ⟨⟨d4, g4⟩, hcl2⟩ := hcl; have HC := Lib.hid hcl2; clear hown hg hcl2)
    go_end0
    exact ⟨rfl, _, HC.out⟩
end Go.Proofs.Ytdbkbcihbajjdaa
