/- The walk of 'part': what one round does to the memory, as lemmas outside the walk. -/
import Derived.Test.YtlmmmfkhmlafgaaRows
import Derived.Test.YtlmmmfkhmlafgaaPlain
import Derived.Test.YtlmmmfkhmlafgaaKit
import Derived.Maps.AppendAt
namespace Go.Proofs.Ytlmmmfkhmlafgaa
open Go.RowKit
set_option linter.unusedVariables false

def i64v (x : Int) : Value := .int .i64 x
theorem info2 : (Try.prog.info? 2).map (fun i => (i.zero, i.size, i.bytes)) = some (some (.int .i64 0), 1, 8) := by kernel_rfl

theorem own_ne {w : World} {base : Nat} {v : Value} {n : Nat} {xs : List Value} {b : Nat} {c : Array Value} {fr : Nat × Nat} (h : w.ownsRow base 2 1 v n xs) (hb : w.heap[b]? = some (.cells c 34 fr)) : v.ownBlock ≠ some b := by
  intro e
  rcases h.2 with ⟨rfl, _⟩ | ⟨g, cap, cur, rfl, _, hg, _⟩
  · simp [Value.ownBlock] at e
  · simp [Value.ownBlock] at e
    subst e
    rw [hg] at hb
    simp at hb

/-- What 'part' has made after some elements: the two rows' structs lie in the blocks b4, b5. -/
structure St (B b4 b5 : Nat) (w wr : World) (v4 v5 : Value) (n4 n5 : Nat) (xs ys : List Value) : Prop where
  lt4 : B ≤ b4
  lt5 : B ≤ b5
  ne : b4 ≠ b5
  h4 : wr.heap[b4]? = some (.cells #[v4] 34 (0, 0))
  h5 : wr.heap[b5]? = some (.cells #[v5] 34 (0, 0))
  o4 : wr.ownsRow B 2 1 v4 n4 xs
  o5 : wr.ownsRow B 2 1 v5 n5 ys
  sep : v4.ownBlock = none ∨ v4.ownBlock ≠ v5.ownBlock
  bel : Below B w wr
  big : B ≤ w.heap.size

theorem St.swap {B b4 b5 w wr v4 v5 n4 n5 xs ys} (h : St B b4 b5 w wr v4 v5 n4 n5 xs ys) : v5.ownBlock = none ∨ v5.ownBlock ≠ v4.ownBlock := by
  cases h5 : v5.ownBlock with
  | none => exact .inl rfl
  | some g => exact .inr (fun e => by rcases h.sep with h' | h'; · rw [h'] at e; cases e
                                      · exact h' (by rw [← e, h5]))

theorem St.step4 {B b4 b5 w wr v4 v5 n4 n5 xs ys} (h : St B b4 b5 w wr v4 v5 n4 n5 xs ys) {o : Obj} {v' : Value} {w1 : World} {x : Value}
    (hown : w1.ownsRow B 2 1 v' (n4 + 1) (xs ++ [x])) (hg : (wr.alloc o).grownBy w1 v4.ownBlock) (hat : v'.ownBlock = v4.ownBlock ∨ v'.ownBlock = some (wr.alloc o).heap.size) :
    St B b4 b5 w (w1.setCell ⟨b4, 0, none⟩ v') v' v5 (n4 + 1) n5 (xs ++ [x]) ys := by
  have l4 := lt_of_block h.h4
  have l5 := lt_of_block h.h5
  have hw : ∀ k, k < wr.heap.size → some k ≠ v4.ownBlock → w1.heap[k]? = wr.heap[k]? := fun k hk hne => by
    rw [hg.block k (by simp; omega) hne, Below.heap_alloc _ _ _ hk]
  have e4 : w1.heap[b4]? = some (.cells #[v4] 34 (0, 0)) := by rw [hw b4 l4 (fun e => own_ne h.o4 h.h4 e.symm)]; exact h.h4
  have e5 : w1.heap[b5]? = some (.cells #[v5] 34 (0, 0)) := by rw [hw b5 l5 (fun e => own_ne h.o4 h.h5 e.symm)]; exact h.h5
  have o5 : w1.ownsRow B 2 1 v5 n5 ys := (h.o5.alloc o).kept hg h.swap
  have bel1 : Below B w w1 := (h.bel.alloc (Nat.le_trans h.big h.bel.size) o).grown hg (by have := h.bel.size; have := h.big; simp; omega) (fun k hk => (h.o4.lt k hk).1)
  refine ⟨h.lt4, h.lt5, h.ne, one_setCell e4, ?_, ?_, ?_, ?_, bel1.setCell h.lt4 _, h.big⟩
  · rw [heap_setCell_other _ _ _ _ (fun e => h.ne e.symm)]; exact e5
  · exact ownsRow_setCell_other hown (own_ne hown e4) _
  · exact ownsRow_setCell_other o5 (own_ne o5 e4) _
  · rcases hat with e | e
    · rw [e]; exact h.sep
    · right
      rw [e]
      intro e2
      have := (h.o5.lt _ e2.symm).2
      simp at this
      omega
theorem St.step5 {B b4 b5 w wr v4 v5 n4 n5 xs ys} (h : St B b4 b5 w wr v4 v5 n4 n5 xs ys) {o : Obj} {v' : Value} {w1 : World} {x : Value}
    (hown : w1.ownsRow B 2 1 v' (n5 + 1) (ys ++ [x])) (hg : (wr.alloc o).grownBy w1 v5.ownBlock) (hat : v'.ownBlock = v5.ownBlock ∨ v'.ownBlock = some (wr.alloc o).heap.size) :
    St B b4 b5 w (w1.setCell ⟨b5, 0, none⟩ v') v4 v' n4 (n5 + 1) xs (ys ++ [x]) := by
  have h' : St B b5 b4 w wr v5 v4 n5 n4 ys xs := ⟨h.lt5, h.lt4, fun e => h.ne e.symm, h.h5, h.h4, h.o5, h.o4, h.swap, h.bel, h.big⟩
  have r := h'.step4 hown hg hat
  exact ⟨r.lt5, r.lt4, fun e => r.ne e.symm, r.h5, r.h4, r.o5, r.o4, r.swap, r.bel, r.big⟩

theorem St.held {B b4 b5 w wr v4 v5 n4 n5 xs ys} (h : St B b4 b5 w wr v4 v5 n4 n5 xs ys) {o : Obj} {v : Value} {w1 : World} (hv : v = v4 ∨ v = v5)
    (hg : (wr.alloc o).grownBy w1 v.ownBlock) : w1.cell? ⟨b4, 0, none⟩ = some v4 ∧ w1.frozen? ⟨b4, 0, none⟩ = false ∧ w1.cell? ⟨b5, 0, none⟩ = some v5 ∧ w1.frozen? ⟨b5, 0, none⟩ = false := by
  have l4 := lt_of_block h.h4
  have l5 := lt_of_block h.h5
  have hw : ∀ k, k < wr.heap.size → some k ≠ v.ownBlock → w1.heap[k]? = wr.heap[k]? := fun k hk hne => by
    rw [hg.block k (by simp; omega) hne, Below.heap_alloc _ _ _ hk]
  have e4 : w1.heap[b4]? = some (.cells #[v4] 34 (0, 0)) := by
    rw [hw b4 l4 (fun e => by rcases hv with rfl | rfl; · exact own_ne h.o4 h.h4 e.symm
                              · exact own_ne h.o5 h.h4 e.symm)]; exact h.h4
  have e5 : w1.heap[b5]? = some (.cells #[v5] 34 (0, 0)) := by
    rw [hw b5 l5 (fun e => by rcases hv with rfl | rfl; · exact own_ne h.o4 h.h5 e.symm
                              · exact own_ne h.o5 h.h5 e.symm)]; exact h.h5
  exact ⟨cell_of_one e4, free_of_one e4, cell_of_one e5, free_of_one e5⟩

/-- What 'part' hands back. -/
def Parted (l : List Int) (by_ : Int) (w : World) (e : Ending) (w' : World) : Prop :=
  ∃ a1 c1 a2 c2, e = .returned (.tuple #[.agg #[.slice a1 (Ord.less l by_).length c1], .agg #[.slice a2 (Ord.more l by_).length c2], .int .i64 (Ord.same l by_ : Int)]) ∧
    Row w' a1 (Ord.less l by_).length ((Ord.less l by_).map i64v) ∧ Row w' a2 (Ord.more l by_).length ((Ord.more l by_).map i64v) ∧ Below w.heap.size w w'
end Go.Proofs.Ytlmmmfkhmlafgaa
