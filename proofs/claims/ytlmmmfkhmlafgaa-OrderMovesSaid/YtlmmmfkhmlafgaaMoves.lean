/- OrderMoves: what the three rows' appends do to the memory; the plain law. -/
import Derived.Test.YtlmmmfkhmlafgaaLaws1
namespace Go.Proofs.Ytlmmmfkhmlafgaa
open Go.RowKit
set_option linter.unusedVariables false

namespace Ord
theorem below_shift (l : List Int) (x c : Int) : below (l.map (· + c)) (x + c) = below l x ∧ upto (l.map (· + c)) (x + c) = upto l x := by
  induction l with
  | nil => exact ⟨rfl, rfl⟩
  | cons a l ih =>
    rw [List.map_cons, below_cons, upto_cons, below_cons, upto_cons, ih.1, ih.2]
    refine ⟨?_, ?_⟩ <;> (congr 1; split <;> split <;> omega)
theorem Is.shift {l : List Int} {k : Nat} {x : Int} (h : Is l k x) (c : Int) : Is (l.map (· + c)) k (x + c) :=
  ⟨by rw [(below_shift l x c).1]; exact h.lo, by rw [(below_shift l x c).2]; exact h.hi⟩
theorem neg_counts (l : List Int) (x : Int) : below (l.map (- ·)) (-x) + upto l x = l.length ∧ upto (l.map (- ·)) (-x) + below l x = l.length := by
  induction l with
  | nil => exact ⟨rfl, rfl⟩
  | cons a l ih =>
    rw [List.map_cons, below_cons, upto_cons, below_cons, upto_cons, List.length_cons]
    refine ⟨?_, ?_⟩
    · have := ih.1; split <;> split <;> omega
    · have := ih.2; split <;> split <;> omega
theorem Is.turned {l : List Int} {n : Nat} {x : Int} (hn : l.length = n + 1) (h : Is l n x) : Is (l.map (- ·)) 0 (-x) := by
  have c := neg_counts l x
  have h1 := h.lo; have h2 := h.hi
  exact ⟨by omega, by omega⟩
end Ord

/-- Two rows of the call's own lie in unlike blocks. -/
def Sep (v u : Value) : Prop := v.ownBlock = none ∨ v.ownBlock ≠ u.ownBlock
theorem Sep.symm {v u : Value} (h : Sep v u) : Sep u v := by
  unfold Sep at *
  cases hu : u.ownBlock with
  | none => exact .inl rfl
  | some g => exact .inr (fun e => by rcases h with h' | h'; · rw [h'] at e; cases e
                                      · exact h' (by rw [← e, hu]))
theorem Sep.step {w : World} {B : Nat} {v u v' : Value} {o : Obj} {n : Nat} {xs : List Value} (h : Sep u v) (hu : w.ownsRow B 2 1 u n xs)
    (hat : v'.ownBlock = v.ownBlock ∨ v'.ownBlock = some (w.alloc o).heap.size) : Sep u v' := by
  rcases hat with e | e
  · unfold Sep; rw [e]; exact h
  · right
    rw [e]
    intro e2
    have := (hu.lt _ e2).2
    simp at this
    omega

/-- Three rows of the call's own. -/
structure Three (B : Nat) (w wr : World) (v6 v7 v8 : Value) (n : Nat) (xs ys zs : List Value) : Prop where
  o6 : wr.ownsRow B 2 1 v6 n xs
  o7 : wr.ownsRow B 2 1 v7 n ys
  o8 : wr.ownsRow B 2 1 v8 n zs
  s67 : Sep v6 v7
  s68 : Sep v6 v8
  s78 : Sep v7 v8
  bel : Below B w wr
  big : B ≤ w.heap.size

theorem Three.first {B w wr v6 v7 v8 n xs ys zs} (h : Three B w wr v6 v7 v8 n xs ys zs) {o : Obj} {v' : Value} {w1 : World} {x : Value}
    (hown : w1.ownsRow B 2 1 v' (n + 1) (xs ++ [x])) (hg : (wr.alloc o).grownBy w1 v6.ownBlock) (hat : v'.ownBlock = v6.ownBlock ∨ v'.ownBlock = some (wr.alloc o).heap.size) :
    w1.ownsRow B 2 1 v7 n ys ∧ w1.ownsRow B 2 1 v8 n zs ∧ Sep v' v7 ∧ Sep v' v8 ∧ Below B w w1 := by
  refine ⟨(h.o7.alloc o).kept hg h.s67.symm, (h.o8.alloc o).kept hg h.s68.symm, (h.s67.symm.step h.o7 hat).symm, (h.s68.symm.step h.o8 hat).symm, ?_⟩
  exact (h.bel.alloc (Nat.le_trans h.big h.bel.size) o).grown hg (by have := h.bel.size; have := h.big; simp; omega) (fun k hk => (h.o6.lt k hk).1)
theorem two_step {B : Nat} {w wr : World} {v6 v7 v8 : Value} {n n' n'' : Nat} {xs ys zs : List Value} (o6 : wr.ownsRow B 2 1 v6 n xs) (o7 : wr.ownsRow B 2 1 v7 n' ys) (o8 : wr.ownsRow B 2 1 v8 n'' zs)
    (s67 : Sep v6 v7) (s78 : Sep v7 v8) (bel : Below B w wr) (big : B ≤ w.heap.size) {o : Obj} {v' : Value} {w1 : World} {x : Value}
    (hown : w1.ownsRow B 2 1 v' (n' + 1) (ys ++ [x])) (hg : (wr.alloc o).grownBy w1 v7.ownBlock) (hat : v'.ownBlock = v7.ownBlock ∨ v'.ownBlock = some (wr.alloc o).heap.size) :
    w1.ownsRow B 2 1 v6 n xs ∧ w1.ownsRow B 2 1 v8 n'' zs ∧ Sep v6 v' ∧ Sep v' v8 ∧ Below B w w1 := by
  refine ⟨(o6.alloc o).kept hg s67, (o8.alloc o).kept hg s78.symm, s67.step o6 hat, (s78.symm.step o8 hat).symm, ?_⟩
  exact (bel.alloc (Nat.le_trans big bel.size) o).grown hg (by have := bel.size; simp; omega) (fun k hk => (o7.lt k hk).1)

def i32v (x : Int) : Value := .int .i32 x
theorem moves_eq {L : List Int} {n : Nat} (hn : L.length = n) (hp : 0 < n) (c : Int) :
    ∃ m d : Int, m ∈ L ∧ d ∈ L ∧ kthOf L (((n - 1) / 2 : Nat) : Int) = m ∧ kthOf (L.map (· + c)) (((n - 1) / 2 : Nat) : Int) = m + c ∧ kthOf (L.map (- ·)) 0 = -d ∧ kthOf L ((n - 1 : Nat) : Int) = d := by
  obtain ⟨_, q2⟩ := kthIn hn ((n - 1) / 2) (by omega)
  obtain ⟨_, q4⟩ := kthIn hn (n - 1) (by omega)
  refine ⟨_, _, q2.mem, q4.mem, rfl, (kthOf_eq (q2.shift c)).1, ?_, rfl⟩
  exact (kthOf_eq (q4.turned (by omega))).1
end Go.Proofs.Ytlmmmfkhmlafgaa
