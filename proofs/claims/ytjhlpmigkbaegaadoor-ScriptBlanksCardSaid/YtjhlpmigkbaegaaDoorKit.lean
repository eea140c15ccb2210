/- Small laws that speak of no program: an array by value indexed in its bounds; what one call may turn; a slice that reads as a list; an append of all of a slice to an empty one of the call's own. -/
import Derived.WalkKit
import Derived.WalkSpells
import Derived.WalkLawsBesides
import Derived.Lib.Hide
import Derived.Deep.WholeRow
import Derived.Laws.AppendOwnNone
namespace Go.Proofs.YtjhlpmigkbaegaaDoor
open Go.RowKit
set_option linter.unusedVariables false

/-- Of the memory that was there block b alone may have turned. -/
structure Only (b : Nat) (w w' : World) : Prop where
  os : w'.os = w.os
  tape : w'.tape = w.tape
  output : w'.output = w.output
  size : w'.heap.size = w.heap.size
  block : ∀ k, k ≠ b → w'.heap[k]? = w.heap[k]?
theorem Only.below {b B : Nat} {w w' : World} (h : Only b w w') (hb : B ≤ b) : Below B w w' :=
  ⟨h.os, h.tape, h.output, Nat.le_of_eq h.size.symm, fun k hk => h.block k (by omega)⟩
theorem Only.refl (b : Nat) (w : World) : Only b w w := ⟨rfl, rfl, rfl, rfl, fun _ _ => rfl⟩
theorem Only.trans {b : Nat} {u w w' : World} (h : Only b u w) (k : Only b w w') : Only b u w' :=
  ⟨k.os.trans h.os, k.tape.trans h.tape, k.output.trans h.output, k.size.trans h.size, fun i hi => (k.block i hi).trans (h.block i hi)⟩
theorem Only.store (w : World) (b i : Nat) (v : Value) : Only b w (w.setCell ⟨b, i, none⟩ v) :=
  ⟨rfl, rfl, rfl, by simp [World.setCell], fun k hk => heap_setCell_other _ _ _ _ hk⟩
theorem Only.drew {b : Nat} {w w' : World} (h : Only b w w') : Only b w w'.drew := ⟨h.os, h.tape, h.output, h.size, h.block⟩

/-- An array by value, indexed in its bounds; its elements are single cells. -/
theorem run_index_arr {P : Program} (t e : TypeId) (n : Nat) (d : TypeDesc) (cs : Array Value) (k : IntKind) (i : Int) (v : Value) (w : World)
    (h : P.underlying t = some (.array n e)) (he : P.underlying e = some d) (hd : (match d with | .struct _ | .array _ _ => true | _ => false) = false) (hsz : (P.info? e).map (·.size) = some 1)
    (h0 : 0 ≤ i) (h1 : i < (n : Int)) (hx : cs[i.toNat]? = some v) :
    (Instr.index t (.agg cs) (.int k i)).run P w = .ok v w := by
  have hagg : (isAgg e).run P w = .ok false w := by
    unfold isAgg
    rw [Sem.run_bind, run_underlying he w]
    cases d <;> simp_all
  cases hq : P.info? e with
  | none => simp [hq] at hsz
  | some ie =>
    have hs : ie.size = 1 := by simpa [hq] using hsz
    have hb : (0 ≤ i ∧ i < (n : Int)) := ⟨h0, h1⟩
    simp [Instr.index, run_underlying h, asIntOf, hb, sizeOf, typeInfo, hq, hs, part, hagg, hx]

/-- A slice that reads as a list of values, a cell each. -/
def Row (w : World) (a : Option Addr) (len : Nat) (xs : List Value) : Prop :=
  xs.length = len ∧ ∀ i x, xs[i]? = some x → ∃ b o, a = some ⟨b, o, none⟩ ∧ w.cell? ⟨b, o + i, none⟩ = some x ∧ b < w.heap.size
theorem Row.below {w w' : World} {a len xs} (h : Row w a len xs) (hb : Below w.heap.size w w') : Row w' a len xs := by
  refine ⟨h.1, fun i x hx => ?_⟩
  obtain ⟨b, o, e, c, lt⟩ := h.2 i x hx
  exact ⟨b, o, e, by rw [hb.cell lt]; exact c, Nat.lt_of_lt_of_le lt hb.size⟩
theorem Row.nil (w : World) (a : Option Addr) : Row w a 0 [] := ⟨rfl, by simp⟩
theorem Row.own {w : World} {base : Nat} {e : TypeId} {v : Value} {n : Nat} {xs : List Value} (h : w.ownsRow base e 1 v n xs) :
    ∃ a c, v = .slice a n c ∧ Row w a n xs := by
  rcases h with ⟨hl, ⟨rfl, rfl⟩ | ⟨g, cap, cur, rfl, hg, hh, hnc, hcm, hcs, ht⟩⟩
  · exact ⟨none, 0, rfl, by simpa using hl, by simp at hl; subst hl; simp⟩
  · refine ⟨_, cap, rfl, by simpa using hl, fun i x hx => ⟨g, 0, rfl, ?_, lt_of_block hh⟩⟩
    rw [Nat.zero_add, cell_of_row w g i cur e (0, 0) hh]
    rw [← ht] at hx
    simp only [Nat.mul_one, List.getElem?_take] at hx
    split at hx
    · simpa using hx
    · simp at hx
/-- A part of it. -/
theorem Row.take {w : World} {a len xs} (h : Row w a len xs) (n : Nat) (hn : n ≤ len) : Row w a n (xs.take n) := by
  refine ⟨by rw [List.length_take, h.1]; omega, fun i x hx => h.2 i x ?_⟩
  rw [List.getElem?_take] at hx
  split at hx <;> simp_all
theorem Row.drop {w : World} {b o len xs} (h : Row w (some ⟨b, o, none⟩) len xs) (n : Nat) (hn : n ≤ len) : Row w (some ⟨b, o + n, none⟩) (len - n) (xs.drop n) := by
  refine ⟨by rw [List.length_drop, h.1], fun i x hx => ?_⟩
  rw [List.getElem?_drop] at hx
  obtain ⟨b', o', e, hc, hlt⟩ := h.2 _ x hx
  simp only [Option.some.injEq, Addr.mk.injEq, and_true] at e
  obtain ⟨rfl, rfl⟩ := e
  exact ⟨b, o + n, rfl, by rw [Nat.add_assoc]; exact hc, hlt⟩

section
variable {P : Program} {w : World}
/-- 'append(fresh, src...)': 'fresh' the call's own and empty; what comes reads as 'src' did, and nothing below B has turned. -/
theorem wpList_append_copy {ops : Array Oper} {rest : List Oper} {o : Oper} {a : Act} {Q : Exit → Act → World → Prop} (hgd : o.guard = none) (s x : Operand) (t : TypeId)
    (ho : o.op = .call { callee := .builtin .append, args := #[s, x], argTypes := #[t, t] })
    (base : Nat) (e : TypeId) (i : TypeInfo) (z : Value) (bytes : Nat) (ht : P.underlying t = some (.slice e)) (hi : P.info? e = some i) (hz : i.zero = some z)
    (hsize : i.size = 1) (hby : i.bytes = bytes) (hzs : z.cells.size = 1)
    (v : Value) (n : Nat) (ys : List Value) (hs : a.eval s = v) (hown : w.ownsRow base e 1 v n ys)
    (ad : Option Addr) (m c : Nat) (xs : List Value) (hx : a.eval x = .slice ad m c) (hr : Row w ad m xs) (hcap : ad = none → c = 0) (h1 : ∀ u ∈ xs, u.oneCell' = true)
    (h63 : n + m ≤ maxLen) (hbytes : (n + m) * bytes ≤ 140737488355328) (hbase : base ≤ w.heap.size)
    (h : ∀ v' w', w'.ownsRow base e 1 v' (n + m) (ys ++ xs) → Below base w w' → (v' = .slice none 0 0 → v = .slice none 0 0) → wpList P ops Q rest (a.put o.dst v') w') : wpList P ops Q (o :: rest) a w := by
  have hblk : ∀ k, v.ownBlock = some k → base ≤ k := by
    intro k hk
    rcases hown.2 with ⟨h, _⟩ | ⟨g, cap, cur, h, hg, _⟩
    · rw [h] at hk; simp [Value.ownBlock] at hk
    · rw [h] at hk; simp [Value.ownBlock] at hk; omega
  cases ad with
  | some ad =>
    refine wpList_append_own w hgd s x t ho base e i z 1 bytes ht hi hz hsize hby hzs (by omega) v n ys hs hown ad m c xs hx (by rw [hr.1]; omega) ?_ h1 h63 hbytes hbase ?_
    · intro j u hj
      obtain ⟨b, o', e', hc, _⟩ := hr.2 j u hj
      simp only [Option.some.injEq] at e'
      subst e'
      unfold Addr.add
      split
      · rename_i h0; subst h0; exact hc
      · exact hc
    · intro v' w' ho' hg hiff
      exact h v' w' ho' ((Below.refl _ _).grown hg hbase hblk) (fun e => (hiff.1 e).1)
  | none =>
    have hc := hcap rfl
    subst hc
    have hm : m = 0 := by
      rcases Nat.eq_zero_or_pos m with h | h
      · exact h
      · have := hr.1
        obtain ⟨x, hx'⟩ : ∃ x, xs[0]? = some x := ⟨xs[0]'(by omega), by rw [List.getElem?_eq_getElem]⟩
        obtain ⟨b, o', e', _⟩ := hr.2 0 x hx'
        simp at e'
    subst hm
    have hxs : xs = [] := List.length_eq_zero_iff.1 hr.1
    subst hxs
    exact wpList_append_own_none hgd s x t ho base e i 1 ht hi v n ys hs hown hx (h v w (by simpa using hown) (Below.refl _ _) id)
/-- 'append([]T{}, src...)', 'src' read as a list: a slice of the call's own that reads as it. -/
theorem wpList_append_fresh {ops : Array Oper} {rest : List Oper} {o : Oper} {a : Act} {Q : Exit → Act → World → Prop} (hgd : o.guard = none) (s x : Operand) (t : TypeId)
    (ho : o.op = .call { callee := .builtin .append, args := #[s, x], argTypes := #[t, t] })
    (base : Nat) (e : TypeId) (i : TypeInfo) (z : Value) (bytes : Nat) (ht : P.underlying t = some (.slice e)) (hi : P.info? e = some i) (hz : i.zero = some z)
    (hsize : i.size = 1) (hby : i.bytes = bytes) (hzs : z.cells.size = 1)
    (ad0 : Addr) (c0 : Nat) (hs : a.eval s = .slice (some ad0) 0 c0) (hown : w.ownsRow base e 1 (.slice (some ad0) 0 c0) 0 [])
    (ad : Option Addr) (m c : Nat) (xs : List Value) (hx : a.eval x = .slice ad m c) (hr : Row w ad m xs) (hcap : ad = none → c = 0) (h1 : ∀ u ∈ xs, u.oneCell' = true)
    (h63 : m ≤ maxLen) (hbytes : m * bytes ≤ 140737488355328) (hbase : base ≤ w.heap.size)
    (hh : ∀ g c' w', base ≤ g → m ≤ c' → c' ≤ 9223372036854775807 → Row w' (some ⟨g, 0, none⟩) m xs → w'.ownsRow base e 1 (.slice (some ⟨g, 0, none⟩) m c') m xs → Below base w w' → wpList P ops Q rest (a.put o.dst (.slice (some ⟨g, 0, none⟩) m c')) w') : wpList P ops Q (o :: rest) a w := by
  refine wpList_append_copy hgd s x t ho base e i z bytes ht hi hz hsize hby hzs _ 0 [] hs hown ad m c xs hx hr hcap h1 (by omega) (by rw [Nat.zero_add]; exact hbytes) hbase ?_
  intro v' w' hown' hb hnil
  rw [Nat.zero_add, List.nil_append] at hown'
  obtain ⟨a', c', rfl, hrow⟩ := Row.own hown'
  rcases hown'.2 with ⟨h, _⟩ | ⟨g, cap, cur, h, hg, _, hnc, hcm, _⟩
  · have := hnil h; simp at this
  · simp only [Value.slice.injEq, true_and] at h
    obtain ⟨rfl, rfl⟩ := h
    unfold maxLen at hcm
    exact hh g c' w' hg hnc hcm hrow hown' hb
/-- 'append(own, src...)' as one step of a region that draws; 'src' read as a list. -/
theorem step_append_copy {ops : Array Oper} {o : Oper} {a : Act} {K : Act → World → Prop} {Q : Exit → Act → World → Prop} {E : Prop} (hgd : o.guard = none) (s x : Operand) (t : TypeId)
    (ho : o.op = .call { callee := .builtin .append, args := #[s, x], argTypes := #[t, t] })
    (base : Nat) (e : TypeId) (i : TypeInfo) (z : Value) (bytes : Nat) (ht : P.underlying t = some (.slice e)) (hi : P.info? e = some i) (hz : i.zero = some z)
    (hsize : i.size = 1) (hby : i.bytes = bytes) (hzs : z.cells.size = 1)
    (v : Value) (n : Nat) (ys : List Value) (hs : a.eval s = v) (hown : w.ownsRow base e 1 v n ys)
    (ad : Option Addr) (m c : Nat) (xs : List Value) (hx : a.eval x = .slice ad m c) (hr : Row w ad m xs) (hcap : ad = none → c = 0) (h1 : ∀ u ∈ xs, u.oneCell' = true)
    (h63 : n + m ≤ maxLen) (hbytes : (n + m) * bytes ≤ 140737488355328) (hbase : base ≤ w.heap.size)
    (h : ∀ v' w', w'.ownsRow base e 1 v' (n + m) (ys ++ xs) → Below base w w' → K (a.put o.dst v') w') :
    if Region.wanted o (yielded ops a.tmps) = true then Oper.wp P o a w K Q else E := by
  have hw : Region.wanted o (yielded ops a.tmps) = true := by simp [Region.wanted, hgd]
  rw [if_pos hw]
  have hblk : ∀ k, v.ownBlock = some k → base ≤ k := fun k hk => (hown.lt k hk).1
  cases ad with
  | some ad =>
    refine wp_append_own w s x t ho base e i z 1 bytes ht hi hz hsize hby hzs (by omega) v n ys hs hown ad m c xs hx (by rw [hr.1]; omega) ?_ h1 h63 hbytes hbase ?_
    · intro j u hj
      obtain ⟨b, o', e', hc, _⟩ := hr.2 j u hj
      simp only [Option.some.injEq] at e'
      subst e'
      unfold Addr.add
      split
      · rename_i h0; subst h0; exact hc
      · exact hc
    · intro v' w' ho' hg _
      exact h v' w' ho' ((Below.refl _ _).grown hg hbase hblk)
  | none =>
    have hc := hcap rfl
    subst hc
    have hm : m = 0 := by
      rcases Nat.eq_zero_or_pos m with h | h
      · exact h
      · have := hr.1
        obtain ⟨x, hx'⟩ : ∃ x, xs[0]? = some x := ⟨xs[0]'(by omega), by rw [List.getElem?_eq_getElem]⟩
        obtain ⟨b, o', e', _⟩ := hr.2 0 x hx'
        simp at e'
    subst hm
    have hxs : xs = [] := List.length_eq_zero_iff.1 hr.1
    subst hxs
    have hrun := run_append_owned_none (P := P) (w := w) base t o.type e i 1 ht hi v n ys hown
    unfold Oper.wp
    simp [execOp, ho, resolve, invoke, builtin, hs, hx, hrun, Result.andThen]
    exact h v w (by simpa using hown) (Below.refl _ _)
/-- The same, and what it leaves of the other blocks: 'append(own, src...)' as one step of a region that draws; 'src' read as a list. -/
theorem step_append_grown {ops : Array Oper} {o : Oper} {a : Act} {K : Act → World → Prop} {Q : Exit → Act → World → Prop} {E : Prop} (hgd : o.guard = none) (s x : Operand) (t : TypeId)
    (ho : o.op = .call { callee := .builtin .append, args := #[s, x], argTypes := #[t, t] })
    (base : Nat) (e : TypeId) (i : TypeInfo) (z : Value) (bytes : Nat) (ht : P.underlying t = some (.slice e)) (hi : P.info? e = some i) (hz : i.zero = some z)
    (hsize : i.size = 1) (hby : i.bytes = bytes) (hzs : z.cells.size = 1)
    (v : Value) (n : Nat) (ys : List Value) (hs : a.eval s = v) (hown : w.ownsRow base e 1 v n ys)
    (ad : Option Addr) (m c : Nat) (xs : List Value) (hx : a.eval x = .slice ad m c) (hr : Row w ad m xs) (hcap : ad = none → c = 0) (h1 : ∀ u ∈ xs, u.oneCell' = true)
    (h63 : n + m ≤ maxLen) (hbytes : (n + m) * bytes ≤ 140737488355328) (hbase : base ≤ w.heap.size)
    (h : ∀ v' w', w'.ownsRow base e 1 v' (n + m) (ys ++ xs) → w.grownBy w' v.ownBlock → K (a.put o.dst v') w') :
    if Region.wanted o (yielded ops a.tmps) = true then Oper.wp P o a w K Q else E := by
  have hw : Region.wanted o (yielded ops a.tmps) = true := by simp [Region.wanted, hgd]
  rw [if_pos hw]
  cases ad with
  | some ad =>
    refine wp_append_own w s x t ho base e i z 1 bytes ht hi hz hsize hby hzs (by omega) v n ys hs hown ad m c xs hx (by rw [hr.1]; omega) ?_ h1 h63 hbytes hbase ?_
    · intro j u hj
      obtain ⟨b, o', e', hc, _⟩ := hr.2 j u hj
      simp only [Option.some.injEq] at e'
      subst e'
      unfold Addr.add
      split
      · rename_i h0; subst h0; exact hc
      · exact hc
    · intro v' w' ho' hg _
      exact h v' w' ho' hg
  | none =>
    have hc := hcap rfl
    subst hc
    have hm : m = 0 := by
      rcases Nat.eq_zero_or_pos m with h | h
      · exact h
      · have := hr.1
        obtain ⟨x, hx'⟩ : ∃ x, xs[0]? = some x := ⟨xs[0]'(by omega), by rw [List.getElem?_eq_getElem]⟩
        obtain ⟨b, o', e', _⟩ := hr.2 0 x hx'
        simp at e'
    subst hm
    have hxs : xs = [] := List.length_eq_zero_iff.1 hr.1
    subst hxs
    have hrun := run_append_owned_none (P := P) (w := w) base t o.type e i 1 ht hi v n ys hown
    unfold Oper.wp
    simp [execOp, ho, resolve, invoke, builtin, hs, hx, hrun, Result.andThen]
    exact h v w (by simpa using hown) ⟨rfl, rfl, rfl, Nat.le_refl _, fun _ _ _ => rfl⟩
/-- append of one value to a row of the call's own, as one step of a region that draws. -/
theorem step_append_own {ops : Array Oper} {o : Oper} {a : Act} {K : Act → World → Prop} {Q : Exit → Act → World → Prop} {E : Prop} (hgd : o.guard = none) (s x : Operand) (t : TypeId)
    (ho : o.op = .call { callee := .builtin .append, args := #[s, x], argTypes := #[t, t] })
    (base : Nat) (e : TypeId) (i : TypeInfo) (z : Value) (bytes : Nat) (ht : P.underlying t = some (.slice e)) (hi : P.info? e = some i) (hz : i.zero = some z)
    (hsize : i.size = 1) (hby : i.bytes = bytes) (hzs : z.cells.size = 1)
    (v : Value) (n : Nat) (xs : List Value) (hs : a.eval s = v) (hown : w.ownsRow base e 1 v n xs)
    (g c : Nat) (u : Value) (hx : a.eval x = .slice (some ⟨g, 0, none⟩) 1 c) (hc : w.cell? ⟨g, 0, none⟩ = some u) (h1 : u.oneCell' = true)
    (h63 : n + 1 ≤ maxLen) (hbytes : (n + 1) * bytes ≤ 140737488355328) (hbase : base ≤ w.heap.size)
    (h : ∀ v' w', w'.ownsRow base e 1 v' (n + 1) (xs ++ [u]) → Below base w w' → K (a.put o.dst v') w') :
    if Region.wanted o (yielded ops a.tmps) = true then Oper.wp P o a w K Q else E := by
  have hw : Region.wanted o (yielded ops a.tmps) = true := by simp [Region.wanted, hgd]
  rw [if_pos hw]
  have hblk : ∀ k, v.ownBlock = some k → base ≤ k := by
    intro k hk
    rcases hown.2 with ⟨h, _⟩ | ⟨g, cap, cur, h, hg, _⟩
    · rw [h] at hk; simp [Value.ownBlock] at hk
    · rw [h] at hk; simp [Value.ownBlock] at hk; omega
  refine wp_append_own w s x t ho base e i z 1 bytes ht hi hz hsize hby hzs (by omega) v n xs hs hown ⟨g, 0, none⟩ 1 c [u] hx rfl ?_ ?_ h63 hbytes hbase ?_
  · intro j u' hj
    match j, hj with
    | 0, hj => simp at hj; subst hj; simpa [Addr.add] using hc
  · intro u' hu; simp at hu; subst hu; exact h1
  · intro v' w' ho' hg _
    exact h v' w' ho' ((Below.refl _ _).grown hg hbase hblk)
/-- A new empty slice. -/
theorem owns_empty (w : World) (e : TypeId) : (w.alloc (.cells #[] e)).ownsRow w.heap.size e 1 (.slice (some ⟨w.heap.size, 0, none⟩) 0 0) 0 [] :=
  World.ownsRow_lit w #[] 0 (Nat.le_refl _) (by unfold maxLen; omega) rfl
end
/-- The one cell of a block just made, as an append's law asks for it. -/
theorem news_one (w : World) (v : Value) (t : TypeId) : ∀ j u, ([v] : List Value)[j]? = some u → (w.alloc (.cells #[v] t)).cell? ((⟨w.heap.size, 0, none⟩ : Addr).add j) = some u := by
  intro j u hj
  match j, hj with
  | 0, hj =>
    simp at hj; subst hj
    exact (cell_of_row _ _ _ _ _ _ (heap_alloc_new w (.cells #[v] t))).trans rfl
theorem one_int (k : IntKind) (x : Int) : ∀ u ∈ [Value.int k x], u.oneCell' = true := by
  intro u hu; simp at hu; subst hu; rfl
theorem setCell_one_self {w : World} {b : Nat} {v : Value} {t : TypeId} (h : w.heap[b]? = some (.cells #[v] t (0, 0))) : w.setCell ⟨b, 0, none⟩ v = w := by
  rw [setCell_eq_setRow w b 0 #[v] t (0, 0) v h]
  exact setRow_self _ _ _ _ _ h
/-- How the first elements of a slice that came in read: at most k of them. -/
theorem Row.some_of {w : World} {a : Option Addr} {len : Nat} {xs : List Value} (h : Row w a len xs) (hp : 0 < len) : ∃ b o, a = some ⟨b, o, none⟩ ∧ b < w.heap.size := by
  obtain ⟨x, hx⟩ : ∃ x, xs[0]? = some x := ⟨xs[0]'(by rw [h.1]; exact hp), by rw [List.getElem?_eq_getElem]⟩
  obtain ⟨b, o, e, _, hlt⟩ := h.2 0 x hx
  exact ⟨b, o, e, hlt⟩
/-- What the frame of a law says of a slice of integers that came in. -/
theorem Row.of_ints {k : IntKind} {w : World} {a : Option Addr} {len cap : Nat} {zs : List Int}
    (h : (a = none ∧ len = 0 ∧ cap = 0 ∧ zs = []) ∨
      ∃ x, a = some x ∧ len ≤ cap ∧ cap ≤ maxLen ∧ zs.length = cap ∧ (∀ i, i < zs.length → w.cell? (x.add i) = some (.int k (zs.getD i 0))) ∧ ∀ n ∈ zs, (Lit.int k n).wf = true) :
    Row w a len ((zs.take len).map (Value.int k)) ∧ len ≤ cap ∧ cap ≤ 9223372036854775807 ∧ (a = none → cap = 0) ∧ ∀ n ∈ zs.take len, (Lit.int k n).wf = true := by
  rcases h with ⟨rfl, rfl, rfl, rfl⟩ | ⟨x, rfl, hl, hm, hz, hc, hw⟩
  · exact ⟨Row.nil _ _, Nat.le_refl _, by omega, fun _ => rfl, by simp⟩
  · refine ⟨⟨by simp; omega, fun i v hv => ?_⟩, hl, by unfold maxLen at hm; exact hm, by simp, fun n hn => hw n (List.mem_of_mem_take hn)⟩
    rw [List.getElem?_map, Option.map_eq_some_iff] at hv
    obtain ⟨n, hn, rfl⟩ := hv
    have hi : i < zs.length := by
      rw [List.getElem?_take] at hn
      split at hn
      · exact (List.getElem?_eq_some_iff.1 hn).1
      · cases hn
    have hn' : zs.getD i 0 = n := by
      rw [List.getElem?_take] at hn
      split at hn
      · rw [List.getD_eq_getElem?_getD, hn]; rfl
      · cases hn
    have h0 := hc 0 (by omega)
    have hci := hc i hi
    obtain ⟨b, o, sp⟩ := x
    have hsp : sp = none := by simpa [Addr.add] using World.cell?_spot h0
    subst hsp
    refine ⟨b, o, rfl, ?_, block_lt_of_cell (a := ⟨b, o + i, none⟩) (v := .int k n) ?_⟩ <;>
    · rw [hn'] at hci
      unfold Addr.add at hci
      split at hci
      · rename_i e; subst e; exact hci
      · exact hci
/-- 'x & 0xFFFF' on an int. -/
theorem and_65535 (x : Int) : bits BinOp.and IntKind.i64 x 65535 = ((x % 65536).toNat : Int) := by
  show IntKind.i64.wrap ((BitVec.ofInt 64 x &&& BitVec.ofInt 64 65535).toNat : Int) = _
  have e : (BitVec.ofInt 64 65535).toNat = 2 ^ 16 - 1 := by decide
  rw [BitVec.toNat_and, e, Nat.and_two_pow_sub_one_eq_mod, BitVec.toNat_ofInt]
  rw [IntWalk.i64_in _ (by omega)]
  omega
end Go.Proofs.YtjhlpmigkbaegaaDoor
