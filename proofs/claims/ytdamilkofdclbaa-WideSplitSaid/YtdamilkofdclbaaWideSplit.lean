/- For every input that can be read, WideSplit returns true and leaves its arguments as they were; no condition. -/
import Derived.Test.YtdamilkofdclbaaRows
import Derived.Test.YtdamilkofdclbaaSplit
import Derived.Test.YtdamilkofdclbaaOpen
import Derived.WalkKit
import Derived.ProofKit
import Derived.OpenShut
import Derived.ShutString
import Derived.ChangeOld
import Derived.Below
import Derived.ChangeSame
import Derived.Lib.SmallJoins
namespace Go.Proofs.Ytdamilkofdclbaa.wideSplit
open Go.ChangeShapes Go.WideShapes Go.ChangeAt Go.RowKit Go.Joins
open Go.ChangeMaps (open_string shut_string)
set_option linter.unusedVariables false

theorem own : ownKnob Try.prog.godebug = none := by kernel_rfl
theorem laidOut : laidOutB Try.prog = true := by kernel_rfl
theorem cells51 : Try.prog.cellsOf 51 = 3 := by kernel_rfl
theorem cells21 : Try.prog.cellsOf 21 = 1 := by kernel_rfl

/-- What the walk is told of a slice of integers that came in. -/
def IsRow (k : IntKind) (w : World) (a : Option Addr) (len cap : Nat) (zs : List Int) : Prop :=
  (a = none ∧ len = 0 ∧ cap = 0 ∧ zs = []) ∨
  ∃ x, a = some x ∧ len ≤ cap ∧ cap ≤ maxLen ∧ zs.length = cap ∧ (∀ i, i < zs.length → w.cell? (x.add i) = some (.int k (zs.getD i 0))) ∧ ∀ n ∈ zs, (Lit.int k n).wf = true

theorem list3 {α : Type} (l : List α) (h : l.toArray.size = 3) : ∃ c0 c1 c2, l = [c0, c1, c2] := by
  match l, h with
  | [c0, c1, c2], _ => exact ⟨c0, c1, c2, rfl⟩
/-- The walk: the Go text returns true, and writes nothing that was there. -/
theorem walk (a0 : Option Addr) (len0 cap0 : Nat) (z0 : List Int) (a1 : Int) (a2 b2 c2 : Int) (w : World) (w0 : IsRow .i64 w a0 len0 cap0 z0) (w1 : (Lit.int .i64 a1).wf = true) (w2 : (Lit.int .i32 a2).wf = true) (v2 : (Lit.int .i32 b2).wf = true) (u2 : (Lit.int .i32 c2).wf = true) :
    Calls Try.prog 10 #[.slice a0 len0 cap0, .int .i64 a1, .agg #[.int .i32 a2, .int .i32 b2, .int .i32 c2]] w fun e w' => e = .returned (.bool true) ∧ Below w.heap.size w w' := by
  obtain ⟨h1, h2, h3, h4, h5⟩ := Row.of_ints w0
  exact split_walk a0 len0 cap0 _ a1 a2 b2 c2 w h1 (fun x hx => bounds_i64 (h5 x hx)) h2 h3 h4 (bounds_i32 w2) (bounds_i32 v2) (bounds_i32 u2)

set_option maxRecDepth 100000 in
set_option maxHeartbeats 1000000 in
theorem lifted (os : Os) (started : os.Started) (H : Type) (enc : TypeId × Value → H) :
    ReturnsInHanded {} Try.checked os 10 .any (Rows.wideSplitSpec.pre6 enc Try.prog Try.f10 Rows.wideSplitRow.domain false) (Rows.wideSplitSpec.post enc Try.prog Try.f10 false true false false) := by
  refine returnsInHanded_of_change (C := Try.checked) own started (by kernel_rfl) Try.func10
    (ChangeSpec.witness6 (enc := enc) (C := Try.checked) false ⟨#[], #[.slice none 0 0, .int .i64 0, .agg #[.int .i32 0, .int .i32 0, .int .i32 0]], []⟩ 8 (by kernel_rfl) (by kernel_rfl) (by kernel_rfl) (by kernel_rfl)) ?_
  intro W base args ds gs before hval0 hW hcnd _
  have hval : ∀ (j : Nat) t v, Try.f10.params[j]? = some t → args[j]? = some v → Value.okWide Try.prog W .any base t v := hval0
  have hW' := hW
  obtain ⟨p, q, hA0, hV, rfl, hfz, hnd⟩ := hW
  have hA : DataW.TrodAll enc Try.prog W 0 (fun _ => true) true Try.f10.params.toList args.toList ds p := hA0
  rw [Try.params10] at hA hval
  obtain ⟨v0, vs0, d0, ds0, p0, q0, hargs, rfl, rfl, h0, r0⟩ := trodAll_cons hA
  obtain ⟨v1, vs1, d1, ds1, p1, q1, rfl, rfl, rfl, h1, r1⟩ := trodAll_cons r0
  obtain ⟨v2, vs2, d2, ds2, p2, q2, rfl, rfl, rfl, h2, r2⟩ := trodAll_cons r1
  obtain ⟨rfl, rfl, rfl⟩ := trodAll_nil r2
  obtain rfl : args = #[v0, v1, v2] := by cases args; simp_all
  obtain ⟨rfl, rfl⟩ := trodVars_none hV
  obtain ⟨a0, len0, cap0, rfl⟩ := okWide_slice Try.underlying44 (hval 0 44 v0 rfl rfl)
  have k0 := h0
  have lt0 : ∀ x ∈ p0, x.block < W.heap.size := by obtain ⟨m, hm⟩ := k0; exact DataW.trod_lt m _ _ _ hm
  obtain ⟨z0, w0⟩ : ∃ zs, IsRow .i64 W a0 len0 cap0 zs := by
    obtain ⟨fuel, hf⟩ := h0
    rcases open_ints Try.underlying44 Try.underlying2 (by kernel_rfl) hf with ⟨hcs, _⟩ | ⟨x, l, c, zs, hcs, _, hl, hm, hz, _, hcell, hwz⟩
    · simp [Value.cells] at hcs
      obtain ⟨rfl, rfl, rfl⟩ := hcs
      exact ⟨[], .inl ⟨rfl, rfl, rfl, rfl⟩⟩
    · simp [Value.cells] at hcs
      obtain ⟨rfl, rfl, rfl⟩ := hcs
      exact ⟨zs, .inr ⟨_, rfl, hl, hm, by simpa using hz, hcell, hwz⟩⟩
  obtain ⟨a1, rfl, rfl, rfl, w1⟩ := open_int Try.underlying3 (hval 1 3 v1 rfl rfl) h1
  obtain ⟨cs2, rfl, hsz2, _⟩ : ∃ cs, v2 = .agg cs ∧ cs.size = Try.prog.cellsOf 51 ∧ Row.okWide Try.prog W .any base 51 cs := by
    have := hval 2 51 v2 rfl rfl
    simpa [Value.okWide, Try.underlying51] using this
  rw [cells51] at hsz2
  obtain ⟨l2⟩ := cs2
  obtain ⟨c0, c1, c2, rfl⟩ := list3 l2 hsz2
  obtain ⟨fuel2, hf2⟩ := h2
  obtain ⟨xs2, m2, _, hx2, _, hl2, hel2⟩ := DataW.trod_array Try.underlying51 hf2
  rw [cells21] at hel2
  obtain ⟨y20, hy20⟩ : ∃ y, xs2[0]? = some y := ⟨xs2[0]'(by omega), by rw [List.getElem?_eq_getElem]⟩
  have g20 := hel2 0 (by omega)
  rw [hy20] at g20
  obtain ⟨a2, e20, rfl, w2⟩ := DataW.trod_int Try.underlying21 g20
  simp [Value.cells] at e20
  obtain ⟨y21, hy21⟩ : ∃ y, xs2[1]? = some y := ⟨xs2[1]'(by omega), by rw [List.getElem?_eq_getElem]⟩
  have g21 := hel2 1 (by omega)
  rw [hy21] at g21
  obtain ⟨b2, e21, rfl, v2⟩ := DataW.trod_int Try.underlying21 g21
  simp [Value.cells] at e21
  obtain ⟨y22, hy22⟩ : ∃ y, xs2[2]? = some y := ⟨xs2[2]'(by omega), by rw [List.getElem?_eq_getElem]⟩
  have g22 := hel2 2 (by omega)
  rw [hy22] at g22
  obtain ⟨c2, e22, rfl, u2⟩ := DataW.trod_int Try.underlying21 g22
  simp [Value.cells] at e22
  subst e20 e21 e22
  obtain rfl : xs2 = [(.lit (.int .i32 a2), []), (.lit (.int .i32 b2), []), (.lit (.int .i32 c2), [])] := by
    apply List.ext_getElem?
    intro j
    match j with
    | 0 => exact hy20
    | 1 => exact hy21
    | 2 => exact hy22
    | j + 3 => rw [List.getElem?_eq_none (by omega), List.getElem?_eq_none (by simp)]
  simp only [Prod.mk.injEq] at hx2
  obtain ⟨rfl, rfl⟩ := hx2
  have sr2 : ∀ (W' : World) (sp : Nat → Bool), DataW.Trod enc Try.prog W' 0 sp true 51 (.agg #[.int .i32 a2, .int .i32 b2, .int .i32 c2]) (.agg [.lit (.int .i32 a2), .lit (.int .i32 b2), .lit (.int .i32 c2)]) [] := fun W' sp =>
    ⟨2, by simp [DataW.trod, Value.cells, Try.underlying51, Try.underlying21, cells51, cells21, w2, v2, u2, show List.range 3 = [0, 1, 2] from rfl]⟩
  clear hA0 hval0
  refine (walk a0 len0 cap0 z0 a1 a2 b2 c2 W w0 w1 w2 v2 u2).mono fun e W' ⟨he, bel⟩ => ?_
  subst he
  exact ⟨_, rfl, _, _, _, [], _, [], hW', trodAll_mk1 (shut_bool Try.underlying4 _), (trodAll_cons_mk (Below.trod laidOut (by kernel_rfl) (of_decide_eq_true (by kernel_rfl)) k0 bel lt0) (trodAll_cons_mk (shut_int Try.underlying3 w1) (trodAll_cons_mk (sr2 _ _) trodAll_mk0))), rfl, bel.frame _, fun h => by cases h⟩

theorem over : Rows.wideSplitRow.holds Try.pinned (OpenSpec.ofChange Rows.wideSplitSpec) :=
  OpenClaim.holds_of_wide 10 Try.f10 rfl rfl rfl rfl rfl rfl rfl ⟨rfl, rfl, rfl, rfl, rfl⟩ rfl rfl rfl rfl rfl (by kernel_rfl) Try.func10 (by kernel_rfl)
    (of_decide_eq_true (by kernel_rfl)) (by unfold Func.isWrapper; first | (rw [if_pos (by decide +kernel)]; kernel_rfl) | (rw [if_neg (by decide +kernel)]; exact ⟨rfl, rfl⟩))
    (fun os started H enc _ => lifted os started H enc)

/-- THE STATEMENT -/
theorem proved : Rows.WideSplitSaid := over
end Go.Proofs.Ytdamilkofdclbaa.wideSplit
