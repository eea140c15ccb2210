/- For every input that can be read, TopMedian returns true and leaves its arguments as they were; no condition but what the row lists; and the row's card. -/
import Derived.Test.YtejaocnhekjfiaaGreatDoorK12
import Derived.Test.YtejaocnhekjfiaaGreatDoorK16
import Derived.Test.YtejaocnhekjfiaaGreatDoorRows
import Derived.Test.YtejaocnhekjfiaaGreatDoorCards
import Derived.Test.YtejaocnhekjfiaaGreatDoorTie
import Derived.WalkKit
import Derived.ProofKit
import Derived.OpenShut
import Derived.LaidMore
import Derived.Stop.Joined
import Derived.ShutString
import Derived.ChangeOld
import Derived.Below
import Derived.ChangeSame
import Derived.SevenTiedAt
namespace Go.Proofs.YtejaocnhekjfiaaGreatDoor.topMedian
open Go.ChangeShapes Go.WideShapes Go.ChangeAt Go.RowKit
open Go.ChangeMaps (open_string shut_string)
set_option linter.unusedVariables false

theorem own : ownKnob Tryz.prog.godebug = none := by kernel_rfl
theorem laidOut : laidOutB Tryz.prog = true := by kernel_rfl
theorem list3 {α : Type} (l : List α) (h : l.toArray.size = 3) : ∃ c0 c1 c2, l = [c0, c1, c2] := by
  match l, h with
  | [c0, c1, c2], _ => exact ⟨c0, c1, c2, rfl⟩
theorem cells53 : Tryz.prog.cellsOf 53 = 3 := by kernel_rfl
theorem cells22 : Tryz.prog.cellsOf 22 = 1 := by kernel_rfl
set_option maxRecDepth 100000 in
set_option maxHeartbeats 1000000 in
theorem lifted (os : Os) (started : os.Started) (H : Type) (enc : TypeId × Value → H) :
    ReturnsInHanded {} Tryz.checked os 5 .any (fun w args => (Rows.topMedianSpec.pre enc Tryz.prog Tryz.f5 [] false w args ∧ laidMetH Tryz.prog laid7 w) ∧ sizedMet enc Tryz.prog Tryz.f5 (OpenSpec.ofChange Rows.topMedianSpec) false w args)
      (Rows.topMedianSpec.post enc Tryz.prog Tryz.f5 false true false false) := by
  refine returnsInHanded_of_change_and (C := Tryz.checked) (X := fun w _ => laidMetH Tryz.prog laid7 w) (fun _ _ _ hh h => h.of_heap hh) own started (by kernel_rfl) Tryz.func5
    (ChangeSpec.witness_shaped (enc := enc) (C := Tryz.checked) (os := os) (X := fun w _ => laidMetH Tryz.prog laid7 w) false (laidWorld os) #[.agg #[.int .i64 0, .int .i64 0, .int .i64 0, .int .i64 0, .int .u64 0], .slice none 0 0, .agg #[.int .u64 0, .int .u64 0, .int .u64 0]] 8 rfl (World.shaped_of_RefB (by kernel_rfl) (by kernel_rfl)) (by kernel_rfl) (by kernel_rfl) (by kernel_rfl) (door_met os _)) ?_
  intro W base args ds gs before hval0 hW _ _ hL _
  have hval : ∀ (j : Nat) t v, Tryz.f5.params[j]? = some t → args[j]? = some v → Value.okWide Tryz.prog W .any base t v := hval0
  have hW' := hW
  obtain ⟨p, q, hA0, hV, rfl, hfz, hnd⟩ := hW
  have hA : DataW.TrodAll enc Tryz.prog W 0 (fun _ => true) true Tryz.f5.params.toList args.toList ds p := hA0
  rw [Tryz.params5] at hA hval
  obtain ⟨v0, vs0, d0, ds0, p0, q0, hargs, rfl, rfl, h0, rr0⟩ := trodAll_cons hA
  obtain ⟨v1, vs1, d1, ds1, p1, q1, rfl, rfl, rfl, h1, rr1⟩ := trodAll_cons rr0
  obtain ⟨v2, vs2, d2, ds2, p2, q2, rfl, rfl, rfl, h2, rr2⟩ := trodAll_cons rr1
  obtain ⟨rfl, rfl, rfl⟩ := trodAll_nil rr2
  obtain rfl : args = #[v0, v1, v2] := by cases args; simp_all
  obtain ⟨rfl, rfl⟩ := trodVars_none hV
  have k0 := h0
  have lt0 : ∀ x ∈ p0, x.block < W.heap.size := by obtain ⟨m, hm⟩ := k0; exact DataW.trod_lt m _ _ _ hm
  obtain ⟨b0, r0, wd0, m0, sd0, rfl, hs0⟩ := open_cfg (hval 0 24 v0 rfl rfl) h0
  have k1 := h1
  have lt1 : ∀ x ∈ p1, x.block < W.heap.size := by obtain ⟨m, hm⟩ := k1; exact DataW.trod_lt m _ _ _ hm
  obtain ⟨a1, l1, cap1, rfl, ho1⟩ := open_ops (hval 1 25 v1 rfl rfl) h1
  have k2 := h2
  have lt2 : ∀ x ∈ p2, x.block < W.heap.size := by obtain ⟨m, hm⟩ := k2; exact DataW.trod_lt m _ _ _ hm
  obtain ⟨cs2, rfl, hsz2, _⟩ : ∃ cs, v2 = .agg cs ∧ cs.size = Tryz.prog.cellsOf 53 ∧ Row.okWide Tryz.prog W .any base 53 cs := by
    have := hval 2 53 v2 rfl rfl
    simpa [Value.okWide, Tryz.underlying53] using this
  rw [cells53] at hsz2
  obtain ⟨l2⟩ := cs2
  obtain ⟨c0, c1, c2, rfl⟩ := list3 l2 hsz2
  obtain ⟨fuel2, hf2⟩ := h2
  obtain ⟨xs2, m2, _, hx2, _, hl2, hel2⟩ := DataW.trod_array Tryz.underlying53 hf2
  rw [cells22] at hel2
  obtain ⟨y20, hy20⟩ : ∃ y, xs2[0]? = some y := ⟨xs2[0]'(by omega), by rw [List.getElem?_eq_getElem]⟩
  have g20 := hel2 0 (by omega)
  rw [hy20] at g20
  obtain ⟨a2_0, e20, _, w2_0⟩ := DataW.trod_int Tryz.underlying22 g20
  simp [Value.cells] at e20
  obtain ⟨y21, hy21⟩ : ∃ y, xs2[1]? = some y := ⟨xs2[1]'(by omega), by rw [List.getElem?_eq_getElem]⟩
  have g21 := hel2 1 (by omega)
  rw [hy21] at g21
  obtain ⟨a2_1, e21, _, w2_1⟩ := DataW.trod_int Tryz.underlying22 g21
  simp [Value.cells] at e21
  obtain ⟨y22, hy22⟩ : ∃ y, xs2[2]? = some y := ⟨xs2[2]'(by omega), by rw [List.getElem?_eq_getElem]⟩
  have g22 := hel2 2 (by omega)
  rw [hy22] at g22
  obtain ⟨a2_2, e22, _, w2_2⟩ := DataW.trod_int Tryz.underlying22 g22
  simp [Value.cells] at e22
  subst e20 e21 e22
  obtain ⟨n2_0, rfl, hn2_0⟩ := nat_of w2_0
  obtain ⟨n2_1, rfl, hn2_1⟩ := nat_of w2_1
  obtain ⟨n2_2, rfl, hn2_2⟩ := nat_of w2_2
  clear hA0 hval0
  have hT := tabs_of_laid hL
  refine (median_any b0 r0 wd0 m0 sd0 W hT hs0 a1 l1 cap1 ho1 n2_0 n2_1 n2_2 hn2_0 hn2_1 hn2_2).mono fun e W' ⟨he, bel⟩ => ?_
  subst he
  exact ⟨_, rfl, _, _, _, [], _, [], hW', trodAll_mk1 (shut_bool Tryz.underlying4 _), (trodAll_cons_mk (Below.trod laidOut (by kernel_rfl) (of_decide_eq_true (by kernel_rfl)) k0 bel lt0) (trodAll_cons_mk (Below.trod laidOut (by kernel_rfl) (of_decide_eq_true (by kernel_rfl)) k1 bel lt1) (trodAll_cons_mk (Below.trod laidOut (by kernel_rfl) (of_decide_eq_true (by kernel_rfl)) k2 bel lt2) trodAll_mk0))), rfl, bel.frame _, fun h => by cases h⟩

theorem and2 {a b : Bool} (ha : a = true) (hb : b = true) : (a && b) = true := by rw [ha, hb]; rfl
set_option maxHeartbeats 20000000 in
set_option maxRecDepth 100000 in
theorem closed : joinedFacts Tryz.prog 5 Tryz.f5 Rows.topMedianSpec Rows.topMedianRow = true := by
  unfold joinedFacts
  repeat' (with_reducible apply and2)
  all_goals (as_aux_lemma => kernel_rfl)
theorem named : Tryz.prog.funcNamed "gauger/gaugertop.TopMedian" = some 5 := by kernel_rfl
theorem inst : (Tryz.f5).isInstance Tryz.prog Rows.topMedianRow.origin Rows.topMedianRow.targs := of_decide_eq_true (by kernel_rfl)
theorem wrap : (Tryz.f5).isWrapper Tryz.prog Rows.topMedianRow.wrapper Rows.topMedianRow.mainSum := by
  unfold Func.isWrapper; first | (rw [if_pos (by decide +kernel)]; kernel_rfl) | (rw [if_neg (by decide +kernel)]; exact ⟨rfl, rfl⟩)
theorem over : Rows.TopMedianSaid :=
  OpenClaim.holds_of_wide 5 Tryz.f5 rfl rfl rfl rfl rfl rfl rfl ⟨rfl, rfl, rfl, rfl, rfl⟩ rfl rfl rfl rfl rfl named Tryz.func5 closed inst wrap
    (fun os started H enc _ => lifted os started H enc)

/-- THE STATEMENT -/
theorem proved : Rows.TopMedianCardSaid :=
  Claim7.holds_tied_plain_at .later [] [.data, .data, .data, .data, .sentinel, .sentinel, .pinned] true (true, "b3bbf6cc72bcc2b640276ceb1a487a31f18ed8760ae2ced7450543b15a73aa88") true
    over (fun _ h => by cases h) (by kernel_rfl) (fun _ h => by cases h) topMedian_row_tie rfl ⟨rfl, rfl⟩ (by kernel_rfl) rfl
    (fun f fn hf hfn => by
      obtain rfl : f = 5 := Option.some.inj (named.symm.trans hf) |>.symm
      obtain rfl : fn = Tryz.f5 := (Option.some.inj (Tryz.func5.symm.trans hfn)).symm
      exact ⟨by kernel_rfl, fun j t ht => by
        rw [Tryz.params5] at ht
        have h3 : t = 24 ∨ t = 25 ∨ t = 53 := by
          match j, ht with
          | 0, ht => simp at ht; simp [← ht]
          | 1, ht => simp at ht; simp [← ht]
          | 2, ht => simp at ht; simp [← ht]
          | j + 3, ht => simp at ht
        rcases h3 with rfl | rfl | rfl
        · exact (show Tryz.prog.wantsStandIn 24 = false by kernel_rfl)
        · exact (show Tryz.prog.wantsStandIn 25 = false by kernel_rfl)
        · exact (show Tryz.prog.wantsStandIn 53 = false by kernel_rfl)⟩)
    (by kernel_rfl)
end Go.Proofs.YtejaocnhekjfiaaGreatDoor.topMedian

