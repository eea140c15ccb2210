/-
  No cell of these rows narrows 'for every input' (looked for: loops, veiled, ifaces, maps, wideKeys, modest, calm, conditions, laid).
  DERIVED. THE GIVEN ROWS OF THIS SEAT. 6 by the template 'for every input the law returns true; each argument reads behind the call as it read before'; 0 by the template 'total and deterministic' (their statements: YtlmmmfkhmlafgaaTotals.lean).
  GIVEN WITH THE SEED: the statements are not yours to turn. If you find one false, say at which input.
  Laid BY PROGRAM, IN A SANDBOX (cutbox-rows.mjs): the forced cells as the released guide's own fill.sh prints them over the translation 288f42c298be5bcf… (all of the seat's roots in one cut). By AI agents, Wed Nov 11 2026. No macro, syntax, notation, axiom, sorry.
-/
import Derived.Test.YtlmmmfkhmlafgaaChecked
import GoSem.Claim
import GoSem.ClaimJoined
import GoSem.ClaimMapViews
import Derived.JoinedTies
import Derived.KernelRfl
namespace Go.Proofs.Ytlmmmfkhmlafgaa
/- THE CELL 'sum', in the pinned program and in every row, IS THE sha256 OF THE DUMP (.gsa) THAT YtlmmmfkhmlafgaaProg.lean LOADS. Nothing in Lean hashes anything: it is a label: what it is worth is what the hold of that sum in a sandbox is worth. -/
noncomputable def Try.pinned : Pinned := { name := "ytlmmmfkhmlafgaa", sum := "288f42c298be5bcf698e755e2e90ee55eb9d56a7574be705d545190b99f6a555", checked := Try.checked }
namespace Rows
def none {H : Type} : Left H := { results := [], args := [] }

/-- 'gaugerlaw05.OrderTells': WHATEVER THE INPUT: true; the input reads as it did. -/
def orderTellsSpec : ChangeSpec := { name := "orderTells", fn := fun _ => fun
  | [d1, d2] => { results := [.lit (.bool true)], args := [d1, d2] }
  | _ => none }
def orderTellsRow : OpenClaim := { program := "ytlmmmfkhmlafgaa", sum := "288f42c298be5bcf698e755e2e90ee55eb9d56a7574be705d545190b99f6a555", func := "gauger/gaugerlaw05.OrderTells", spec := "orderTells", apart := false }
def OrderTellsSaid : Prop := orderTellsRow.holds Try.pinned (OpenSpec.ofChange orderTellsSpec)

/-- ITS FALSE NEIGHBOUR: 'it returns false'. Refute it at one input. -/
def orderTellsWrong : ChangeSpec := { name := "orderTells", fn := fun _ => fun
  | [d1, d2] => { results := [.lit (.bool false)], args := [d1, d2] }
  | _ => none }
def OrderTellsWrongFalsely : Prop := orderTellsRow.holds Try.pinned (OpenSpec.ofChange orderTellsWrong)

/-- 'gaugerlaw05.OrderNear': WHATEVER THE INPUT: true; the input reads as it did. -/
def orderNearSpec : ChangeSpec := { name := "orderNear", fn := fun _ => fun
  | [d1, d2, d3] => { results := [.lit (.bool true)], args := [d1, d2, d3] }
  | _ => none }
def orderNearRow : OpenClaim := { program := "ytlmmmfkhmlafgaa", sum := "288f42c298be5bcf698e755e2e90ee55eb9d56a7574be705d545190b99f6a555", func := "gauger/gaugerlaw05.OrderNear", spec := "orderNear", apart := false }
def OrderNearSaid : Prop := orderNearRow.holds Try.pinned (OpenSpec.ofChange orderNearSpec)

/-- ITS FALSE NEIGHBOUR: 'it returns false'. Refute it at one input. -/
def orderNearWrong : ChangeSpec := { name := "orderNear", fn := fun _ => fun
  | [d1, d2, d3] => { results := [.lit (.bool false)], args := [d1, d2, d3] }
  | _ => none }
def OrderNearWrongFalsely : Prop := orderNearRow.holds Try.pinned (OpenSpec.ofChange orderNearWrong)

/-- 'gaugerlaw05.OrderCounts': WHATEVER THE INPUT: true; the input reads as it did. -/
def orderCountsSpec : ChangeSpec := { name := "orderCounts", fn := fun _ => fun
  | [d1, d2] => { results := [.lit (.bool true)], args := [d1, d2] }
  | _ => none }
def orderCountsRow : OpenClaim := { program := "ytlmmmfkhmlafgaa", sum := "288f42c298be5bcf698e755e2e90ee55eb9d56a7574be705d545190b99f6a555", func := "gauger/gaugerlaw05.OrderCounts", spec := "orderCounts", apart := false }
def OrderCountsSaid : Prop := orderCountsRow.holds Try.pinned (OpenSpec.ofChange orderCountsSpec)

/-- ITS FALSE NEIGHBOUR: 'it returns false'. Refute it at one input. -/
def orderCountsWrong : ChangeSpec := { name := "orderCounts", fn := fun _ => fun
  | [d1, d2] => { results := [.lit (.bool false)], args := [d1, d2] }
  | _ => none }
def OrderCountsWrongFalsely : Prop := orderCountsRow.holds Try.pinned (OpenSpec.ofChange orderCountsWrong)

/-- 'gaugerlaw05.OrderTurned': WHATEVER THE INPUT: true; the input reads as it did. -/
def orderTurnedSpec : ChangeSpec := { name := "orderTurned", fn := fun _ => fun
  | [d1, d2, d3] => { results := [.lit (.bool true)], args := [d1, d2, d3] }
  | _ => none }
def orderTurnedRow : OpenClaim := { program := "ytlmmmfkhmlafgaa", sum := "288f42c298be5bcf698e755e2e90ee55eb9d56a7574be705d545190b99f6a555", func := "gauger/gaugerlaw05.OrderTurned", spec := "orderTurned", apart := false }
def OrderTurnedSaid : Prop := orderTurnedRow.holds Try.pinned (OpenSpec.ofChange orderTurnedSpec)

/-- ITS FALSE NEIGHBOUR: 'it returns false'. Refute it at one input. -/
def orderTurnedWrong : ChangeSpec := { name := "orderTurned", fn := fun _ => fun
  | [d1, d2, d3] => { results := [.lit (.bool false)], args := [d1, d2, d3] }
  | _ => none }
def OrderTurnedWrongFalsely : Prop := orderTurnedRow.holds Try.pinned (OpenSpec.ofChange orderTurnedWrong)

/-- 'gaugerlaw05.OrderMoves': WHATEVER THE INPUT: true; the input reads as it did. -/
def orderMovesSpec : ChangeSpec := { name := "orderMoves", fn := fun _ => fun
  | [d1, d2] => { results := [.lit (.bool true)], args := [d1, d2] }
  | _ => none }
def orderMovesRow : OpenClaim := { program := "ytlmmmfkhmlafgaa", sum := "288f42c298be5bcf698e755e2e90ee55eb9d56a7574be705d545190b99f6a555", func := "gauger/gaugerlaw05.OrderMoves", spec := "orderMoves", apart := false }
def OrderMovesSaid : Prop := orderMovesRow.holds Try.pinned (OpenSpec.ofChange orderMovesSpec)

/-- ITS FALSE NEIGHBOUR: 'it returns false'. Refute it at one input. -/
def orderMovesWrong : ChangeSpec := { name := "orderMoves", fn := fun _ => fun
  | [d1, d2] => { results := [.lit (.bool false)], args := [d1, d2] }
  | _ => none }
def OrderMovesWrongFalsely : Prop := orderMovesRow.holds Try.pinned (OpenSpec.ofChange orderMovesWrong)

/-- 'gaugerlaw05.OrderRises': WHATEVER THE INPUT: true; the input reads as it did. -/
def orderRisesSpec : ChangeSpec := { name := "orderRises", fn := fun _ => fun
  | [d] => { results := [.lit (.bool true)], args := [d] }
  | _ => none }
def orderRisesRow : OpenClaim := { program := "ytlmmmfkhmlafgaa", sum := "288f42c298be5bcf698e755e2e90ee55eb9d56a7574be705d545190b99f6a555", func := "gauger/gaugerlaw05.OrderRises", spec := "orderRises", apart := false }
def OrderRisesSaid : Prop := orderRisesRow.holds Try.pinned (OpenSpec.ofChange orderRisesSpec)

/-- ITS FALSE NEIGHBOUR: 'it returns false'. Refute it at one input. -/
def orderRisesWrong : ChangeSpec := { name := "orderRises", fn := fun _ => fun
  | [d] => { results := [.lit (.bool false)], args := [d] }
  | _ => none }
def OrderRisesWrongFalsely : Prop := orderRisesRow.holds Try.pinned (OpenSpec.ofChange orderRisesWrong)

/- THE SECOND FORM. 'bulk': how many values and letters a reading holds, each counted each time it is reached (what is shared counts as often as it is met; a slice's spare places count too). A statement '..UptoSaid' is the law's where the arguments, and the package variables that the reading takes, are together of bulk at most 1048576: NARROWER than '..Said'. Prove '..Said' where nothing that the law and all that it calls make is longer than what came in: it says more and counts as full. Else prove '..UptoSaid'. A law counts once. -/
mutual
def uptoBulk {H : Type} : DataW H → Nat
  | .lit (.string bytes) => bytes.length + 1
  | .lit _ => 1
  | .nil => 1
  | .ptr d => uptoBulk d + 1
  | .slice elems spare => uptoBulkAll elems + uptoBulkAll spare + 1
  | .agg parts => uptoBulkAll parts + 1
  | .iface _ d => uptoBulk d + 1
  | .map entries => uptoBulkEntries entries + 1
  | .held _ => 1
def uptoBulkAll {H : Type} : List (DataW H) → Nat
  | [] => 0
  | d :: r => uptoBulk d + uptoBulkAll r
def uptoBulkEntries {H : Type} : List (Lit × DataW H) → Nat
  | [] => 0
  | x :: r => uptoBulkEntry x + uptoBulkEntries r
def uptoBulkEntry {H : Type} : Lit × DataW H → Nat
  | (.string bytes, d) => bytes.length + uptoBulk d + 1
  | (_, d) => uptoBulk d + 1
 end
def uptoSmall : (H : Type) → List (DataW H) → Bool := fun _ ds => decide (uptoBulkAll ds ≤ 1048576)
def OpenSpec.upto (s : _root_.Go.ChangeSpec) : _root_.Go.OpenSpec := { _root_.Go.OpenSpec.ofChange s with cond := some uptoSmall }

/-- 'gaugerlaw05.OrderTells', WHERE WHAT IT READS IS OF BULK AT MOST 1048576: true; the input reads as it did. -/
def orderTellsUptoRow : OpenClaim := { program := "ytlmmmfkhmlafgaa", sum := "288f42c298be5bcf698e755e2e90ee55eb9d56a7574be705d545190b99f6a555", func := "gauger/gaugerlaw05.OrderTells", spec := "orderTells", apart := false, narrowed := true }
def OrderTellsUptoSaid : Prop := orderTellsUptoRow.holds Try.pinned (OpenSpec.upto orderTellsSpec)

/-- 'gaugerlaw05.OrderNear', WHERE WHAT IT READS IS OF BULK AT MOST 1048576: true; the input reads as it did. -/
def orderNearUptoRow : OpenClaim := { program := "ytlmmmfkhmlafgaa", sum := "288f42c298be5bcf698e755e2e90ee55eb9d56a7574be705d545190b99f6a555", func := "gauger/gaugerlaw05.OrderNear", spec := "orderNear", apart := false, narrowed := true }
def OrderNearUptoSaid : Prop := orderNearUptoRow.holds Try.pinned (OpenSpec.upto orderNearSpec)

/-- 'gaugerlaw05.OrderCounts', WHERE WHAT IT READS IS OF BULK AT MOST 1048576: true; the input reads as it did. -/
def orderCountsUptoRow : OpenClaim := { program := "ytlmmmfkhmlafgaa", sum := "288f42c298be5bcf698e755e2e90ee55eb9d56a7574be705d545190b99f6a555", func := "gauger/gaugerlaw05.OrderCounts", spec := "orderCounts", apart := false, narrowed := true }
def OrderCountsUptoSaid : Prop := orderCountsUptoRow.holds Try.pinned (OpenSpec.upto orderCountsSpec)

/-- 'gaugerlaw05.OrderTurned', WHERE WHAT IT READS IS OF BULK AT MOST 1048576: true; the input reads as it did. -/
def orderTurnedUptoRow : OpenClaim := { program := "ytlmmmfkhmlafgaa", sum := "288f42c298be5bcf698e755e2e90ee55eb9d56a7574be705d545190b99f6a555", func := "gauger/gaugerlaw05.OrderTurned", spec := "orderTurned", apart := false, narrowed := true }
def OrderTurnedUptoSaid : Prop := orderTurnedUptoRow.holds Try.pinned (OpenSpec.upto orderTurnedSpec)

/-- 'gaugerlaw05.OrderMoves', WHERE WHAT IT READS IS OF BULK AT MOST 1048576: true; the input reads as it did. -/
def orderMovesUptoRow : OpenClaim := { program := "ytlmmmfkhmlafgaa", sum := "288f42c298be5bcf698e755e2e90ee55eb9d56a7574be705d545190b99f6a555", func := "gauger/gaugerlaw05.OrderMoves", spec := "orderMoves", apart := false, narrowed := true }
def OrderMovesUptoSaid : Prop := orderMovesUptoRow.holds Try.pinned (OpenSpec.upto orderMovesSpec)

/-- 'gaugerlaw05.OrderRises', WHERE WHAT IT READS IS OF BULK AT MOST 1048576: true; the input reads as it did. -/
def orderRisesUptoRow : OpenClaim := { program := "ytlmmmfkhmlafgaa", sum := "288f42c298be5bcf698e755e2e90ee55eb9d56a7574be705d545190b99f6a555", func := "gauger/gaugerlaw05.OrderRises", spec := "orderRises", apart := false, narrowed := true }
def OrderRisesUptoSaid : Prop := orderRisesUptoRow.holds Try.pinned (OpenSpec.upto orderRisesSpec)

end Rows
end Go.Proofs.Ytlmmmfkhmlafgaa
