/-
  No cell of these rows narrows 'for every input' (looked for: loops, veiled, ifaces, maps, wideKeys, modest, calm, conditions, laid).
  DERIVED. THE GIVEN ROWS OF THIS SEAT. 5 by the template 'for every input the law returns true; each argument reads behind the call as it read before'; 0 by the template 'total and deterministic' (their statements: YtgbjaglkmjipmaaTotals.lean).
  GIVEN WITH THE SEED: the statements are not yours to turn. If you find one false, say at which input.
  Laid BY PROGRAM, IN A SANDBOX (cutbox-rows.mjs): the forced cells as the released guide's own fill.sh prints them over the translation d836e4b19a0b7502… (all of the seat's roots in one cut). By AI agents, Wed Nov 11 2026. No macro, syntax, notation, axiom, sorry.
-/
import Derived.Test.YtgbjaglkmjipmaaChecked
import GoSem.Claim
import GoSem.ClaimJoined
import GoSem.ClaimMapViews
import Derived.JoinedTies
import Derived.KernelRfl
namespace Go.Proofs.Ytgbjaglkmjipmaa
/- THE CELL 'sum', in the pinned program and in every row, IS THE sha256 OF THE DUMP (.gsa) THAT YtgbjaglkmjipmaaProg.lean LOADS. Nothing in Lean hashes anything: it is a label: what it is worth is what the hold of that sum in a sandbox is worth. -/
noncomputable def Try.pinned : Pinned := { name := "ytgbjaglkmjipmaa", sum := "d836e4b19a0b7502e8430ab5d4e359d34cd09ca3a24a697af757f247817f0367", checked := Try.checked }
namespace Rows
def none {H : Type} : Left H := { results := [], args := [] }

/-- 'gaugerlaw22.CheckTells': WHATEVER THE INPUT: true; the input reads as it did. -/
def checkTellsSpec : ChangeSpec := { name := "checkTells", fn := fun _ => fun
  | [d1, d2] => { results := [.lit (.bool true)], args := [d1, d2] }
  | _ => none }
def checkTellsRow : OpenClaim := { program := "ytgbjaglkmjipmaa", sum := "d836e4b19a0b7502e8430ab5d4e359d34cd09ca3a24a697af757f247817f0367", func := "gauger/gaugerlaw22.CheckTells", spec := "checkTells", unfollowed := true, recurses := true, apart := false }
def CheckTellsSaid : Prop := checkTellsRow.holds Try.pinned (OpenSpec.ofChange checkTellsSpec)

/-- ITS FALSE NEIGHBOUR: 'it returns false'. Refute it at one input. -/
def checkTellsWrong : ChangeSpec := { name := "checkTells", fn := fun _ => fun
  | [d1, d2] => { results := [.lit (.bool false)], args := [d1, d2] }
  | _ => none }
def CheckTellsWrongFalsely : Prop := checkTellsRow.holds Try.pinned (OpenSpec.ofChange checkTellsWrong)

/-- 'gaugerlaw22.CheckBack': WHATEVER THE INPUT: true; the input reads as it did. -/
def checkBackSpec : ChangeSpec := { name := "checkBack", fn := fun _ => fun
  | [d1, d2] => { results := [.lit (.bool true)], args := [d1, d2] }
  | _ => none }
def checkBackRow : OpenClaim := { program := "ytgbjaglkmjipmaa", sum := "d836e4b19a0b7502e8430ab5d4e359d34cd09ca3a24a697af757f247817f0367", func := "gauger/gaugerlaw22.CheckBack", spec := "checkBack", unfollowed := true, recurses := true, apart := false }
def CheckBackSaid : Prop := checkBackRow.holds Try.pinned (OpenSpec.ofChange checkBackSpec)

/-- ITS FALSE NEIGHBOUR: 'it returns false'. Refute it at one input. -/
def checkBackWrong : ChangeSpec := { name := "checkBack", fn := fun _ => fun
  | [d1, d2] => { results := [.lit (.bool false)], args := [d1, d2] }
  | _ => none }
def CheckBackWrongFalsely : Prop := checkBackRow.holds Try.pinned (OpenSpec.ofChange checkBackWrong)

/-- 'gaugerlaw22.CheckParts': WHATEVER THE INPUT: true; the input reads as it did. -/
def checkPartsSpec : ChangeSpec := { name := "checkParts", fn := fun _ => fun
  | [d1, d2] => { results := [.lit (.bool true)], args := [d1, d2] }
  | _ => none }
def checkPartsRow : OpenClaim := { program := "ytgbjaglkmjipmaa", sum := "d836e4b19a0b7502e8430ab5d4e359d34cd09ca3a24a697af757f247817f0367", func := "gauger/gaugerlaw22.CheckParts", spec := "checkParts", unfollowed := true, recurses := true, apart := false }
def CheckPartsSaid : Prop := checkPartsRow.holds Try.pinned (OpenSpec.ofChange checkPartsSpec)

/-- ITS FALSE NEIGHBOUR: 'it returns false'. Refute it at one input. -/
def checkPartsWrong : ChangeSpec := { name := "checkParts", fn := fun _ => fun
  | [d1, d2] => { results := [.lit (.bool false)], args := [d1, d2] }
  | _ => none }
def CheckPartsWrongFalsely : Prop := checkPartsRow.holds Try.pinned (OpenSpec.ofChange checkPartsWrong)

/-- 'gaugerlaw22.CheckNear': WHATEVER THE INPUT: true; the input reads as it did. -/
def checkNearSpec : ChangeSpec := { name := "checkNear", fn := fun _ => fun
  | [d1, d2, d3] => { results := [.lit (.bool true)], args := [d1, d2, d3] }
  | _ => none }
def checkNearRow : OpenClaim := { program := "ytgbjaglkmjipmaa", sum := "d836e4b19a0b7502e8430ab5d4e359d34cd09ca3a24a697af757f247817f0367", func := "gauger/gaugerlaw22.CheckNear", spec := "checkNear", unfollowed := true, recurses := true, apart := false }
def CheckNearSaid : Prop := checkNearRow.holds Try.pinned (OpenSpec.ofChange checkNearSpec)

/-- ITS FALSE NEIGHBOUR: 'it returns false'. Refute it at one input. -/
def checkNearWrong : ChangeSpec := { name := "checkNear", fn := fun _ => fun
  | [d1, d2, d3] => { results := [.lit (.bool false)], args := [d1, d2, d3] }
  | _ => none }
def CheckNearWrongFalsely : Prop := checkNearRow.holds Try.pinned (OpenSpec.ofChange checkNearWrong)

/-- 'gaugerlaw22.CheckXors': WHATEVER THE INPUT: true; the input reads as it did. -/
def checkXorsSpec : ChangeSpec := { name := "checkXors", fn := fun _ => fun
  | [d1, d2, d3] => { results := [.lit (.bool true)], args := [d1, d2, d3] }
  | _ => none }
def checkXorsRow : OpenClaim := { program := "ytgbjaglkmjipmaa", sum := "d836e4b19a0b7502e8430ab5d4e359d34cd09ca3a24a697af757f247817f0367", func := "gauger/gaugerlaw22.CheckXors", spec := "checkXors", unfollowed := true, recurses := true, apart := false }
def CheckXorsSaid : Prop := checkXorsRow.holds Try.pinned (OpenSpec.ofChange checkXorsSpec)

/-- ITS FALSE NEIGHBOUR: 'it returns false'. Refute it at one input. -/
def checkXorsWrong : ChangeSpec := { name := "checkXors", fn := fun _ => fun
  | [d1, d2, d3] => { results := [.lit (.bool false)], args := [d1, d2, d3] }
  | _ => none }
def CheckXorsWrongFalsely : Prop := checkXorsRow.holds Try.pinned (OpenSpec.ofChange checkXorsWrong)

/- THE SECOND FORM. 'bulk': how many values and letters a reading holds, each counted each time it is reached (what is shared counts as often as it is met; a slice's spare places count too). A statement '..UptoSaid' is the law's where the arguments, and the package variables that the reading takes, are together of bulk at most 1048576: NARROWER than '..Said'. Prove '..Said' where nothing that the law and all that it calls make is longer than what came in: it says more and counts as full. Else prove '..UptoSaid'. A law counts once. -/
mutual
def uptoBulk {H : Type} : DataW H → Nat
  | .lit (.string bytes) => bytes.length + 1
  | .lit _ => 1
  | .nil => 1
  | .ptr d => uptoBulk d + 1
  | .slice elems spare => uptoBulkAll elems + uptoBulkAll spare + 1
  | .agg parts => uptoBulkAll parts + 1
  | .iface _ d => uptoBulk d + 1
  | .map entries => uptoBulkEntries entries + 1
  | .held _ => 1
def uptoBulkAll {H : Type} : List (DataW H) → Nat
  | [] => 0
  | d :: r => uptoBulk d + uptoBulkAll r
def uptoBulkEntries {H : Type} : List (Lit × DataW H) → Nat
  | [] => 0
  | x :: r => uptoBulkEntry x + uptoBulkEntries r
def uptoBulkEntry {H : Type} : Lit × DataW H → Nat
  | (.string bytes, d) => bytes.length + uptoBulk d + 1
  | (_, d) => uptoBulk d + 1
 end
def uptoSmall : (H : Type) → List (DataW H) → Bool := fun _ ds => decide (uptoBulkAll ds ≤ 1048576)
def OpenSpec.upto (s : _root_.Go.ChangeSpec) : _root_.Go.OpenSpec := { _root_.Go.OpenSpec.ofChange s with cond := some uptoSmall }

/-- 'gaugerlaw22.CheckTells', WHERE WHAT IT READS IS OF BULK AT MOST 1048576: true; the input reads as it did. -/
def checkTellsUptoRow : OpenClaim := { program := "ytgbjaglkmjipmaa", sum := "d836e4b19a0b7502e8430ab5d4e359d34cd09ca3a24a697af757f247817f0367", func := "gauger/gaugerlaw22.CheckTells", spec := "checkTells", unfollowed := true, recurses := true, apart := false, narrowed := true }
def CheckTellsUptoSaid : Prop := checkTellsUptoRow.holds Try.pinned (OpenSpec.upto checkTellsSpec)

/-- 'gaugerlaw22.CheckBack', WHERE WHAT IT READS IS OF BULK AT MOST 1048576: true; the input reads as it did. -/
def checkBackUptoRow : OpenClaim := { program := "ytgbjaglkmjipmaa", sum := "d836e4b19a0b7502e8430ab5d4e359d34cd09ca3a24a697af757f247817f0367", func := "gauger/gaugerlaw22.CheckBack", spec := "checkBack", unfollowed := true, recurses := true, apart := false, narrowed := true }
def CheckBackUptoSaid : Prop := checkBackUptoRow.holds Try.pinned (OpenSpec.upto checkBackSpec)

/-- 'gaugerlaw22.CheckParts', WHERE WHAT IT READS IS OF BULK AT MOST 1048576: true; the input reads as it did. -/
def checkPartsUptoRow : OpenClaim := { program := "ytgbjaglkmjipmaa", sum := "d836e4b19a0b7502e8430ab5d4e359d34cd09ca3a24a697af757f247817f0367", func := "gauger/gaugerlaw22.CheckParts", spec := "checkParts", unfollowed := true, recurses := true, apart := false, narrowed := true }
def CheckPartsUptoSaid : Prop := checkPartsUptoRow.holds Try.pinned (OpenSpec.upto checkPartsSpec)

/-- 'gaugerlaw22.CheckNear', WHERE WHAT IT READS IS OF BULK AT MOST 1048576: true; the input reads as it did. -/
def checkNearUptoRow : OpenClaim := { program := "ytgbjaglkmjipmaa", sum := "d836e4b19a0b7502e8430ab5d4e359d34cd09ca3a24a697af757f247817f0367", func := "gauger/gaugerlaw22.CheckNear", spec := "checkNear", unfollowed := true, recurses := true, apart := false, narrowed := true }
def CheckNearUptoSaid : Prop := checkNearUptoRow.holds Try.pinned (OpenSpec.upto checkNearSpec)

/-- 'gaugerlaw22.CheckXors', WHERE WHAT IT READS IS OF BULK AT MOST 1048576: true; the input reads as it did. -/
def checkXorsUptoRow : OpenClaim := { program := "ytgbjaglkmjipmaa", sum := "d836e4b19a0b7502e8430ab5d4e359d34cd09ca3a24a697af757f247817f0367", func := "gauger/gaugerlaw22.CheckXors", spec := "checkXors", unfollowed := true, recurses := true, apart := false, narrowed := true }
def CheckXorsUptoSaid : Prop := checkXorsUptoRow.holds Try.pinned (OpenSpec.upto checkXorsSpec)

end Rows
end Go.Proofs.Ytgbjaglkmjipmaa
