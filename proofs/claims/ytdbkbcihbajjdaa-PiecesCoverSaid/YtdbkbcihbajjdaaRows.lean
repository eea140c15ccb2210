/-
  No cell of these rows narrows 'for every input' (looked for: loops, veiled, ifaces, maps, wideKeys, modest, calm, conditions, laid).
  DERIVED. THE GIVEN ROWS OF THIS SEAT. 6 by the template 'for every input the law returns true; each argument reads behind the call as it read before'; 0 by the template 'total and deterministic' (their statements: YtdbkbcihbajjdaaTotals.lean).
  GIVEN WITH THE SEED: the statements are not yours to turn. If you find one false, say at which input.
  Laid BY PROGRAM, IN A SANDBOX (cutbox-rows.mjs): the forced cells as the released guide's own fill.sh prints them over the translation a332486608c1872b… (all of the seat's roots in one cut). By AI agents, Wed Nov 11 2026. No macro, syntax, notation, axiom, sorry.
-/
import Derived.Test.YtdbkbcihbajjdaaChecked
import GoSem.Claim
import GoSem.ClaimJoined
import GoSem.ClaimMapViews
import Derived.JoinedTies
import Derived.KernelRfl
namespace Go.Proofs.Ytdbkbcihbajjdaa
/- THE CELL 'sum', in the pinned program and in every row, IS THE sha256 OF THE DUMP (.gsa) THAT YtdbkbcihbajjdaaProg.lean LOADS. Nothing in Lean hashes anything: it is a label: what it is worth is what the hold of that sum in a sandbox is worth. -/
noncomputable def Try.pinned : Pinned := { name := "ytdbkbcihbajjdaa", sum := "a332486608c1872ba51dcd20320c721134e59c607d013a9657bbb96c21fa3dc5", checked := Try.checked }
namespace Rows
def none {H : Type} : Left H := { results := [], args := [] }

/-- 'gaugerlaw14.PiecesCover': WHATEVER THE INPUT: true; the input reads as it did. -/
def piecesCoverSpec : ChangeSpec := { name := "piecesCover", fn := fun _ => fun
  | [d1, d2, d3] => { results := [.lit (.bool true)], args := [d1, d2, d3] }
  | _ => none }
def piecesCoverRow : OpenClaim := { program := "ytdbkbcihbajjdaa", sum := "a332486608c1872ba51dcd20320c721134e59c607d013a9657bbb96c21fa3dc5", func := "gauger/gaugerlaw14.PiecesCover", spec := "piecesCover", unfollowed := true, recurses := true, apart := false }
def PiecesCoverSaid : Prop := piecesCoverRow.holds Try.pinned (OpenSpec.ofChange piecesCoverSpec)

/-- ITS FALSE NEIGHBOUR: 'it returns false'. Refute it at one input. -/
def piecesCoverWrong : ChangeSpec := { name := "piecesCover", fn := fun _ => fun
  | [d1, d2, d3] => { results := [.lit (.bool false)], args := [d1, d2, d3] }
  | _ => none }
def PiecesCoverWrongFalsely : Prop := piecesCoverRow.holds Try.pinned (OpenSpec.ofChange piecesCoverWrong)

/-- 'gaugerlaw14.PiecesSpan': WHATEVER THE INPUT: true; the input reads as it did. -/
def piecesSpanSpec : ChangeSpec := { name := "piecesSpan", fn := fun _ => fun
  | [d1, d2] => { results := [.lit (.bool true)], args := [d1, d2] }
  | _ => none }
def piecesSpanRow : OpenClaim := { program := "ytdbkbcihbajjdaa", sum := "a332486608c1872ba51dcd20320c721134e59c607d013a9657bbb96c21fa3dc5", func := "gauger/gaugerlaw14.PiecesSpan", spec := "piecesSpan", unfollowed := true, recurses := true, apart := false }
def PiecesSpanSaid : Prop := piecesSpanRow.holds Try.pinned (OpenSpec.ofChange piecesSpanSpec)

/-- ITS FALSE NEIGHBOUR: 'it returns false'. Refute it at one input. -/
def piecesSpanWrong : ChangeSpec := { name := "piecesSpan", fn := fun _ => fun
  | [d1, d2] => { results := [.lit (.bool false)], args := [d1, d2] }
  | _ => none }
def PiecesSpanWrongFalsely : Prop := piecesSpanRow.holds Try.pinned (OpenSpec.ofChange piecesSpanWrong)

/-- 'gaugerlaw14.PiecesJoin': WHATEVER THE INPUT: true; the input reads as it did. -/
def piecesJoinSpec : ChangeSpec := { name := "piecesJoin", fn := fun _ => fun
  | [d1, d2, d3] => { results := [.lit (.bool true)], args := [d1, d2, d3] }
  | _ => none }
def piecesJoinRow : OpenClaim := { program := "ytdbkbcihbajjdaa", sum := "a332486608c1872ba51dcd20320c721134e59c607d013a9657bbb96c21fa3dc5", func := "gauger/gaugerlaw14.PiecesJoin", spec := "piecesJoin", unfollowed := true, recurses := true, apart := false }
def PiecesJoinSaid : Prop := piecesJoinRow.holds Try.pinned (OpenSpec.ofChange piecesJoinSpec)

/-- ITS FALSE NEIGHBOUR: 'it returns false'. Refute it at one input. -/
def piecesJoinWrong : ChangeSpec := { name := "piecesJoin", fn := fun _ => fun
  | [d1, d2, d3] => { results := [.lit (.bool false)], args := [d1, d2, d3] }
  | _ => none }
def PiecesJoinWrongFalsely : Prop := piecesJoinRow.holds Try.pinned (OpenSpec.ofChange piecesJoinWrong)

/-- 'gaugerlaw14.PiecesFew': WHATEVER THE INPUT: true; the input reads as it did. -/
def piecesFewSpec : ChangeSpec := { name := "piecesFew", fn := fun _ => fun
  | [d1, d2, d3] => { results := [.lit (.bool true)], args := [d1, d2, d3] }
  | _ => none }
def piecesFewRow : OpenClaim := { program := "ytdbkbcihbajjdaa", sum := "a332486608c1872ba51dcd20320c721134e59c607d013a9657bbb96c21fa3dc5", func := "gauger/gaugerlaw14.PiecesFew", spec := "piecesFew", unfollowed := true, recurses := true, apart := false }
def PiecesFewSaid : Prop := piecesFewRow.holds Try.pinned (OpenSpec.ofChange piecesFewSpec)

/-- ITS FALSE NEIGHBOUR: 'it returns false'. Refute it at one input. -/
def piecesFewWrong : ChangeSpec := { name := "piecesFew", fn := fun _ => fun
  | [d1, d2, d3] => { results := [.lit (.bool false)], args := [d1, d2, d3] }
  | _ => none }
def PiecesFewWrongFalsely : Prop := piecesFewRow.holds Try.pinned (OpenSpec.ofChange piecesFewWrong)

/-- 'gaugerlaw14.PiecesRise': WHATEVER THE INPUT: true; the input reads as it did. -/
def piecesRiseSpec : ChangeSpec := { name := "piecesRise", fn := fun _ => fun
  | [d1, d2, d3] => { results := [.lit (.bool true)], args := [d1, d2, d3] }
  | _ => none }
def piecesRiseRow : OpenClaim := { program := "ytdbkbcihbajjdaa", sum := "a332486608c1872ba51dcd20320c721134e59c607d013a9657bbb96c21fa3dc5", func := "gauger/gaugerlaw14.PiecesRise", spec := "piecesRise", unfollowed := true, recurses := true, apart := false }
def PiecesRiseSaid : Prop := piecesRiseRow.holds Try.pinned (OpenSpec.ofChange piecesRiseSpec)

/-- ITS FALSE NEIGHBOUR: 'it returns false'. Refute it at one input. -/
def piecesRiseWrong : ChangeSpec := { name := "piecesRise", fn := fun _ => fun
  | [d1, d2, d3] => { results := [.lit (.bool false)], args := [d1, d2, d3] }
  | _ => none }
def PiecesRiseWrongFalsely : Prop := piecesRiseRow.holds Try.pinned (OpenSpec.ofChange piecesRiseWrong)

/-- 'gaugerlaw14.PiecesOne': WHATEVER THE INPUT: true; the input reads as it did. -/
def piecesOneSpec : ChangeSpec := { name := "piecesOne", fn := fun _ => fun
  | [d1, d2, d3] => { results := [.lit (.bool true)], args := [d1, d2, d3] }
  | _ => none }
def piecesOneRow : OpenClaim := { program := "ytdbkbcihbajjdaa", sum := "a332486608c1872ba51dcd20320c721134e59c607d013a9657bbb96c21fa3dc5", func := "gauger/gaugerlaw14.PiecesOne", spec := "piecesOne", unfollowed := true, recurses := true, apart := false }
def PiecesOneSaid : Prop := piecesOneRow.holds Try.pinned (OpenSpec.ofChange piecesOneSpec)

/-- ITS FALSE NEIGHBOUR: 'it returns false'. Refute it at one input. -/
def piecesOneWrong : ChangeSpec := { name := "piecesOne", fn := fun _ => fun
  | [d1, d2, d3] => { results := [.lit (.bool false)], args := [d1, d2, d3] }
  | _ => none }
def PiecesOneWrongFalsely : Prop := piecesOneRow.holds Try.pinned (OpenSpec.ofChange piecesOneWrong)

/- THE SECOND FORM. 'bulk': how many values and letters a reading holds, each counted each time it is reached (what is shared counts as often as it is met; a slice's spare places count too). A statement '..UptoSaid' is the law's where the arguments, and the package variables that the reading takes, are together of bulk at most 1048576: NARROWER than '..Said'. Prove '..Said' where nothing that the law and all that it calls make is longer than what came in: it says more and counts as full. Else prove '..UptoSaid'. A law counts once. -/
mutual
def uptoBulk {H : Type} : DataW H → Nat
  | .lit (.string bytes) => bytes.length + 1
  | .lit _ => 1
  | .nil => 1
  | .ptr d => uptoBulk d + 1
  | .slice elems spare => uptoBulkAll elems + uptoBulkAll spare + 1
  | .agg parts => uptoBulkAll parts + 1
  | .iface _ d => uptoBulk d + 1
  | .map entries => uptoBulkEntries entries + 1
  | .held _ => 1
def uptoBulkAll {H : Type} : List (DataW H) → Nat
  | [] => 0
  | d :: r => uptoBulk d + uptoBulkAll r
def uptoBulkEntries {H : Type} : List (Lit × DataW H) → Nat
  | [] => 0
  | x :: r => uptoBulkEntry x + uptoBulkEntries r
def uptoBulkEntry {H : Type} : Lit × DataW H → Nat
  | (.string bytes, d) => bytes.length + uptoBulk d + 1
  | (_, d) => uptoBulk d + 1
 end
def uptoSmall : (H : Type) → List (DataW H) → Bool := fun _ ds => decide (uptoBulkAll ds ≤ 1048576)
def OpenSpec.upto (s : _root_.Go.ChangeSpec) : _root_.Go.OpenSpec := { _root_.Go.OpenSpec.ofChange s with cond := some uptoSmall }

/-- 'gaugerlaw14.PiecesCover', WHERE WHAT IT READS IS OF BULK AT MOST 1048576: true; the input reads as it did. -/
def piecesCoverUptoRow : OpenClaim := { program := "ytdbkbcihbajjdaa", sum := "a332486608c1872ba51dcd20320c721134e59c607d013a9657bbb96c21fa3dc5", func := "gauger/gaugerlaw14.PiecesCover", spec := "piecesCover", unfollowed := true, recurses := true, apart := false, narrowed := true }
def PiecesCoverUptoSaid : Prop := piecesCoverUptoRow.holds Try.pinned (OpenSpec.upto piecesCoverSpec)

/-- 'gaugerlaw14.PiecesSpan', WHERE WHAT IT READS IS OF BULK AT MOST 1048576: true; the input reads as it did. -/
def piecesSpanUptoRow : OpenClaim := { program := "ytdbkbcihbajjdaa", sum := "a332486608c1872ba51dcd20320c721134e59c607d013a9657bbb96c21fa3dc5", func := "gauger/gaugerlaw14.PiecesSpan", spec := "piecesSpan", unfollowed := true, recurses := true, apart := false, narrowed := true }
def PiecesSpanUptoSaid : Prop := piecesSpanUptoRow.holds Try.pinned (OpenSpec.upto piecesSpanSpec)

/-- 'gaugerlaw14.PiecesJoin', WHERE WHAT IT READS IS OF BULK AT MOST 1048576: true; the input reads as it did. -/
def piecesJoinUptoRow : OpenClaim := { program := "ytdbkbcihbajjdaa", sum := "a332486608c1872ba51dcd20320c721134e59c607d013a9657bbb96c21fa3dc5", func := "gauger/gaugerlaw14.PiecesJoin", spec := "piecesJoin", unfollowed := true, recurses := true, apart := false, narrowed := true }
def PiecesJoinUptoSaid : Prop := piecesJoinUptoRow.holds Try.pinned (OpenSpec.upto piecesJoinSpec)

/-- 'gaugerlaw14.PiecesFew', WHERE WHAT IT READS IS OF BULK AT MOST 1048576: true; the input reads as it did. -/
def piecesFewUptoRow : OpenClaim := { program := "ytdbkbcihbajjdaa", sum := "a332486608c1872ba51dcd20320c721134e59c607d013a9657bbb96c21fa3dc5", func := "gauger/gaugerlaw14.PiecesFew", spec := "piecesFew", unfollowed := true, recurses := true, apart := false, narrowed := true }
def PiecesFewUptoSaid : Prop := piecesFewUptoRow.holds Try.pinned (OpenSpec.upto piecesFewSpec)

/-- 'gaugerlaw14.PiecesRise', WHERE WHAT IT READS IS OF BULK AT MOST 1048576: true; the input reads as it did. -/
def piecesRiseUptoRow : OpenClaim := { program := "ytdbkbcihbajjdaa", sum := "a332486608c1872ba51dcd20320c721134e59c607d013a9657bbb96c21fa3dc5", func := "gauger/gaugerlaw14.PiecesRise", spec := "piecesRise", unfollowed := true, recurses := true, apart := false, narrowed := true }
def PiecesRiseUptoSaid : Prop := piecesRiseUptoRow.holds Try.pinned (OpenSpec.upto piecesRiseSpec)

/-- 'gaugerlaw14.PiecesOne', WHERE WHAT IT READS IS OF BULK AT MOST 1048576: true; the input reads as it did. -/
def piecesOneUptoRow : OpenClaim := { program := "ytdbkbcihbajjdaa", sum := "a332486608c1872ba51dcd20320c721134e59c607d013a9657bbb96c21fa3dc5", func := "gauger/gaugerlaw14.PiecesOne", spec := "piecesOne", unfollowed := true, recurses := true, apart := false, narrowed := true }
def PiecesOneUptoSaid : Prop := piecesOneUptoRow.holds Try.pinned (OpenSpec.upto piecesOneSpec)

end Rows
end Go.Proofs.Ytdbkbcihbajjdaa
