/-
  DERIVED. GIVEN WITH THE SEED: THE CARDS: each row of YtejaocnhekjfiaaGreatDoorRows.lean that lists a variable, with what it lists TIED to the program's text (the seventh form; the later family's looks); each row that meets fmt, with fmt's text TOLD by the authors' own Lean function (tested against real Go, not proved from fmt's source: count such statements apart). THE CARD IS WHAT COUNTS. Prove the row's statement (the work); the ties are given (YtejaocnhekjfiaaGreatDoorTie.lean); close each card by the builder's one call (the guide's Derived/Test/ToyasCard.lean, 'card_holds'). Laid BY PROGRAM, IN A SANDBOX (cutbox-door.mjs). By AI agents, Wed Nov 11 2026. No macro, syntax, notation, axiom, sorry.
-/
import Derived.Test.YtejaocnhekjfiaaGreatDoorRows
import GoSem.ClaimSeven
namespace Go.Proofs.YtejaocnhekjfiaaGreatDoor
namespace Rows

/-- THE TIED CARD OF 'gaugertop.TopMerges'. -/
def topMergesCard : Claim7 := { stood := { row := topMergesRow, standIns := [], harness := (true, "b3bbf6cc72bcc2b640276ceb1a487a31f18ed8760ae2ced7450543b15a73aa88"), looks := true }, kinds := [], alts := [], laidByText := true, laidKinds := [.data, .data, .data, .data, .sentinel, .sentinel, .pinned], laidTests := true, laidLooks := .later }
def TopMergesCardSaid : Prop := Claim7.holds Tryz.pinned (.plain (OpenSpec.ofChange topMergesSpec)) topMergesCard

/-- THE TIED CARD OF 'gaugertop.TopConserves'. -/
def topConservesCard : Claim7 := { stood := { row := topConservesRow, standIns := [], harness := (true, "b3bbf6cc72bcc2b640276ceb1a487a31f18ed8760ae2ced7450543b15a73aa88"), looks := true }, kinds := [], alts := [], laidByText := true, laidKinds := [.data, .data, .data, .data, .sentinel, .sentinel, .pinned], laidTests := true, laidLooks := .later }
def TopConservesCardSaid : Prop := Claim7.holds Tryz.pinned (.plain (OpenSpec.ofChange topConservesSpec)) topConservesCard

/-- THE TIED CARD OF 'gaugertop.TopMedian'. -/
def topMedianCard : Claim7 := { stood := { row := topMedianRow, standIns := [], harness := (true, "b3bbf6cc72bcc2b640276ceb1a487a31f18ed8760ae2ced7450543b15a73aa88"), looks := true }, kinds := [], alts := [], laidByText := true, laidKinds := [.data, .data, .data, .data, .sentinel, .sentinel, .pinned], laidTests := true, laidLooks := .later }
def TopMedianCardSaid : Prop := Claim7.holds Tryz.pinned (.plain (OpenSpec.ofChange topMedianSpec)) topMedianCard

/-- THE TIED CARD OF 'gaugertop.TopInner'. -/
def topInnerCard : Claim7 := { stood := { row := topInnerRow, standIns := [], harness := (true, "b3bbf6cc72bcc2b640276ceb1a487a31f18ed8760ae2ced7450543b15a73aa88"), looks := true }, kinds := [], alts := [], laidByText := true, laidKinds := [.data, .data, .data, .data, .sentinel, .sentinel, .pinned], laidTests := true, laidLooks := .later }
def TopInnerCardSaid : Prop := Claim7.holds Tryz.pinned (.plain (OpenSpec.ofChange topInnerSpec)) topInnerCard

/-- THE SECOND FORM's CARD OF 'gaugertop.TopMerges'. -/
def topMergesUptoCard : Claim7 := { stood := { row := topMergesUptoRow, standIns := [], harness := (true, "b3bbf6cc72bcc2b640276ceb1a487a31f18ed8760ae2ced7450543b15a73aa88"), looks := true }, kinds := [], alts := [], laidByText := true, laidKinds := [.data, .data, .data, .data, .sentinel, .sentinel, .pinned], laidTests := true, laidLooks := .later }
def TopMergesUptoCardSaid : Prop := Claim7.holds Tryz.pinned (.plain (OpenSpec.upto topMergesSpec)) topMergesUptoCard

/-- THE SECOND FORM's CARD OF 'gaugertop.TopConserves'. -/
def topConservesUptoCard : Claim7 := { stood := { row := topConservesUptoRow, standIns := [], harness := (true, "b3bbf6cc72bcc2b640276ceb1a487a31f18ed8760ae2ced7450543b15a73aa88"), looks := true }, kinds := [], alts := [], laidByText := true, laidKinds := [.data, .data, .data, .data, .sentinel, .sentinel, .pinned], laidTests := true, laidLooks := .later }
def TopConservesUptoCardSaid : Prop := Claim7.holds Tryz.pinned (.plain (OpenSpec.upto topConservesSpec)) topConservesUptoCard

/-- THE SECOND FORM's CARD OF 'gaugertop.TopMedian'. -/
def topMedianUptoCard : Claim7 := { stood := { row := topMedianUptoRow, standIns := [], harness := (true, "b3bbf6cc72bcc2b640276ceb1a487a31f18ed8760ae2ced7450543b15a73aa88"), looks := true }, kinds := [], alts := [], laidByText := true, laidKinds := [.data, .data, .data, .data, .sentinel, .sentinel, .pinned], laidTests := true, laidLooks := .later }
def TopMedianUptoCardSaid : Prop := Claim7.holds Tryz.pinned (.plain (OpenSpec.upto topMedianSpec)) topMedianUptoCard

/-- THE SECOND FORM's CARD OF 'gaugertop.TopInner'. -/
def topInnerUptoCard : Claim7 := { stood := { row := topInnerUptoRow, standIns := [], harness := (true, "b3bbf6cc72bcc2b640276ceb1a487a31f18ed8760ae2ced7450543b15a73aa88"), looks := true }, kinds := [], alts := [], laidByText := true, laidKinds := [.data, .data, .data, .data, .sentinel, .sentinel, .pinned], laidTests := true, laidLooks := .later }
def TopInnerUptoCardSaid : Prop := Claim7.holds Tryz.pinned (.plain (OpenSpec.upto topInnerSpec)) topInnerUptoCard
end Rows
end Go.Proofs.YtejaocnhekjfiaaGreatDoor
