/-
  DERIVED. GIVEN WITH THE SEED: THE CARDS: each row of YtlbaiighiaanoaaGreatDoorRows.lean that lists a variable, with what it lists TIED to the program's text (the seventh form; the later family's looks); each row that meets fmt, with fmt's text TOLD by the authors' own Lean function (tested against real Go, not proved from fmt's source: count such statements apart). THE CARD IS WHAT COUNTS. Prove the row's statement (the work); the ties are given (YtlbaiighiaanoaaGreatDoorTie.lean); close each card by the builder's one call (the guide's Derived/Test/ToyasCard.lean, 'card_holds'). Laid BY PROGRAM, IN A SANDBOX (cutbox-door.mjs). By AI agents, Wed Nov 11 2026. No macro, syntax, notation, axiom, sorry.
-/
import Derived.Test.YtlbaiighiaanoaaGreatDoorRows
import GoSem.ClaimSeven
namespace Go.Proofs.YtlbaiighiaanoaaGreatDoor
namespace Rows

/-- THE TIED CARD OF 'nunciolaw19.ConnPings'. -/
def connPingsCard : Claim7 := { stood := { row := connPingsRow, standIns := [], harness := (true, "ea11bafcabe3cec8c1524ad1eb1d6512bc8b7e321a2eef7880fe75000037c6ac"), looks := true }, kinds := [], alts := [], laidByText := true, laidKinds := [.data, .pinned], laidTests := true, laidLooks := .later }
def ConnPingsCardSaid : Prop := Claim7.holds Tryz.pinned (.plain (OpenSpec.ofChange connPingsSpec)) connPingsCard

/-- THE TIED CARD OF 'nunciolaw19.ConnWrong'. -/
def connWrongCard : Claim7 := { stood := { row := connWrongRow, standIns := [], harness := (true, "ea11bafcabe3cec8c1524ad1eb1d6512bc8b7e321a2eef7880fe75000037c6ac"), looks := true }, kinds := [], alts := [], laidByText := true, laidKinds := [.data, .pinned], laidTests := true, laidLooks := .later }
def ConnWrongCardSaid : Prop := Claim7.holds Tryz.pinned (.plain (OpenSpec.ofChange connWrongSpec)) connWrongCard

/-- THE TIED CARD OF 'nunciolaw19.ConnResets'. -/
def connResetsCard : Claim7 := { stood := { row := connResetsRow, standIns := [], harness := (true, "ea11bafcabe3cec8c1524ad1eb1d6512bc8b7e321a2eef7880fe75000037c6ac"), looks := true }, kinds := [], alts := [], laidByText := true, laidKinds := [.data, .pinned], laidTests := true, laidLooks := .later }
def ConnResetsCardSaid : Prop := Claim7.holds Tryz.pinned (.plain (OpenSpec.ofChange connResetsSpec)) connResetsCard

/-- THE TIED CARD OF 'nunciolaw19.ConnFlows'. -/
def connFlowsCard : Claim7 := { stood := { row := connFlowsRow, standIns := [], harness := (true, "ea11bafcabe3cec8c1524ad1eb1d6512bc8b7e321a2eef7880fe75000037c6ac"), looks := true }, kinds := [], alts := [], laidByText := true, laidKinds := [.data, .pinned], laidTests := true, laidLooks := .later }
def ConnFlowsCardSaid : Prop := Claim7.holds Tryz.pinned (.plain (OpenSpec.ofChange connFlowsSpec)) connFlowsCard

/-- THE TIED CARD OF 'nunciolaw19.ConnPieces'. -/
def connPiecesCard : Claim7 := { stood := { row := connPiecesRow, standIns := [], harness := (true, "ea11bafcabe3cec8c1524ad1eb1d6512bc8b7e321a2eef7880fe75000037c6ac"), looks := true }, kinds := [], alts := [], laidByText := true, laidKinds := [.data, .pinned], laidTests := true, laidLooks := .later }
def ConnPiecesCardSaid : Prop := Claim7.holds Tryz.pinned (.plain (OpenSpec.ofChange connPiecesSpec)) connPiecesCard

/-- THE TIED CARD OF 'nunciolaw19.ConnTrace'. -/
def connTraceCard : Claim7 := { stood := { row := connTraceRow, standIns := [], harness := (true, "ea11bafcabe3cec8c1524ad1eb1d6512bc8b7e321a2eef7880fe75000037c6ac"), looks := true }, kinds := [], alts := [], laidByText := true, laidKinds := [.data, .pinned], laidTests := true, laidLooks := .later }
def ConnTraceCardSaid : Prop := Claim7.holds Tryz.pinned (.plain (OpenSpec.ofChange connTraceSpec)) connTraceCard

/-- THE TIED CARD OF 'nunciolaw19.ConnTalks'. -/
def connTalksCard : Claim7 := { stood := { row := connTalksRow, standIns := [], harness := (true, "ea11bafcabe3cec8c1524ad1eb1d6512bc8b7e321a2eef7880fe75000037c6ac"), looks := true }, kinds := [], alts := [], laidByText := true, laidKinds := [.data, .pinned], laidTests := true, laidLooks := .later }
def ConnTalksCardSaid : Prop := Claim7.holds Tryz.pinned (.plain (OpenSpec.ofChange connTalksSpec)) connTalksCard

/-- THE TIED CARD OF 'nunciolaw19.ConnBounds'. -/
def connBoundsCard : Claim7 := { stood := { row := connBoundsRow, standIns := [], harness := (true, "ea11bafcabe3cec8c1524ad1eb1d6512bc8b7e321a2eef7880fe75000037c6ac"), looks := true }, kinds := [], alts := [], laidByText := true, laidKinds := [.data, .pinned], laidTests := true, laidLooks := .later }
def ConnBoundsCardSaid : Prop := Claim7.holds Tryz.pinned (.plain (OpenSpec.ofChange connBoundsSpec)) connBoundsCard

/-- THE SECOND FORM's CARD OF 'nunciolaw19.ConnPings'. -/
def connPingsUptoCard : Claim7 := { stood := { row := connPingsUptoRow, standIns := [], harness := (true, "ea11bafcabe3cec8c1524ad1eb1d6512bc8b7e321a2eef7880fe75000037c6ac"), looks := true }, kinds := [], alts := [], laidByText := true, laidKinds := [.data, .pinned], laidTests := true, laidLooks := .later }
def ConnPingsUptoCardSaid : Prop := Claim7.holds Tryz.pinned (.plain (OpenSpec.upto connPingsSpec)) connPingsUptoCard

/-- THE SECOND FORM's CARD OF 'nunciolaw19.ConnWrong'. -/
def connWrongUptoCard : Claim7 := { stood := { row := connWrongUptoRow, standIns := [], harness := (true, "ea11bafcabe3cec8c1524ad1eb1d6512bc8b7e321a2eef7880fe75000037c6ac"), looks := true }, kinds := [], alts := [], laidByText := true, laidKinds := [.data, .pinned], laidTests := true, laidLooks := .later }
def ConnWrongUptoCardSaid : Prop := Claim7.holds Tryz.pinned (.plain (OpenSpec.upto connWrongSpec)) connWrongUptoCard

/-- THE SECOND FORM's CARD OF 'nunciolaw19.ConnResets'. -/
def connResetsUptoCard : Claim7 := { stood := { row := connResetsUptoRow, standIns := [], harness := (true, "ea11bafcabe3cec8c1524ad1eb1d6512bc8b7e321a2eef7880fe75000037c6ac"), looks := true }, kinds := [], alts := [], laidByText := true, laidKinds := [.data, .pinned], laidTests := true, laidLooks := .later }
def ConnResetsUptoCardSaid : Prop := Claim7.holds Tryz.pinned (.plain (OpenSpec.upto connResetsSpec)) connResetsUptoCard

/-- THE SECOND FORM's CARD OF 'nunciolaw19.ConnFlows'. -/
def connFlowsUptoCard : Claim7 := { stood := { row := connFlowsUptoRow, standIns := [], harness := (true, "ea11bafcabe3cec8c1524ad1eb1d6512bc8b7e321a2eef7880fe75000037c6ac"), looks := true }, kinds := [], alts := [], laidByText := true, laidKinds := [.data, .pinned], laidTests := true, laidLooks := .later }
def ConnFlowsUptoCardSaid : Prop := Claim7.holds Tryz.pinned (.plain (OpenSpec.upto connFlowsSpec)) connFlowsUptoCard

/-- THE SECOND FORM's CARD OF 'nunciolaw19.ConnPieces'. -/
def connPiecesUptoCard : Claim7 := { stood := { row := connPiecesUptoRow, standIns := [], harness := (true, "ea11bafcabe3cec8c1524ad1eb1d6512bc8b7e321a2eef7880fe75000037c6ac"), looks := true }, kinds := [], alts := [], laidByText := true, laidKinds := [.data, .pinned], laidTests := true, laidLooks := .later }
def ConnPiecesUptoCardSaid : Prop := Claim7.holds Tryz.pinned (.plain (OpenSpec.upto connPiecesSpec)) connPiecesUptoCard

/-- THE SECOND FORM's CARD OF 'nunciolaw19.ConnTrace'. -/
def connTraceUptoCard : Claim7 := { stood := { row := connTraceUptoRow, standIns := [], harness := (true, "ea11bafcabe3cec8c1524ad1eb1d6512bc8b7e321a2eef7880fe75000037c6ac"), looks := true }, kinds := [], alts := [], laidByText := true, laidKinds := [.data, .pinned], laidTests := true, laidLooks := .later }
def ConnTraceUptoCardSaid : Prop := Claim7.holds Tryz.pinned (.plain (OpenSpec.upto connTraceSpec)) connTraceUptoCard

/-- THE SECOND FORM's CARD OF 'nunciolaw19.ConnTalks'. -/
def connTalksUptoCard : Claim7 := { stood := { row := connTalksUptoRow, standIns := [], harness := (true, "ea11bafcabe3cec8c1524ad1eb1d6512bc8b7e321a2eef7880fe75000037c6ac"), looks := true }, kinds := [], alts := [], laidByText := true, laidKinds := [.data, .pinned], laidTests := true, laidLooks := .later }
def ConnTalksUptoCardSaid : Prop := Claim7.holds Tryz.pinned (.plain (OpenSpec.upto connTalksSpec)) connTalksUptoCard

/-- THE SECOND FORM's CARD OF 'nunciolaw19.ConnBounds'. -/
def connBoundsUptoCard : Claim7 := { stood := { row := connBoundsUptoRow, standIns := [], harness := (true, "ea11bafcabe3cec8c1524ad1eb1d6512bc8b7e321a2eef7880fe75000037c6ac"), looks := true }, kinds := [], alts := [], laidByText := true, laidKinds := [.data, .pinned], laidTests := true, laidLooks := .later }
def ConnBoundsUptoCardSaid : Prop := Claim7.holds Tryz.pinned (.plain (OpenSpec.upto connBoundsSpec)) connBoundsUptoCard
end Rows
end Go.Proofs.YtlbaiighiaanoaaGreatDoor
