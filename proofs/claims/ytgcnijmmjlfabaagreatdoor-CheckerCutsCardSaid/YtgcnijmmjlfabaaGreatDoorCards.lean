/-
  DERIVED. GIVEN WITH THE SEED: THE CARDS: each row of YtgcnijmmjlfabaaGreatDoorRows.lean that lists a variable, with what it lists TIED to the program's text (the seventh form; the later family's looks); each row that meets fmt, with fmt's text TOLD by the authors' own Lean function (tested against real Go, not proved from fmt's source: count such statements apart). THE CARD IS WHAT COUNTS. Prove the row's statement (the work); the ties are given (YtgcnijmmjlfabaaGreatDoorTie.lean); close each card by the builder's one call (the guide's Derived/Test/ToyasCard.lean, 'card_holds'). Laid BY PROGRAM, IN A SANDBOX (cutbox-door.mjs). By AI agents, Wed Nov 11 2026. No macro, syntax, notation, axiom, sorry.
-/
import Derived.Test.YtgcnijmmjlfabaaGreatDoorRows
import GoSem.ClaimSeven
namespace Go.Proofs.YtgcnijmmjlfabaaGreatDoor
namespace Rows

/-- THE TIED CARD OF 'sandpilelaw58.CheckerLines'. -/
def checkerLinesCard : Claim7 := { stood := { row := checkerLinesRow, standIns := [], harness := (true, "9cd8ec1fd7b2c5bbdd4888eadb0db6edf7f6a0a94f8f2c14719ef5d0e55ba539"), looks := true }, kinds := [], alts := [], laidByText := true, laidKinds := [.data, .data, .data, .data, .sentinel, .sentinel, .pinned], laidTests := true, laidLooks := .later }
def CheckerLinesCardSaid : Prop := Claim7.holds Tryz.pinned (.plain (OpenSpec.ofChange checkerLinesSpec)) checkerLinesCard

/-- THE TIED CARD OF 'sandpilelaw58.CheckerAccepts'. -/
def checkerAcceptsCard : Claim7 := { stood := { row := checkerAcceptsRow, standIns := [], harness := (true, "9cd8ec1fd7b2c5bbdd4888eadb0db6edf7f6a0a94f8f2c14719ef5d0e55ba539"), looks := true }, kinds := [], alts := [], laidByText := true, laidKinds := [.data, .data, .data, .data, .sentinel, .sentinel, .pinned], laidTests := true, laidLooks := .later }
def CheckerAcceptsCardSaid : Prop := Claim7.holds Tryz.pinned (.plain (OpenSpec.ofChange checkerAcceptsSpec)) checkerAcceptsCard

/-- THE TIED CARD OF 'sandpilelaw58.CheckerCuts'. -/
def checkerCutsCard : Claim7 := { stood := { row := checkerCutsRow, standIns := [], harness := (true, "9cd8ec1fd7b2c5bbdd4888eadb0db6edf7f6a0a94f8f2c14719ef5d0e55ba539"), looks := true }, kinds := [], alts := [], laidByText := true, laidKinds := [.data, .data, .data, .data, .sentinel, .sentinel, .pinned], laidTests := true, laidLooks := .later }
def CheckerCutsCardSaid : Prop := Claim7.holds Tryz.pinned (.plain (OpenSpec.ofChange checkerCutsSpec)) checkerCutsCard

/-- THE TIED CARD OF 'sandpilelaw58.CheckerAgrees'. -/
def checkerAgreesCard : Claim7 := { stood := { row := checkerAgreesRow, standIns := [], harness := (true, "9cd8ec1fd7b2c5bbdd4888eadb0db6edf7f6a0a94f8f2c14719ef5d0e55ba539"), looks := true }, kinds := [], alts := [], laidByText := true, laidKinds := [.data, .data, .data, .data, .sentinel, .sentinel, .pinned], laidTests := true, laidLooks := .later }
def CheckerAgreesCardSaid : Prop := Claim7.holds Tryz.pinned (.plain (OpenSpec.ofChange checkerAgreesSpec)) checkerAgreesCard

/-- THE SECOND FORM's CARD OF 'sandpilelaw58.CheckerLines'. -/
def checkerLinesUptoCard : Claim7 := { stood := { row := checkerLinesUptoRow, standIns := [], harness := (true, "9cd8ec1fd7b2c5bbdd4888eadb0db6edf7f6a0a94f8f2c14719ef5d0e55ba539"), looks := true }, kinds := [], alts := [], laidByText := true, laidKinds := [.data, .data, .data, .data, .sentinel, .sentinel, .pinned], laidTests := true, laidLooks := .later }
def CheckerLinesUptoCardSaid : Prop := Claim7.holds Tryz.pinned (.plain (OpenSpec.upto checkerLinesSpec)) checkerLinesUptoCard

/-- THE SECOND FORM's CARD OF 'sandpilelaw58.CheckerAccepts'. -/
def checkerAcceptsUptoCard : Claim7 := { stood := { row := checkerAcceptsUptoRow, standIns := [], harness := (true, "9cd8ec1fd7b2c5bbdd4888eadb0db6edf7f6a0a94f8f2c14719ef5d0e55ba539"), looks := true }, kinds := [], alts := [], laidByText := true, laidKinds := [.data, .data, .data, .data, .sentinel, .sentinel, .pinned], laidTests := true, laidLooks := .later }
def CheckerAcceptsUptoCardSaid : Prop := Claim7.holds Tryz.pinned (.plain (OpenSpec.upto checkerAcceptsSpec)) checkerAcceptsUptoCard

/-- THE SECOND FORM's CARD OF 'sandpilelaw58.CheckerCuts'. -/
def checkerCutsUptoCard : Claim7 := { stood := { row := checkerCutsUptoRow, standIns := [], harness := (true, "9cd8ec1fd7b2c5bbdd4888eadb0db6edf7f6a0a94f8f2c14719ef5d0e55ba539"), looks := true }, kinds := [], alts := [], laidByText := true, laidKinds := [.data, .data, .data, .data, .sentinel, .sentinel, .pinned], laidTests := true, laidLooks := .later }
def CheckerCutsUptoCardSaid : Prop := Claim7.holds Tryz.pinned (.plain (OpenSpec.upto checkerCutsSpec)) checkerCutsUptoCard

/-- THE SECOND FORM's CARD OF 'sandpilelaw58.CheckerAgrees'. -/
def checkerAgreesUptoCard : Claim7 := { stood := { row := checkerAgreesUptoRow, standIns := [], harness := (true, "9cd8ec1fd7b2c5bbdd4888eadb0db6edf7f6a0a94f8f2c14719ef5d0e55ba539"), looks := true }, kinds := [], alts := [], laidByText := true, laidKinds := [.data, .data, .data, .data, .sentinel, .sentinel, .pinned], laidTests := true, laidLooks := .later }
def CheckerAgreesUptoCardSaid : Prop := Claim7.holds Tryz.pinned (.plain (OpenSpec.upto checkerAgreesSpec)) checkerAgreesUptoCard
end Rows
end Go.Proofs.YtgcnijmmjlfabaaGreatDoor
