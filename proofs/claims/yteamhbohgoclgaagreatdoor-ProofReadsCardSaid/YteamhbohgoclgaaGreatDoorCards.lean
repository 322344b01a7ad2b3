/-
  DERIVED. GIVEN WITH THE SEED: THE CARDS: each row of YteamhbohgoclgaaGreatDoorRows.lean that lists a variable, with what it lists TIED to the program's text (the seventh form; the later family's looks); each row that meets fmt, with fmt's text TOLD by the authors' own Lean function (tested against real Go, not proved from fmt's source: count such statements apart). THE CARD IS WHAT COUNTS. Prove the row's statement (the work); the ties are given (YteamhbohgoclgaaGreatDoorTie.lean); close each card by the builder's one call (the guide's Derived/Test/ToyasCard.lean, 'card_holds'). Laid BY PROGRAM, IN A SANDBOX (cutbox-door.mjs). By AI agents, Wed Nov 11 2026. No macro, syntax, notation, axiom, sorry.
-/
import Derived.Test.YteamhbohgoclgaaGreatDoorRows
import GoSem.ClaimSeven
namespace Go.Proofs.YteamhbohgoclgaaGreatDoor
namespace Rows

/-- THE TIED CARD OF 'sandpilelaw57.ProofReads'. -/
def proofReadsCard : Claim7 := { stood := { row := proofReadsRow, standIns := [], harness := (true, "60a5e962dc1f4fe988dfa79233aeaec293cdf6c72b3c81a3b4c5b5b5e29320ef"), looks := true }, kinds := [], alts := [], laidByText := true, laidKinds := [.data, .data, .data, .data, .sentinel, .sentinel, .pinned], laidTests := true, laidLooks := .later }
def ProofReadsCardSaid : Prop := Claim7.holds Tryz.pinned (.plain (OpenSpec.ofChange proofReadsSpec)) proofReadsCard

/-- THE TIED CARD OF 'sandpilelaw57.ProofChecks'. -/
def proofChecksCard : Claim7 := { stood := { row := proofChecksRow, standIns := [], harness := (true, "60a5e962dc1f4fe988dfa79233aeaec293cdf6c72b3c81a3b4c5b5b5e29320ef"), looks := true }, kinds := [], alts := [], laidByText := true, laidKinds := [.data, .data, .data, .data, .sentinel, .sentinel, .pinned], laidTests := true, laidLooks := .later }
def ProofChecksCardSaid : Prop := Claim7.holds Tryz.pinned (.plain (OpenSpec.ofChange proofChecksSpec)) proofChecksCard

/-- THE TIED CARD OF 'sandpilelaw57.ProofCompares'. -/
def proofComparesCard : Claim7 := { stood := { row := proofComparesRow, standIns := [], harness := (true, "60a5e962dc1f4fe988dfa79233aeaec293cdf6c72b3c81a3b4c5b5b5e29320ef"), looks := true }, kinds := [], alts := [], laidByText := true, laidKinds := [.data, .data, .data, .data, .sentinel, .sentinel, .pinned], laidTests := true, laidLooks := .later }
def ProofComparesCardSaid : Prop := Claim7.holds Tryz.pinned (.plain (OpenSpec.ofChange proofComparesSpec)) proofComparesCard

/-- THE SECOND FORM's CARD OF 'sandpilelaw57.ProofReads'. -/
def proofReadsUptoCard : Claim7 := { stood := { row := proofReadsUptoRow, standIns := [], harness := (true, "60a5e962dc1f4fe988dfa79233aeaec293cdf6c72b3c81a3b4c5b5b5e29320ef"), looks := true }, kinds := [], alts := [], laidByText := true, laidKinds := [.data, .data, .data, .data, .sentinel, .sentinel, .pinned], laidTests := true, laidLooks := .later }
def ProofReadsUptoCardSaid : Prop := Claim7.holds Tryz.pinned (.plain (OpenSpec.upto proofReadsSpec)) proofReadsUptoCard

/-- THE SECOND FORM's CARD OF 'sandpilelaw57.ProofChecks'. -/
def proofChecksUptoCard : Claim7 := { stood := { row := proofChecksUptoRow, standIns := [], harness := (true, "60a5e962dc1f4fe988dfa79233aeaec293cdf6c72b3c81a3b4c5b5b5e29320ef"), looks := true }, kinds := [], alts := [], laidByText := true, laidKinds := [.data, .data, .data, .data, .sentinel, .sentinel, .pinned], laidTests := true, laidLooks := .later }
def ProofChecksUptoCardSaid : Prop := Claim7.holds Tryz.pinned (.plain (OpenSpec.upto proofChecksSpec)) proofChecksUptoCard

/-- THE SECOND FORM's CARD OF 'sandpilelaw57.ProofCompares'. -/
def proofComparesUptoCard : Claim7 := { stood := { row := proofComparesUptoRow, standIns := [], harness := (true, "60a5e962dc1f4fe988dfa79233aeaec293cdf6c72b3c81a3b4c5b5b5e29320ef"), looks := true }, kinds := [], alts := [], laidByText := true, laidKinds := [.data, .data, .data, .data, .sentinel, .sentinel, .pinned], laidTests := true, laidLooks := .later }
def ProofComparesUptoCardSaid : Prop := Claim7.holds Tryz.pinned (.plain (OpenSpec.upto proofComparesSpec)) proofComparesUptoCard
end Rows
end Go.Proofs.YteamhbohgoclgaaGreatDoor
