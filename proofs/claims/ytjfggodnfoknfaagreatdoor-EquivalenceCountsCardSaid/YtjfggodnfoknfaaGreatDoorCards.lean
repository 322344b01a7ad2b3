/-
  DERIVED. GIVEN WITH THE SEED: THE CARDS: each row of YtjfggodnfoknfaaGreatDoorRows.lean that lists a variable, with what it lists TIED to the program's text (the seventh form; the later family's looks); each row that meets fmt, with fmt's text TOLD by the authors' own Lean function (tested against real Go, not proved from fmt's source: count such statements apart). THE CARD IS WHAT COUNTS. Prove the row's statement (the work); the ties are given (YtjfggodnfoknfaaGreatDoorTie.lean); close each card by the builder's one call (the guide's Derived/Test/ToyasCard.lean, 'card_holds'). Laid BY PROGRAM, IN A SANDBOX (cutbox-door.mjs). By AI agents, Wed Nov 11 2026. No macro, syntax, notation, axiom, sorry.
-/
import Derived.Test.YtjfggodnfoknfaaGreatDoorRows
import GoSem.ClaimSeven
namespace Go.Proofs.YtjfggodnfoknfaaGreatDoor
namespace Rows

/-- THE TIED CARD OF 'sandpilelaw35.EquivalenceCounts'. -/
def equivalenceCountsCard : Claim7 := { stood := { row := equivalenceCountsRow, standIns := [], harness := (true, "6c6c671be23465813917bb0e307c6872f0cfff6c48068aaf1ee53e632e8ea747"), looks := true }, kinds := [], alts := [], laidByText := true, laidKinds := [.data, .data, .data, .sentinel, .sentinel], laidTests := true, laidLooks := .later }
def EquivalenceCountsCardSaid : Prop := Claim7.holds Tryz.pinned (.plain (OpenSpec.ofChange equivalenceCountsSpec)) equivalenceCountsCard

/-- THE SECOND FORM's CARD OF 'sandpilelaw35.EquivalenceCounts'. -/
def equivalenceCountsUptoCard : Claim7 := { stood := { row := equivalenceCountsUptoRow, standIns := [], harness := (true, "6c6c671be23465813917bb0e307c6872f0cfff6c48068aaf1ee53e632e8ea747"), looks := true }, kinds := [], alts := [], laidByText := true, laidKinds := [.data, .data, .data, .sentinel, .sentinel], laidTests := true, laidLooks := .later }
def EquivalenceCountsUptoCardSaid : Prop := Claim7.holds Tryz.pinned (.plain (OpenSpec.upto equivalenceCountsSpec)) equivalenceCountsUptoCard
end Rows
end Go.Proofs.YtjfggodnfoknfaaGreatDoor
