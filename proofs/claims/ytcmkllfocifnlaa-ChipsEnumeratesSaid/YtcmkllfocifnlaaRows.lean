/-
  No cell of these rows narrows 'for every input' (looked for: loops, veiled, ifaces, maps, wideKeys, modest, calm, conditions, laid).
  DERIVED. THE GIVEN ROWS OF THIS SEAT. 9 by the template 'for every input the law returns true; each argument reads behind the call as it read before'; 0 by the template 'total and deterministic' (their statements: YtcmkllfocifnlaaTotals.lean).
  GIVEN WITH THE SEED: the statements are not yours to turn. If you find one false, say at which input.
  Laid BY PROGRAM, IN A SANDBOX (cutbox-rows.mjs): the forced cells as the released guide's own fill.sh prints them over the translation 85b3ca2eec557d15… (all of the seat's roots in one cut). By AI agents, Wed Nov 11 2026. No macro, syntax, notation, axiom, sorry.
-/
import Derived.Test.YtcmkllfocifnlaaChecked
import GoSem.Claim
import GoSem.ClaimJoined
import GoSem.ClaimMapViews
import Derived.JoinedTies
import Derived.KernelRfl
namespace Go.Proofs.Ytcmkllfocifnlaa
/- THE CELL 'sum', in the pinned program and in every row, IS THE sha256 OF THE DUMP (.gsa) THAT YtcmkllfocifnlaaProg.lean LOADS. Nothing in Lean hashes anything: it is a label: what it is worth is what the hold of that sum in a sandbox is worth. -/
noncomputable def Try.pinned : Pinned := { name := "ytcmkllfocifnlaa", sum := "85b3ca2eec557d159065638969b130e685e87305c26a91273a4a91537e76d87d", checked := Try.checked }
namespace Rows
def none {H : Type} : Left H := { results := [], args := [] }

/-- 'sandpilelaw17.ChipsCompares': WHATEVER THE INPUT: true; the input reads as it did. -/
def chipsComparesSpec : ChangeSpec := { name := "chipsCompares", fn := fun _ => fun
  | [d1, d2] => { results := [.lit (.bool true)], args := [d1, d2] }
  | _ => none }
def chipsComparesRow : OpenClaim := { program := "ytcmkllfocifnlaa", sum := "85b3ca2eec557d159065638969b130e685e87305c26a91273a4a91537e76d87d", func := "sandpile/sandpilelaw17.ChipsCompares", spec := "chipsCompares", unfollowed := true, recurses := true, apart := false }
def ChipsComparesSaid : Prop := chipsComparesRow.holds Try.pinned (OpenSpec.ofChange chipsComparesSpec)

/-- ITS FALSE NEIGHBOUR: 'it returns false'. Refute it at one input. -/
def chipsComparesWrong : ChangeSpec := { name := "chipsCompares", fn := fun _ => fun
  | [d1, d2] => { results := [.lit (.bool false)], args := [d1, d2] }
  | _ => none }
def ChipsComparesWrongFalsely : Prop := chipsComparesRow.holds Try.pinned (OpenSpec.ofChange chipsComparesWrong)

/-- 'sandpilelaw17.ChipsLists': WHATEVER THE INPUT: true; the input reads as it did. -/
def chipsListsSpec : ChangeSpec := { name := "chipsLists", fn := fun _ => fun
  | [d1, d2, d3] => { results := [.lit (.bool true)], args := [d1, d2, d3] }
  | _ => none }
def chipsListsRow : OpenClaim := { program := "ytcmkllfocifnlaa", sum := "85b3ca2eec557d159065638969b130e685e87305c26a91273a4a91537e76d87d", func := "sandpile/sandpilelaw17.ChipsLists", spec := "chipsLists", unfollowed := true, recurses := true, apart := false }
def ChipsListsSaid : Prop := chipsListsRow.holds Try.pinned (OpenSpec.ofChange chipsListsSpec)

/-- ITS FALSE NEIGHBOUR: 'it returns false'. Refute it at one input. -/
def chipsListsWrong : ChangeSpec := { name := "chipsLists", fn := fun _ => fun
  | [d1, d2, d3] => { results := [.lit (.bool false)], args := [d1, d2, d3] }
  | _ => none }
def ChipsListsWrongFalsely : Prop := chipsListsRow.holds Try.pinned (OpenSpec.ofChange chipsListsWrong)

/-- 'sandpilelaw17.ChipsLattice': WHATEVER THE INPUT: true; the input reads as it did. -/
def chipsLatticeSpec : ChangeSpec := { name := "chipsLattice", fn := fun _ => fun
  | [d1, d2] => { results := [.lit (.bool true)], args := [d1, d2] }
  | _ => none }
def chipsLatticeRow : OpenClaim := { program := "ytcmkllfocifnlaa", sum := "85b3ca2eec557d159065638969b130e685e87305c26a91273a4a91537e76d87d", func := "sandpile/sandpilelaw17.ChipsLattice", spec := "chipsLattice", unfollowed := true, recurses := true, apart := false }
def ChipsLatticeSaid : Prop := chipsLatticeRow.holds Try.pinned (OpenSpec.ofChange chipsLatticeSpec)

/-- ITS FALSE NEIGHBOUR: 'it returns false'. Refute it at one input. -/
def chipsLatticeWrong : ChangeSpec := { name := "chipsLattice", fn := fun _ => fun
  | [d1, d2] => { results := [.lit (.bool false)], args := [d1, d2] }
  | _ => none }
def ChipsLatticeWrongFalsely : Prop := chipsLatticeRow.holds Try.pinned (OpenSpec.ofChange chipsLatticeWrong)

/-- 'sandpilelaw17.ChipsLooks': WHATEVER THE INPUT: true; the input reads as it did. -/
def chipsLooksSpec : ChangeSpec := { name := "chipsLooks", fn := fun _ => fun
  | [d] => { results := [.lit (.bool true)], args := [d] }
  | _ => none }
def chipsLooksRow : OpenClaim := { program := "ytcmkllfocifnlaa", sum := "85b3ca2eec557d159065638969b130e685e87305c26a91273a4a91537e76d87d", func := "sandpile/sandpilelaw17.ChipsLooks", spec := "chipsLooks", unfollowed := true, recurses := true, apart := false }
def ChipsLooksSaid : Prop := chipsLooksRow.holds Try.pinned (OpenSpec.ofChange chipsLooksSpec)

/-- ITS FALSE NEIGHBOUR: 'it returns false'. Refute it at one input. -/
def chipsLooksWrong : ChangeSpec := { name := "chipsLooks", fn := fun _ => fun
  | [d] => { results := [.lit (.bool false)], args := [d] }
  | _ => none }
def ChipsLooksWrongFalsely : Prop := chipsLooksRow.holds Try.pinned (OpenSpec.ofChange chipsLooksWrong)

/-- 'sandpilelaw17.ChipsEnumerates': WHATEVER THE INPUT: true; the input reads as it did. -/
def chipsEnumeratesSpec : ChangeSpec := { name := "chipsEnumerates", fn := fun _ => fun
  | [d1, d2] => { results := [.lit (.bool true)], args := [d1, d2] }
  | _ => none }
def chipsEnumeratesRow : OpenClaim := { program := "ytcmkllfocifnlaa", sum := "85b3ca2eec557d159065638969b130e685e87305c26a91273a4a91537e76d87d", func := "sandpile/sandpilelaw17.ChipsEnumerates", spec := "chipsEnumerates", unfollowed := true, recurses := true, apart := false }
def ChipsEnumeratesSaid : Prop := chipsEnumeratesRow.holds Try.pinned (OpenSpec.ofChange chipsEnumeratesSpec)

/-- ITS FALSE NEIGHBOUR: 'it returns false'. Refute it at one input. -/
def chipsEnumeratesWrong : ChangeSpec := { name := "chipsEnumerates", fn := fun _ => fun
  | [d1, d2] => { results := [.lit (.bool false)], args := [d1, d2] }
  | _ => none }
def ChipsEnumeratesWrongFalsely : Prop := chipsEnumeratesRow.holds Try.pinned (OpenSpec.ofChange chipsEnumeratesWrong)

/-- 'sandpilelaw17.ChipsSplits': WHATEVER THE INPUT: true; the input reads as it did. -/
def chipsSplitsSpec : ChangeSpec := { name := "chipsSplits", fn := fun _ => fun
  | [d] => { results := [.lit (.bool true)], args := [d] }
  | _ => none }
def chipsSplitsRow : OpenClaim := { program := "ytcmkllfocifnlaa", sum := "85b3ca2eec557d159065638969b130e685e87305c26a91273a4a91537e76d87d", func := "sandpile/sandpilelaw17.ChipsSplits", spec := "chipsSplits", unfollowed := true, recurses := true, apart := false }
def ChipsSplitsSaid : Prop := chipsSplitsRow.holds Try.pinned (OpenSpec.ofChange chipsSplitsSpec)

/-- ITS FALSE NEIGHBOUR: 'it returns false'. Refute it at one input. -/
def chipsSplitsWrong : ChangeSpec := { name := "chipsSplits", fn := fun _ => fun
  | [d] => { results := [.lit (.bool false)], args := [d] }
  | _ => none }
def ChipsSplitsWrongFalsely : Prop := chipsSplitsRow.holds Try.pinned (OpenSpec.ofChange chipsSplitsWrong)

/-- 'sandpilelaw17.ChipsChecks': WHATEVER THE INPUT: true; the input reads as it did. -/
def chipsChecksSpec : ChangeSpec := { name := "chipsChecks", fn := fun _ => fun
  | [d1, d2, d3] => { results := [.lit (.bool true)], args := [d1, d2, d3] }
  | _ => none }
def chipsChecksRow : OpenClaim := { program := "ytcmkllfocifnlaa", sum := "85b3ca2eec557d159065638969b130e685e87305c26a91273a4a91537e76d87d", func := "sandpile/sandpilelaw17.ChipsChecks", spec := "chipsChecks", unfollowed := true, recurses := true, apart := false }
def ChipsChecksSaid : Prop := chipsChecksRow.holds Try.pinned (OpenSpec.ofChange chipsChecksSpec)

/-- ITS FALSE NEIGHBOUR: 'it returns false'. Refute it at one input. -/
def chipsChecksWrong : ChangeSpec := { name := "chipsChecks", fn := fun _ => fun
  | [d1, d2, d3] => { results := [.lit (.bool false)], args := [d1, d2, d3] }
  | _ => none }
def ChipsChecksWrongFalsely : Prop := chipsChecksRow.holds Try.pinned (OpenSpec.ofChange chipsChecksWrong)

/-- 'sandpilelaw17.ChipsAdds': WHATEVER THE INPUT: true; the input reads as it did. -/
def chipsAddsSpec : ChangeSpec := { name := "chipsAdds", fn := fun _ => fun
  | [d1, d2, d3] => { results := [.lit (.bool true)], args := [d1, d2, d3] }
  | _ => none }
def chipsAddsRow : OpenClaim := { program := "ytcmkllfocifnlaa", sum := "85b3ca2eec557d159065638969b130e685e87305c26a91273a4a91537e76d87d", func := "sandpile/sandpilelaw17.ChipsAdds", spec := "chipsAdds", unfollowed := true, recurses := true, apart := false }
def ChipsAddsSaid : Prop := chipsAddsRow.holds Try.pinned (OpenSpec.ofChange chipsAddsSpec)

/-- ITS FALSE NEIGHBOUR: 'it returns false'. Refute it at one input. -/
def chipsAddsWrong : ChangeSpec := { name := "chipsAdds", fn := fun _ => fun
  | [d1, d2, d3] => { results := [.lit (.bool false)], args := [d1, d2, d3] }
  | _ => none }
def ChipsAddsWrongFalsely : Prop := chipsAddsRow.holds Try.pinned (OpenSpec.ofChange chipsAddsWrong)

/-- 'sandpilelaw17.ChipsGroup': WHATEVER THE INPUT: true; the input reads as it did. -/
def chipsGroupSpec : ChangeSpec := { name := "chipsGroup", fn := fun _ => fun
  | [d1, d2, d3] => { results := [.lit (.bool true)], args := [d1, d2, d3] }
  | _ => none }
def chipsGroupRow : OpenClaim := { program := "ytcmkllfocifnlaa", sum := "85b3ca2eec557d159065638969b130e685e87305c26a91273a4a91537e76d87d", func := "sandpile/sandpilelaw17.ChipsGroup", spec := "chipsGroup", unfollowed := true, recurses := true, apart := false }
def ChipsGroupSaid : Prop := chipsGroupRow.holds Try.pinned (OpenSpec.ofChange chipsGroupSpec)

/-- ITS FALSE NEIGHBOUR: 'it returns false'. Refute it at one input. -/
def chipsGroupWrong : ChangeSpec := { name := "chipsGroup", fn := fun _ => fun
  | [d1, d2, d3] => { results := [.lit (.bool false)], args := [d1, d2, d3] }
  | _ => none }
def ChipsGroupWrongFalsely : Prop := chipsGroupRow.holds Try.pinned (OpenSpec.ofChange chipsGroupWrong)

/- THE SECOND FORM. 'bulk': how many values and letters a reading holds, each counted each time it is reached (what is shared counts as often as it is met; a slice's spare places count too). A statement '..UptoSaid' is the law's where the arguments, and the package variables that the reading takes, are together of bulk at most 1048576: NARROWER than '..Said'. Prove '..Said' where nothing that the law and all that it calls make is longer than what came in: it says more and counts as full. Else prove '..UptoSaid'. A law counts once. -/
mutual
def uptoBulk {H : Type} : DataW H → Nat
  | .lit (.string bytes) => bytes.length + 1
  | .lit _ => 1
  | .nil => 1
  | .ptr d => uptoBulk d + 1
  | .slice elems spare => uptoBulkAll elems + uptoBulkAll spare + 1
  | .agg parts => uptoBulkAll parts + 1
  | .iface _ d => uptoBulk d + 1
  | .map entries => uptoBulkEntries entries + 1
  | .held _ => 1
def uptoBulkAll {H : Type} : List (DataW H) → Nat
  | [] => 0
  | d :: r => uptoBulk d + uptoBulkAll r
def uptoBulkEntries {H : Type} : List (Lit × DataW H) → Nat
  | [] => 0
  | x :: r => uptoBulkEntry x + uptoBulkEntries r
def uptoBulkEntry {H : Type} : Lit × DataW H → Nat
  | (.string bytes, d) => bytes.length + uptoBulk d + 1
  | (_, d) => uptoBulk d + 1
 end
def uptoSmall : (H : Type) → List (DataW H) → Bool := fun _ ds => decide (uptoBulkAll ds ≤ 1048576)
def OpenSpec.upto (s : _root_.Go.ChangeSpec) : _root_.Go.OpenSpec := { _root_.Go.OpenSpec.ofChange s with cond := some uptoSmall }

/-- 'sandpilelaw17.ChipsCompares', WHERE WHAT IT READS IS OF BULK AT MOST 1048576: true; the input reads as it did. -/
def chipsComparesUptoRow : OpenClaim := { program := "ytcmkllfocifnlaa", sum := "85b3ca2eec557d159065638969b130e685e87305c26a91273a4a91537e76d87d", func := "sandpile/sandpilelaw17.ChipsCompares", spec := "chipsCompares", unfollowed := true, recurses := true, apart := false, narrowed := true }
def ChipsComparesUptoSaid : Prop := chipsComparesUptoRow.holds Try.pinned (OpenSpec.upto chipsComparesSpec)

/-- 'sandpilelaw17.ChipsLists', WHERE WHAT IT READS IS OF BULK AT MOST 1048576: true; the input reads as it did. -/
def chipsListsUptoRow : OpenClaim := { program := "ytcmkllfocifnlaa", sum := "85b3ca2eec557d159065638969b130e685e87305c26a91273a4a91537e76d87d", func := "sandpile/sandpilelaw17.ChipsLists", spec := "chipsLists", unfollowed := true, recurses := true, apart := false, narrowed := true }
def ChipsListsUptoSaid : Prop := chipsListsUptoRow.holds Try.pinned (OpenSpec.upto chipsListsSpec)

/-- 'sandpilelaw17.ChipsLattice', WHERE WHAT IT READS IS OF BULK AT MOST 1048576: true; the input reads as it did. -/
def chipsLatticeUptoRow : OpenClaim := { program := "ytcmkllfocifnlaa", sum := "85b3ca2eec557d159065638969b130e685e87305c26a91273a4a91537e76d87d", func := "sandpile/sandpilelaw17.ChipsLattice", spec := "chipsLattice", unfollowed := true, recurses := true, apart := false, narrowed := true }
def ChipsLatticeUptoSaid : Prop := chipsLatticeUptoRow.holds Try.pinned (OpenSpec.upto chipsLatticeSpec)

/-- 'sandpilelaw17.ChipsLooks', WHERE WHAT IT READS IS OF BULK AT MOST 1048576: true; the input reads as it did. -/
def chipsLooksUptoRow : OpenClaim := { program := "ytcmkllfocifnlaa", sum := "85b3ca2eec557d159065638969b130e685e87305c26a91273a4a91537e76d87d", func := "sandpile/sandpilelaw17.ChipsLooks", spec := "chipsLooks", unfollowed := true, recurses := true, apart := false, narrowed := true }
def ChipsLooksUptoSaid : Prop := chipsLooksUptoRow.holds Try.pinned (OpenSpec.upto chipsLooksSpec)

/-- 'sandpilelaw17.ChipsEnumerates', WHERE WHAT IT READS IS OF BULK AT MOST 1048576: true; the input reads as it did. -/
def chipsEnumeratesUptoRow : OpenClaim := { program := "ytcmkllfocifnlaa", sum := "85b3ca2eec557d159065638969b130e685e87305c26a91273a4a91537e76d87d", func := "sandpile/sandpilelaw17.ChipsEnumerates", spec := "chipsEnumerates", unfollowed := true, recurses := true, apart := false, narrowed := true }
def ChipsEnumeratesUptoSaid : Prop := chipsEnumeratesUptoRow.holds Try.pinned (OpenSpec.upto chipsEnumeratesSpec)

/-- 'sandpilelaw17.ChipsSplits', WHERE WHAT IT READS IS OF BULK AT MOST 1048576: true; the input reads as it did. -/
def chipsSplitsUptoRow : OpenClaim := { program := "ytcmkllfocifnlaa", sum := "85b3ca2eec557d159065638969b130e685e87305c26a91273a4a91537e76d87d", func := "sandpile/sandpilelaw17.ChipsSplits", spec := "chipsSplits", unfollowed := true, recurses := true, apart := false, narrowed := true }
def ChipsSplitsUptoSaid : Prop := chipsSplitsUptoRow.holds Try.pinned (OpenSpec.upto chipsSplitsSpec)

/-- 'sandpilelaw17.ChipsChecks', WHERE WHAT IT READS IS OF BULK AT MOST 1048576: true; the input reads as it did. -/
def chipsChecksUptoRow : OpenClaim := { program := "ytcmkllfocifnlaa", sum := "85b3ca2eec557d159065638969b130e685e87305c26a91273a4a91537e76d87d", func := "sandpile/sandpilelaw17.ChipsChecks", spec := "chipsChecks", unfollowed := true, recurses := true, apart := false, narrowed := true }
def ChipsChecksUptoSaid : Prop := chipsChecksUptoRow.holds Try.pinned (OpenSpec.upto chipsChecksSpec)

/-- 'sandpilelaw17.ChipsAdds', WHERE WHAT IT READS IS OF BULK AT MOST 1048576: true; the input reads as it did. -/
def chipsAddsUptoRow : OpenClaim := { program := "ytcmkllfocifnlaa", sum := "85b3ca2eec557d159065638969b130e685e87305c26a91273a4a91537e76d87d", func := "sandpile/sandpilelaw17.ChipsAdds", spec := "chipsAdds", unfollowed := true, recurses := true, apart := false, narrowed := true }
def ChipsAddsUptoSaid : Prop := chipsAddsUptoRow.holds Try.pinned (OpenSpec.upto chipsAddsSpec)

/-- 'sandpilelaw17.ChipsGroup', WHERE WHAT IT READS IS OF BULK AT MOST 1048576: true; the input reads as it did. -/
def chipsGroupUptoRow : OpenClaim := { program := "ytcmkllfocifnlaa", sum := "85b3ca2eec557d159065638969b130e685e87305c26a91273a4a91537e76d87d", func := "sandpile/sandpilelaw17.ChipsGroup", spec := "chipsGroup", unfollowed := true, recurses := true, apart := false, narrowed := true }
def ChipsGroupUptoSaid : Prop := chipsGroupUptoRow.holds Try.pinned (OpenSpec.upto chipsGroupSpec)

end Rows
end Go.Proofs.Ytcmkllfocifnlaa
