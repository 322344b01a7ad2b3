/-
  No cell of these rows narrows 'for every input' (looked for: loops, veiled, ifaces, maps, wideKeys, modest, calm, conditions, laid).
  DERIVED. THE GIVEN ROWS OF THIS SEAT. 6 by the template 'for every input the law returns true; each argument reads behind the call as it read before'; 0 by the template 'total and deterministic' (their statements: YtefggpdobjboeaaGreatTotals.lean).
  GIVEN WITH THE SEED: the statements are not yours to turn. If you find one false, say at which input.
  Laid BY PROGRAM, IN A SANDBOX (cutbox-rows.mjs): the forced cells as the released guide's own fill.sh prints them over the translation 265bed6ea7ef8367… (all of the seat's roots in one cut). By AI agents, Wed Nov 11 2026. No macro, syntax, notation, axiom, sorry.
-/
import Derived.Test.YtefggpdobjboeaaGreatChecked
import GoSem.Claim
import GoSem.ClaimJoined
import GoSem.ClaimMapViews
import Derived.JoinedTies
import Derived.KernelRfl
namespace Go.Proofs.YtefggpdobjboeaaGreat
/- THE CELL 'sum', in the pinned program and in every row, IS THE sha256 OF THE DUMP (.gsa) THAT YtefggpdobjboeaaGreatProg.lean LOADS. Nothing in Lean hashes anything: it is a label: what it is worth is what the hold of that sum in a sandbox is worth. -/
noncomputable def Tryz.pinned : Pinned := { name := "ytefggpdobjboeaagreat", sum := "265bed6ea7ef8367cee43352747726741ac78a8fea917c4fc99f6ed01d746771", checked := Tryz.checked }
namespace Rows
def none {H : Type} : Left H := { results := [], args := [] }

/-- 'sandpilelaw35.EquivalenceDecides': WHATEVER THE INPUT: true; the input reads as it did. -/
def equivalenceDecidesSpec : ChangeSpec := { name := "equivalenceDecides", fn := fun _ => fun
  | [d1, d2, d3] => { results := [.lit (.bool true)], args := [d1, d2, d3] }
  | _ => none }
def equivalenceDecidesRow : OpenClaim := { program := "ytefggpdobjboeaagreat", sum := "265bed6ea7ef8367cee43352747726741ac78a8fea917c4fc99f6ed01d746771", func := "sandpile/sandpilelaw35.EquivalenceDecides", spec := "equivalenceDecides", unfollowed := true, recurses := true, apart := false }
def EquivalenceDecidesSaid : Prop := equivalenceDecidesRow.holds Tryz.pinned (OpenSpec.ofChange equivalenceDecidesSpec)

/-- ITS FALSE NEIGHBOUR: 'it returns false'. Refute it at one input. -/
def equivalenceDecidesWrong : ChangeSpec := { name := "equivalenceDecides", fn := fun _ => fun
  | [d1, d2, d3] => { results := [.lit (.bool false)], args := [d1, d2, d3] }
  | _ => none }
def EquivalenceDecidesWrongFalsely : Prop := equivalenceDecidesRow.holds Tryz.pinned (OpenSpec.ofChange equivalenceDecidesWrong)

/-- 'sandpilelaw35.EquivalenceLists': WHATEVER THE INPUT: true; the input reads as it did. -/
def equivalenceListsSpec : ChangeSpec := { name := "equivalenceLists", fn := fun _ => fun
  | [d1, d2] => { results := [.lit (.bool true)], args := [d1, d2] }
  | _ => none }
def equivalenceListsRow : OpenClaim := { program := "ytefggpdobjboeaagreat", sum := "265bed6ea7ef8367cee43352747726741ac78a8fea917c4fc99f6ed01d746771", func := "sandpile/sandpilelaw35.EquivalenceLists", spec := "equivalenceLists", unfollowed := true, recurses := true, apart := false }
def EquivalenceListsSaid : Prop := equivalenceListsRow.holds Tryz.pinned (OpenSpec.ofChange equivalenceListsSpec)

/-- ITS FALSE NEIGHBOUR: 'it returns false'. Refute it at one input. -/
def equivalenceListsWrong : ChangeSpec := { name := "equivalenceLists", fn := fun _ => fun
  | [d1, d2] => { results := [.lit (.bool false)], args := [d1, d2] }
  | _ => none }
def EquivalenceListsWrongFalsely : Prop := equivalenceListsRow.holds Tryz.pinned (OpenSpec.ofChange equivalenceListsWrong)

/-- 'sandpilelaw35.EquivalenceNames': WHATEVER THE INPUT: true; the input reads as it did. -/
def equivalenceNamesSpec : ChangeSpec := { name := "equivalenceNames", fn := fun _ => fun
  | [d1, d2] => { results := [.lit (.bool true)], args := [d1, d2] }
  | _ => none }
def equivalenceNamesRow : OpenClaim := { program := "ytefggpdobjboeaagreat", sum := "265bed6ea7ef8367cee43352747726741ac78a8fea917c4fc99f6ed01d746771", func := "sandpile/sandpilelaw35.EquivalenceNames", spec := "equivalenceNames", unfollowed := true, recurses := true, apart := false }
def EquivalenceNamesSaid : Prop := equivalenceNamesRow.holds Tryz.pinned (OpenSpec.ofChange equivalenceNamesSpec)

/-- ITS FALSE NEIGHBOUR: 'it returns false'. Refute it at one input. -/
def equivalenceNamesWrong : ChangeSpec := { name := "equivalenceNames", fn := fun _ => fun
  | [d1, d2] => { results := [.lit (.bool false)], args := [d1, d2] }
  | _ => none }
def EquivalenceNamesWrongFalsely : Prop := equivalenceNamesRow.holds Tryz.pinned (OpenSpec.ofChange equivalenceNamesWrong)

/-- 'sandpilelaw35.EquivalenceFires': WHATEVER THE INPUT: true; the input reads as it did. -/
def equivalenceFiresSpec : ChangeSpec := { name := "equivalenceFires", fn := fun _ => fun
  | [d1, d2, d3] => { results := [.lit (.bool true)], args := [d1, d2, d3] }
  | _ => none }
def equivalenceFiresRow : OpenClaim := { program := "ytefggpdobjboeaagreat", sum := "265bed6ea7ef8367cee43352747726741ac78a8fea917c4fc99f6ed01d746771", func := "sandpile/sandpilelaw35.EquivalenceFires", spec := "equivalenceFires", unfollowed := true, recurses := true, apart := false }
def EquivalenceFiresSaid : Prop := equivalenceFiresRow.holds Tryz.pinned (OpenSpec.ofChange equivalenceFiresSpec)

/-- ITS FALSE NEIGHBOUR: 'it returns false'. Refute it at one input. -/
def equivalenceFiresWrong : ChangeSpec := { name := "equivalenceFires", fn := fun _ => fun
  | [d1, d2, d3] => { results := [.lit (.bool false)], args := [d1, d2, d3] }
  | _ => none }
def EquivalenceFiresWrongFalsely : Prop := equivalenceFiresRow.holds Tryz.pinned (OpenSpec.ofChange equivalenceFiresWrong)

/-- 'sandpilelaw35.EquivalenceVerifies': WHATEVER THE INPUT: true; the input reads as it did. -/
def equivalenceVerifiesSpec : ChangeSpec := { name := "equivalenceVerifies", fn := fun _ => fun
  | [d1, d2] => { results := [.lit (.bool true)], args := [d1, d2] }
  | _ => none }
def equivalenceVerifiesRow : OpenClaim := { program := "ytefggpdobjboeaagreat", sum := "265bed6ea7ef8367cee43352747726741ac78a8fea917c4fc99f6ed01d746771", func := "sandpile/sandpilelaw35.EquivalenceVerifies", spec := "equivalenceVerifies", unfollowed := true, recurses := true, apart := false }
def EquivalenceVerifiesSaid : Prop := equivalenceVerifiesRow.holds Tryz.pinned (OpenSpec.ofChange equivalenceVerifiesSpec)

/-- ITS FALSE NEIGHBOUR: 'it returns false'. Refute it at one input. -/
def equivalenceVerifiesWrong : ChangeSpec := { name := "equivalenceVerifies", fn := fun _ => fun
  | [d1, d2] => { results := [.lit (.bool false)], args := [d1, d2] }
  | _ => none }
def EquivalenceVerifiesWrongFalsely : Prop := equivalenceVerifiesRow.holds Tryz.pinned (OpenSpec.ofChange equivalenceVerifiesWrong)

/-- 'sandpilelaw35.EquivalenceChains': WHATEVER THE INPUT: true; the input reads as it did. -/
def equivalenceChainsSpec : ChangeSpec := { name := "equivalenceChains", fn := fun _ => fun
  | [d1, d2, d3] => { results := [.lit (.bool true)], args := [d1, d2, d3] }
  | _ => none }
def equivalenceChainsRow : OpenClaim := { program := "ytefggpdobjboeaagreat", sum := "265bed6ea7ef8367cee43352747726741ac78a8fea917c4fc99f6ed01d746771", func := "sandpile/sandpilelaw35.EquivalenceChains", spec := "equivalenceChains", unfollowed := true, recurses := true, apart := false }
def EquivalenceChainsSaid : Prop := equivalenceChainsRow.holds Tryz.pinned (OpenSpec.ofChange equivalenceChainsSpec)

/-- ITS FALSE NEIGHBOUR: 'it returns false'. Refute it at one input. -/
def equivalenceChainsWrong : ChangeSpec := { name := "equivalenceChains", fn := fun _ => fun
  | [d1, d2, d3] => { results := [.lit (.bool false)], args := [d1, d2, d3] }
  | _ => none }
def EquivalenceChainsWrongFalsely : Prop := equivalenceChainsRow.holds Tryz.pinned (OpenSpec.ofChange equivalenceChainsWrong)

/- THE SECOND FORM. 'bulk': how many values and letters a reading holds, each counted each time it is reached (what is shared counts as often as it is met; a slice's spare places count too). A statement '..UptoSaid' is the law's where the arguments, and the package variables that the reading takes, are together of bulk at most 1048576: NARROWER than '..Said'. Prove '..Said' where nothing that the law and all that it calls make is longer than what came in: it says more and counts as full. Else prove '..UptoSaid'. A law counts once. -/
mutual
def uptoBulk {H : Type} : DataW H → Nat
  | .lit (.string bytes) => bytes.length + 1
  | .lit _ => 1
  | .nil => 1
  | .ptr d => uptoBulk d + 1
  | .slice elems spare => uptoBulkAll elems + uptoBulkAll spare + 1
  | .agg parts => uptoBulkAll parts + 1
  | .iface _ d => uptoBulk d + 1
  | .map entries => uptoBulkEntries entries + 1
  | .held _ => 1
def uptoBulkAll {H : Type} : List (DataW H) → Nat
  | [] => 0
  | d :: r => uptoBulk d + uptoBulkAll r
def uptoBulkEntries {H : Type} : List (Lit × DataW H) → Nat
  | [] => 0
  | x :: r => uptoBulkEntry x + uptoBulkEntries r
def uptoBulkEntry {H : Type} : Lit × DataW H → Nat
  | (.string bytes, d) => bytes.length + uptoBulk d + 1
  | (_, d) => uptoBulk d + 1
 end
def uptoSmall : (H : Type) → List (DataW H) → Bool := fun _ ds => decide (uptoBulkAll ds ≤ 1048576)
def OpenSpec.upto (s : _root_.Go.ChangeSpec) : _root_.Go.OpenSpec := { _root_.Go.OpenSpec.ofChange s with cond := some uptoSmall }

/-- 'sandpilelaw35.EquivalenceDecides', WHERE WHAT IT READS IS OF BULK AT MOST 1048576: true; the input reads as it did. -/
def equivalenceDecidesUptoRow : OpenClaim := { program := "ytefggpdobjboeaagreat", sum := "265bed6ea7ef8367cee43352747726741ac78a8fea917c4fc99f6ed01d746771", func := "sandpile/sandpilelaw35.EquivalenceDecides", spec := "equivalenceDecides", unfollowed := true, recurses := true, apart := false, narrowed := true }
def EquivalenceDecidesUptoSaid : Prop := equivalenceDecidesUptoRow.holds Tryz.pinned (OpenSpec.upto equivalenceDecidesSpec)

/-- 'sandpilelaw35.EquivalenceLists', WHERE WHAT IT READS IS OF BULK AT MOST 1048576: true; the input reads as it did. -/
def equivalenceListsUptoRow : OpenClaim := { program := "ytefggpdobjboeaagreat", sum := "265bed6ea7ef8367cee43352747726741ac78a8fea917c4fc99f6ed01d746771", func := "sandpile/sandpilelaw35.EquivalenceLists", spec := "equivalenceLists", unfollowed := true, recurses := true, apart := false, narrowed := true }
def EquivalenceListsUptoSaid : Prop := equivalenceListsUptoRow.holds Tryz.pinned (OpenSpec.upto equivalenceListsSpec)

/-- 'sandpilelaw35.EquivalenceNames', WHERE WHAT IT READS IS OF BULK AT MOST 1048576: true; the input reads as it did. -/
def equivalenceNamesUptoRow : OpenClaim := { program := "ytefggpdobjboeaagreat", sum := "265bed6ea7ef8367cee43352747726741ac78a8fea917c4fc99f6ed01d746771", func := "sandpile/sandpilelaw35.EquivalenceNames", spec := "equivalenceNames", unfollowed := true, recurses := true, apart := false, narrowed := true }
def EquivalenceNamesUptoSaid : Prop := equivalenceNamesUptoRow.holds Tryz.pinned (OpenSpec.upto equivalenceNamesSpec)

/-- 'sandpilelaw35.EquivalenceFires', WHERE WHAT IT READS IS OF BULK AT MOST 1048576: true; the input reads as it did. -/
def equivalenceFiresUptoRow : OpenClaim := { program := "ytefggpdobjboeaagreat", sum := "265bed6ea7ef8367cee43352747726741ac78a8fea917c4fc99f6ed01d746771", func := "sandpile/sandpilelaw35.EquivalenceFires", spec := "equivalenceFires", unfollowed := true, recurses := true, apart := false, narrowed := true }
def EquivalenceFiresUptoSaid : Prop := equivalenceFiresUptoRow.holds Tryz.pinned (OpenSpec.upto equivalenceFiresSpec)

/-- 'sandpilelaw35.EquivalenceVerifies', WHERE WHAT IT READS IS OF BULK AT MOST 1048576: true; the input reads as it did. -/
def equivalenceVerifiesUptoRow : OpenClaim := { program := "ytefggpdobjboeaagreat", sum := "265bed6ea7ef8367cee43352747726741ac78a8fea917c4fc99f6ed01d746771", func := "sandpile/sandpilelaw35.EquivalenceVerifies", spec := "equivalenceVerifies", unfollowed := true, recurses := true, apart := false, narrowed := true }
def EquivalenceVerifiesUptoSaid : Prop := equivalenceVerifiesUptoRow.holds Tryz.pinned (OpenSpec.upto equivalenceVerifiesSpec)

/-- 'sandpilelaw35.EquivalenceChains', WHERE WHAT IT READS IS OF BULK AT MOST 1048576: true; the input reads as it did. -/
def equivalenceChainsUptoRow : OpenClaim := { program := "ytefggpdobjboeaagreat", sum := "265bed6ea7ef8367cee43352747726741ac78a8fea917c4fc99f6ed01d746771", func := "sandpile/sandpilelaw35.EquivalenceChains", spec := "equivalenceChains", unfollowed := true, recurses := true, apart := false, narrowed := true }
def EquivalenceChainsUptoSaid : Prop := equivalenceChainsUptoRow.holds Tryz.pinned (OpenSpec.upto equivalenceChainsSpec)

end Rows
end Go.Proofs.YtefggpdobjboeaaGreat
