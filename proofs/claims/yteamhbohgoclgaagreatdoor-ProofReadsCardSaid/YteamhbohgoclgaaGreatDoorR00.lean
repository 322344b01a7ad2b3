/- An operation of a drawn region that is taken first: the kit's law with its side conditions paid by themselves. -/
import Derived.Test.YteamhbohgoclgaaGreatDoorProg
import Derived.Deep.RegionHeld3
namespace Go.Proofs.YteamhbohgoclgaaGreatDoor

theorem tkY {P : Program} {md : Region.Mode} {ops : Array Oper} {Q : Exit → Act → World → Prop} {S : World → Prop} {op : Op} {ty : TypeId} {pos : String} {af : Array Edge} {gu : Option (Nat × Bool)} {v : Value} {fuel : Nat} {listed : Array Bool} {a : Act} {w : World} (i : Nat) (d : Option Nat)
    (hi : ops[i]? = some { dst := d, op := op, type := ty, pos := pos, after := af, guard := gu }) (hy : YieldsIf P ops S { dst := d, op := op, type := ty, pos := pos, after := af, guard := gu } v a)
    (h : wpAnyH P md ops Q S fuel (listed.setIfInBounds i true) (a.put d v) w) (hs : Region.noSelect ops = true := by kernel_rfl) (hf : Region.free md ops listed i = true := by kernel_rfl) (hr : (Region.ready md ops listed).contains i = true := by kernel_rfl)
    (hQ : ∀ c a w, Q (.panic c) (a.put d v) w → Q (.panic c) a w := by exact fun _ _ _ h => h) (hS : S w := by assumption) : wpAnyH P md ops Q S (fuel + 1) listed a w := wpAnyH_take hi hs hf hr hQ hy hS h
theorem tk1 {α : Type} (l : List α) (i : Nat) (a : α) : l.toArray.setIfInBounds i a = (l.set i a).toArray := List.setIfInBounds_toArray l i a
theorem tk2 {α : Type} {a b : α} {l : List α} : (a :: l).set 0 b = b :: l := List.set_cons_zero
theorem tk3 {α : Type} {a b : α} {l : List α} {n : Nat} : (a :: l).set (n + 1) b = a :: l.set n b := List.set_cons_succ
end Go.Proofs.YteamhbohgoclgaaGreatDoor
