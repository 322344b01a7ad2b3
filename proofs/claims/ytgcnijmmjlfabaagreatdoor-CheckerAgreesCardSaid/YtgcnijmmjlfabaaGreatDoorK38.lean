/- From what the form hands over to the words of the walks: an argument of type graph, of type divisor, of type script.
   From what the form hands over to the words of the walks: rows that list the library's variables. -/
import Derived.Test.YtgcnijmmjlfabaaGreatDoorK18
import Derived.Deep.Fields
import Derived.HandedShaped
import Derived.LaidMore
import Derived.Lay
import Derived.Lib.SmallJoins
import Derived.Stop.Joined
import Derived.Stop.LaidErr
import Derived.Test.YtgcnijmmjlfabaaGreatDoorCards
import Derived.Test.YtgcnijmmjlfabaaGreatDoorTie
set_option maxRecDepth 100000
set_option maxHeartbeats 16000000
namespace Go.Proofs.YtgcnijmmjlfabaaGreatDoor
open Go.ChangeShapes Go.WideShapes Go.ChangeAt Go.RowKit Go.Shelf

theorem own_ : ownKnob Tryz.prog.godebug = none := by kernel_rfl
end Go.Proofs.YtgcnijmmjlfabaaGreatDoor

namespace Go.Proofs.YtgcnijmmjlfabaaGreatDoor
open Go.ChangeShapes Go.WideShapes Go.ChangeAt Go.RowKit Go.Shelf

/-- A row that lists variables, with the world's shape for the contract. -/
theorem returns_laid_shaped {H : Type} {enc : TypeId × Value → H} {a : Assume} {C : Checked} {os : Os} {f : FuncId} {fn : Func} {s : ChangeSpec} {conds : List PathCond} {apart fresh handsOn again : Bool} {X : World → Array Value → Prop}
    (hX : ∀ (w w' : World) (args : Array Value), w.heap = w'.heap → X w args → X w' args)
    (own : ownKnob C.prog.godebug = none) (started : os.Started) (noInit : C.prog.inits.idxOf? f = none) (hfn : C.prog.funcs[f]? = some fn)
    (witness : ∃ (w : World) (tape : Tape) (i : Input), w.os = os ∧ (w.forCall tape i).Shaped C.prog ∧ i.vars = [] ∧ Input.okWide C.prog (w.forCall tape i) .any w.heap.size f i ∧
      ((s.pre enc C.prog fn conds apart (w.forCall tape i).memory i.args ∧ X (w.forCall tape i).memory i.args) ∧ sizedMet enc C.prog fn (OpenSpec.ofChange s) apart (w.forCall tape i).memory i.args) ∧ a.holds C.prog (lone (Frame.enter C.prog f i.args .normal) [] (w.forCall tape i)))
    (contract : ∀ (W : World) (base : Nat) (args : Array Value) (ds gs : List (DataW H)) (before : List MemPlace),
      (∀ (j : Nat) t v, fn.params[j]? = some t → args[j]? = some v → Value.okWide C.prog W .any base t v) →
      DataW.Whole enc C.prog fn.params.toList s.vars apart W args.toList ds gs before →
      (DataW.weightsEach C.prog (fn.params.toList ++ s.plain.varTypes C.prog) (ds ++ gs)).all (· ≤ reachBytes) = true → X W args → W.ShapedOpen C.prog →
      Calls C.prog f args W fun e W' => ∃ v, e = .returned v ∧ s.post enc C.prog fn apart fresh handsOn again W args v W') :
    ReturnsInHanded a C os f .any (fun w args => (s.pre enc C.prog fn conds apart w args ∧ X w args) ∧ sizedMet enc C.prog fn (OpenSpec.ofChange s) apart w args) (s.post enc C.prog fn apart fresh handsOn again) := by
  refine returnsInHanded_of_calls own started noInit witness ?_
  intro w tape i _ hsh _ hok hpre _
  obtain ⟨_, _, _, fn', hfn', _, _, _, _, hval⟩ := hok
  have e : fn' = fn := Option.some.inj (hfn'.symm.trans hfn)
  subst e
  obtain ⟨⟨⟨ds, gs, before, hw, -⟩, hx⟩, hz⟩ := hpre
  have hw' := DataW.Whole.of_heap (w' := w.forCall tape i) (by rfl) hw
  refine (contract (w.forCall tape i) w.heap.size i.args ds gs before hval hw' (hz.weights hw) (hX _ _ _ (by rfl) hx) hsh).mono fun e W' ⟨v, he, hp⟩ => ?_
  subst he
  exact ChangeSpec.post_blind hp
theorem gRange_ : Tryz.prog.globalNamed "strconv.ErrRange" = some 2 := by kernel_rfl
theorem tRange_ : (Tryz.prog.globals[2]?).map (·.type) = some 113 := by kernel_rfl
theorem star_ : "*errors.errorString" = "*" ++ "errors.errorString" := by decide
theorem rowErr_ : ∀ u, Tryz.prog.typeName? 3 u = some "*errors.errorString" → u = 207 := fun u h =>
  typeName_ptr_named (nm := "errors.errorString") (by rw [← star_]; kernel_rfl) (by kernel_rfl) (by decide) u (by rw [← star_]; exact h)
/-- The listed data. -/
abbrev laid58 : List (String × DataW Unit) := Rows.checkerLinesRow.laid
theorem lv_of_laid {W : World} (hL : laidMetH Tryz.prog laid58 W) (hsh : W.ShapedOpen Tryz.prog) : LV W := by
  rw [MakeChecks.laidMetH_plain _ _ _ (by kernel_rfl)] at hL
  refine ⟨cell_of_shapedOpen_int (P := Tryz.prog) (g := 0) (t := 3) (zero := #[.int .i64 0]) hsh (of_decide_eq_true (by kernel_rfl)) (by kernel_rfl) rfl (by kernel_rfl) (by kernel_rfl) Tryz.underlying3, ?_⟩
  have h4 := hL.tail.tail.tail.tail
  obtain ⟨a, s, hv, -, -, -⟩ := laid_sentinel h4 gRange_ tRange_ Tryz.underlying113 rowErr_ Tryz.underlying207 Tryz.underlying209 rfl rfl Tryz.underlying9 (by kernel_rfl) (by kernel_rfl)
  have hc := World.var?_cell gRange_ hv 0
  exact ⟨_, by simpa using hc, .inr ⟨_, _, rfl⟩⟩
end Go.Proofs.YtgcnijmmjlfabaaGreatDoor

