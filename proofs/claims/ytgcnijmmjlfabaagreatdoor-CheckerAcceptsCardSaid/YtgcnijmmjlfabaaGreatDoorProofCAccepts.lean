/- The statement CheckerAccepts: for every input the law returns true, and its arguments read as before; the library's variables as the program's text lays them. No condition beside the form's own. -/
import Derived.Test.YtgcnijmmjlfabaaGreatDoorK01
import Derived.Test.YtgcnijmmjlfabaaGreatDoorK02
import Derived.Test.YtgcnijmmjlfabaaGreatDoorK03
import Derived.Test.YtgcnijmmjlfabaaGreatDoorK04
import Derived.Test.YtgcnijmmjlfabaaGreatDoorK05
import Derived.Test.YtgcnijmmjlfabaaGreatDoorK06
import Derived.Test.YtgcnijmmjlfabaaGreatDoorK07
import Derived.Test.YtgcnijmmjlfabaaGreatDoorK08
import Derived.Test.YtgcnijmmjlfabaaGreatDoorK09
import Derived.Test.YtgcnijmmjlfabaaGreatDoorK10
import Derived.Test.YtgcnijmmjlfabaaGreatDoorK11
import Derived.Test.YtgcnijmmjlfabaaGreatDoorK12
import Derived.Test.YtgcnijmmjlfabaaGreatDoorK13
import Derived.Test.YtgcnijmmjlfabaaGreatDoorK14
import Derived.Test.YtgcnijmmjlfabaaGreatDoorK15
import Derived.Test.YtgcnijmmjlfabaaGreatDoorK16
import Derived.Test.YtgcnijmmjlfabaaGreatDoorK17
import Derived.Test.YtgcnijmmjlfabaaGreatDoorK18
import Derived.Test.YtgcnijmmjlfabaaGreatDoorK19
import Derived.Test.YtgcnijmmjlfabaaGreatDoorK20
import Derived.Test.YtgcnijmmjlfabaaGreatDoorK21
import Derived.Test.YtgcnijmmjlfabaaGreatDoorK22
import Derived.Test.YtgcnijmmjlfabaaGreatDoorK23
import Derived.Test.YtgcnijmmjlfabaaGreatDoorK24
import Derived.Test.YtgcnijmmjlfabaaGreatDoorK25
import Derived.Test.YtgcnijmmjlfabaaGreatDoorK26
import Derived.Test.YtgcnijmmjlfabaaGreatDoorK27
import Derived.Test.YtgcnijmmjlfabaaGreatDoorK28
import Derived.Test.YtgcnijmmjlfabaaGreatDoorK29
import Derived.Test.YtgcnijmmjlfabaaGreatDoorK30
import Derived.Test.YtgcnijmmjlfabaaGreatDoorK31
import Derived.Test.YtgcnijmmjlfabaaGreatDoorK32
import Derived.Test.YtgcnijmmjlfabaaGreatDoorK33
import Derived.Test.YtgcnijmmjlfabaaGreatDoorK34
import Derived.Test.YtgcnijmmjlfabaaGreatDoorK35
import Derived.Test.YtgcnijmmjlfabaaGreatDoorK36
import Derived.Test.YtgcnijmmjlfabaaGreatDoorK37
import Derived.Test.YtgcnijmmjlfabaaGreatDoorK38
namespace Go.Proofs.YtgcnijmmjlfabaaGreatDoor
open Go.ChangeShapes Go.WideShapes Go.ChangeAt Go.RowKit Go.Shelf Go.ChangeMaps

set_option maxRecDepth 100000 in
theorem checkerAccepts_lifted (os : Os) (started : os.Started) (H : Type) (enc : TypeId × Value → H) :
    ReturnsInHanded {} Tryz.checked os 4 .any (fun w args => (Rows.checkerAcceptsSpec.pre enc Tryz.prog Tryz.f4 Rows.checkerAcceptsRow.domain false w args ∧ laidMetH Tryz.prog Rows.checkerAcceptsRow.laid w) ∧ sizedMet enc Tryz.prog Tryz.f4 (OpenSpec.ofChange Rows.checkerAcceptsSpec) false w args)
      (Rows.checkerAcceptsSpec.post enc Tryz.prog Tryz.f4 false true false false) := by
  refine returns_laid_shaped (C := Tryz.checked) (X := fun w _ => laidMetH Tryz.prog Rows.checkerAcceptsRow.laid w) (fun _ _ _ hh h => h.of_heap hh) own_ started (by kernel_rfl) Tryz.func4
    (ChangeSpec.witness_shaped (enc := enc) (C := Tryz.checked) (os := os) (X := fun w _ => laidMetH Tryz.prog Rows.checkerAcceptsRow.laid w) false (World.laidAll Tryz.prog os Rows.checkerAcceptsRow.laid) #[.string ⟨#[]⟩] 8 (World.laidAll_os _ _ _)
      (World.shaped_of_ZipB (by kernel_rfl) (by kernel_rfl)) (by kernel_rfl) (by kernel_rfl) (by kernel_rfl)
      (by rw [MakeChecks.laidMetH_plain _ _ _ (by kernel_rfl)]; exact laidMet_laidAll _ (by kernel_rfl) (by kernel_rfl))) ?_
  intro W base args ds gs before hval0 hW hsz0 hL hsh
  have hlv : LV W := lv_of_laid hL hsh
  have hsz : (DataW.weightsEach Tryz.prog (Tryz.f4.params.toList ++ Rows.checkerAcceptsSpec.plain.varTypes Tryz.prog) (ds ++ gs)).all (· ≤ reachBytes) = true := hsz0
  clear hsz0 hL hsh
  have hval : ∀ (j : Nat) t v, Tryz.f4.params[j]? = some t → args[j]? = some v → Value.okWide Tryz.prog W .any base t v := hval0
  have hW' := hW
  obtain ⟨p, q, hA0, hV, rfl, _, _⟩ := hW
  have hA : DataW.TrodAll enc Tryz.prog W 0 (fun _ => true) true Tryz.f4.params.toList args.toList ds p := hA0
  rw [Tryz.params4] at hA hval hsz
  obtain ⟨v0, d0, rfl, rfl, h0⟩ := trodAll_one hA
  obtain ⟨rfl, rfl⟩ := trodVars_none hV
  obtain ⟨S0, rfl, rfl, rfl, hz0⟩ := open_string Tryz.underlying9 (hval 0 9 v0 rfl rfl) h0
  have hS0 : Value.string S0 = strV S0.data.toList := by unfold strV; rw [Array.toArray_toList]
  clear hA0 hval0
  simp only [List.append_nil] at hW'
  have hcall := acceptsLaw_any S0.data.toList W hlv
  rw [← hS0] at hcall
  refine hcall.mono fun e W' ⟨he, hn⟩ => ?_
  subst he
  exact ⟨_, rfl, _, _, _, [], _, [], hW', trodAll_mk1 (shut_bool Tryz.underlying4 _), trodAll_mk1 (shut_string Tryz.underlying9 hz0), rfl, hn.frame _, fun h => by cases h⟩
theorem checkerAccepts_holds : Rows.CheckerAcceptsSaid :=
  OpenClaim.holds_of_wide 4 Tryz.f4 rfl rfl rfl rfl rfl rfl rfl ⟨rfl, rfl, rfl, rfl, rfl⟩ rfl rfl rfl rfl rfl (by kernel_rfl) Tryz.func4 (by kernel_rfl)
    (of_decide_eq_true (by kernel_rfl)) (by unfold Func.isWrapper; first | (rw [if_pos (by decide +kernel)]; kernel_rfl) | (rw [if_neg (by decide +kernel)]; exact ⟨rfl, rfl⟩))
    (fun os started H enc _ => checkerAccepts_lifted os started H enc)
theorem checkerAcceptsCard_holds : Rows.CheckerAcceptsCardSaid :=
  Claim7.holds_tied_plain_at .later [] [.data, .data, .data, .data, .sentinel, .sentinel, .pinned] true (true, "9cd8ec1fd7b2c5bbdd4888eadb0db6edf7f6a0a94f8f2c14719ef5d0e55ba539") true
    checkerAccepts_holds (fun _ h => by cases h) (by kernel_rfl) (fun _ h => by cases h) checkerAccepts_row_tie rfl ⟨rfl, rfl⟩ (by kernel_rfl) rfl
    (fun f fn hf hfn => by
      obtain rfl : f = 4 := Option.some.inj ((show Tryz.prog.funcNamed "sandpile/sandpilelaw58.CheckerAccepts" = some 4 by kernel_rfl).symm.trans hf) |>.symm
      obtain rfl : fn = Tryz.f4 := (Option.some.inj (Tryz.func4.symm.trans hfn)).symm
      exact ⟨by kernel_rfl, fun j t ht => by
        rw [Tryz.params4] at ht
        have hm : t ∈ [9] := by simpa using Array.mem_of_getElem? ht
        have hall : ([9].all fun u => !Tryz.prog.wantsStandIn u) = true := by kernel_rfl
        exact (show Tryz.prog.wantsStandIn t = false by simpa using List.all_eq_true.1 hall t hm)⟩)
    (by kernel_rfl)
#print axioms checkerAcceptsCard_holds
end Go.Proofs.YtgcnijmmjlfabaaGreatDoor
