/- The statement ProofReads: for every input the law returns true, and its arguments read as before; the library's variables as the program's text lays them. No condition beside the form's own. -/
import Derived.Test.YteamhbohgoclgaaGreatDoorR01
import Derived.Test.YteamhbohgoclgaaGreatDoorR02
import Derived.Test.YteamhbohgoclgaaGreatDoorR03
import Derived.Test.YteamhbohgoclgaaGreatDoorR04
import Derived.Test.YteamhbohgoclgaaGreatDoorR05
import Derived.Test.YteamhbohgoclgaaGreatDoorR06
import Derived.Test.YteamhbohgoclgaaGreatDoorR07
import Derived.Test.YteamhbohgoclgaaGreatDoorR08
import Derived.Test.YteamhbohgoclgaaGreatDoorR09
import Derived.Test.YteamhbohgoclgaaGreatDoorR10
import Derived.Test.YteamhbohgoclgaaGreatDoorR11
import Derived.Test.YteamhbohgoclgaaGreatDoorR12
import Derived.Test.YteamhbohgoclgaaGreatDoorR13
import Derived.Test.YteamhbohgoclgaaGreatDoorR14
import Derived.Test.YteamhbohgoclgaaGreatDoorR15
import Derived.Test.YteamhbohgoclgaaGreatDoorR16
import Derived.Test.YteamhbohgoclgaaGreatDoorR17
import Derived.Test.YteamhbohgoclgaaGreatDoorR18
import Derived.Test.YteamhbohgoclgaaGreatDoorR19
import Derived.Test.YteamhbohgoclgaaGreatDoorR20
import Derived.Test.YteamhbohgoclgaaGreatDoorR21
import Derived.Test.YteamhbohgoclgaaGreatDoorR22
import Derived.Test.YteamhbohgoclgaaGreatDoorR23
import Derived.Test.YteamhbohgoclgaaGreatDoorR24
import Derived.Test.YteamhbohgoclgaaGreatDoorR25
import Derived.Test.YteamhbohgoclgaaGreatDoorR26
import Derived.Test.YteamhbohgoclgaaGreatDoorR27
import Derived.Test.YteamhbohgoclgaaGreatDoorR28
import Derived.Test.YteamhbohgoclgaaGreatDoorR29
import Derived.Test.YteamhbohgoclgaaGreatDoorR30
import Derived.Test.YteamhbohgoclgaaGreatDoorR31
import Derived.Test.YteamhbohgoclgaaGreatDoorR32
import Derived.Test.YteamhbohgoclgaaGreatDoorR33
import Derived.Test.YteamhbohgoclgaaGreatDoorR34
import Derived.Test.YteamhbohgoclgaaGreatDoorR35
import Derived.Test.YteamhbohgoclgaaGreatDoorR36
import Derived.Test.YteamhbohgoclgaaGreatDoorR37
import Derived.Test.YteamhbohgoclgaaGreatDoorR38
import Derived.Test.YteamhbohgoclgaaGreatDoorR39
import Derived.Test.YteamhbohgoclgaaGreatDoorR40
import Derived.Test.YteamhbohgoclgaaGreatDoorR41
import Derived.Test.YteamhbohgoclgaaGreatDoorR42
namespace Go.Proofs.YteamhbohgoclgaaGreatDoor
open Go.ChangeShapes Go.WideShapes Go.ChangeAt Go.RowKit Go.Shelf Go.ChangeMaps

set_option maxRecDepth 100000 in
theorem proofReads_lifted (os : Os) (started : os.Started) (H : Type) (enc : TypeId × Value → H) :
    ReturnsInHanded {} Tryz.checked os 3 .any (fun w args => (Rows.proofReadsSpec.pre enc Tryz.prog Tryz.f3 Rows.proofReadsRow.domain false w args ∧ laidMetH Tryz.prog Rows.proofReadsRow.laid w) ∧ sizedMet enc Tryz.prog Tryz.f3 (OpenSpec.ofChange Rows.proofReadsSpec) false w args)
      (Rows.proofReadsSpec.post enc Tryz.prog Tryz.f3 false true false false) := by
  refine returns_laid_shaped (C := Tryz.checked) (X := fun w _ => laidMetH Tryz.prog Rows.proofReadsRow.laid w) (fun _ _ _ hh h => h.of_heap hh) own_ started (by kernel_rfl) Tryz.func3
    (ChangeSpec.witness_shaped (enc := enc) (C := Tryz.checked) (os := os) (X := fun w _ => laidMetH Tryz.prog Rows.proofReadsRow.laid w) false (World.laidAll Tryz.prog os Rows.proofReadsRow.laid) #[.string ⟨#[]⟩] 8 (World.laidAll_os _ _ _)
      (World.shaped_of_ZipB (by kernel_rfl) (by kernel_rfl)) (by kernel_rfl) (by kernel_rfl) (by kernel_rfl)
      (by rw [MakeChecks.laidMetH_plain _ _ _ (by kernel_rfl)]; exact laidMet_laidAll _ (by kernel_rfl) (by kernel_rfl))) ?_
  intro W base args ds gs before hval0 hW hsz0 hL hsh
  have hlv : LV W := lv_of_laid hL hsh
  have htb : TB W := tb_of_laid hL
  have hsz : (DataW.weightsEach Tryz.prog (Tryz.f3.params.toList ++ Rows.proofReadsSpec.plain.varTypes Tryz.prog) (ds ++ gs)).all (· ≤ reachBytes) = true := hsz0
  clear hsz0 hL hsh
  have hval : ∀ (j : Nat) t v, Tryz.f3.params[j]? = some t → args[j]? = some v → Value.okWide Tryz.prog W .any base t v := hval0
  have hW' := hW
  obtain ⟨p, q, hA0, hV, rfl, _, _⟩ := hW
  have hA : DataW.TrodAll enc Tryz.prog W 0 (fun _ => true) true Tryz.f3.params.toList args.toList ds p := hA0
  rw [Tryz.params3] at hA hval hsz
  obtain ⟨v0, d0, rfl, rfl, h0⟩ := trodAll_one hA
  obtain ⟨rfl, rfl⟩ := trodVars_none hV
  obtain ⟨S0, rfl, rfl, rfl, hz0⟩ := open_string Tryz.underlying9 (hval 0 9 v0 rfl rfl) h0
  have hS0 : Value.string S0 = strV S0.data.toList := by unfold strV; rw [Array.toArray_toList]
  clear hA0 hval0
  simp only [List.append_nil] at hW'
  have hcall := readsLaw_any S0.data.toList W hlv htb
  rw [← hS0] at hcall
  refine hcall.mono fun e W' ⟨he, hn⟩ => ?_
  subst he
  exact ⟨_, rfl, _, _, _, [], _, [], hW', trodAll_mk1 (shut_bool Tryz.underlying4 _), trodAll_mk1 (shut_string Tryz.underlying9 hz0), rfl, hn.frame _, fun h => by cases h⟩
theorem proofReads_holds : Rows.ProofReadsSaid :=
  OpenClaim.holds_of_wide 3 Tryz.f3 rfl rfl rfl rfl rfl rfl rfl ⟨rfl, rfl, rfl, rfl, rfl⟩ rfl rfl rfl rfl rfl proofReads_nf Tryz.func3 proofReads_jf proofReads_in proofReads_wr
    (fun os started H enc _ => proofReads_lifted os started H enc)
theorem proofReads_cl : ∀ f fn, Tryz.pinned.checked.prog.funcNamed Rows.proofReadsRow.func = some f → Tryz.pinned.checked.prog.funcs[f]? = some fn → true = Tryz.pinned.checked.prog.looks [] ∧ ∀ (j : Nat) t, fn.params[j]? = some t → Tryz.pinned.checked.prog.wantsStandIn t = false := fun f fn hf hfn => by
  obtain rfl : f = 3 := Option.some.inj ((proofReads_nf).symm.trans hf) |>.symm
  obtain rfl : fn = Tryz.f3 := (Option.some.inj (Tryz.func3.symm.trans hfn)).symm
  exact ⟨jf_lk, fun j t ht => by
    rw [Tryz.params3] at ht
    have hm : t ∈ [9] := by simpa using Array.mem_of_getElem? ht
    have hall : ([9].all fun u => !Tryz.prog.wantsStandIn u) = true := by kernel_rfl
    exact (show Tryz.prog.wantsStandIn t = false by simpa using List.all_eq_true.1 hall t hm)⟩
theorem proofReadsCard_holds : Rows.ProofReadsCardSaid :=
  Claim7.holds_tied_plain_at .later [] [.data, .data, .data, .data, .sentinel, .sentinel, .pinned] true (true, "60a5e962dc1f4fe988dfa79233aeaec293cdf6c72b3c81a3b4c5b5b5e29320ef") true
    proofReads_holds (fun _ h => by cases h) proofReads_wt (fun _ h => by cases h) proofReads_row_tie rfl ⟨rfl, rfl⟩ jf_mi rfl proofReads_cl proofReads_gb
#print axioms proofReadsCard_holds
end Go.Proofs.YteamhbohgoclgaaGreatDoor
