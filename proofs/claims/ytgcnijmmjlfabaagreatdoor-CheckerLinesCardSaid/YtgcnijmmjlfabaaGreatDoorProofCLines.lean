/- The statement CheckerLines: for every input the law returns true, and its arguments read as before; the library's variables as the program's text lays them. No condition beside the form's own. -/
import Derived.Test.YtgcnijmmjlfabaaGreatDoorH01
import Derived.Test.YtgcnijmmjlfabaaGreatDoorH02
import Derived.Test.YtgcnijmmjlfabaaGreatDoorH03
import Derived.Test.YtgcnijmmjlfabaaGreatDoorH04
import Derived.Test.YtgcnijmmjlfabaaGreatDoorH05
import Derived.Test.YtgcnijmmjlfabaaGreatDoorH06
import Derived.Test.YtgcnijmmjlfabaaGreatDoorH07
import Derived.Test.YtgcnijmmjlfabaaGreatDoorH08
import Derived.Test.YtgcnijmmjlfabaaGreatDoorH09
import Derived.Test.YtgcnijmmjlfabaaGreatDoorH10
import Derived.Test.YtgcnijmmjlfabaaGreatDoorH11
import Derived.Test.YtgcnijmmjlfabaaGreatDoorH12
import Derived.Test.YtgcnijmmjlfabaaGreatDoorH13
import Derived.Test.YtgcnijmmjlfabaaGreatDoorH14
import Derived.Test.YtgcnijmmjlfabaaGreatDoorH15
import Derived.Test.YtgcnijmmjlfabaaGreatDoorH16
import Derived.Test.YtgcnijmmjlfabaaGreatDoorH17
import Derived.Test.YtgcnijmmjlfabaaGreatDoorH18
import Derived.Test.YtgcnijmmjlfabaaGreatDoorH19
import Derived.Test.YtgcnijmmjlfabaaGreatDoorH20
import Derived.Test.YtgcnijmmjlfabaaGreatDoorH21
import Derived.Test.YtgcnijmmjlfabaaGreatDoorH22
import Derived.Test.YtgcnijmmjlfabaaGreatDoorH23
import Derived.Test.YtgcnijmmjlfabaaGreatDoorH24
import Derived.Test.YtgcnijmmjlfabaaGreatDoorH25
import Derived.Test.YtgcnijmmjlfabaaGreatDoorH26
import Derived.Test.YtgcnijmmjlfabaaGreatDoorH27
import Derived.Test.YtgcnijmmjlfabaaGreatDoorH28
import Derived.Test.YtgcnijmmjlfabaaGreatDoorH29
import Derived.Test.YtgcnijmmjlfabaaGreatDoorH30
import Derived.Test.YtgcnijmmjlfabaaGreatDoorH31
import Derived.Test.YtgcnijmmjlfabaaGreatDoorH32
import Derived.Test.YtgcnijmmjlfabaaGreatDoorH33
import Derived.Test.YtgcnijmmjlfabaaGreatDoorH34
import Derived.Test.YtgcnijmmjlfabaaGreatDoorH35
import Derived.Test.YtgcnijmmjlfabaaGreatDoorH36
namespace Go.Proofs.YtgcnijmmjlfabaaGreatDoor
open Go.ChangeShapes Go.WideShapes Go.ChangeAt Go.RowKit Go.Shelf Go.ChangeMaps

set_option maxRecDepth 100000 in
theorem checkerLines_lifted (os : Os) (started : os.Started) (H : Type) (enc : TypeId × Value → H) :
    ReturnsInHanded {} Tryz.checked os 3 .any (fun w args => (Rows.checkerLinesSpec.pre enc Tryz.prog Tryz.f3 Rows.checkerLinesRow.domain false w args ∧ laidMetH Tryz.prog Rows.checkerLinesRow.laid w) ∧ sizedMet enc Tryz.prog Tryz.f3 (OpenSpec.ofChange Rows.checkerLinesSpec) false w args)
      (Rows.checkerLinesSpec.post enc Tryz.prog Tryz.f3 false true false false) := by
  refine returns_laid_shaped (C := Tryz.checked) (X := fun w _ => laidMetH Tryz.prog Rows.checkerLinesRow.laid w) (fun _ _ _ hh h => h.of_heap hh) own_ started (by kernel_rfl) Tryz.func3
    (ChangeSpec.witness_shaped (enc := enc) (C := Tryz.checked) (os := os) (X := fun w _ => laidMetH Tryz.prog Rows.checkerLinesRow.laid w) false (World.laidAll Tryz.prog os Rows.checkerLinesRow.laid) #[.agg #[.int .i64 0, .slice none 0 0], .string ⟨#[]⟩] 8 (World.laidAll_os _ _ _)
      (World.shaped_of_ZipB (by kernel_rfl) (by kernel_rfl)) (by kernel_rfl) (by kernel_rfl) (by kernel_rfl)
      (by rw [MakeChecks.laidMetH_plain _ _ _ (by kernel_rfl)]; exact laidMet_laidAll _ (by kernel_rfl) (by kernel_rfl))) ?_
  intro W base args ds gs before hval0 hW hsz0 hL hsh
  have hlv : LV W := lv_of_laid hL hsh
  have hsz : (DataW.weightsEach Tryz.prog (Tryz.f3.params.toList ++ Rows.checkerLinesSpec.plain.varTypes Tryz.prog) (ds ++ gs)).all (· ≤ reachBytes) = true := hsz0
  clear hsz0 hL hsh
  have hval : ∀ (j : Nat) t v, Tryz.f3.params[j]? = some t → args[j]? = some v → Value.okWide Tryz.prog W .any base t v := hval0
  have hW' := hW
  obtain ⟨p, q, hA0, hV, rfl, _, _⟩ := hW
  have hA : DataW.TrodAll enc Tryz.prog W 0 (fun _ => true) true Tryz.f3.params.toList args.toList ds p := hA0
  rw [Tryz.params3] at hA hval hsz
  obtain ⟨v0, v1, d0, d1, p0, p1, rfl, rfl, rfl, h0, h1⟩ := trodAll_two hA
  obtain ⟨rfl, rfl⟩ := trodVars_none hV
  obtain ⟨n0, e0, r0⟩ := open_graph (hval 0 24 v0 rfl rfl) h0 (sized_graph hsz (j := 0) rfl rfl)
  obtain ⟨S1, rfl, rfl, rfl, hz1⟩ := open_string Tryz.underlying9 (hval 1 9 v1 rfl rfl) h1
  have hS1 : Value.string S1 = strV S1.data.toList := by unfold strV; rw [Array.toArray_toList]
  clear hA0 hval0
  simp only [List.append_nil] at hW'
  have lt0 : ∀ x ∈ p0, x.block < W.heap.size := fun x hx => hW'.lt x (by simp [hx])
  have ar0 : ∀ (W' : World), Below W.heap.size W W' → DataW.Trod enc Tryz.prog W' 0 (fun b => decide (b < W.heap.size)) true 24 v0 d0 p0 :=
    fun W' hn => Below.trod laidOut_ (by kernel_rfl) (of_decide_eq_true (by kernel_rfl)) h0 hn lt0
  have hcall := linesLaw_any v0 n0 e0 S1.data.toList W r0 hlv
  rw [← hS1] at hcall
  refine hcall.mono fun e W' ⟨he, hn⟩ => ?_
  subst he
  exact ⟨_, rfl, _, _, _, [], _, [], hW', trodAll_mk1 (shut_bool Tryz.underlying4 _), trodAll_mk2 (ar0 _ hn) (shut_string Tryz.underlying9 hz1), rfl, hn.frame _, fun h => by cases h⟩
theorem checkerLines_holds : Rows.CheckerLinesSaid :=
  OpenClaim.holds_of_wide 3 Tryz.f3 rfl rfl rfl rfl rfl rfl rfl ⟨rfl, rfl, rfl, rfl, rfl⟩ rfl rfl rfl rfl rfl (by kernel_rfl) Tryz.func3 (by kernel_rfl)
    (of_decide_eq_true (by kernel_rfl)) (by unfold Func.isWrapper; first | (rw [if_pos (by decide +kernel)]; kernel_rfl) | (rw [if_neg (by decide +kernel)]; exact ⟨rfl, rfl⟩))
    (fun os started H enc _ => checkerLines_lifted os started H enc)
theorem checkerLinesCard_holds : Rows.CheckerLinesCardSaid :=
  Claim7.holds_tied_plain_at .later [] [.data, .data, .data, .data, .sentinel, .sentinel, .pinned] true (true, "9cd8ec1fd7b2c5bbdd4888eadb0db6edf7f6a0a94f8f2c14719ef5d0e55ba539") true
    checkerLines_holds (fun _ h => by cases h) (by kernel_rfl) (fun _ h => by cases h) checkerLines_row_tie rfl ⟨rfl, rfl⟩ (by kernel_rfl) rfl
    (fun f fn hf hfn => by
      obtain rfl : f = 3 := Option.some.inj ((show Tryz.prog.funcNamed "sandpile/sandpilelaw58.CheckerLines" = some 3 by kernel_rfl).symm.trans hf) |>.symm
      obtain rfl : fn = Tryz.f3 := (Option.some.inj (Tryz.func3.symm.trans hfn)).symm
      exact ⟨by kernel_rfl, fun j t ht => by
        rw [Tryz.params3] at ht
        have hm : t ∈ [24, 9] := by simpa using Array.mem_of_getElem? ht
        have hall : ([24, 9].all fun u => !Tryz.prog.wantsStandIn u) = true := by kernel_rfl
        exact (show Tryz.prog.wantsStandIn t = false by simpa using List.all_eq_true.1 hall t hm)⟩)
    (by kernel_rfl)
#print axioms checkerLinesCard_holds
end Go.Proofs.YtgcnijmmjlfabaaGreatDoor
