/- The statement CheckerAgrees: for every input the law returns true, and its arguments read as before; the library's variables as the program's text lays them. No condition beside the form's own. -/
import Derived.Test.YtgcnijmmjlfabaaGreatDoorK01
import Derived.Test.YtgcnijmmjlfabaaGreatDoorK02
import Derived.Test.YtgcnijmmjlfabaaGreatDoorK03
import Derived.Test.YtgcnijmmjlfabaaGreatDoorK04
import Derived.Test.YtgcnijmmjlfabaaGreatDoorK05
import Derived.Test.YtgcnijmmjlfabaaGreatDoorK06
import Derived.Test.YtgcnijmmjlfabaaGreatDoorK07
import Derived.Test.YtgcnijmmjlfabaaGreatDoorK08
import Derived.Test.YtgcnijmmjlfabaaGreatDoorK09
import Derived.Test.YtgcnijmmjlfabaaGreatDoorK10
import Derived.Test.YtgcnijmmjlfabaaGreatDoorK11
import Derived.Test.YtgcnijmmjlfabaaGreatDoorK12
import Derived.Test.YtgcnijmmjlfabaaGreatDoorK13
import Derived.Test.YtgcnijmmjlfabaaGreatDoorK14
import Derived.Test.YtgcnijmmjlfabaaGreatDoorK15
import Derived.Test.YtgcnijmmjlfabaaGreatDoorK16
import Derived.Test.YtgcnijmmjlfabaaGreatDoorK17
import Derived.Test.YtgcnijmmjlfabaaGreatDoorK18
import Derived.Test.YtgcnijmmjlfabaaGreatDoorK19
import Derived.Test.YtgcnijmmjlfabaaGreatDoorK20
import Derived.Test.YtgcnijmmjlfabaaGreatDoorK21
import Derived.Test.YtgcnijmmjlfabaaGreatDoorK22
import Derived.Test.YtgcnijmmjlfabaaGreatDoorK23
import Derived.Test.YtgcnijmmjlfabaaGreatDoorK27
import Derived.Test.YtgcnijmmjlfabaaGreatDoorK38
import Derived.Test.YtgcnijmmjlfabaaGreatDoorK40
import Derived.Test.YtgcnijmmjlfabaaGreatDoorK41
import Derived.Test.YtgcnijmmjlfabaaGreatDoorK42
namespace Go.Proofs.YtgcnijmmjlfabaaGreatDoor
open Go.ChangeShapes Go.WideShapes Go.ChangeAt Go.RowKit Go.Shelf Go.ChangeMaps

set_option maxRecDepth 100000 in
theorem checkerAgrees_lifted (os : Os) (started : os.Started) (H : Type) (enc : TypeId × Value → H) :
    ReturnsInHanded {} Tryz.checked os 6 .any (fun w args => (Rows.checkerAgreesSpec.pre enc Tryz.prog Tryz.f6 Rows.checkerAgreesRow.domain false w args ∧ laidMetH Tryz.prog Rows.checkerAgreesRow.laid w) ∧ sizedMet enc Tryz.prog Tryz.f6 (OpenSpec.ofChange Rows.checkerAgreesSpec) false w args)
      (Rows.checkerAgreesSpec.post enc Tryz.prog Tryz.f6 false true false false) := by
  refine returns_laid_shaped (C := Tryz.checked) (X := fun w _ => laidMetH Tryz.prog Rows.checkerAgreesRow.laid w) (fun _ _ _ hh h => h.of_heap hh) own_ started (by kernel_rfl) Tryz.func6
    (ChangeSpec.witness_shaped (enc := enc) (C := Tryz.checked) (os := os) (X := fun w _ => laidMetH Tryz.prog Rows.checkerAgreesRow.laid w) false (World.laidAll Tryz.prog os Rows.checkerAgreesRow.laid) #[.agg #[.int .i64 0, .slice none 0 0], .slice none 0 0, .agg #[.slice none 0 0, .slice none 0 0]] 8 (World.laidAll_os _ _ _)
      (World.shaped_of_ZipB (by kernel_rfl) (by kernel_rfl)) (by kernel_rfl) (by kernel_rfl) (by kernel_rfl)
      (by rw [MakeChecks.laidMetH_plain _ _ _ (by kernel_rfl)]; exact laidMet_laidAll _ (by kernel_rfl) (by kernel_rfl))) ?_
  intro W base args ds gs before hval0 hW hsz0 hL hsh
  have hlv : LV W := lv_of_laid hL hsh
  have hsz : (DataW.weightsEach Tryz.prog (Tryz.f6.params.toList ++ Rows.checkerAgreesSpec.plain.varTypes Tryz.prog) (ds ++ gs)).all (· ≤ reachBytes) = true := hsz0
  clear hsz0 hL hsh
  have hval : ∀ (j : Nat) t v, Tryz.f6.params[j]? = some t → args[j]? = some v → Value.okWide Tryz.prog W .any base t v := hval0
  have hW' := hW
  obtain ⟨p, q, hA0, hV, rfl, _, _⟩ := hW
  have hA : DataW.TrodAll enc Tryz.prog W 0 (fun _ => true) true Tryz.f6.params.toList args.toList ds p := hA0
  rw [Tryz.params6] at hA hval hsz
  obtain ⟨v0, v1, v2, d0, d1, d2, p0, p1, p2, rfl, rfl, rfl, h0, h1, h2⟩ := trodAll_three hA
  obtain ⟨rfl, rfl⟩ := trodVars_none hV
  obtain ⟨n0, e0, r0⟩ := open_graph (hval 0 24 v0 rfl rfl) h0 (sized_graph hsz (j := 0) rfl rfl)
  obtain ⟨x1, r1⟩ := open_divB (hval 1 43 v1 rfl rfl) h1 (sized_div hsz (j := 1) rfl rfl)
  obtain ⟨a2, b2, x2, y2, rfl, ra2, rb2⟩ := open_two (hval 2 44 v2 rfl rfl) h2 (sized_two hsz (j := 2) rfl rfl)
  clear hA0 hval0
  simp only [List.append_nil] at hW'
  have lt0 : ∀ x ∈ p0, x.block < W.heap.size := fun x hx => hW'.lt x (by simp [hx])
  have ar0 : ∀ (W' : World), Below W.heap.size W W' → DataW.Trod enc Tryz.prog W' 0 (fun b => decide (b < W.heap.size)) true 24 v0 d0 p0 :=
    fun W' hn => Below.trod laidOut_ (by kernel_rfl) (of_decide_eq_true (by kernel_rfl)) h0 hn lt0
  have lt1 : ∀ x ∈ p1, x.block < W.heap.size := fun x hx => hW'.lt x (by simp [hx])
  have ar1 : ∀ (W' : World), Below W.heap.size W W' → DataW.Trod enc Tryz.prog W' 0 (fun b => decide (b < W.heap.size)) true 43 v1 d1 p1 :=
    fun W' hn => Below.trod laidOut_ (by kernel_rfl) (of_decide_eq_true (by kernel_rfl)) h1 hn lt1
  have lt2 : ∀ x ∈ p2, x.block < W.heap.size := fun x hx => hW'.lt x (by simp [hx])
  have ar2 : ∀ (W' : World), Below W.heap.size W W' → DataW.Trod enc Tryz.prog W' 0 (fun b => decide (b < W.heap.size)) true 44 (.agg #[a2, b2]) d2 p2 :=
    fun W' hn => Below.trod laidOut_ (by kernel_rfl) (of_decide_eq_true (by kernel_rfl)) h2 hn lt2
  have hcall := agreesLaw_rb v0 n0 e0 v1 x1 a2 b2 x2 y2 W r0 r1 ra2 rb2 hlv
  refine hcall.mono fun e W' ⟨he, hn⟩ => ?_
  subst he
  exact ⟨_, rfl, _, _, _, [], _, [], hW', trodAll_mk1 (shut_bool Tryz.underlying4 _), trodAll_mk3 (ar0 _ hn) (ar1 _ hn) (ar2 _ hn), rfl, hn.frame _, fun h => by cases h⟩
theorem checkerAgrees_holds : Rows.CheckerAgreesSaid :=
  OpenClaim.holds_of_wide 6 Tryz.f6 rfl rfl rfl rfl rfl rfl rfl ⟨rfl, rfl, rfl, rfl, rfl⟩ rfl rfl rfl rfl rfl (by kernel_rfl) Tryz.func6 (by kernel_rfl)
    (of_decide_eq_true (by kernel_rfl)) (by unfold Func.isWrapper; first | (rw [if_pos (by decide +kernel)]; kernel_rfl) | (rw [if_neg (by decide +kernel)]; exact ⟨rfl, rfl⟩))
    (fun os started H enc _ => checkerAgrees_lifted os started H enc)
theorem checkerAgreesCard_holds : Rows.CheckerAgreesCardSaid :=
  Claim7.holds_tied_plain_at .later [] [.data, .data, .data, .data, .sentinel, .sentinel, .pinned] true (true, "9cd8ec1fd7b2c5bbdd4888eadb0db6edf7f6a0a94f8f2c14719ef5d0e55ba539") true
    checkerAgrees_holds (fun _ h => by cases h) (by kernel_rfl) (fun _ h => by cases h) checkerAgrees_row_tie rfl ⟨rfl, rfl⟩ (by kernel_rfl) rfl
    (fun f fn hf hfn => by
      obtain rfl : f = 6 := Option.some.inj ((show Tryz.prog.funcNamed "sandpile/sandpilelaw58.CheckerAgrees" = some 6 by kernel_rfl).symm.trans hf) |>.symm
      obtain rfl : fn = Tryz.f6 := (Option.some.inj (Tryz.func6.symm.trans hfn)).symm
      exact ⟨by kernel_rfl, fun j t ht => by
        rw [Tryz.params6] at ht
        have hm : t ∈ [24, 43, 44] := by simpa using Array.mem_of_getElem? ht
        have hall : ([24, 43, 44].all fun u => !Tryz.prog.wantsStandIn u) = true := by kernel_rfl
        exact (show Tryz.prog.wantsStandIn t = false by simpa using List.all_eq_true.1 hall t hm)⟩)
    (by kernel_rfl)
#print axioms checkerAgreesCard_holds
end Go.Proofs.YtgcnijmmjlfabaaGreatDoor
