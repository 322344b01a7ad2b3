/- The statement EquivalenceCounts: for every input the law returns true, and its arguments read as before; the library's variables as the program's text lays them. No condition beside the form's own. -/
import Derived.Test.YtjfggodnfoknfaaGreatDoorM01
import Derived.Test.YtjfggodnfoknfaaGreatDoorM02
import Derived.Test.YtjfggodnfoknfaaGreatDoorM03
import Derived.Test.YtjfggodnfoknfaaGreatDoorM04
import Derived.Test.YtjfggodnfoknfaaGreatDoorM05
import Derived.Test.YtjfggodnfoknfaaGreatDoorM06
import Derived.Test.YtjfggodnfoknfaaGreatDoorM07
import Derived.Test.YtjfggodnfoknfaaGreatDoorM08
import Derived.Test.YtjfggodnfoknfaaGreatDoorM09
import Derived.Test.YtjfggodnfoknfaaGreatDoorM10
import Derived.Test.YtjfggodnfoknfaaGreatDoorM11
import Derived.Test.YtjfggodnfoknfaaGreatDoorM12
import Derived.Test.YtjfggodnfoknfaaGreatDoorM13
import Derived.Test.YtjfggodnfoknfaaGreatDoorM14
import Derived.Test.YtjfggodnfoknfaaGreatDoorM15
import Derived.Test.YtjfggodnfoknfaaGreatDoorM16
import Derived.Test.YtjfggodnfoknfaaGreatDoorM17
import Derived.Test.YtjfggodnfoknfaaGreatDoorM18
import Derived.Test.YtjfggodnfoknfaaGreatDoorM19
import Derived.Test.YtjfggodnfoknfaaGreatDoorM20
import Derived.Test.YtjfggodnfoknfaaGreatDoorM21
import Derived.Test.YtjfggodnfoknfaaGreatDoorM22
import Derived.Test.YtjfggodnfoknfaaGreatDoorM23
import Derived.Test.YtjfggodnfoknfaaGreatDoorM24
import Derived.Test.YtjfggodnfoknfaaGreatDoorM25
import Derived.Test.YtjfggodnfoknfaaGreatDoorM26
import Derived.Test.YtjfggodnfoknfaaGreatDoorM27
import Derived.Test.YtjfggodnfoknfaaGreatDoorM28
import Derived.Test.YtjfggodnfoknfaaGreatDoorM29
import Derived.Test.YtjfggodnfoknfaaGreatDoorM30
import Derived.Test.YtjfggodnfoknfaaGreatDoorM31
import Derived.Test.YtjfggodnfoknfaaGreatDoorM32
import Derived.Test.YtjfggodnfoknfaaGreatDoorM33
import Derived.Test.YtjfggodnfoknfaaGreatDoorM34
import Derived.Test.YtjfggodnfoknfaaGreatDoorM35
import Derived.Test.YtjfggodnfoknfaaGreatDoorM36
namespace Go.Proofs.YtjfggodnfoknfaaGreatDoor
open Go.ChangeShapes Go.WideShapes Go.ChangeAt Go.RowKit Go.Shelf Go.ChangeMaps

set_option maxRecDepth 100000 in
set_option maxHeartbeats 8000000 in
theorem equivalenceCounts_lifted (os : Os) (started : os.Started) (H : Type) (enc : TypeId × Value → H) :
    ReturnsInHanded {} Tryz.checked os 3 .any (fun w args => (Rows.equivalenceCountsSpec.pre enc Tryz.prog Tryz.f3 Rows.equivalenceCountsRow.domain false w args ∧ laidMetH Tryz.prog Rows.equivalenceCountsRow.laid w) ∧ sizedMet enc Tryz.prog Tryz.f3 (OpenSpec.ofChange Rows.equivalenceCountsSpec) false w args)
      (Rows.equivalenceCountsSpec.post enc Tryz.prog Tryz.f3 false true false false) := by
  refine returns_laid_shaped (C := Tryz.checked) (X := fun w _ => laidMetH Tryz.prog Rows.equivalenceCountsRow.laid w) (fun _ _ _ hh h => h.of_heap hh) own_ started (by kernel_rfl) Tryz.func3
    (ChangeSpec.witness_shaped (enc := enc) (C := Tryz.checked) (os := os) (X := fun w _ => laidMetH Tryz.prog Rows.equivalenceCountsRow.laid w) false (World.laidAll Tryz.prog os Rows.equivalenceCountsRow.laid) #[.agg #[.int .i64 0, .slice none 0 0], .slice none 0 0] 8 (World.laidAll_os _ _ _)
      (World.shaped_of_ZipB (by kernel_rfl) (by kernel_rfl)) (by kernel_rfl) (by kernel_rfl) (by kernel_rfl)
      (by rw [MakeChecks.laidMetH_plain _ _ _ (by kernel_rfl)]; exact laidMet_laidAll _ (by kernel_rfl) (by kernel_rfl))) ?_
  intro W base args ds gs before hval0 hW hsz0 hL hsh
  have hlv : TB W := tb_of_laid hL
  have hsz : (DataW.weightsEach Tryz.prog (Tryz.f3.params.toList ++ Rows.equivalenceCountsSpec.plain.varTypes Tryz.prog) (ds ++ gs)).all (· ≤ reachBytes) = true := hsz0
  clear hsz0 hL hsh
  have hval : ∀ (j : Nat) t v, Tryz.f3.params[j]? = some t → args[j]? = some v → Value.okWide Tryz.prog W .any base t v := hval0
  have hW' := hW
  obtain ⟨p, q, hA0, hV, rfl, _, _⟩ := hW
  have hA : DataW.TrodAll enc Tryz.prog W 0 (fun _ => true) true Tryz.f3.params.toList args.toList ds p := hA0
  rw [Tryz.params3] at hA hval hsz
  obtain ⟨v0, v1, d0, d1, p0, p1, rfl, rfl, rfl, h0, h1⟩ := trodAll_two hA
  obtain ⟨rfl, rfl⟩ := trodVars_none hV
  obtain ⟨n0, e0, r0⟩ := open_graph (hval 0 24 v0 rfl rfl) h0 (sized_graph hsz (j := 0) rfl rfl)
  obtain ⟨x1, r1⟩ := open_div (hval 1 26 v1 rfl rfl) h1 (sized_div hsz (j := 1) rfl rfl)
  clear hA0 hval0
  simp only [List.append_nil] at hW'
  have lt0 : ∀ x ∈ p0, x.block < W.heap.size := fun x hx => hW'.lt x (by simp [hx])
  have ar0 : ∀ (W' : World), Below W.heap.size W W' → DataW.Trod enc Tryz.prog W' 0 (fun b => decide (b < W.heap.size)) true 24 v0 d0 p0 :=
    fun W' hn => Below.trod laidOut_ (by kernel_rfl) (of_decide_eq_true (by kernel_rfl)) h0 hn lt0
  have lt1 : ∀ x ∈ p1, x.block < W.heap.size := fun x hx => hW'.lt x (by simp [hx])
  have ar1 : ∀ (W' : World), Below W.heap.size W W' → DataW.Trod enc Tryz.prog W' 0 (fun b => decide (b < W.heap.size)) true 26 v1 d1 p1 :=
    fun W' hn => Below.trod laidOut_ (by kernel_rfl) (of_decide_eq_true (by kernel_rfl)) h1 hn lt1
  have hcall := counts_any v0 v1 n0 e0 x1 W r0 r1 hlv
  refine hcall.mono fun e W' ⟨he, hn⟩ => ?_
  subst he
  exact ⟨_, rfl, _, _, _, [], _, [], hW', trodAll_mk1 (shut_bool Tryz.underlying4 _), trodAll_mk2 (ar0 _ hn) (ar1 _ hn), rfl, hn.frame _, fun h => by cases h⟩
theorem equivalenceCounts_holds : Rows.EquivalenceCountsSaid :=
  OpenClaim.holds_of_wide 3 Tryz.f3 rfl rfl rfl rfl rfl rfl rfl ⟨rfl, rfl, rfl, rfl, rfl⟩ rfl rfl rfl rfl rfl (by kernel_rfl) Tryz.func3 (by kernel_rfl)
    (of_decide_eq_true (by kernel_rfl)) (by unfold Func.isWrapper; first | (rw [if_pos (by decide +kernel)]; kernel_rfl) | (rw [if_neg (by decide +kernel)]; exact ⟨rfl, rfl⟩))
    (fun os started H enc _ => equivalenceCounts_lifted os started H enc)
theorem equivalenceCountsCard_holds : Rows.EquivalenceCountsCardSaid :=
  Claim7.holds_tied_plain_at .later [] [.data, .data, .data, .sentinel, .sentinel] true (true, "6c6c671be23465813917bb0e307c6872f0cfff6c48068aaf1ee53e632e8ea747") true
    equivalenceCounts_holds (fun _ h => by cases h) (by kernel_rfl) (fun _ h => by cases h) equivalenceCounts_row_tie rfl ⟨rfl, rfl⟩ (by kernel_rfl) rfl
    (fun f fn hf hfn => by
      obtain rfl : f = 3 := Option.some.inj ((show Tryz.prog.funcNamed "sandpile/sandpilelaw35.EquivalenceCounts" = some 3 by kernel_rfl).symm.trans hf) |>.symm
      obtain rfl : fn = Tryz.f3 := (Option.some.inj (Tryz.func3.symm.trans hfn)).symm
      exact ⟨by kernel_rfl, fun j t ht => by
        rw [Tryz.params3] at ht
        have hm : t ∈ [24, 26] := by simpa using Array.mem_of_getElem? ht
        have hall : ([24, 26].all fun u => !Tryz.prog.wantsStandIn u) = true := by kernel_rfl
        exact (show Tryz.prog.wantsStandIn t = false by simpa using List.all_eq_true.1 hall t hm)⟩)
    (by kernel_rfl)
#print axioms equivalenceCountsCard_holds
end Go.Proofs.YtjfggodnfoknfaaGreatDoor
