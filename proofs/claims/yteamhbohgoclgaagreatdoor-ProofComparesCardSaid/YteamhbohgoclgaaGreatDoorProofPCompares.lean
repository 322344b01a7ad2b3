/- The statement ProofCompares: for every input the law returns true, and its arguments read as before; the library's variables as the program's text lays them. No condition beside the form's own. -/
import Derived.Test.YteamhbohgoclgaaGreatDoorP01
import Derived.Test.YteamhbohgoclgaaGreatDoorP02
import Derived.Test.YteamhbohgoclgaaGreatDoorP03
import Derived.Test.YteamhbohgoclgaaGreatDoorP04
import Derived.Test.YteamhbohgoclgaaGreatDoorP05
import Derived.Test.YteamhbohgoclgaaGreatDoorP06
import Derived.Test.YteamhbohgoclgaaGreatDoorP07
import Derived.Test.YteamhbohgoclgaaGreatDoorP08
import Derived.Test.YteamhbohgoclgaaGreatDoorP09
import Derived.Test.YteamhbohgoclgaaGreatDoorP10
import Derived.Test.YteamhbohgoclgaaGreatDoorP11
import Derived.Test.YteamhbohgoclgaaGreatDoorP12
import Derived.Test.YteamhbohgoclgaaGreatDoorP13
import Derived.Test.YteamhbohgoclgaaGreatDoorP14
import Derived.Test.YteamhbohgoclgaaGreatDoorP15
import Derived.Test.YteamhbohgoclgaaGreatDoorP16
import Derived.Test.YteamhbohgoclgaaGreatDoorP17
import Derived.Test.YteamhbohgoclgaaGreatDoorP18
import Derived.Test.YteamhbohgoclgaaGreatDoorP20
import Derived.Test.YteamhbohgoclgaaGreatDoorP21
import Derived.Test.YteamhbohgoclgaaGreatDoorP22
import Derived.Test.YteamhbohgoclgaaGreatDoorP23
import Derived.Test.YteamhbohgoclgaaGreatDoorP24
import Derived.Test.YteamhbohgoclgaaGreatDoorP25
import Derived.Test.YteamhbohgoclgaaGreatDoorP26
import Derived.Test.YteamhbohgoclgaaGreatDoorP27
import Derived.Test.YteamhbohgoclgaaGreatDoorP28
import Derived.Test.YteamhbohgoclgaaGreatDoorP29
import Derived.Test.YteamhbohgoclgaaGreatDoorP30
import Derived.Test.YteamhbohgoclgaaGreatDoorP31
import Derived.Test.YteamhbohgoclgaaGreatDoorP32
import Derived.Test.YteamhbohgoclgaaGreatDoorP39
import Derived.Test.YteamhbohgoclgaaGreatDoorP36
import Derived.Test.YteamhbohgoclgaaGreatDoorP37
import Derived.Test.YteamhbohgoclgaaGreatDoorP38
namespace Go.Proofs.YteamhbohgoclgaaGreatDoor
open Go.ChangeShapes Go.WideShapes Go.ChangeAt Go.RowKit Go.Shelf Go.ChangeMaps

set_option maxRecDepth 100000 in
theorem proofCompares_lifted (os : Os) (started : os.Started) (H : Type) (enc : TypeId × Value → H) :
    ReturnsInHanded {} Tryz.checked os 5 .any (fun w args => (Rows.proofComparesSpec.pre enc Tryz.prog Tryz.f5 Rows.proofComparesRow.domain false w args ∧ laidMetH Tryz.prog Rows.proofComparesRow.laid w) ∧ sizedMet enc Tryz.prog Tryz.f5 (OpenSpec.ofChange Rows.proofComparesSpec) false w args)
      (Rows.proofComparesSpec.post enc Tryz.prog Tryz.f5 false true false false) := by
  refine returns_laid_shaped (C := Tryz.checked) (X := fun w _ => laidMetH Tryz.prog Rows.proofComparesRow.laid w) (fun _ _ _ hh h => h.of_heap hh) own_ started (by kernel_rfl) Tryz.func5
    (ChangeSpec.witness_shaped (enc := enc) (C := Tryz.checked) (os := os) (X := fun w _ => laidMetH Tryz.prog Rows.proofComparesRow.laid w) false (World.laidAll Tryz.prog os Rows.proofComparesRow.laid) #[.agg #[.int .i64 0, .int .i64 0, .int .i64 0, .slice none 0 0, .slice none 0 0, .slice none 0 0], .agg #[.int .i64 0, .int .i64 0, .int .i64 0, .slice none 0 0, .slice none 0 0, .slice none 0 0]] 8 (World.laidAll_os _ _ _)
      (World.shaped_of_ZipB (by kernel_rfl) (by kernel_rfl)) (by kernel_rfl) (by kernel_rfl) (by kernel_rfl)
      (by rw [MakeChecks.laidMetH_plain _ _ _ (by kernel_rfl)]; exact laidMet_laidAll _ (by kernel_rfl) (by kernel_rfl))) ?_
  intro W base args ds gs before hval0 hW hsz0 hL hsh
  have hlv : LV W := lv_of_laid hL hsh
  have htb : TB W := tb_of_laid hL
  have hsz : (DataW.weightsEach Tryz.prog (Tryz.f5.params.toList ++ Rows.proofComparesSpec.plain.varTypes Tryz.prog) (ds ++ gs)).all (· ≤ reachBytes) = true := hsz0
  clear hsz0 hL hsh
  have hval : ∀ (j : Nat) t v, Tryz.f5.params[j]? = some t → args[j]? = some v → Value.okWide Tryz.prog W .any base t v := hval0
  have hW' := hW
  obtain ⟨p, q, hA0, hV, rfl, _, _⟩ := hW
  have hA : DataW.TrodAll enc Tryz.prog W 0 (fun _ => true) true Tryz.f5.params.toList args.toList ds p := hA0
  rw [Tryz.params5] at hA hval hsz
  obtain ⟨v0, v1, d0, d1, p0, p1, rfl, rfl, rfl, h0, h1⟩ := trodAll_two hA
  obtain ⟨rfl, rfl⟩ := trodVars_none hV
  obtain ⟨k0, Q0, N0, va0, vb0, vf0, a0, b0, f0, rfl, ra0, rb0, rf0⟩ := open_claim (hval 0 40 v0 rfl rfl) h0 (sized_claim hsz (j := 0) rfl rfl)
  obtain ⟨k1, Q1, N1, va1, vb1, vf1, a1, b1, f1, rfl, ra1, rb1, rf1⟩ := open_claim (hval 1 40 v1 rfl rfl) h1 (sized_claim hsz (j := 1) rfl rfl)
  clear hA0 hval0
  simp only [List.append_nil] at hW'
  have lt0 : ∀ x ∈ p0, x.block < W.heap.size := fun x hx => hW'.lt x (by simp [hx])
  have ar0 : ∀ (W' : World), Below W.heap.size W W' → DataW.Trod enc Tryz.prog W' 0 (fun b => decide (b < W.heap.size)) true 40 (.agg #[.int .i64 k0, .int .i64 Q0, .int .i64 N0, va0, vb0, vf0]) d0 p0 :=
    fun W' hn => Below.trod laidOut_ (by kernel_rfl) (of_decide_eq_true (by kernel_rfl)) h0 hn lt0
  have lt1 : ∀ x ∈ p1, x.block < W.heap.size := fun x hx => hW'.lt x (by simp [hx])
  have ar1 : ∀ (W' : World), Below W.heap.size W W' → DataW.Trod enc Tryz.prog W' 0 (fun b => decide (b < W.heap.size)) true 40 (.agg #[.int .i64 k1, .int .i64 Q1, .int .i64 N1, va1, vb1, vf1]) d1 p1 :=
    fun W' hn => Below.trod laidOut_ (by kernel_rfl) (of_decide_eq_true (by kernel_rfl)) h1 hn lt1
  have hcall := comparesLaw_any va0 vb0 vf0 va1 vb1 vf1 k0 Q0 N0 a0 b0 f0 k1 Q1 N1 a1 b1 f1 W ra0 rb0 rf0 ra1 rb1 rf1 hlv htb
  refine hcall.mono fun e W' ⟨he, hn⟩ => ?_
  subst he
  exact ⟨_, rfl, _, _, _, [], _, [], hW', trodAll_mk1 (shut_bool Tryz.underlying4 _), trodAll_mk2 (ar0 _ hn) (ar1 _ hn), rfl, hn.frame _, fun h => by cases h⟩
theorem proofCompares_holds : Rows.ProofComparesSaid :=
  OpenClaim.holds_of_wide 5 Tryz.f5 rfl rfl rfl rfl rfl rfl rfl ⟨rfl, rfl, rfl, rfl, rfl⟩ rfl rfl rfl rfl rfl proofCompares_nf Tryz.func5 proofCompares_jf proofCompares_in proofCompares_wr
    (fun os started H enc _ => proofCompares_lifted os started H enc)
theorem proofCompares_cl : ∀ f fn, Tryz.pinned.checked.prog.funcNamed Rows.proofComparesRow.func = some f → Tryz.pinned.checked.prog.funcs[f]? = some fn → true = Tryz.pinned.checked.prog.looks [] ∧ ∀ (j : Nat) t, fn.params[j]? = some t → Tryz.pinned.checked.prog.wantsStandIn t = false := fun f fn hf hfn => by
  obtain rfl : f = 5 := Option.some.inj ((proofCompares_nf).symm.trans hf) |>.symm
  obtain rfl : fn = Tryz.f5 := (Option.some.inj (Tryz.func5.symm.trans hfn)).symm
  exact ⟨jf_lk, fun j t ht => by
    rw [Tryz.params5] at ht
    have hm : t ∈ [40, 40] := by simpa using Array.mem_of_getElem? ht
    have hall : ([40, 40].all fun u => !Tryz.prog.wantsStandIn u) = true := by kernel_rfl
    exact (show Tryz.prog.wantsStandIn t = false by simpa using List.all_eq_true.1 hall t hm)⟩
theorem proofComparesCard_holds : Rows.ProofComparesCardSaid :=
  Claim7.holds_tied_plain_at .later [] [.data, .data, .data, .data, .sentinel, .sentinel, .pinned] true (true, "60a5e962dc1f4fe988dfa79233aeaec293cdf6c72b3c81a3b4c5b5b5e29320ef") true
    proofCompares_holds (fun _ h => by cases h) proofCompares_wt (fun _ h => by cases h) proofCompares_row_tie rfl ⟨rfl, rfl⟩ jf_mi rfl proofCompares_cl proofCompares_gb
#print axioms proofComparesCard_holds
end Go.Proofs.YteamhbohgoclgaaGreatDoor
