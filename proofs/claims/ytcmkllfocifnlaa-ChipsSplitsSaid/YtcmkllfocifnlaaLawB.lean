/- The walks of the laws of layer 17: each returns true. -/
import Derived.Test.YtcmkllfocifnlaaLawA
import Derived.Test.YtcmkllfocifnlaaLawMath
namespace Go.Proofs.Ytcmkllfocifnlaa
open Go.RowKit Go.Shelf

set_option maxRecDepth 100000 in
set_option maxHeartbeats 4000000 in
theorem ChipsSplits_law (va : Value) (xs : List Int) (w : World) (ha : RI w va xs) : Calls Try.prog 8 #[va] w (Yes w) := by
  have rA := Lib.hid ha
  clear ha
  by_cases h1 : checkE xs xs.length = 0
  · obtain ⟨l1, l2, l3⟩ := checkE_zero h1
    have H1 := Lib.hid h1
    obtain ⟨ms, hms⟩ : ∃ m, m = xs.map fun x => max x 0 := ⟨_, rfl⟩
    obtain ⟨ns, hns⟩ : ∃ m, m = xs.map fun x => max (-x) 0 := ⟨_, rfl⟩
    have hml : ms.length = xs.length := by rw [hms]; simp
    have hnl : ns.length = xs.length := by rw [hns]; simp
    have hma : ms.all InB = true := by rw [hms, List.all_map, List.all_eq_true]; intro x hx; exact (max_inB (List.all_eq_true.1 l3 x hx)).1
    have hna : ns.all InB = true := by rw [hns, List.all_map, List.all_eq_true]; intro x hx; exact (max_inB (List.all_eq_true.1 l3 x hx)).2
    have e1 := Lib.hid (show partsL xs = ((ms, ns), 0) by rw [hms, hns]; simp [partsL, h1])
    have e2 := Lib.hid (show effL ms = (true, 0) by rw [effL, if_neg (by rw [checkE_mk (by omega) (by omega) hma]; simp)]; congr 1; rw [hms, List.all_map, List.all_eq_true]; intro x _; simp; omega)
    have e3 := Lib.hid (show effL ns = (true, 0) by rw [effL, if_neg (by rw [checkE_mk (by omega) (by omega) hna]; simp)]; congr 1; rw [hns, List.all_map, List.all_eq_true]; intro x _; simp; omega)
    have hown := own2_mk (show ms.length = ns.length by omega) (by omega) (by omega) hma hna
    have e4 := Lib.hid (show eachL (fun x y => x - y) ms ns = (xs, 0) by rw [eachL_ok hown] <;> rw [hms, hns, max_sub]; exact l3)
    have e5 := Lib.hid (show eachL (fun x y => min x y) ms ns = (List.replicate xs.length 0, 0) by rw [eachL_ok hown] <;> rw [hms, hns, max_min_zero]; exact all_rep _)
    have e6 := Lib.hid (show supL (List.replicate xs.length 0) = ([], 0) by have := checkE_mk (xs := List.replicate xs.length 0) (by simpa using l1) (by simpa using l2) (all_rep _); simp only [supL, this, ne_eq, not_true_eq_false, if_false, supp_zero])
    clear h1 l1 l2 l3 hms hns hml hnl hma hna hown
    have hE := Lib.hid (Below.refl w.heap.size w)
    go_enter Try.func8, Try.ntmps8
    go_wp2_with fail
    refine (Own_any _ xs _ rA.out).mono ?_
    rw [H1.out]
    rintro e wz ⟨rfl, rfl⟩
    go_wp2_with fail
    refine (Parts_any _ xs _ rA.out).mono ?_
    rw [e1.out]
    rintro e wk1 ⟨v1, v2, rfl, ho, ho2, hb⟩
    have rA := Lib.hid (rA.out.below hb)
    have hE := Lib.hid (hE.out.trans (hb.mono hE.out.size))
    have r1 := Lib.hid ho.ri
    have r2 := Lib.hid ho2.ri
    clear hb 
    go_wp2_with fail
    refine (Effective_any _ ms _ r1.out).mono ?_
    rw [e2.out]
    rintro e wk2 ⟨rfl, hb⟩
    have rA := Lib.hid (rA.out.below hb)
    have r1 := Lib.hid (r1.out.below hb)
    have r2 := Lib.hid (r2.out.below hb)
    have hE := Lib.hid (hE.out.trans (hb.mono hE.out.size))
    clear hb 
    go_wp2_with fail
    refine (Effective_any _ ns _ r2.out).mono ?_
    rw [e3.out]
    rintro e wk3 ⟨rfl, hb⟩
    have rA := Lib.hid (rA.out.below hb)
    have r1 := Lib.hid (r1.out.below hb)
    have r2 := Lib.hid (r2.out.below hb)
    have hE := Lib.hid (hE.out.trans (hb.mono hE.out.size))
    clear hb 
    go_wp2_with fail
    refine (Sub_any _ _ ms ns _ r1.out r2.out).mono ?_
    rw [e4.out]
    rintro e wk4 ⟨v3, rfl, ho, hb⟩
    have rA := Lib.hid (rA.out.below hb)
    have r1 := Lib.hid (r1.out.below hb)
    have r2 := Lib.hid (r2.out.below hb)
    have hE := Lib.hid (hE.out.trans (hb.mono hE.out.size))
    have r3 := Lib.hid ho.ri
    clear hb 
    go_wp2_with fail
    refine (Meet_any _ _ ms ns _ r1.out r2.out).mono ?_
    rw [e5.out]
    rintro e wk5 ⟨v4, rfl, ho, hb⟩
    have rA := Lib.hid (rA.out.below hb)
    have r1 := Lib.hid (r1.out.below hb)
    have r2 := Lib.hid (r2.out.below hb)
    have r3 := Lib.hid (r3.out.below hb)
    have hE := Lib.hid (hE.out.trans (hb.mono hE.out.size))
    have r4 := Lib.hid ho.ri
    clear hb 
    go_wp2_with fail
    refine (Support_any _ _ _ r4.out).mono ?_
    rw [e6.out]
    rintro e wk6 ⟨v5, rfl, ho, hb⟩
    have rA := Lib.hid (rA.out.below hb)
    have r1 := Lib.hid (r1.out.below hb)
    have r2 := Lib.hid (r2.out.below hb)
    have r3 := Lib.hid (r3.out.below hb)
    have r4 := Lib.hid (r4.out.below hb)
    have hE := Lib.hid (hE.out.trans (hb.mono hE.out.size))
    have r5 := Lib.hid ho.ri
    clear hb 
    obtain ⟨A5, c5, hv5, -⟩ := r5.out.open_
    subst hv5
    go_wp2_with fail
    refine (Same_any _ _ _ _ _ r3.out rA.out).mono ?_
    rw [eqL_same]
    rintro e wk7 ⟨rfl, hb⟩
    have hb := Dr.below (show Dr _ wk7 from hb) (wk6).heap.size
    have rA := Lib.hid (rA.out.below hb)
    have r1 := Lib.hid (r1.out.below hb)
    have r2 := Lib.hid (r2.out.below hb)
    have r3 := Lib.hid (r3.out.below hb)
    have r4 := Lib.hid (r4.out.below hb)
    have r5 := Lib.hid (r5.out.below hb)
    have hE := Lib.hid (hE.out.trans (hb.mono hE.out.size))
    clear hb 
    go_wp2_with fail
    refine (awake_any _).mono ?_
    rintro e wy ⟨rfl, hb⟩
    have hE := Lib.hid (hE.out.trans (hb.mono hE.out.size))
    clear hb
    go_wp2
    go_ret
    exact ⟨rfl, hE.out⟩
  · have h1b : (checkE xs xs.length != 0) = true := by simp [h1]
    clear h1
    have hE := Lib.hid (Below.refl w.heap.size w)
    go_enter Try.func8, Try.ntmps8
    go_wp2_with fail
    refine (Own_any _ xs _ rA.out).mono ?_
    rintro e wz ⟨rfl, rfl⟩
    go_wp2_with fail
    refine (awake_any _).mono ?_
    rintro e wy ⟨rfl, hb⟩
    have hE := Lib.hid (hE.out.trans (hb.mono hE.out.size))
    clear hb
    go_wp2
    go_ret
    exact ⟨rfl, hE.out⟩

set_option maxRecDepth 100000 in
set_option maxHeartbeats 4000000 in
theorem ChipsChecks_law (va : Value) (xs : List Int) (n v : Int) (w : World) (ha : RI w va xs) : Calls Try.prog 9 #[va, .int .i64 n, .int .i64 v] w (Yes w) := by
  have rA := Lib.hid ha
  clear ha
  by_cases h1 : xs.length ≤ 24
  · have rAL := Lib.hid h1
    clear h1
    obtain ⟨A, c, rfl, hlc, hc, hcell⟩ := rA.out.open_
    by_cases hp : 0 < xs.length
    · obtain ⟨ad, z0, rfl, hadb, hz0, hcl0⟩ := hcell 0 hp
      have hcl1 : w.cell? ad = some (.int .i64 z0) := hcl0
      clear hcell hcl0 hz0
      have hE := Lib.hid (Below.refl w.heap.size w)
      go_enter Try.func9, Try.ntmps9
      go_wp2_with fail
      refine (Few_any _ xs _ rA.out).mono ?_
      rw [few_yes rAL.out]
      rintro e wz ⟨rfl, rfl⟩
      go_wp2_with fail
      refine (Zero_any n _).mono ?_
      rintro e wk1 ⟨v1, rfl, ho, hb⟩
      have rA := Lib.hid (rA.out.below hb)
      have hE := Lib.hid (hE.out.trans (hb.mono hE.out.size))
      have r1 := Lib.hid ho.ri
      clear hb 
      go_wp2_with fail
      refine (rZero_any n _).mono ?_
      rintro e wk2 ⟨v2, rfl, ho, hb⟩
      have rA := Lib.hid (rA.out.below hb)
      have r1 := Lib.hid (r1.out.below hb)
      have hE := Lib.hid (hE.out.trans (hb.mono hE.out.size))
      have r2 := Lib.hid ho.ri
      clear hb 
      have hc1 := hE.out.cell (p := ad) (by exact hadb)
      rw [hcl1] at hc1
      go_wp2_with fail
      refine (Some_any n v z0 _).mono ?_
      rintro e wk3 ⟨v3, rfl, ho, hb⟩
      have rA := Lib.hid (rA.out.below hb)
      have r1 := Lib.hid (r1.out.below hb)
      have r2 := Lib.hid (r2.out.below hb)
      have hE := Lib.hid (hE.out.trans (hb.mono hE.out.size))
      have r3 := Lib.hid ho.ri
      clear hb 
      go_wp2_with fail
      refine (rSome_any n v z0 _).mono ?_
      rintro e wk4 ⟨v4, rfl, ho, hb⟩
      have rA := Lib.hid (rA.out.below hb)
      have r1 := Lib.hid (r1.out.below hb)
      have r2 := Lib.hid (r2.out.below hb)
      have r3 := Lib.hid (r3.out.below hb)
      have hE := Lib.hid (hE.out.trans (hb.mono hE.out.size))
      have r4 := Lib.hid ho.ri
      clear hb 
      go_wp2_with fail
      refine (check_any _ xs n _ rA.out).mono ?_
      rintro e wz ⟨rfl, rfl⟩
      go_wp2_with fail
      refine (rCheck_any _ xs n _ rA.out).mono ?_
      rintro e wz ⟨rfl, rfl⟩
      go_wp2_with fail
      refine (Same_any _ _ _ _ _ r1.out r2.out).mono ?_
      rw [eqL_same]
      rintro e wk5 ⟨rfl, hb⟩
      have hb := Dr.below (show Dr _ wk5 from hb) (wk4).heap.size
      have rA := Lib.hid (rA.out.below hb)
      have r1 := Lib.hid (r1.out.below hb)
      have r2 := Lib.hid (r2.out.below hb)
      have r3 := Lib.hid (r3.out.below hb)
      have r4 := Lib.hid (r4.out.below hb)
      have hE := Lib.hid (hE.out.trans (hb.mono hE.out.size))
      clear hb 
      go_wp2_with fail
      refine (Same_any _ _ _ _ _ r3.out r4.out).mono ?_
      rw [eqL_same]
      rintro e wk6 ⟨rfl, hb⟩
      have hb := Dr.below (show Dr _ wk6 from hb) (wk5).heap.size
      have rA := Lib.hid (rA.out.below hb)
      have r1 := Lib.hid (r1.out.below hb)
      have r2 := Lib.hid (r2.out.below hb)
      have r3 := Lib.hid (r3.out.below hb)
      have r4 := Lib.hid (r4.out.below hb)
      have hE := Lib.hid (hE.out.trans (hb.mono hE.out.size))
      clear hb 
      go_wp2_with fail
      refine (awake_any _).mono ?_
      rintro e wy ⟨rfl, hb⟩
      have hE := Lib.hid (hE.out.trans (hb.mono hE.out.size))
      clear hb
      go_wp2
      go_ret
      exact ⟨rfl, hE.out⟩
    · clear hcell
      have hE := Lib.hid (Below.refl w.heap.size w)
      go_enter Try.func9, Try.ntmps9
      go_wp2_with fail
      refine (Few_any _ xs _ rA.out).mono ?_
      rw [few_yes rAL.out]
      rintro e wz ⟨rfl, rfl⟩
      go_wp2_with fail
      refine (Zero_any n _).mono ?_
      rintro e wk1 ⟨v1, rfl, ho, hb⟩
      have rA := Lib.hid (rA.out.below hb)
      have hE := Lib.hid (hE.out.trans (hb.mono hE.out.size))
      have r1 := Lib.hid ho.ri
      clear hb 
      go_wp2_with fail
      refine (rZero_any n _).mono ?_
      rintro e wk2 ⟨v2, rfl, ho, hb⟩
      have rA := Lib.hid (rA.out.below hb)
      have r1 := Lib.hid (r1.out.below hb)
      have hE := Lib.hid (hE.out.trans (hb.mono hE.out.size))
      have r2 := Lib.hid ho.ri
      clear hb 
      go_wp2_with fail
      refine (Some_any n v 7 _).mono ?_
      rintro e wk3 ⟨v3, rfl, ho, hb⟩
      have rA := Lib.hid (rA.out.below hb)
      have r1 := Lib.hid (r1.out.below hb)
      have r2 := Lib.hid (r2.out.below hb)
      have hE := Lib.hid (hE.out.trans (hb.mono hE.out.size))
      have r3 := Lib.hid ho.ri
      clear hb 
      go_wp2_with fail
      refine (rSome_any n v 7 _).mono ?_
      rintro e wk4 ⟨v4, rfl, ho, hb⟩
      have rA := Lib.hid (rA.out.below hb)
      have r1 := Lib.hid (r1.out.below hb)
      have r2 := Lib.hid (r2.out.below hb)
      have r3 := Lib.hid (r3.out.below hb)
      have hE := Lib.hid (hE.out.trans (hb.mono hE.out.size))
      have r4 := Lib.hid ho.ri
      clear hb 
      go_wp2_with fail
      refine (check_any _ xs n _ rA.out).mono ?_
      rintro e wz ⟨rfl, rfl⟩
      go_wp2_with fail
      refine (rCheck_any _ xs n _ rA.out).mono ?_
      rintro e wz ⟨rfl, rfl⟩
      go_wp2_with fail
      refine (Same_any _ _ _ _ _ r1.out r2.out).mono ?_
      rw [eqL_same]
      rintro e wk5 ⟨rfl, hb⟩
      have hb := Dr.below (show Dr _ wk5 from hb) (wk4).heap.size
      have rA := Lib.hid (rA.out.below hb)
      have r1 := Lib.hid (r1.out.below hb)
      have r2 := Lib.hid (r2.out.below hb)
      have r3 := Lib.hid (r3.out.below hb)
      have r4 := Lib.hid (r4.out.below hb)
      have hE := Lib.hid (hE.out.trans (hb.mono hE.out.size))
      clear hb 
      go_wp2_with fail
      refine (Same_any _ _ _ _ _ r3.out r4.out).mono ?_
      rw [eqL_same]
      rintro e wk6 ⟨rfl, hb⟩
      have hb := Dr.below (show Dr _ wk6 from hb) (wk5).heap.size
      have rA := Lib.hid (rA.out.below hb)
      have r1 := Lib.hid (r1.out.below hb)
      have r2 := Lib.hid (r2.out.below hb)
      have r3 := Lib.hid (r3.out.below hb)
      have r4 := Lib.hid (r4.out.below hb)
      have hE := Lib.hid (hE.out.trans (hb.mono hE.out.size))
      clear hb 
      go_wp2_with fail
      refine (awake_any _).mono ?_
      rintro e wy ⟨rfl, hb⟩
      have hE := Lib.hid (hE.out.trans (hb.mono hE.out.size))
      clear hb
      go_wp2
      go_ret
      exact ⟨rfl, hE.out⟩
  · have rAL := Lib.hid h1
    clear h1
    have hE := Lib.hid (Below.refl w.heap.size w)
    go_enter Try.func9, Try.ntmps9
    go_wp2_with fail
    refine (Few_any _ xs _ rA.out).mono ?_
    rw [few_no rAL.out]
    rintro e wz ⟨rfl, rfl⟩
    go_wp2_with fail
    refine (awake_any _).mono ?_
    rintro e wy ⟨rfl, hb⟩
    have hE := Lib.hid (hE.out.trans (hb.mono hE.out.size))
    clear hb
    go_wp2
    go_ret
    exact ⟨rfl, hE.out⟩
end Go.Proofs.Ytcmkllfocifnlaa
