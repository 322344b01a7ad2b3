/- The walks of the laws of layer 17: each returns true. -/
import Derived.Test.YtcmkllfocifnlaaLawA
import Derived.Test.YtcmkllfocifnlaaLawMath
namespace Go.Proofs.Ytcmkllfocifnlaa
open Go.RowKit Go.Shelf

set_option maxRecDepth 100000 in
set_option maxHeartbeats 4000000 in
theorem ChipsLattice_law (va vb : Value) (xs ys : List Int) (w : World) (ha : RI w va xs) (hb : RI w vb ys) : Calls Try.prog 5 #[va, vb] w (Yes w) := by
  have rA := Lib.hid ha
  have rB := Lib.hid hb
  clear ha hb
  by_cases g0 : ownE [xs, ys] = 0
  · have G0 := Lib.hid g0
    by_cases g1 : xs.all (fun z => decide (-60 ≤ z) && decide (z ≤ 60)) = true
    · have G1 := Lib.hid g1
      by_cases g2 : ys.all (fun z => decide (-60 ≤ z) && decide (z ≤ 60)) = true
      · have G2 := Lib.hid g2
        obtain ⟨a1, a2, a3, -, -⟩ := own2_zero g0
        have mx := mag_of_small g1
        have my := mag_of_small g2
        obtain ⟨mn, hmn⟩ : ∃ t, t = List.zipWith (fun x y => min x y) xs ys := ⟨_, rfl⟩
        obtain ⟨mm, hmm⟩ : ∃ t, t = List.zipWith (fun x y => max x y) xs ys := ⟨_, rfl⟩
        obtain ⟨ab, hab⟩ : ∃ t, t = List.zipWith (fun x y => x + y) xs ys := ⟨_, rfl⟩
        have mmn : Mag 60 mn := by rw [hmn]; exact mag_min mx my
        have mmm : Mag 60 mm := by rw [hmm]; exact mag_max mx my
        have mab : Mag 120 ab := by rw [hab]; exact mag_add mx my
        have lmn : mn.length = xs.length := by rw [hmn, List.length_zipWith]; omega
        have lmm : mm.length = xs.length := by rw [hmm, List.length_zipWith]; omega
        have e1 := Lib.hid (show eachL (fun x y => min x y) xs ys = (mn, 0) by rw [eachL_min, own2_mk (xs := xs) (ys := ys) (by omega) (by omega) (by omega) (inB_of_mag mx (by omega)) (inB_of_mag my (by omega)), hmn]; rfl)
        have e2 := Lib.hid (show eachL (fun x y => max x y) xs ys = (mm, 0) by rw [eachL_max, own2_mk (xs := xs) (ys := ys) (by omega) (by omega) (by omega) (inB_of_mag mx (by omega)) (inB_of_mag my (by omega)), hmm]; rfl)
        have u1 := Lib.hid (show aboveL mm xs = (true, 0) by rw [aboveL_eq, own2_mk (xs := mm) (ys := xs) (by omega) (by omega) (by omega) (inB_of_mag mmm (by omega)) (inB_of_mag mx (by omega))]; simp only [ne_eq, not_true_eq_false, if_false]; congr 1; rw [hmm]; exact geL_max1 xs ys)
        have u2 := Lib.hid (show aboveL mm ys = (true, 0) by rw [aboveL_eq, own2_mk (xs := mm) (ys := ys) (by omega) (by omega) (by omega) (inB_of_mag mmm (by omega)) (inB_of_mag my (by omega))]; simp only [ne_eq, not_true_eq_false, if_false]; congr 1; rw [hmm]; exact geL_max2 xs ys)
        have d1 := Lib.hid (show aboveL xs mn = (true, 0) by rw [aboveL_eq, own2_mk (xs := xs) (ys := mn) (by omega) (by omega) (by omega) (inB_of_mag mx (by omega)) (inB_of_mag mmn (by omega))]; simp only [ne_eq, not_true_eq_false, if_false]; congr 1; rw [hmn]; exact geL_min1 xs ys)
        have d2 := Lib.hid (show aboveL ys mn = (true, 0) by rw [aboveL_eq, own2_mk (xs := ys) (ys := mn) (by omega) (by omega) (by omega) (inB_of_mag my (by omega)) (inB_of_mag mmn (by omega))]; simp only [ne_eq, not_true_eq_false, if_false]; congr 1; rw [hmn]; exact geL_min2 xs ys)
        have e3 := Lib.hid (show eachL (fun x y => x + y) xs ys = (ab, 0) by rw [eachL_ok (own2_mk (xs := xs) (ys := ys) (by omega) (by omega) (by omega) (inB_of_mag mx (by omega)) (inB_of_mag my (by omega))) (by rw [← hab]; exact inB_of_mag mab (by omega)), hab])
        have e4 := Lib.hid (show eachL (fun x y => x + y) mn mm = (ab, 0) by
          have hz : List.zipWith (fun x y => x + y) mn mm = ab := by rw [hmn, hmm, hab, zip_minmax]
          rw [eachL_ok (own2_mk (xs := mn) (ys := mm) (by omega) (by omega) (by omega) (inB_of_mag mmn (by omega)) (inB_of_mag mmm (by omega))) (by rw [hz]; exact inB_of_mag mab (by omega)), hz])
        obtain ⟨cc, hcc⟩ : ∃ t, t = cmpL xs ys := ⟨_, rfl⟩
        have e5 := Lib.hid (show compL xs ys = (cc, 0) by rw [compL, if_neg (by rw [own2_mk (xs := xs) (ys := ys) (by omega) (by omega) (by omega) (inB_of_mag mx (by omega)) (inB_of_mag my (by omega))]; simp), hcc])
        have e6 := Lib.hid (show compL ys xs = (-cc, 0) by rw [compL, if_neg (by rw [own2_mk (xs := ys) (ys := xs) (by omega) (by omega) (by omega) (inB_of_mag my (by omega)) (inB_of_mag mx (by omega))]; simp), hcc, cmpL_anti])
        obtain ⟨gg, hgg⟩ : ∃ t, t = geL xs ys := ⟨_, rfl⟩
        have e7 := Lib.hid (show aboveL xs ys = (gg, 0) by rw [aboveL_eq, own2_mk (xs := xs) (ys := ys) (by omega) (by omega) (by omega) (inB_of_mag mx (by omega)) (inB_of_mag my (by omega)), hgg]; rfl)
        have e8 := Lib.hid (show eqL xs ys = decide (cc = 0) by rw [Bool.eq_iff_iff, eqL_iff, decide_eq_true_iff, hcc, cmpL_zero xs ys a1])
        have hc3 : cc = -1 ∨ cc = 0 ∨ cc = 1 := by rw [hcc]; exact cmpL_cases xs ys
        have hg3 : gg = true → 0 ≤ cc := by rw [hgg, hcc]; exact geL_cmp a1
        have H3 := Lib.hid hc3
        have HG3 := Lib.hid hg3
        have hcb : -1 ≤ cc ∧ cc ≤ 1 := by omega
        clear g0 g1 g2 a1 a2 mx my hmn hmm hab mmn mmm mab lmn lmm hcc hgg hc3 hg3
        have hE := Lib.hid (Below.refl w.heap.size w)
        go_enter Try.func5, Try.ntmps5
        go_wp2_with fail
        refine (Both_any _ _ xs ys _ rA.out rB.out).mono ?_
        rw [G0.out]
        rintro e wz ⟨rfl, rfl⟩
        go_wp2_with fail
        refine (Small_any _ xs _ rA.out).mono ?_
        rw [G1.out]
        rintro e wz ⟨rfl, rfl⟩
        go_wp2_with fail
        refine (Small_any _ ys _ rB.out).mono ?_
        rw [G2.out]
        rintro e wz ⟨rfl, rfl⟩
        go_wp2_with fail
        refine (Meet_any _ _ xs ys _ rA.out rB.out).mono ?_
        rw [e1.out]
        rintro e wk1 ⟨v1, rfl, ho, hb⟩
        have rA := Lib.hid (rA.out.below hb)
        have rB := Lib.hid (rB.out.below hb)
        have hE := Lib.hid (hE.out.trans (hb.mono hE.out.size))
        have r1 := Lib.hid ho.ri
        clear hb 
        go_wp2_with fail
        refine (Join_any _ _ xs ys _ rA.out rB.out).mono ?_
        rw [e2.out]
        rintro e wk2 ⟨v2, rfl, ho, hb⟩
        have rA := Lib.hid (rA.out.below hb)
        have rB := Lib.hid (rB.out.below hb)
        have r1 := Lib.hid (r1.out.below hb)
        have hE := Lib.hid (hE.out.trans (hb.mono hE.out.size))
        have r2 := Lib.hid ho.ri
        clear hb 
        obtain ⟨A0, c0, hv0, -⟩ := rA.out.open_
        subst hv0
        obtain ⟨A1, c1, hv1, -⟩ := rB.out.open_
        subst hv1
        have rv := Lib.hid (RV.lit wk2 #[.slice A0 xs.length c0, .slice A1 ys.length c1] 23 2 rfl (by omega))
        have rA := Lib.hid (rA.out.below (below_alloc wk2 (.cells #[.slice A0 xs.length c0, .slice A1 ys.length c1] 23)))
        have rB := Lib.hid (rB.out.below (below_alloc wk2 (.cells #[.slice A0 xs.length c0, .slice A1 ys.length c1] 23)))
        have r1 := Lib.hid (r1.out.below (below_alloc wk2 (.cells #[.slice A0 xs.length c0, .slice A1 ys.length c1] 23)))
        have r2 := Lib.hid (r2.out.below (below_alloc wk2 (.cells #[.slice A0 xs.length c0, .slice A1 ys.length c1] 23)))
        have hE := Lib.hid (hE.out.trans ((below_alloc wk2 (.cells #[.slice A0 xs.length c0, .slice A1 ys.length c1] 23)).mono hE.out.size))
        go_wp2
        refine wp_loop_rounds 3 ?_
        rw [rounds_succ]
        have hcv := RV.cellAt rv.out (k := 0) rfl
        go_wp2_with fail
        refine (Above_any _ _ mm xs _ r2.out rA.out).mono ?_
        rw [u1.out]
        rintro e wk3 ⟨rfl, hb⟩
        have rA := Lib.hid (rA.out.below hb)
        have rB := Lib.hid (rB.out.below hb)
        have r1 := Lib.hid (r1.out.below hb)
        have r2 := Lib.hid (r2.out.below hb)
        have rv := Lib.hid (rv.out.below hb)
        have hE := Lib.hid (hE.out.trans (hb.mono hE.out.size))
        clear hb 
        go_wp2_with fail
        refine (Above_any _ _ xs mn _ rA.out r1.out).mono ?_
        rw [d1.out]
        rintro e wk4 ⟨rfl, hb⟩
        have rA := Lib.hid (rA.out.below hb)
        have rB := Lib.hid (rB.out.below hb)
        have r1 := Lib.hid (r1.out.below hb)
        have r2 := Lib.hid (r2.out.below hb)
        have rv := Lib.hid (rv.out.below hb)
        have hE := Lib.hid (hE.out.trans (hb.mono hE.out.size))
        clear hb 
        clear hcv
        go_wp2
        rw [rounds_succ]
        have hcv := RV.cellAt rv.out (k := 1) rfl
        go_wp2_with fail
        refine (Above_any _ _ mm ys _ r2.out rB.out).mono ?_
        rw [u2.out]
        rintro e wk5 ⟨rfl, hb⟩
        have rA := Lib.hid (rA.out.below hb)
        have rB := Lib.hid (rB.out.below hb)
        have r1 := Lib.hid (r1.out.below hb)
        have r2 := Lib.hid (r2.out.below hb)
        have rv := Lib.hid (rv.out.below hb)
        have hE := Lib.hid (hE.out.trans (hb.mono hE.out.size))
        clear hb 
        go_wp2_with fail
        refine (Above_any _ _ ys mn _ rB.out r1.out).mono ?_
        rw [d2.out]
        rintro e wk6 ⟨rfl, hb⟩
        have rA := Lib.hid (rA.out.below hb)
        have rB := Lib.hid (rB.out.below hb)
        have r1 := Lib.hid (r1.out.below hb)
        have r2 := Lib.hid (r2.out.below hb)
        have rv := Lib.hid (rv.out.below hb)
        have hE := Lib.hid (hE.out.trans (hb.mono hE.out.size))
        clear hb 
        clear hcv
        go_wp2
        rw [rounds_succ]
        clear rv
        go_wp2_with fail
        refine (Add_any _ _ xs ys _ rA.out rB.out).mono ?_
        rw [e3.out]
        rintro e wk7 ⟨v3, rfl, ho, hb⟩
        have rA := Lib.hid (rA.out.below hb)
        have rB := Lib.hid (rB.out.below hb)
        have r1 := Lib.hid (r1.out.below hb)
        have r2 := Lib.hid (r2.out.below hb)
        have hE := Lib.hid (hE.out.trans (hb.mono hE.out.size))
        have r3 := Lib.hid ho.ri
        clear hb 
        go_wp2_with fail
        refine (Add_any _ _ mn mm _ r1.out r2.out).mono ?_
        rw [e4.out]
        rintro e wk8 ⟨v4, rfl, ho, hb⟩
        have rA := Lib.hid (rA.out.below hb)
        have rB := Lib.hid (rB.out.below hb)
        have r1 := Lib.hid (r1.out.below hb)
        have r2 := Lib.hid (r2.out.below hb)
        have r3 := Lib.hid (r3.out.below hb)
        have hE := Lib.hid (hE.out.trans (hb.mono hE.out.size))
        have r4 := Lib.hid ho.ri
        clear hb 
        go_wp2_with fail
        refine (Same_any _ _ _ _ _ r3.out r4.out).mono ?_
        rw [eqL_same]
        rintro e wk9 ⟨rfl, hb⟩
        have hb := Dr.below (show Dr _ wk9 from hb) (wk8).heap.size
        have rA := Lib.hid (rA.out.below hb)
        have rB := Lib.hid (rB.out.below hb)
        have r1 := Lib.hid (r1.out.below hb)
        have r2 := Lib.hid (r2.out.below hb)
        have r3 := Lib.hid (r3.out.below hb)
        have r4 := Lib.hid (r4.out.below hb)
        have hE := Lib.hid (hE.out.trans (hb.mono hE.out.size))
        clear hb 
        go_wp2_with fail
        refine (Compare_any _ _ xs ys _ rA.out rB.out).mono ?_
        rw [e5.out]
        rintro e wk10 ⟨rfl, hb⟩
        have rA := Lib.hid (rA.out.below hb)
        have rB := Lib.hid (rB.out.below hb)
        have r1 := Lib.hid (r1.out.below hb)
        have r2 := Lib.hid (r2.out.below hb)
        have r3 := Lib.hid (r3.out.below hb)
        have r4 := Lib.hid (r4.out.below hb)
        have hE := Lib.hid (hE.out.trans (hb.mono hE.out.size))
        clear hb 
        go_wp2_with fail
        refine (Compare_any _ _ ys xs _ rB.out rA.out).mono ?_
        rw [e6.out]
        rintro e wk11 ⟨rfl, hb⟩
        have rA := Lib.hid (rA.out.below hb)
        have rB := Lib.hid (rB.out.below hb)
        have r1 := Lib.hid (r1.out.below hb)
        have r2 := Lib.hid (r2.out.below hb)
        have r3 := Lib.hid (r3.out.below hb)
        have r4 := Lib.hid (r4.out.below hb)
        have hE := Lib.hid (hE.out.trans (hb.mono hE.out.size))
        clear hb 
        go_wp2_with fail
        refine (Above_any _ _ xs ys _ rA.out rB.out).mono ?_
        rw [e7.out]
        rintro e wk12 ⟨rfl, hb⟩
        have rA := Lib.hid (rA.out.below hb)
        have rB := Lib.hid (rB.out.below hb)
        have r1 := Lib.hid (r1.out.below hb)
        have r2 := Lib.hid (r2.out.below hb)
        have r3 := Lib.hid (r3.out.below hb)
        have r4 := Lib.hid (r4.out.below hb)
        have hE := Lib.hid (hE.out.trans (hb.mono hE.out.size))
        clear hb 
        rcases H3.out with hcc | hcc | hcc
        · subst hcc
          have E8 := Lib.hid (show eqL xs ys = false by rw [e8.out]; rfl)
          cases gg
          · skip
            go_wp2_with fail
            refine (Same_any _ _ _ _ _ rA.out rB.out).mono ?_
            rw [E8.out]
            rintro e wk13 ⟨rfl, hb⟩
            have hb := Dr.below (show Dr _ wk13 from hb) (wk12).heap.size
            have rA := Lib.hid (rA.out.below hb)
            have rB := Lib.hid (rB.out.below hb)
            have r1 := Lib.hid (r1.out.below hb)
            have r2 := Lib.hid (r2.out.below hb)
            have r3 := Lib.hid (r3.out.below hb)
            have r4 := Lib.hid (r4.out.below hb)
            have hE := Lib.hid (hE.out.trans (hb.mono hE.out.size))
            clear hb 
            go_wp2_with fail
            refine (awake_any _).mono ?_
            rintro e wy ⟨rfl, hb⟩
            have hE := Lib.hid (hE.out.trans (hb.mono hE.out.size))
            clear hb
            go_wp2
            go_ret
            exact ⟨rfl, hE.out⟩
          · skip
            exact absurd (HG3.out rfl) (by omega)
        · subst hcc
          have E8 := Lib.hid (show eqL xs ys = true by rw [e8.out]; rfl)
          cases gg
          · skip
            go_wp2_with fail
            refine (Same_any _ _ _ _ _ rA.out rB.out).mono ?_
            rw [E8.out]
            rintro e wk13 ⟨rfl, hb⟩
            have hb := Dr.below (show Dr _ wk13 from hb) (wk12).heap.size
            have rA := Lib.hid (rA.out.below hb)
            have rB := Lib.hid (rB.out.below hb)
            have r1 := Lib.hid (r1.out.below hb)
            have r2 := Lib.hid (r2.out.below hb)
            have r3 := Lib.hid (r3.out.below hb)
            have r4 := Lib.hid (r4.out.below hb)
            have hE := Lib.hid (hE.out.trans (hb.mono hE.out.size))
            clear hb 
            go_wp2_with fail
            refine (awake_any _).mono ?_
            rintro e wy ⟨rfl, hb⟩
            have hE := Lib.hid (hE.out.trans (hb.mono hE.out.size))
            clear hb
            go_wp2
            go_ret
            exact ⟨rfl, hE.out⟩
          · skip
            go_wp2_with fail
            refine (Same_any _ _ _ _ _ rA.out rB.out).mono ?_
            rw [E8.out]
            rintro e wk13 ⟨rfl, hb⟩
            have hb := Dr.below (show Dr _ wk13 from hb) (wk12).heap.size
            have rA := Lib.hid (rA.out.below hb)
            have rB := Lib.hid (rB.out.below hb)
            have r1 := Lib.hid (r1.out.below hb)
            have r2 := Lib.hid (r2.out.below hb)
            have r3 := Lib.hid (r3.out.below hb)
            have r4 := Lib.hid (r4.out.below hb)
            have hE := Lib.hid (hE.out.trans (hb.mono hE.out.size))
            clear hb 
            go_wp2_with fail
            refine (awake_any _).mono ?_
            rintro e wy ⟨rfl, hb⟩
            have hE := Lib.hid (hE.out.trans (hb.mono hE.out.size))
            clear hb
            go_wp2
            go_ret
            exact ⟨rfl, hE.out⟩
        · subst hcc
          have E8 := Lib.hid (show eqL xs ys = false by rw [e8.out]; rfl)
          cases gg
          · skip
            go_wp2_with fail
            refine (Same_any _ _ _ _ _ rA.out rB.out).mono ?_
            rw [E8.out]
            rintro e wk13 ⟨rfl, hb⟩
            have hb := Dr.below (show Dr _ wk13 from hb) (wk12).heap.size
            have rA := Lib.hid (rA.out.below hb)
            have rB := Lib.hid (rB.out.below hb)
            have r1 := Lib.hid (r1.out.below hb)
            have r2 := Lib.hid (r2.out.below hb)
            have r3 := Lib.hid (r3.out.below hb)
            have r4 := Lib.hid (r4.out.below hb)
            have hE := Lib.hid (hE.out.trans (hb.mono hE.out.size))
            clear hb 
            go_wp2_with fail
            refine (awake_any _).mono ?_
            rintro e wy ⟨rfl, hb⟩
            have hE := Lib.hid (hE.out.trans (hb.mono hE.out.size))
            clear hb
            go_wp2
            go_ret
            exact ⟨rfl, hE.out⟩
          · skip
            go_wp2_with fail
            refine (Same_any _ _ _ _ _ rA.out rB.out).mono ?_
            rw [E8.out]
            rintro e wk13 ⟨rfl, hb⟩
            have hb := Dr.below (show Dr _ wk13 from hb) (wk12).heap.size
            have rA := Lib.hid (rA.out.below hb)
            have rB := Lib.hid (rB.out.below hb)
            have r1 := Lib.hid (r1.out.below hb)
            have r2 := Lib.hid (r2.out.below hb)
            have r3 := Lib.hid (r3.out.below hb)
            have r4 := Lib.hid (r4.out.below hb)
            have hE := Lib.hid (hE.out.trans (hb.mono hE.out.size))
            clear hb 
            go_wp2_with fail
            refine (awake_any _).mono ?_
            rintro e wy ⟨rfl, hb⟩
            have hE := Lib.hid (hE.out.trans (hb.mono hE.out.size))
            clear hb
            go_wp2
            go_ret
            exact ⟨rfl, hE.out⟩
      · have T2 := Lib.hid (Bool.eq_false_iff.2 g2)
        clear g0 g1 g2
        have hE := Lib.hid (Below.refl w.heap.size w)
        go_enter Try.func5, Try.ntmps5
        go_wp2_with fail
        refine (Both_any _ _ xs ys _ rA.out rB.out).mono ?_
        rw [G0.out]
        rintro e wz ⟨rfl, rfl⟩
        go_wp2_with fail
        refine (Small_any _ xs _ rA.out).mono ?_
        rw [G1.out]
        rintro e wz ⟨rfl, rfl⟩
        go_wp2_with fail
        refine (Small_any _ ys _ rB.out).mono ?_
        rw [T2.out]
        rintro e wz ⟨rfl, rfl⟩
        go_wp2_with fail
        refine (awake_any _).mono ?_
        rintro e wy ⟨rfl, hb⟩
        have hE := Lib.hid (hE.out.trans (hb.mono hE.out.size))
        clear hb
        go_wp2
        go_ret
        exact ⟨rfl, hE.out⟩
    · have T1 := Lib.hid (Bool.eq_false_iff.2 g1)
      clear g0 g1
      have hE := Lib.hid (Below.refl w.heap.size w)
      go_enter Try.func5, Try.ntmps5
      go_wp2_with fail
      refine (Both_any _ _ xs ys _ rA.out rB.out).mono ?_
      rw [G0.out]
      rintro e wz ⟨rfl, rfl⟩
      go_wp2_with fail
      refine (Small_any _ xs _ rA.out).mono ?_
      rw [T1.out]
      rintro e wz ⟨rfl, rfl⟩
      go_wp2_with fail
      refine (awake_any _).mono ?_
      rintro e wy ⟨rfl, hb⟩
      have hE := Lib.hid (hE.out.trans (hb.mono hE.out.size))
      clear hb
      go_wp2
      go_ret
      exact ⟨rfl, hE.out⟩
  · have t0 : (ownE [xs, ys] != 0) = true := by simp [g0]
    clear g0
    have hE := Lib.hid (Below.refl w.heap.size w)
    go_enter Try.func5, Try.ntmps5
    go_wp2_with fail
    refine (Both_any _ _ xs ys _ rA.out rB.out).mono ?_
    rintro e wz ⟨rfl, rfl⟩
    go_wp2_with fail
    refine (awake_any _).mono ?_
    rintro e wy ⟨rfl, hb⟩
    have hE := Lib.hid (hE.out.trans (hb.mono hE.out.size))
    clear hb
    go_wp2
    go_ret
    exact ⟨rfl, hE.out⟩
end Go.Proofs.Ytcmkllfocifnlaa
