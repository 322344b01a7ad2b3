/- The walks of the laws of layer 17: each returns true. -/
import Derived.Test.YtcmkllfocifnlaaLawA
import Derived.Test.YtcmkllfocifnlaaLawMath
namespace Go.Proofs.Ytcmkllfocifnlaa
open Go.RowKit Go.Shelf

set_option maxRecDepth 100000 in
set_option maxHeartbeats 4000000 in
theorem ChipsGroup_law (va vb vc : Value) (xs ys zs : List Int) (w : World) (ha : RI w va xs) (hb : RI w vb ys) (hc : RI w vc zs) : Calls Try.prog 11 #[va, vb, vc] w (Yes w) := by
  have rA := Lib.hid ha
  have rB := Lib.hid hb
  have rC := Lib.hid hc
  clear ha hb hc
  by_cases g0 : ownE [xs, ys] = 0
  · have G0 := Lib.hid g0
    by_cases g1 : ownE [ys, zs] = 0
    · have G1 := Lib.hid g1
      by_cases g2 : xs.all (fun z => decide (-60 ≤ z) && decide (z ≤ 60)) = true
      · have G2 := Lib.hid g2
        by_cases g3 : ys.all (fun z => decide (-60 ≤ z) && decide (z ≤ 60)) = true
        · have G3 := Lib.hid g3
          by_cases g4 : zs.all (fun z => decide (-60 ≤ z) && decide (z ≤ 60)) = true
          · have G4 := Lib.hid g4
            obtain ⟨a1, a2, a3, -, -⟩ := own2_zero g0
            obtain ⟨b1, -, -, -, -⟩ := own2_zero g1
            have mx := mag_of_small g2
            have my := mag_of_small g3
            have mz := mag_of_small g4
            obtain ⟨ab, hab⟩ : ∃ t, t = List.zipWith (fun x y => x + y) xs ys := ⟨_, rfl⟩
            obtain ⟨bc, hbc⟩ : ∃ t, t = List.zipWith (fun x y => x + y) ys zs := ⟨_, rfl⟩
            obtain ⟨abc, habc⟩ : ∃ t, t = List.zipWith (fun x y => x + y) ab zs := ⟨_, rfl⟩
            obtain ⟨nx, hnx⟩ : ∃ t, t = xs.map fun x => -x := ⟨_, rfl⟩
            obtain ⟨tw, htw⟩ : ∃ t, t = List.zipWith (fun x y => x + y) xs xs := ⟨_, rfl⟩
            obtain ⟨th, hth⟩ : ∃ t, t = List.zipWith (fun x y => x + y) tw xs := ⟨_, rfl⟩
            have mab : Mag 120 ab := by rw [hab]; exact mag_add mx my
            have mbc : Mag 120 bc := by rw [hbc]; exact mag_add my mz
            have mabc : Mag 180 abc := by rw [habc]; exact mag_add mab mz
            have mnx : Mag 60 nx := by rw [hnx]; intro z hz; obtain ⟨x, hx, rfl⟩ := List.mem_map.1 hz; have := mx x hx; omega
            have mtw : Mag 120 tw := by rw [htw]; exact mag_add mx mx
            have mth : Mag 180 th := by rw [hth]; exact mag_add mtw mx
            have lab : ab.length = xs.length := by rw [hab, List.length_zipWith]; omega
            have lbc : bc.length = xs.length := by rw [hbc, List.length_zipWith]; omega
            have lnx : nx.length = xs.length := by rw [hnx, List.length_map]
            have ltw : tw.length = xs.length := by rw [htw, List.length_zipWith]; omega
            have e1 := Lib.hid (show eachL (fun x y => x + y) xs ys = (ab, 0) by
              have hz : List.zipWith (fun x y => x + y) xs ys = ab := hab.symm
              rw [eachL_ok (own2_mk (by omega) (by omega) (by omega) (inB_of_mag mx (by omega)) (inB_of_mag my (by omega))) (by rw [hz]; first | exact inB_of_mag mx (by omega) | exact inB_of_mag mab (by omega) | exact inB_of_mag mbc (by omega) | exact inB_of_mag mabc (by omega) | exact inB_of_mag mnx (by omega) | exact inB_of_mag mtw (by omega) | exact inB_of_mag mth (by omega) | exact all_rep _), hz])
            have e2 := Lib.hid (show eachL (fun x y => x + y) ys xs = (ab, 0) by
              have hz : List.zipWith (fun x y => x + y) ys xs = ab := by rw [hab, zip_comm]
              rw [eachL_ok (own2_mk (by omega) (by omega) (by omega) (inB_of_mag my (by omega)) (inB_of_mag mx (by omega))) (by rw [hz]; first | exact inB_of_mag mx (by omega) | exact inB_of_mag mab (by omega) | exact inB_of_mag mbc (by omega) | exact inB_of_mag mabc (by omega) | exact inB_of_mag mnx (by omega) | exact inB_of_mag mtw (by omega) | exact inB_of_mag mth (by omega) | exact all_rep _), hz])
            have e3 := Lib.hid (show eachL (fun x y => x + y) ys zs = (bc, 0) by
              have hz : List.zipWith (fun x y => x + y) ys zs = bc := hbc.symm
              rw [eachL_ok (own2_mk (by omega) (by omega) (by omega) (inB_of_mag my (by omega)) (inB_of_mag mz (by omega))) (by rw [hz]; first | exact inB_of_mag mx (by omega) | exact inB_of_mag mab (by omega) | exact inB_of_mag mbc (by omega) | exact inB_of_mag mabc (by omega) | exact inB_of_mag mnx (by omega) | exact inB_of_mag mtw (by omega) | exact inB_of_mag mth (by omega) | exact all_rep _), hz])
            have e4 := Lib.hid (show eachL (fun x y => x + y) ab zs = (abc, 0) by
              have hz : List.zipWith (fun x y => x + y) ab zs = abc := habc.symm
              rw [eachL_ok (own2_mk (by omega) (by omega) (by omega) (inB_of_mag mab (by omega)) (inB_of_mag mz (by omega))) (by rw [hz]; first | exact inB_of_mag mx (by omega) | exact inB_of_mag mab (by omega) | exact inB_of_mag mbc (by omega) | exact inB_of_mag mabc (by omega) | exact inB_of_mag mnx (by omega) | exact inB_of_mag mtw (by omega) | exact inB_of_mag mth (by omega) | exact all_rep _), hz])
            have e5 := Lib.hid (show eachL (fun x y => x + y) xs bc = (abc, 0) by
              have hz : List.zipWith (fun x y => x + y) xs bc = abc := by rw [habc, hab, hbc, zip_assoc]
              rw [eachL_ok (own2_mk (by omega) (by omega) (by omega) (inB_of_mag mx (by omega)) (inB_of_mag mbc (by omega))) (by rw [hz]; first | exact inB_of_mag mx (by omega) | exact inB_of_mag mab (by omega) | exact inB_of_mag mbc (by omega) | exact inB_of_mag mabc (by omega) | exact inB_of_mag mnx (by omega) | exact inB_of_mag mtw (by omega) | exact inB_of_mag mth (by omega) | exact all_rep _), hz])
            have e6 := Lib.hid (show eachL (fun x y => x - y) ab ys = (xs, 0) by
              have hz : List.zipWith (fun x y => x - y) ab ys = xs := by rw [hab]; exact zip_back a1
              rw [eachL_ok (own2_mk (by omega) (by omega) (by omega) (inB_of_mag mab (by omega)) (inB_of_mag my (by omega))) (by rw [hz]; first | exact inB_of_mag mx (by omega) | exact inB_of_mag mab (by omega) | exact inB_of_mag mbc (by omega) | exact inB_of_mag mabc (by omega) | exact inB_of_mag mnx (by omega) | exact inB_of_mag mtw (by omega) | exact inB_of_mag mth (by omega) | exact all_rep _), hz])
            have e7 := Lib.hid (show eachL (fun x _ => -x) xs xs = (nx, 0) by rw [eachL_same (fun x => -x) xs (fun x _ h => by rw [inB_iff] at *; omega), if_neg (by rw [checkE_mk (by omega) (by omega) (inB_of_mag mx (by omega))]; simp), hnx])
            have e8 := Lib.hid (show eachL (fun x y => x + y) xs nx = (List.replicate xs.length 0, 0) by
              have hz : List.zipWith (fun x y => x + y) xs nx = List.replicate xs.length 0 := by rw [hnx, zip_neg]
              rw [eachL_ok (own2_mk (by omega) (by omega) (by omega) (inB_of_mag mx (by omega)) (inB_of_mag mnx (by omega))) (by rw [hz]; first | exact inB_of_mag mx (by omega) | exact inB_of_mag mab (by omega) | exact inB_of_mag mbc (by omega) | exact inB_of_mag mabc (by omega) | exact inB_of_mag mnx (by omega) | exact inB_of_mag mtw (by omega) | exact inB_of_mag mth (by omega) | exact all_rep _), hz])
            have hvn : ¬ ((xs.length : Int) < 1 ∨ 12 < (xs.length : Int)) := by omega
            have e9 := Lib.hid (show zeroL (xs.length : Int) = (List.replicate xs.length 0, 0) by simp [zeroL, vertE, hvn])
            have f1 := Lib.hid (show degL xs = (xs.sum, 0) by simp only [degL, checkE_mk (show 1 ≤ xs.length by omega) (show xs.length ≤ 12 by omega) (inB_of_mag mx (by omega)), ne_eq, not_true_eq_false, if_false])
            have f2 := Lib.hid (show degL ys = (ys.sum, 0) by simp only [degL, checkE_mk (show 1 ≤ ys.length by omega) (show ys.length ≤ 12 by omega) (inB_of_mag my (by omega)), ne_eq, not_true_eq_false, if_false])
            have f3 := Lib.hid (show degL ab = (ab.sum, 0) by simp only [degL, checkE_mk (show 1 ≤ ab.length by omega) (show ab.length ≤ 12 by omega) (inB_of_mag mab (by omega)), ne_eq, not_true_eq_false, if_false])
            have s1 := sum_mag mx
            have s2 := sum_mag my
            have s3 : -720 ≤ xs.sum ∧ xs.sum ≤ 720 := by omega
            have s4 : -720 ≤ ys.sum ∧ ys.sum ≤ 720 := by omega
            have S5 := Lib.hid (show ab.sum = xs.sum + ys.sum by rw [hab]; exact zip_sum a1)
            obtain ⟨sx, hsx⟩ : ∃ t, t = xs.sum := ⟨_, rfl⟩
            obtain ⟨sy, hsy⟩ : ∃ t, t = ys.sum := ⟨_, rfl⟩
            have f3b := Lib.hid (f3.out.trans (by rw [S5.out] : ((ab.sum, 0) : Int × Int) = (xs.sum + ys.sum, 0)))
            have f1b := Lib.hid (f1.out.trans (by rw [hsx] : ((xs.sum, 0) : Int × Int) = (sx, 0)))
            have f2b := Lib.hid (f2.out.trans (by rw [hsy] : ((ys.sum, 0) : Int × Int) = (sy, 0)))
            have f3c := Lib.hid (f3b.out.trans (by rw [hsx, hsy] : ((xs.sum + ys.sum, 0) : Int × Int) = (sx + sy, 0)))
            rw [← hsx] at s3
            rw [← hsy] at s4
            have e10 := Lib.hid (show eachL (fun x _ => scaleF 3 x) xs xs = (th, 0) by
              rw [eachL_same (scaleF 3) xs (fun x hx h => by have := mx x hx; rw [inB_iff] at *; simp only [scaleF]; split <;> simp [InB] <;> omega), if_neg (by rw [checkE_mk (by omega) (by omega) (inB_of_mag mx (by omega))]; simp)]
              congr 1; rw [hth, htw, zip_three]; apply List.map_congr_left; intro x hx; simp only [scaleF]; by_cases hx0 : x = 0; (rw [if_pos hx0, hx0]; rfl); (rw [if_neg hx0, if_pos (by decide)]))
            have e11 := Lib.hid (show eachL (fun x y => x + y) xs xs = (tw, 0) by
              have hz : List.zipWith (fun x y => x + y) xs xs = tw := htw.symm
              rw [eachL_ok (own2_mk (by omega) (by omega) (by omega) (inB_of_mag mx (by omega)) (inB_of_mag mx (by omega))) (by rw [hz]; first | exact inB_of_mag mx (by omega) | exact inB_of_mag mab (by omega) | exact inB_of_mag mbc (by omega) | exact inB_of_mag mabc (by omega) | exact inB_of_mag mnx (by omega) | exact inB_of_mag mtw (by omega) | exact inB_of_mag mth (by omega) | exact all_rep _), hz])
            have e12 := Lib.hid (show eachL (fun x y => x + y) tw xs = (th, 0) by
              have hz : List.zipWith (fun x y => x + y) tw xs = th := hth.symm
              rw [eachL_ok (own2_mk (by omega) (by omega) (by omega) (inB_of_mag mtw (by omega)) (inB_of_mag mx (by omega))) (by rw [hz]; first | exact inB_of_mag mx (by omega) | exact inB_of_mag mab (by omega) | exact inB_of_mag mbc (by omega) | exact inB_of_mag mabc (by omega) | exact inB_of_mag mnx (by omega) | exact inB_of_mag mtw (by omega) | exact inB_of_mag mth (by omega) | exact all_rep _), hz])
            clear hvn g0 g1 g2 g3 g4 a1 a2 b1 mx my mz hab hbc habc hnx htw hth mab mbc mabc mnx mtw mth lab lbc lnx ltw s1 s2 hsx hsy S5 f1 f2 f3 f3b
            have hE := Lib.hid (Below.refl w.heap.size w)
            obtain ⟨A0, c0, hv0, -⟩ := rA.out.open_
            subst hv0
            go_enter Try.func11, Try.ntmps11
            go_wp2_with fail
            refine (Both_any _ _ xs ys _ rA.out rB.out).mono ?_
            rw [G0.out]
            rintro e wz ⟨rfl, rfl⟩
            go_wp2_with fail
            refine (Both_any _ _ ys zs _ rB.out rC.out).mono ?_
            rw [G1.out]
            rintro e wz ⟨rfl, rfl⟩
            go_wp2_with fail
            refine (Small_any _ xs _ rA.out).mono ?_
            rw [G2.out]
            rintro e wz ⟨rfl, rfl⟩
            go_wp2_with fail
            refine (Small_any _ ys _ rB.out).mono ?_
            rw [G3.out]
            rintro e wz ⟨rfl, rfl⟩
            go_wp2_with fail
            refine (Small_any _ zs _ rC.out).mono ?_
            rw [G4.out]
            rintro e wz ⟨rfl, rfl⟩
            go_wp2_with fail
            refine (Add_any _ _ xs ys _ rA.out rB.out).mono ?_
            rw [e1.out]
            rintro e wk1 ⟨v1, rfl, ho, hb⟩
            have rA := Lib.hid (rA.out.below hb)
            have rB := Lib.hid (rB.out.below hb)
            have rC := Lib.hid (rC.out.below hb)
            have hE := Lib.hid (hE.out.trans (hb.mono hE.out.size))
            have r1 := Lib.hid ho.ri
            clear hb 
            go_wp2_with fail
            refine (Add_any _ _ ys xs _ rB.out rA.out).mono ?_
            rw [e2.out]
            rintro e wk2 ⟨v2, rfl, ho, hb⟩
            have rA := Lib.hid (rA.out.below hb)
            have rB := Lib.hid (rB.out.below hb)
            have rC := Lib.hid (rC.out.below hb)
            have r1 := Lib.hid (r1.out.below hb)
            have hE := Lib.hid (hE.out.trans (hb.mono hE.out.size))
            have r2 := Lib.hid ho.ri
            clear hb 
            go_wp2_with fail
            refine (Add_any _ _ ys zs _ rB.out rC.out).mono ?_
            rw [e3.out]
            rintro e wk3 ⟨v3, rfl, ho, hb⟩
            have rA := Lib.hid (rA.out.below hb)
            have rB := Lib.hid (rB.out.below hb)
            have rC := Lib.hid (rC.out.below hb)
            have r1 := Lib.hid (r1.out.below hb)
            have r2 := Lib.hid (r2.out.below hb)
            have hE := Lib.hid (hE.out.trans (hb.mono hE.out.size))
            have r3 := Lib.hid ho.ri
            clear hb 
            go_wp2_with fail
            refine (Add_any _ _ ab zs _ r1.out rC.out).mono ?_
            rw [e4.out]
            rintro e wk4 ⟨v4, rfl, ho, hb⟩
            have rA := Lib.hid (rA.out.below hb)
            have rB := Lib.hid (rB.out.below hb)
            have rC := Lib.hid (rC.out.below hb)
            have r1 := Lib.hid (r1.out.below hb)
            have r2 := Lib.hid (r2.out.below hb)
            have r3 := Lib.hid (r3.out.below hb)
            have hE := Lib.hid (hE.out.trans (hb.mono hE.out.size))
            have r4 := Lib.hid ho.ri
            clear hb 
            go_wp2_with fail
            refine (Add_any _ _ xs bc _ rA.out r3.out).mono ?_
            rw [e5.out]
            rintro e wk5 ⟨v5, rfl, ho, hb⟩
            have rA := Lib.hid (rA.out.below hb)
            have rB := Lib.hid (rB.out.below hb)
            have rC := Lib.hid (rC.out.below hb)
            have r1 := Lib.hid (r1.out.below hb)
            have r2 := Lib.hid (r2.out.below hb)
            have r3 := Lib.hid (r3.out.below hb)
            have r4 := Lib.hid (r4.out.below hb)
            have hE := Lib.hid (hE.out.trans (hb.mono hE.out.size))
            have r5 := Lib.hid ho.ri
            clear hb 
            go_wp2_with fail
            refine (Sub_any _ _ ab ys _ r1.out rB.out).mono ?_
            rw [e6.out]
            rintro e wk6 ⟨v6, rfl, ho, hb⟩
            have rA := Lib.hid (rA.out.below hb)
            have rB := Lib.hid (rB.out.below hb)
            have rC := Lib.hid (rC.out.below hb)
            have r1 := Lib.hid (r1.out.below hb)
            have r2 := Lib.hid (r2.out.below hb)
            have r3 := Lib.hid (r3.out.below hb)
            have r4 := Lib.hid (r4.out.below hb)
            have r5 := Lib.hid (r5.out.below hb)
            have hE := Lib.hid (hE.out.trans (hb.mono hE.out.size))
            have r6 := Lib.hid ho.ri
            clear hb 
            go_wp2_with fail
            refine (Same_any _ _ _ _ _ r1.out r2.out).mono ?_
            rw [eqL_same]
            rintro e wk7 ⟨rfl, hb⟩
            have hb := Dr.below (show Dr _ wk7 from hb) (wk6).heap.size
            have rA := Lib.hid (rA.out.below hb)
            have rB := Lib.hid (rB.out.below hb)
            have rC := Lib.hid (rC.out.below hb)
            have r1 := Lib.hid (r1.out.below hb)
            have r2 := Lib.hid (r2.out.below hb)
            have r3 := Lib.hid (r3.out.below hb)
            have r4 := Lib.hid (r4.out.below hb)
            have r5 := Lib.hid (r5.out.below hb)
            have r6 := Lib.hid (r6.out.below hb)
            have hE := Lib.hid (hE.out.trans (hb.mono hE.out.size))
            clear hb 
            go_wp2_with fail
            refine (Same_any _ _ _ _ _ r4.out r5.out).mono ?_
            rw [eqL_same]
            rintro e wk8 ⟨rfl, hb⟩
            have hb := Dr.below (show Dr _ wk8 from hb) (wk7).heap.size
            have rA := Lib.hid (rA.out.below hb)
            have rB := Lib.hid (rB.out.below hb)
            have rC := Lib.hid (rC.out.below hb)
            have r1 := Lib.hid (r1.out.below hb)
            have r2 := Lib.hid (r2.out.below hb)
            have r3 := Lib.hid (r3.out.below hb)
            have r4 := Lib.hid (r4.out.below hb)
            have r5 := Lib.hid (r5.out.below hb)
            have r6 := Lib.hid (r6.out.below hb)
            have hE := Lib.hid (hE.out.trans (hb.mono hE.out.size))
            clear hb 
            go_wp2_with fail
            refine (Same_any _ _ _ _ _ r6.out rA.out).mono ?_
            rw [eqL_same]
            rintro e wk9 ⟨rfl, hb⟩
            have hb := Dr.below (show Dr _ wk9 from hb) (wk8).heap.size
            have rA := Lib.hid (rA.out.below hb)
            have rB := Lib.hid (rB.out.below hb)
            have rC := Lib.hid (rC.out.below hb)
            have r1 := Lib.hid (r1.out.below hb)
            have r2 := Lib.hid (r2.out.below hb)
            have r3 := Lib.hid (r3.out.below hb)
            have r4 := Lib.hid (r4.out.below hb)
            have r5 := Lib.hid (r5.out.below hb)
            have r6 := Lib.hid (r6.out.below hb)
            have hE := Lib.hid (hE.out.trans (hb.mono hE.out.size))
            clear hb 
            go_wp2_with fail
            refine (Neg_any _ xs _ rA.out).mono ?_
            rw [e7.out]
            rintro e wk10 ⟨v7, rfl, ho, hb⟩
            have rA := Lib.hid (rA.out.below hb)
            have rB := Lib.hid (rB.out.below hb)
            have rC := Lib.hid (rC.out.below hb)
            have r1 := Lib.hid (r1.out.below hb)
            have r2 := Lib.hid (r2.out.below hb)
            have r3 := Lib.hid (r3.out.below hb)
            have r4 := Lib.hid (r4.out.below hb)
            have r5 := Lib.hid (r5.out.below hb)
            have r6 := Lib.hid (r6.out.below hb)
            have hE := Lib.hid (hE.out.trans (hb.mono hE.out.size))
            have r7 := Lib.hid ho.ri
            clear hb 
            go_wp2_with fail
            refine (Add_any _ _ xs nx _ rA.out r7.out).mono ?_
            rw [e8.out]
            rintro e wk11 ⟨v8, rfl, ho, hb⟩
            have rA := Lib.hid (rA.out.below hb)
            have rB := Lib.hid (rB.out.below hb)
            have rC := Lib.hid (rC.out.below hb)
            have r1 := Lib.hid (r1.out.below hb)
            have r2 := Lib.hid (r2.out.below hb)
            have r3 := Lib.hid (r3.out.below hb)
            have r4 := Lib.hid (r4.out.below hb)
            have r5 := Lib.hid (r5.out.below hb)
            have r6 := Lib.hid (r6.out.below hb)
            have r7 := Lib.hid (r7.out.below hb)
            have hE := Lib.hid (hE.out.trans (hb.mono hE.out.size))
            have r8 := Lib.hid ho.ri
            clear hb 
            go_wp2_with fail
            refine (Zero_any _ _).mono ?_
            rw [e9.out]
            rintro e wk12 ⟨v9, rfl, ho, hb⟩
            have rA := Lib.hid (rA.out.below hb)
            have rB := Lib.hid (rB.out.below hb)
            have rC := Lib.hid (rC.out.below hb)
            have r1 := Lib.hid (r1.out.below hb)
            have r2 := Lib.hid (r2.out.below hb)
            have r3 := Lib.hid (r3.out.below hb)
            have r4 := Lib.hid (r4.out.below hb)
            have r5 := Lib.hid (r5.out.below hb)
            have r6 := Lib.hid (r6.out.below hb)
            have r7 := Lib.hid (r7.out.below hb)
            have r8 := Lib.hid (r8.out.below hb)
            have hE := Lib.hid (hE.out.trans (hb.mono hE.out.size))
            have r9 := Lib.hid ho.ri
            clear hb 
            go_wp2_with fail
            refine (Degree_any _ xs _ rA.out).mono ?_
            rw [f1b.out]
            rintro e wk13 ⟨rfl, hb⟩
            have rA := Lib.hid (rA.out.below hb)
            have rB := Lib.hid (rB.out.below hb)
            have rC := Lib.hid (rC.out.below hb)
            have r1 := Lib.hid (r1.out.below hb)
            have r2 := Lib.hid (r2.out.below hb)
            have r3 := Lib.hid (r3.out.below hb)
            have r4 := Lib.hid (r4.out.below hb)
            have r5 := Lib.hid (r5.out.below hb)
            have r6 := Lib.hid (r6.out.below hb)
            have r7 := Lib.hid (r7.out.below hb)
            have r8 := Lib.hid (r8.out.below hb)
            have r9 := Lib.hid (r9.out.below hb)
            have hE := Lib.hid (hE.out.trans (hb.mono hE.out.size))
            clear hb 
            go_wp2_with fail
            refine (Degree_any _ ys _ rB.out).mono ?_
            rw [f2b.out]
            rintro e wk14 ⟨rfl, hb⟩
            have rA := Lib.hid (rA.out.below hb)
            have rB := Lib.hid (rB.out.below hb)
            have rC := Lib.hid (rC.out.below hb)
            have r1 := Lib.hid (r1.out.below hb)
            have r2 := Lib.hid (r2.out.below hb)
            have r3 := Lib.hid (r3.out.below hb)
            have r4 := Lib.hid (r4.out.below hb)
            have r5 := Lib.hid (r5.out.below hb)
            have r6 := Lib.hid (r6.out.below hb)
            have r7 := Lib.hid (r7.out.below hb)
            have r8 := Lib.hid (r8.out.below hb)
            have r9 := Lib.hid (r9.out.below hb)
            have hE := Lib.hid (hE.out.trans (hb.mono hE.out.size))
            clear hb 
            go_wp2_with fail
            refine (Degree_any _ ab _ r1.out).mono ?_
            rw [f3c.out]
            rintro e wk15 ⟨rfl, hb⟩
            have rA := Lib.hid (rA.out.below hb)
            have rB := Lib.hid (rB.out.below hb)
            have rC := Lib.hid (rC.out.below hb)
            have r1 := Lib.hid (r1.out.below hb)
            have r2 := Lib.hid (r2.out.below hb)
            have r3 := Lib.hid (r3.out.below hb)
            have r4 := Lib.hid (r4.out.below hb)
            have r5 := Lib.hid (r5.out.below hb)
            have r6 := Lib.hid (r6.out.below hb)
            have r7 := Lib.hid (r7.out.below hb)
            have r8 := Lib.hid (r8.out.below hb)
            have r9 := Lib.hid (r9.out.below hb)
            have hE := Lib.hid (hE.out.trans (hb.mono hE.out.size))
            clear hb 
            go_wp2_with fail
            refine (Same_any _ _ _ _ _ r8.out r9.out).mono ?_
            rw [eqL_same]
            rintro e wk16 ⟨rfl, hb⟩
            have hb := Dr.below (show Dr _ wk16 from hb) (wk15).heap.size
            have rA := Lib.hid (rA.out.below hb)
            have rB := Lib.hid (rB.out.below hb)
            have rC := Lib.hid (rC.out.below hb)
            have r1 := Lib.hid (r1.out.below hb)
            have r2 := Lib.hid (r2.out.below hb)
            have r3 := Lib.hid (r3.out.below hb)
            have r4 := Lib.hid (r4.out.below hb)
            have r5 := Lib.hid (r5.out.below hb)
            have r6 := Lib.hid (r6.out.below hb)
            have r7 := Lib.hid (r7.out.below hb)
            have r8 := Lib.hid (r8.out.below hb)
            have r9 := Lib.hid (r9.out.below hb)
            have hE := Lib.hid (hE.out.trans (hb.mono hE.out.size))
            clear hb 
            go_wp2_with fail
            refine (Scale_any _ xs 3 _ rA.out).mono ?_
            rw [e10.out]
            rintro e wk17 ⟨v10, rfl, ho, hb⟩
            have rA := Lib.hid (rA.out.below hb)
            have rB := Lib.hid (rB.out.below hb)
            have rC := Lib.hid (rC.out.below hb)
            have r1 := Lib.hid (r1.out.below hb)
            have r2 := Lib.hid (r2.out.below hb)
            have r3 := Lib.hid (r3.out.below hb)
            have r4 := Lib.hid (r4.out.below hb)
            have r5 := Lib.hid (r5.out.below hb)
            have r6 := Lib.hid (r6.out.below hb)
            have r7 := Lib.hid (r7.out.below hb)
            have r8 := Lib.hid (r8.out.below hb)
            have r9 := Lib.hid (r9.out.below hb)
            have hE := Lib.hid (hE.out.trans (hb.mono hE.out.size))
            have r10 := Lib.hid ho.ri
            clear hb 
            go_wp2_with fail
            refine (Add_any _ _ xs xs _ rA.out rA.out).mono ?_
            rw [e11.out]
            rintro e wk18 ⟨v11, rfl, ho, hb⟩
            have rA := Lib.hid (rA.out.below hb)
            have rB := Lib.hid (rB.out.below hb)
            have rC := Lib.hid (rC.out.below hb)
            have r1 := Lib.hid (r1.out.below hb)
            have r2 := Lib.hid (r2.out.below hb)
            have r3 := Lib.hid (r3.out.below hb)
            have r4 := Lib.hid (r4.out.below hb)
            have r5 := Lib.hid (r5.out.below hb)
            have r6 := Lib.hid (r6.out.below hb)
            have r7 := Lib.hid (r7.out.below hb)
            have r8 := Lib.hid (r8.out.below hb)
            have r9 := Lib.hid (r9.out.below hb)
            have r10 := Lib.hid (r10.out.below hb)
            have hE := Lib.hid (hE.out.trans (hb.mono hE.out.size))
            have r11 := Lib.hid ho.ri
            clear hb 
            go_wp2_with fail
            refine (Add_any _ _ tw xs _ r11.out rA.out).mono ?_
            rw [e12.out]
            rintro e wk19 ⟨v12, rfl, ho, hb⟩
            have rA := Lib.hid (rA.out.below hb)
            have rB := Lib.hid (rB.out.below hb)
            have rC := Lib.hid (rC.out.below hb)
            have r1 := Lib.hid (r1.out.below hb)
            have r2 := Lib.hid (r2.out.below hb)
            have r3 := Lib.hid (r3.out.below hb)
            have r4 := Lib.hid (r4.out.below hb)
            have r5 := Lib.hid (r5.out.below hb)
            have r6 := Lib.hid (r6.out.below hb)
            have r7 := Lib.hid (r7.out.below hb)
            have r8 := Lib.hid (r8.out.below hb)
            have r9 := Lib.hid (r9.out.below hb)
            have r10 := Lib.hid (r10.out.below hb)
            have r11 := Lib.hid (r11.out.below hb)
            have hE := Lib.hid (hE.out.trans (hb.mono hE.out.size))
            have r12 := Lib.hid ho.ri
            clear hb 
            go_wp2_with fail
            refine (Same_any _ _ _ _ _ r10.out r12.out).mono ?_
            rw [eqL_same]
            rintro e wk20 ⟨rfl, hb⟩
            have hb := Dr.below (show Dr _ wk20 from hb) (wk19).heap.size
            have rA := Lib.hid (rA.out.below hb)
            have rB := Lib.hid (rB.out.below hb)
            have rC := Lib.hid (rC.out.below hb)
            have r1 := Lib.hid (r1.out.below hb)
            have r2 := Lib.hid (r2.out.below hb)
            have r3 := Lib.hid (r3.out.below hb)
            have r4 := Lib.hid (r4.out.below hb)
            have r5 := Lib.hid (r5.out.below hb)
            have r6 := Lib.hid (r6.out.below hb)
            have r7 := Lib.hid (r7.out.below hb)
            have r8 := Lib.hid (r8.out.below hb)
            have r9 := Lib.hid (r9.out.below hb)
            have r10 := Lib.hid (r10.out.below hb)
            have r11 := Lib.hid (r11.out.below hb)
            have r12 := Lib.hid (r12.out.below hb)
            have hE := Lib.hid (hE.out.trans (hb.mono hE.out.size))
            clear hb 
            go_wp2_with fail
            refine (awake_any _).mono ?_
            rintro e wy ⟨rfl, hb⟩
            have hE := Lib.hid (hE.out.trans (hb.mono hE.out.size))
            clear hb
            go_wp2
            go_ret
            exact ⟨rfl, hE.out⟩
          · have T4 := Lib.hid (Bool.eq_false_iff.2 g4)
            clear g0 g1 g2 g3 g4
            have hE := Lib.hid (Below.refl w.heap.size w)
            go_enter Try.func11, Try.ntmps11
            go_wp2_with fail
            refine (Both_any _ _ xs ys _ rA.out rB.out).mono ?_
            rw [G0.out]
            rintro e wz ⟨rfl, rfl⟩
            go_wp2_with fail
            refine (Both_any _ _ ys zs _ rB.out rC.out).mono ?_
            rw [G1.out]
            rintro e wz ⟨rfl, rfl⟩
            go_wp2_with fail
            refine (Small_any _ xs _ rA.out).mono ?_
            rw [G2.out]
            rintro e wz ⟨rfl, rfl⟩
            go_wp2_with fail
            refine (Small_any _ ys _ rB.out).mono ?_
            rw [G3.out]
            rintro e wz ⟨rfl, rfl⟩
            go_wp2_with fail
            refine (Small_any _ zs _ rC.out).mono ?_
            rw [T4.out]
            rintro e wz ⟨rfl, rfl⟩
            go_wp2_with fail
            refine (awake_any _).mono ?_
            rintro e wy ⟨rfl, hb⟩
            have hE := Lib.hid (hE.out.trans (hb.mono hE.out.size))
            clear hb
            go_wp2
            go_ret
            exact ⟨rfl, hE.out⟩
        · have T3 := Lib.hid (Bool.eq_false_iff.2 g3)
          clear g0 g1 g2 g3
          have hE := Lib.hid (Below.refl w.heap.size w)
          go_enter Try.func11, Try.ntmps11
          go_wp2_with fail
          refine (Both_any _ _ xs ys _ rA.out rB.out).mono ?_
          rw [G0.out]
          rintro e wz ⟨rfl, rfl⟩
          go_wp2_with fail
          refine (Both_any _ _ ys zs _ rB.out rC.out).mono ?_
          rw [G1.out]
          rintro e wz ⟨rfl, rfl⟩
          go_wp2_with fail
          refine (Small_any _ xs _ rA.out).mono ?_
          rw [G2.out]
          rintro e wz ⟨rfl, rfl⟩
          go_wp2_with fail
          refine (Small_any _ ys _ rB.out).mono ?_
          rw [T3.out]
          rintro e wz ⟨rfl, rfl⟩
          go_wp2_with fail
          refine (awake_any _).mono ?_
          rintro e wy ⟨rfl, hb⟩
          have hE := Lib.hid (hE.out.trans (hb.mono hE.out.size))
          clear hb
          go_wp2
          go_ret
          exact ⟨rfl, hE.out⟩
      · have T2 := Lib.hid (Bool.eq_false_iff.2 g2)
        clear g0 g1 g2
        have hE := Lib.hid (Below.refl w.heap.size w)
        go_enter Try.func11, Try.ntmps11
        go_wp2_with fail
        refine (Both_any _ _ xs ys _ rA.out rB.out).mono ?_
        rw [G0.out]
        rintro e wz ⟨rfl, rfl⟩
        go_wp2_with fail
        refine (Both_any _ _ ys zs _ rB.out rC.out).mono ?_
        rw [G1.out]
        rintro e wz ⟨rfl, rfl⟩
        go_wp2_with fail
        refine (Small_any _ xs _ rA.out).mono ?_
        rw [T2.out]
        rintro e wz ⟨rfl, rfl⟩
        go_wp2_with fail
        refine (awake_any _).mono ?_
        rintro e wy ⟨rfl, hb⟩
        have hE := Lib.hid (hE.out.trans (hb.mono hE.out.size))
        clear hb
        go_wp2
        go_ret
        exact ⟨rfl, hE.out⟩
    · have t1 : (ownE [ys, zs] != 0) = true := by simp [g1]
      clear g0 g1
      have hE := Lib.hid (Below.refl w.heap.size w)
      go_enter Try.func11, Try.ntmps11
      go_wp2_with fail
      refine (Both_any _ _ xs ys _ rA.out rB.out).mono ?_
      rw [G0.out]
      rintro e wz ⟨rfl, rfl⟩
      go_wp2_with fail
      refine (Both_any _ _ ys zs _ rB.out rC.out).mono ?_
      rintro e wz ⟨rfl, rfl⟩
      go_wp2_with fail
      refine (awake_any _).mono ?_
      rintro e wy ⟨rfl, hb⟩
      have hE := Lib.hid (hE.out.trans (hb.mono hE.out.size))
      clear hb
      go_wp2
      go_ret
      exact ⟨rfl, hE.out⟩
  · have t0 : (ownE [xs, ys] != 0) = true := by simp [g0]
    clear g0
    have hE := Lib.hid (Below.refl w.heap.size w)
    go_enter Try.func11, Try.ntmps11
    go_wp2_with fail
    refine (Both_any _ _ xs ys _ rA.out rB.out).mono ?_
    rintro e wz ⟨rfl, rfl⟩
    go_wp2_with fail
    refine (awake_any _).mono ?_
    rintro e wy ⟨rfl, hb⟩
    have hE := Lib.hid (hE.out.trans (hb.mono hE.out.size))
    clear hb
    go_wp2
    go_ret
    exact ⟨rfl, hE.out⟩
end Go.Proofs.Ytcmkllfocifnlaa
