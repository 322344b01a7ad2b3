/- The walks of the laws of layer 17: each returns true. -/
import Derived.Test.YtcmkllfocifnlaaLawA
import Derived.Test.YtcmkllfocifnlaaRefD
namespace Go.Proofs.Ytcmkllfocifnlaa
open Go.RowKit Go.Shelf

theorem sub_eq (xs ys : List Int) : addL (-1) xs ys = eachL (fun x y => x - y) xs ys := by
  rw [addL_eq]
  have : (fun x y : Int => x + -1 * y) = (fun x y => x - y) := by funext x y; omega
  rw [this]
theorem add_eq (xs ys : List Int) : addL 1 xs ys = eachL (fun x y => x + y) xs ys := by
  rw [addL_eq]
  have : (fun x y : Int => x + 1 * y) = (fun x y => x + y) := by funext x y; omega
  rw [this]

set_option maxRecDepth 100000 in
set_option maxHeartbeats 4000000 in
theorem ChipsAdds_law (va vb : Value) (xs ys : List Int) (q : Int) (w : World) (ha : RI w va xs) (hb : RI w vb ys) : Calls Try.prog 10 #[va, vb, .int .i64 q] w (Yes w) := by
  have rA := Lib.hid ha
  have rB := Lib.hid hb
  clear ha hb
  by_cases h1 : xs.length ≤ 24
  · have rAL := Lib.hid h1
    clear h1
    by_cases h2 : ys.length ≤ 24
    · have rBL := Lib.hid h2
      clear h2
      have hE := Lib.hid (Below.refl w.heap.size w)
      go_enter Try.func10, Try.ntmps10
      go_wp2_with fail
      refine (Few_any _ xs _ rA.out).mono ?_
      rw [few_yes rAL.out]
      rintro e wz ⟨rfl, rfl⟩
      go_wp2_with fail
      refine (Few_any _ ys _ rB.out).mono ?_
      rw [few_yes rBL.out]
      rintro e wz ⟨rfl, rfl⟩
      go_wp2_with fail
      refine (Add_any _ _ xs ys _ rA.out rB.out).mono ?_
      rintro e wk1 ⟨v1, rfl, ho, hb⟩
      have rA := Lib.hid (rA.out.below hb)
      have rB := Lib.hid (rB.out.below hb)
      have hE := Lib.hid (hE.out.trans (hb.mono hE.out.size))
      have r1 := Lib.hid ho.ri
      clear hb 
      go_wp2_with fail
      refine (rAdd_any _ _ xs ys _ rA.out rB.out).mono ?_
      rw [add_eq]
      rintro e wk2 ⟨v2, rfl, ho, hb⟩
      have rA := Lib.hid (rA.out.below hb)
      have rB := Lib.hid (rB.out.below hb)
      have r1 := Lib.hid (r1.out.below hb)
      have hE := Lib.hid (hE.out.trans (hb.mono hE.out.size))
      have r2 := Lib.hid ho.ri
      clear hb 
      go_wp2_with fail
      refine (Same_any _ _ _ _ _ r1.out r2.out).mono ?_
      rw [eqL_same]
      rintro e wk3 ⟨rfl, hb⟩
      have hb := Dr.below (show Dr _ wk3 from hb) (wk2).heap.size
      have rA := Lib.hid (rA.out.below hb)
      have rB := Lib.hid (rB.out.below hb)
      have r1 := Lib.hid (r1.out.below hb)
      have r2 := Lib.hid (r2.out.below hb)
      have hE := Lib.hid (hE.out.trans (hb.mono hE.out.size))
      clear hb 
      go_wp2_with fail
      refine (Sub_any _ _ xs ys _ rA.out rB.out).mono ?_
      rintro e wk4 ⟨v3, rfl, ho, hb⟩
      have rA := Lib.hid (rA.out.below hb)
      have rB := Lib.hid (rB.out.below hb)
      have r1 := Lib.hid (r1.out.below hb)
      have r2 := Lib.hid (r2.out.below hb)
      have hE := Lib.hid (hE.out.trans (hb.mono hE.out.size))
      have r3 := Lib.hid ho.ri
      clear hb 
      go_wp2_with fail
      refine (rSub_any _ _ xs ys _ rA.out rB.out).mono ?_
      rw [sub_eq]
      rintro e wk5 ⟨v4, rfl, ho, hb⟩
      have rA := Lib.hid (rA.out.below hb)
      have rB := Lib.hid (rB.out.below hb)
      have r1 := Lib.hid (r1.out.below hb)
      have r2 := Lib.hid (r2.out.below hb)
      have r3 := Lib.hid (r3.out.below hb)
      have hE := Lib.hid (hE.out.trans (hb.mono hE.out.size))
      have r4 := Lib.hid ho.ri
      clear hb 
      go_wp2_with fail
      refine (Same_any _ _ _ _ _ r3.out r4.out).mono ?_
      rw [eqL_same]
      rintro e wk6 ⟨rfl, hb⟩
      have hb := Dr.below (show Dr _ wk6 from hb) (wk5).heap.size
      have rA := Lib.hid (rA.out.below hb)
      have rB := Lib.hid (rB.out.below hb)
      have r1 := Lib.hid (r1.out.below hb)
      have r2 := Lib.hid (r2.out.below hb)
      have r3 := Lib.hid (r3.out.below hb)
      have r4 := Lib.hid (r4.out.below hb)
      have hE := Lib.hid (hE.out.trans (hb.mono hE.out.size))
      clear hb 
      go_wp2_with fail
      refine (Neg_any _ xs _ rA.out).mono ?_
      rintro e wk7 ⟨v5, rfl, ho, hb⟩
      have rA := Lib.hid (rA.out.below hb)
      have rB := Lib.hid (rB.out.below hb)
      have r1 := Lib.hid (r1.out.below hb)
      have r2 := Lib.hid (r2.out.below hb)
      have r3 := Lib.hid (r3.out.below hb)
      have r4 := Lib.hid (r4.out.below hb)
      have hE := Lib.hid (hE.out.trans (hb.mono hE.out.size))
      have r5 := Lib.hid ho.ri
      clear hb 
      go_wp2_with fail
      refine (rNeg_any _ xs _ rA.out).mono ?_
      rintro e wk8 ⟨v6, rfl, ho, hb⟩
      have rA := Lib.hid (rA.out.below hb)
      have rB := Lib.hid (rB.out.below hb)
      have r1 := Lib.hid (r1.out.below hb)
      have r2 := Lib.hid (r2.out.below hb)
      have r3 := Lib.hid (r3.out.below hb)
      have r4 := Lib.hid (r4.out.below hb)
      have r5 := Lib.hid (r5.out.below hb)
      have hE := Lib.hid (hE.out.trans (hb.mono hE.out.size))
      have r6 := Lib.hid ho.ri
      clear hb 
      go_wp2_with fail
      refine (Scale_any _ xs q _ rA.out).mono ?_
      rw [scaleL_eq]
      rintro e wk9 ⟨v7, rfl, ho, hb⟩
      have rA := Lib.hid (rA.out.below hb)
      have rB := Lib.hid (rB.out.below hb)
      have r1 := Lib.hid (r1.out.below hb)
      have r2 := Lib.hid (r2.out.below hb)
      have r3 := Lib.hid (r3.out.below hb)
      have r4 := Lib.hid (r4.out.below hb)
      have r5 := Lib.hid (r5.out.below hb)
      have r6 := Lib.hid (r6.out.below hb)
      have hE := Lib.hid (hE.out.trans (hb.mono hE.out.size))
      have r7 := Lib.hid ho.ri
      clear hb 
      go_wp2_with fail
      refine (rScale_any _ xs q _ rA.out).mono ?_
      rintro e wk10 ⟨v8, rfl, ho, hb⟩
      have rA := Lib.hid (rA.out.below hb)
      have rB := Lib.hid (rB.out.below hb)
      have r1 := Lib.hid (r1.out.below hb)
      have r2 := Lib.hid (r2.out.below hb)
      have r3 := Lib.hid (r3.out.below hb)
      have r4 := Lib.hid (r4.out.below hb)
      have r5 := Lib.hid (r5.out.below hb)
      have r6 := Lib.hid (r6.out.below hb)
      have r7 := Lib.hid (r7.out.below hb)
      have hE := Lib.hid (hE.out.trans (hb.mono hE.out.size))
      have r8 := Lib.hid ho.ri
      clear hb 
      go_wp2_with fail
      refine (Same_any _ _ _ _ _ r5.out r6.out).mono ?_
      rw [eqL_same]
      rintro e wk11 ⟨rfl, hb⟩
      have hb := Dr.below (show Dr _ wk11 from hb) (wk10).heap.size
      have rA := Lib.hid (rA.out.below hb)
      have rB := Lib.hid (rB.out.below hb)
      have r1 := Lib.hid (r1.out.below hb)
      have r2 := Lib.hid (r2.out.below hb)
      have r3 := Lib.hid (r3.out.below hb)
      have r4 := Lib.hid (r4.out.below hb)
      have r5 := Lib.hid (r5.out.below hb)
      have r6 := Lib.hid (r6.out.below hb)
      have r7 := Lib.hid (r7.out.below hb)
      have r8 := Lib.hid (r8.out.below hb)
      have hE := Lib.hid (hE.out.trans (hb.mono hE.out.size))
      clear hb 
      go_wp2_with fail
      refine (Same_any _ _ _ _ _ r7.out r8.out).mono ?_
      rw [eqL_same]
      rintro e wk12 ⟨rfl, hb⟩
      have hb := Dr.below (show Dr _ wk12 from hb) (wk11).heap.size
      have rA := Lib.hid (rA.out.below hb)
      have rB := Lib.hid (rB.out.below hb)
      have r1 := Lib.hid (r1.out.below hb)
      have r2 := Lib.hid (r2.out.below hb)
      have r3 := Lib.hid (r3.out.below hb)
      have r4 := Lib.hid (r4.out.below hb)
      have r5 := Lib.hid (r5.out.below hb)
      have r6 := Lib.hid (r6.out.below hb)
      have r7 := Lib.hid (r7.out.below hb)
      have r8 := Lib.hid (r8.out.below hb)
      have hE := Lib.hid (hE.out.trans (hb.mono hE.out.size))
      clear hb 
      go_wp2_with fail
      refine (awake_any _).mono ?_
      rintro e wy ⟨rfl, hb⟩
      have hE := Lib.hid (hE.out.trans (hb.mono hE.out.size))
      clear hb
      go_wp2
      go_ret
      exact ⟨rfl, hE.out⟩
    · have rBL := Lib.hid h2
      clear h2
      have hE := Lib.hid (Below.refl w.heap.size w)
      go_enter Try.func10, Try.ntmps10
      go_wp2_with fail
      refine (Few_any _ xs _ rA.out).mono ?_
      rw [few_yes rAL.out]
      rintro e wz ⟨rfl, rfl⟩
      go_wp2_with fail
      refine (Few_any _ ys _ rB.out).mono ?_
      rw [few_no rBL.out]
      rintro e wz ⟨rfl, rfl⟩
      go_wp2_with fail
      refine (awake_any _).mono ?_
      rintro e wy ⟨rfl, hb⟩
      have hE := Lib.hid (hE.out.trans (hb.mono hE.out.size))
      clear hb
      go_wp2
      go_ret
      exact ⟨rfl, hE.out⟩
  · have rAL := Lib.hid h1
    clear h1
    have hE := Lib.hid (Below.refl w.heap.size w)
    go_enter Try.func10, Try.ntmps10
    go_wp2_with fail
    refine (Few_any _ xs _ rA.out).mono ?_
    rw [few_no rAL.out]
    rintro e wz ⟨rfl, rfl⟩
    go_wp2_with fail
    refine (awake_any _).mono ?_
    rintro e wy ⟨rfl, hb⟩
    have hE := Lib.hid (hE.out.trans (hb.mono hE.out.size))
    clear hb
    go_wp2
    go_ret
    exact ⟨rfl, hE.out⟩
end Go.Proofs.Ytcmkllfocifnlaa
