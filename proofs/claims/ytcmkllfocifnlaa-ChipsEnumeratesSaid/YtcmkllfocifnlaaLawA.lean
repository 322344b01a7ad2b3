/- The walks of the laws of layer 17: each returns true. -/
import Derived.Test.YtcmkllfocifnlaaAwake
namespace Go.Proofs.Ytcmkllfocifnlaa
open Go.RowKit Go.Shelf
theorem eqL_same (zs : List Int) : eqL zs zs = true := (eqL_iff _ _).2 rfl
theorem few_yes {zs : List Int} (h : zs.length ≤ 24) : decide (zs.length ≤ 24) = true := by simpa using h
theorem few_no {zs : List Int} (h : ¬ zs.length ≤ 24) : decide (zs.length ≤ 24) = false := by simpa using h

set_option maxRecDepth 100000 in
set_option maxHeartbeats 4000000 in
theorem ChipsCompares_law (va vb : Value) (xs ys : List Int) (w : World) (ha : RI w va xs) (hb : RI w vb ys) : Calls Try.prog 3 #[va, vb] w (Yes w) := by
  have rA := Lib.hid ha
  have rB := Lib.hid hb
  clear ha hb
  by_cases h1 : xs.length ≤ 24
  · have rAL := Lib.hid h1
    clear h1
    by_cases h2 : ys.length ≤ 24
    · have rBL := Lib.hid h2
      clear h2
      have hE := Lib.hid (Below.refl w.heap.size w)
      go_enter Try.func3, Try.ntmps3
      go_wp2_with fail
      refine (Few_any _ xs _ rA.out).mono ?_
      rw [few_yes rAL.out]
      rintro e wz ⟨rfl, rfl⟩
      go_wp2_with fail
      refine (Few_any _ ys _ rB.out).mono ?_
      rw [few_yes rBL.out]
      rintro e wz ⟨rfl, rfl⟩
      go_wp2_with fail
      refine (Compare_any _ _ xs ys _ rA.out rB.out).mono ?_
      rintro e wk1 ⟨rfl, hb⟩
      have rA := Lib.hid (rA.out.below hb)
      have rB := Lib.hid (rB.out.below hb)
      have hE := Lib.hid (hE.out.trans (hb.mono hE.out.size))
      clear hb 
      go_wp2_with fail
      refine (rCompare_any _ _ xs ys _ rA.out rB.out).mono ?_
      rintro e wk2 ⟨rfl, hb⟩
      have hb := Dr.below (show Dr _ wk2 from hb) (wk1).heap.size
      have rA := Lib.hid (rA.out.below hb)
      have rB := Lib.hid (rB.out.below hb)
      have hE := Lib.hid (hE.out.trans (hb.mono hE.out.size))
      clear hb 
      go_wp2_with fail
      refine (Above_any _ _ xs ys _ rA.out rB.out).mono ?_
      rintro e wk3 ⟨rfl, hb⟩
      have rA := Lib.hid (rA.out.below hb)
      have rB := Lib.hid (rB.out.below hb)
      have hE := Lib.hid (hE.out.trans (hb.mono hE.out.size))
      clear hb 
      go_wp2_with fail
      refine (rAbove_any _ _ xs ys _ rA.out rB.out).mono ?_
      rintro e wk4 ⟨rfl, hb⟩
      have hb := Dr.below (show Dr _ wk4 from hb) (wk3).heap.size
      have rA := Lib.hid (rA.out.below hb)
      have rB := Lib.hid (rB.out.below hb)
      have hE := Lib.hid (hE.out.trans (hb.mono hE.out.size))
      clear hb 
      go_wp2_with fail
      refine (Meet_any _ _ xs ys _ rA.out rB.out).mono ?_
      rintro e wk5 ⟨v1, rfl, ho, hb⟩
      have rA := Lib.hid (rA.out.below hb)
      have rB := Lib.hid (rB.out.below hb)
      have hE := Lib.hid (hE.out.trans (hb.mono hE.out.size))
      have r1 := Lib.hid ho.ri
      clear hb 
      go_wp2_with fail
      refine (rMeet_any _ _ xs ys _ rA.out rB.out).mono ?_
      rintro e wk6 ⟨v2, rfl, ho, hb⟩
      have rA := Lib.hid (rA.out.below hb)
      have rB := Lib.hid (rB.out.below hb)
      have r1 := Lib.hid (r1.out.below hb)
      have hE := Lib.hid (hE.out.trans (hb.mono hE.out.size))
      have r2 := Lib.hid ho.ri
      clear hb 
      go_wp2_with fail
      refine (Join_any _ _ xs ys _ rA.out rB.out).mono ?_
      rintro e wk7 ⟨v3, rfl, ho, hb⟩
      have rA := Lib.hid (rA.out.below hb)
      have rB := Lib.hid (rB.out.below hb)
      have r1 := Lib.hid (r1.out.below hb)
      have r2 := Lib.hid (r2.out.below hb)
      have hE := Lib.hid (hE.out.trans (hb.mono hE.out.size))
      have r3 := Lib.hid ho.ri
      clear hb 
      go_wp2_with fail
      refine (rJoin_any _ _ xs ys _ rA.out rB.out).mono ?_
      rintro e wk8 ⟨v4, rfl, ho, hb⟩
      have rA := Lib.hid (rA.out.below hb)
      have rB := Lib.hid (rB.out.below hb)
      have r1 := Lib.hid (r1.out.below hb)
      have r2 := Lib.hid (r2.out.below hb)
      have r3 := Lib.hid (r3.out.below hb)
      have hE := Lib.hid (hE.out.trans (hb.mono hE.out.size))
      have r4 := Lib.hid ho.ri
      clear hb 
      go_wp2_with fail
      refine (Same_any _ _ _ _ _ r1.out r2.out).mono ?_
      rw [eqL_same]
      rintro e wk9 ⟨rfl, hb⟩
      have hb := Dr.below (show Dr _ wk9 from hb) (wk8).heap.size
      have rA := Lib.hid (rA.out.below hb)
      have rB := Lib.hid (rB.out.below hb)
      have r1 := Lib.hid (r1.out.below hb)
      have r2 := Lib.hid (r2.out.below hb)
      have r3 := Lib.hid (r3.out.below hb)
      have r4 := Lib.hid (r4.out.below hb)
      have hE := Lib.hid (hE.out.trans (hb.mono hE.out.size))
      clear hb 
      go_wp2_with fail
      refine (Same_any _ _ _ _ _ r3.out r4.out).mono ?_
      rw [eqL_same]
      rintro e wk10 ⟨rfl, hb⟩
      have hb := Dr.below (show Dr _ wk10 from hb) (wk9).heap.size
      have rA := Lib.hid (rA.out.below hb)
      have rB := Lib.hid (rB.out.below hb)
      have r1 := Lib.hid (r1.out.below hb)
      have r2 := Lib.hid (r2.out.below hb)
      have r3 := Lib.hid (r3.out.below hb)
      have r4 := Lib.hid (r4.out.below hb)
      have hE := Lib.hid (hE.out.trans (hb.mono hE.out.size))
      clear hb 
      go_wp2_with fail
      refine (awake_any _).mono ?_
      rintro e wy ⟨rfl, hb⟩
      have hE := Lib.hid (hE.out.trans (hb.mono hE.out.size))
      clear hb
      go_wp2
      go_ret
      exact ⟨rfl, hE.out⟩
    · have rBL := Lib.hid h2
      clear h2
      have hE := Lib.hid (Below.refl w.heap.size w)
      go_enter Try.func3, Try.ntmps3
      go_wp2_with fail
      refine (Few_any _ xs _ rA.out).mono ?_
      rw [few_yes rAL.out]
      rintro e wz ⟨rfl, rfl⟩
      go_wp2_with fail
      refine (Few_any _ ys _ rB.out).mono ?_
      rw [few_no rBL.out]
      rintro e wz ⟨rfl, rfl⟩
      go_wp2_with fail
      refine (awake_any _).mono ?_
      rintro e wy ⟨rfl, hb⟩
      have hE := Lib.hid (hE.out.trans (hb.mono hE.out.size))
      clear hb
      go_wp2
      go_ret
      exact ⟨rfl, hE.out⟩
  · have rAL := Lib.hid h1
    clear h1
    have hE := Lib.hid (Below.refl w.heap.size w)
    go_enter Try.func3, Try.ntmps3
    go_wp2_with fail
    refine (Few_any _ xs _ rA.out).mono ?_
    rw [few_no rAL.out]
    rintro e wz ⟨rfl, rfl⟩
    go_wp2_with fail
    refine (awake_any _).mono ?_
    rintro e wy ⟨rfl, hb⟩
    have hE := Lib.hid (hE.out.trans (hb.mono hE.out.size))
    clear hb
    go_wp2
    go_ret
    exact ⟨rfl, hE.out⟩
end Go.Proofs.Ytcmkllfocifnlaa
