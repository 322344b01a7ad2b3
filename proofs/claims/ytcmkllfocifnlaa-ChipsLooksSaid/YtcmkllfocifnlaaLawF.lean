/- The walks of the laws of layer 17: each returns true. -/
import Derived.Test.YtcmkllfocifnlaaLawA
import Derived.Test.YtcmkllfocifnlaaRefD
import Derived.Test.YtcmkllfocifnlaaRefI
namespace Go.Proofs.Ytcmkllfocifnlaa
open Go.RowKit Go.Shelf

set_option maxRecDepth 100000 in
set_option maxHeartbeats 4000000 in
theorem ChipsLooks_law (va : Value) (xs : List Int) (w : World) (ha : RI w va xs) : Calls Try.prog 6 #[va] w (Yes w) := by
  have rA := Lib.hid ha
  clear ha
  by_cases h1 : xs.length ≤ 24
  · have rAL := Lib.hid h1
    clear h1
    have hE := Lib.hid (Below.refl w.heap.size w)
    go_enter Try.func6, Try.ntmps6
    go_wp2_with fail
    refine (Few_any _ xs _ rA.out).mono ?_
    rw [few_yes rAL.out]
    rintro e wz ⟨rfl, rfl⟩
    go_wp2_with fail
    refine (Degree_any _ xs _ rA.out).mono ?_
    rintro e wk1 ⟨rfl, hb⟩
    have rA := Lib.hid (rA.out.below hb)
    have hE := Lib.hid (hE.out.trans (hb.mono hE.out.size))
    clear hb 
    go_wp2_with fail
    refine (rDegree_any _ xs _ rA.out).mono ?_
    rintro e wz ⟨rfl, rfl⟩
    go_wp2_with fail
    refine (Effective_any _ xs _ rA.out).mono ?_
    rintro e wk2 ⟨rfl, hb⟩
    have rA := Lib.hid (rA.out.below hb)
    have hE := Lib.hid (hE.out.trans (hb.mono hE.out.size))
    clear hb 
    go_wp2_with fail
    refine (rEffective_any _ xs _ rA.out).mono ?_
    rintro e wz ⟨rfl, rfl⟩
    go_wp2_with fail
    refine (Support_any _ xs _ rA.out).mono ?_
    rintro e wk3 ⟨v1, rfl, ho, hb⟩
    have rA := Lib.hid (rA.out.below hb)
    have hE := Lib.hid (hE.out.trans (hb.mono hE.out.size))
    have r1 := Lib.hid ho.ri
    clear hb 
    go_wp2_with fail
    refine (rSupport_any _ xs _ rA.out).mono ?_
    rintro e wk4 ⟨v2, rfl, ho, hb⟩
    have rA := Lib.hid (rA.out.below hb)
    have r1 := Lib.hid (r1.out.below hb)
    have hE := Lib.hid (hE.out.trans (hb.mono hE.out.size))
    have r2 := Lib.hid ho.ri
    clear hb 
    go_wp2_with fail
    refine (Parts_any _ xs _ rA.out).mono ?_
    rintro e wk5 ⟨v3, v4, rfl, ho, ho2, hb⟩
    have rA := Lib.hid (rA.out.below hb)
    have r1 := Lib.hid (r1.out.below hb)
    have r2 := Lib.hid (r2.out.below hb)
    have hE := Lib.hid (hE.out.trans (hb.mono hE.out.size))
    have r3 := Lib.hid ho.ri
    have r4 := Lib.hid ho2.ri
    clear hb 
    go_wp2_with fail
    refine (rParts_any _ xs _ rA.out).mono ?_
    rintro e wk6 ⟨v5, v6, rfl, ho, ho2, hb⟩
    have rA := Lib.hid (rA.out.below hb)
    have r1 := Lib.hid (r1.out.below hb)
    have r2 := Lib.hid (r2.out.below hb)
    have r3 := Lib.hid (r3.out.below hb)
    have r4 := Lib.hid (r4.out.below hb)
    have hE := Lib.hid (hE.out.trans (hb.mono hE.out.size))
    have r5 := Lib.hid ho.ri
    have r6 := Lib.hid ho2.ri
    clear hb 
    go_wp2_with fail
    refine (SameInts_any _ _ _ _ _ r1.out r2.out).mono ?_
    rw [eqL_same]
    rintro e wk7 ⟨rfl, hb⟩
    have hb := Dr.below (show Dr _ wk7 from hb) (wk6).heap.size
    have rA := Lib.hid (rA.out.below hb)
    have r1 := Lib.hid (r1.out.below hb)
    have r2 := Lib.hid (r2.out.below hb)
    have r3 := Lib.hid (r3.out.below hb)
    have r4 := Lib.hid (r4.out.below hb)
    have r5 := Lib.hid (r5.out.below hb)
    have r6 := Lib.hid (r6.out.below hb)
    have hE := Lib.hid (hE.out.trans (hb.mono hE.out.size))
    clear hb 
    go_wp2_with fail
    refine (Same_any _ _ _ _ _ r3.out r5.out).mono ?_
    rw [eqL_same]
    rintro e wk8 ⟨rfl, hb⟩
    have hb := Dr.below (show Dr _ wk8 from hb) (wk7).heap.size
    have rA := Lib.hid (rA.out.below hb)
    have r1 := Lib.hid (r1.out.below hb)
    have r2 := Lib.hid (r2.out.below hb)
    have r3 := Lib.hid (r3.out.below hb)
    have r4 := Lib.hid (r4.out.below hb)
    have r5 := Lib.hid (r5.out.below hb)
    have r6 := Lib.hid (r6.out.below hb)
    have hE := Lib.hid (hE.out.trans (hb.mono hE.out.size))
    clear hb 
    go_wp2_with fail
    refine (Same_any _ _ _ _ _ r4.out r6.out).mono ?_
    rw [eqL_same]
    rintro e wk9 ⟨rfl, hb⟩
    have hb := Dr.below (show Dr _ wk9 from hb) (wk8).heap.size
    have rA := Lib.hid (rA.out.below hb)
    have r1 := Lib.hid (r1.out.below hb)
    have r2 := Lib.hid (r2.out.below hb)
    have r3 := Lib.hid (r3.out.below hb)
    have r4 := Lib.hid (r4.out.below hb)
    have r5 := Lib.hid (r5.out.below hb)
    have r6 := Lib.hid (r6.out.below hb)
    have hE := Lib.hid (hE.out.trans (hb.mono hE.out.size))
    clear hb 
    go_wp2_with fail
    refine (awake_any _).mono ?_
    rintro e wy ⟨rfl, hb⟩
    have hE := Lib.hid (hE.out.trans (hb.mono hE.out.size))
    clear hb
    go_wp2
    go_ret
    exact ⟨rfl, hE.out⟩
  · have rAL := Lib.hid h1
    clear h1
    have hE := Lib.hid (Below.refl w.heap.size w)
    go_enter Try.func6, Try.ntmps6
    go_wp2_with fail
    refine (Few_any _ xs _ rA.out).mono ?_
    rw [few_no rAL.out]
    rintro e wz ⟨rfl, rfl⟩
    go_wp2_with fail
    refine (awake_any _).mono ?_
    rintro e wy ⟨rfl, hb⟩
    have hE := Lib.hid (hE.out.trans (hb.mono hE.out.size))
    clear hb
    go_wp2
    go_ret
    exact ⟨rfl, hE.out⟩
end Go.Proofs.Ytcmkllfocifnlaa
