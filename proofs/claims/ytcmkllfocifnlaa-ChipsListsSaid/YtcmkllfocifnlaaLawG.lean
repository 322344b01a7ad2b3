/- The walks of the laws of layer 17: each returns true. -/
import Derived.Test.YtcmkllfocifnlaaLawA
import Derived.Test.YtcmkllfocifnlaaRefH
namespace Go.Proofs.Ytcmkllfocifnlaa
open Go.RowKit Go.Shelf

theorem eqS_same (zs : List (List Int)) : eqS zs zs = true := (eqS_iff _ _).2 rfl
set_option maxRecDepth 100000 in
set_option maxHeartbeats 4000000 in
theorem ChipsLists_law (va : Value) (n k : Int) (xs : List Int) (w : World) (ha : RI w va xs) : Calls Try.prog 4 #[.int .i64 n, .int .i64 k, va] w (Yes w) := by
  have rA := Lib.hid ha
  clear ha
  by_cases h1 : xs.length ≤ 24
  · have rAL := Lib.hid h1
    clear h1
    have hE := Lib.hid (Below.refl w.heap.size w)
    go_enter Try.func4, Try.ntmps4
    go_wp2_with fail
    refine (Few_any _ xs _ rA.out).mono ?_
    rw [few_yes rAL.out]
    rintro e wz ⟨rfl, rfl⟩
    go_wp2_with fail
    refine (All_any n k _).mono ?_
    rintro e wk1 ⟨v1, rfl, hr, hb⟩
    have rA := Lib.hid (rA.out.below hb)
    have hE := Lib.hid (hE.out.trans (hb.mono hE.out.size))
    have r1 := Lib.hid hr
    clear hb hr
    go_wp2_with fail
    refine (rAll_any n k _).mono ?_
    rintro e wk2 ⟨v2, rfl, hr, hb⟩
    have rA := Lib.hid (rA.out.below hb)
    have r1 := Lib.hid (r1.out.below hb)
    have hE := Lib.hid (hE.out.trans (hb.mono hE.out.size))
    have r2 := Lib.hid hr
    clear hb hr
    go_wp2_with fail
    refine (Next_any _ xs _ rA.out).mono ?_
    rintro e wk3 ⟨v3, rfl, ho, hb⟩
    have rA := Lib.hid (rA.out.below hb)
    have r1 := Lib.hid (r1.out.below hb)
    have r2 := Lib.hid (r2.out.below hb)
    have hE := Lib.hid (hE.out.trans (hb.mono hE.out.size))
    have r3 := Lib.hid ho.ri
    clear hb 
    go_wp2_with fail
    refine (rNext_any _ xs _ rA.out).mono ?_
    rintro e wk4 ⟨v4, rfl, ho, hb⟩
    have rA := Lib.hid (rA.out.below hb)
    have r1 := Lib.hid (r1.out.below hb)
    have r2 := Lib.hid (r2.out.below hb)
    have r3 := Lib.hid (r3.out.below hb)
    have hE := Lib.hid (hE.out.trans (hb.mono hE.out.size))
    have r4 := Lib.hid ho.ri
    clear hb 
    go_wp2_with fail
    refine (SameAll_any _ _ _ _ _ r1.out r2.out).mono ?_
    rw [eqS_same]
    rintro e wk5 ⟨rfl, hb⟩
    have hb := Dr.below (show Dr _ wk5 from hb) (wk4).heap.size
    have rA := Lib.hid (rA.out.below hb)
    have r1 := Lib.hid (r1.out.below hb)
    have r2 := Lib.hid (r2.out.below hb)
    have r3 := Lib.hid (r3.out.below hb)
    have r4 := Lib.hid (r4.out.below hb)
    have hE := Lib.hid (hE.out.trans (hb.mono hE.out.size))
    clear hb 
    go_wp2_with fail
    refine (Same_any _ _ _ _ _ r3.out r4.out).mono ?_
    rw [eqL_same]
    rintro e wk6 ⟨rfl, hb⟩
    have hb := Dr.below (show Dr _ wk6 from hb) (wk5).heap.size
    have rA := Lib.hid (rA.out.below hb)
    have r1 := Lib.hid (r1.out.below hb)
    have r2 := Lib.hid (r2.out.below hb)
    have r3 := Lib.hid (r3.out.below hb)
    have r4 := Lib.hid (r4.out.below hb)
    have hE := Lib.hid (hE.out.trans (hb.mono hE.out.size))
    clear hb 
    go_wp2_with fail
    refine (awake_any _).mono ?_
    rintro e wy ⟨rfl, hb⟩
    have hE := Lib.hid (hE.out.trans (hb.mono hE.out.size))
    clear hb
    go_wp2
    go_ret
    exact ⟨rfl, hE.out⟩
  · have rAL := Lib.hid h1
    clear h1
    have hE := Lib.hid (Below.refl w.heap.size w)
    go_enter Try.func4, Try.ntmps4
    go_wp2_with fail
    refine (Few_any _ xs _ rA.out).mono ?_
    rw [few_no rAL.out]
    rintro e wz ⟨rfl, rfl⟩
    go_wp2_with fail
    refine (awake_any _).mono ?_
    rintro e wy ⟨rfl, hb⟩
    have hE := Lib.hid (hE.out.trans (hb.mono hE.out.size))
    clear hb
    go_wp2
    go_ret
    exact ⟨rfl, hE.out⟩
end Go.Proofs.Ytcmkllfocifnlaa
