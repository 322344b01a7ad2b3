/- The examples of the chapter: awake returns true. -/
import Derived.Test.YtcmkllfocifnlaaRefC
namespace Go.Proofs.Ytcmkllfocifnlaa
open Go.RowKit Go.Shelf

theorem RI.lit (w : World) (zs : List Int) (e : TypeId) (n : Nat) (hn : zs.length = n) (hb : n ≤ 17592186044415) : RI (w.alloc (.cells (zs.map (Value.int .i64)).toArray e)) (.slice (some ⟨w.heap.size, 0, none⟩) n n) zs := by
  have := RV.lit w (zs.map (Value.int .i64)).toArray e n (by simpa using hn) hb
  simpa [RI] using this
def AllRI (w : World) : List Value → List (List Int) → Prop
  | v :: r, z :: s => RI w v z ∧ AllRI w r s
  | [], [] => True
  | _, _ => False
theorem AllRI.at_ {w : World} {vs : List Value} {zss : List (List Int)} (h : AllRI w vs zss) {k : Nat} {zs : List Int} (hk : zss[k]? = some zs) : ∃ u, vs[k]? = some u ∧ RI w u zs := by
  induction vs generalizing zss k with
  | nil => cases zss with
    | nil => simp at hk
    | cons => exact h.elim
  | cons v r ih =>
    cases zss with
    | nil => exact h.elim
    | cons z s =>
      cases k with
      | zero => simp at hk; subst hk; exact ⟨v, rfl, h.1⟩
      | succ k => exact ih h.2 hk
theorem RR.litN (w : World) (vs : List Value) (zss : List (List Int)) (e : TypeId) (n : Nat) (hn : vs.length = n) (hz : zss.length = n) (hb : n ≤ 17592186044415) (h : AllRI w vs zss) :
    RR (w.alloc (.cells vs.toArray e)) (.slice (some ⟨w.heap.size, 0, none⟩) n n) zss := by
  have := RV.lit w vs.toArray e n (by simpa using hn) hb
  refine ⟨vs, by simpa using this, by omega, fun k zs hk => ?_⟩
  obtain ⟨u, hu, hr⟩ := h.at_ hk
  exact ⟨u, hu, hr.below (below_alloc w _)⟩
def Yes (w : World) (e : Ending) (w' : World) : Prop := e = .returned (.bool true) ∧ Below w.heap.size w w'

set_option maxRecDepth 100000 in
set_option maxHeartbeats 4000000 in
theorem awake_any (w : World) : Calls Try.prog 13 #[] w (Yes w) := by
  go_enter Try.func13, Try.ntmps13
  have hE := Lib.hid (Below.refl w.heap.size w)
  have rA := Lib.hid (show RI (w.alloc (.cells #[.int .i64 1, .int .i64 (-2), .int .i64 3] 3)) (.slice (some ⟨w.heap.size, 0, none⟩) 3 3) [1, -2, 3] from by have := RI.lit w [1, -2, 3] 3 3 rfl (by omega); simpa only [World.size_alloc, List.map_cons, List.map_nil] using this)
  have rA := Lib.hid (rA.out.below (below_alloc (w.alloc (.cells #[.int .i64 1, .int .i64 (-2), .int .i64 3] 3)) (.cells #[.int .i64 1, .int .i64 1, .int .i64 1] 3)))
  have rB := Lib.hid (show RI ((w.alloc (.cells #[.int .i64 1, .int .i64 (-2), .int .i64 3] 3)).alloc (.cells #[.int .i64 1, .int .i64 1, .int .i64 1] 3)) (.slice (some ⟨w.heap.size + 1, 0, none⟩) 3 3) [1, 1, 1] from by have := RI.lit (w.alloc (.cells #[.int .i64 1, .int .i64 (-2), .int .i64 3] 3)) [1, 1, 1] 3 3 rfl (by omega); simpa only [World.size_alloc, List.map_cons, List.map_nil] using this)
  have hE := Lib.hid (hE.out.trans ((below_alloc w (.cells #[.int .i64 1, .int .i64 (-2), .int .i64 3] 3)).mono hE.out.size))
  have hE := Lib.hid (hE.out.trans ((below_alloc (w.alloc (.cells #[.int .i64 1, .int .i64 (-2), .int .i64 3] 3)) (.cells #[.int .i64 1, .int .i64 1, .int .i64 1] 3)).mono hE.out.size))
  go_wp2_with fail
  refine (Add_any _ _ [1, -2, 3] [1, 1, 1] _ rA.out rB.out).mono ?_
  rw [show eachL (fun x y => x + y) [1, -2, 3] [1, 1, 1] = ([2, -1, 4], 0) from by rfl]
  rintro e wk1 ⟨v1, rfl, ho, hb⟩
  have rA := Lib.hid (rA.out.below hb)
  have rB := Lib.hid (rB.out.below hb)
  have hE := Lib.hid (hE.out.trans (hb.mono hE.out.size))
  have r1 := Lib.hid ho.ri
  clear hb 
  clear rB
  go_wp2_with fail
  refine (Degree_any _ [1, -2, 3] _ rA.out).mono ?_
  rw [show degL [1, -2, 3] = (2, 0) from by rfl]
  rintro e wk2 ⟨rfl, hb⟩
  have rA := Lib.hid (rA.out.below hb)
  have r1 := Lib.hid (r1.out.below hb)
  have hE := Lib.hid (hE.out.trans (hb.mono hE.out.size))
  clear hb 
  go_wp2_with fail
  refine (Support_any _ [1, -2, 3] _ rA.out).mono ?_
  rw [show supL [1, -2, 3] = ([0, 1, 2], 0) from by rfl]
  rintro e wk3 ⟨v2, rfl, ho, hb⟩
  have rA := Lib.hid (rA.out.below hb)
  have r1 := Lib.hid (r1.out.below hb)
  have hE := Lib.hid (hE.out.trans (hb.mono hE.out.size))
  have r2 := Lib.hid ho.ri
  clear hb 
  go_wp2_with fail
  refine (Parts_any _ [1, -2, 3] _ rA.out).mono ?_
  rw [show partsL [1, -2, 3] = (([1, 0, 3], [0, 2, 0]), 0) from by rfl]
  rintro e wk4 ⟨v3, v4, rfl, ho, ho2, hb⟩
  have rA := Lib.hid (rA.out.below hb)
  have r1 := Lib.hid (r1.out.below hb)
  have r2 := Lib.hid (r2.out.below hb)
  have hE := Lib.hid (hE.out.trans (hb.mono hE.out.size))
  have r3 := Lib.hid ho.ri
  have r4 := Lib.hid ho2.ri
  clear hb 
  clear rA
  have r1 := Lib.hid (r1.out.below (below_alloc wk4 (.cells #[.int .i64 2, .int .i64 (-1), .int .i64 4] 3)))
  have r2 := Lib.hid (r2.out.below (below_alloc wk4 (.cells #[.int .i64 2, .int .i64 (-1), .int .i64 4] 3)))
  have r3 := Lib.hid (r3.out.below (below_alloc wk4 (.cells #[.int .i64 2, .int .i64 (-1), .int .i64 4] 3)))
  have r4 := Lib.hid (r4.out.below (below_alloc wk4 (.cells #[.int .i64 2, .int .i64 (-1), .int .i64 4] 3)))
  have rX := Lib.hid (show RI (wk4.alloc (.cells #[.int .i64 2, .int .i64 (-1), .int .i64 4] 3)) (.slice (some ⟨wk4.heap.size, 0, none⟩) 3 3) [2, -1, 4] from by have := RI.lit wk4 [2, -1, 4] 3 3 rfl (by omega); simpa only [World.size_alloc, List.map_cons, List.map_nil] using this)
  have hE := Lib.hid (hE.out.trans ((below_alloc wk4 (.cells #[.int .i64 2, .int .i64 (-1), .int .i64 4] 3)).mono hE.out.size))
  go_wp2_with fail
  refine (Same_any _ _ [2, -1, 4] [2, -1, 4] _ r1.out rX.out).mono ?_
  rw [show eqL [2, -1, 4] [2, -1, 4] = true from by rfl]
  rintro e wk5 ⟨rfl, hb⟩
  have hb := Dr.below (show Dr _ wk5 from hb) ((wk4.alloc (.cells #[.int .i64 2, .int .i64 (-1), .int .i64 4] 3))).heap.size
  have r1 := Lib.hid (r1.out.below hb)
  have r2 := Lib.hid (r2.out.below hb)
  have r3 := Lib.hid (r3.out.below hb)
  have r4 := Lib.hid (r4.out.below hb)
  have rX := Lib.hid (rX.out.below hb)
  have hE := Lib.hid (hE.out.trans (hb.mono hE.out.size))
  clear hb 
  clear rX r1
  have r2 := Lib.hid (r2.out.below (below_alloc wk5 (.cells #[.int .i64 0, .int .i64 1, .int .i64 2] 3)))
  have r3 := Lib.hid (r3.out.below (below_alloc wk5 (.cells #[.int .i64 0, .int .i64 1, .int .i64 2] 3)))
  have r4 := Lib.hid (r4.out.below (below_alloc wk5 (.cells #[.int .i64 0, .int .i64 1, .int .i64 2] 3)))
  have rX := Lib.hid (show RI (wk5.alloc (.cells #[.int .i64 0, .int .i64 1, .int .i64 2] 3)) (.slice (some ⟨wk5.heap.size, 0, none⟩) 3 3) [0, 1, 2] from by have := RI.lit wk5 [0, 1, 2] 3 3 rfl (by omega); simpa only [World.size_alloc, List.map_cons, List.map_nil] using this)
  have hE := Lib.hid (hE.out.trans ((below_alloc wk5 (.cells #[.int .i64 0, .int .i64 1, .int .i64 2] 3)).mono hE.out.size))
  go_wp2_with fail
  refine (EqualI_any _ _ [0, 1, 2] [0, 1, 2] _ r2.out rX.out).mono ?_
  rw [show eqL [0, 1, 2] [0, 1, 2] = true from by rfl]
  rintro e wk6 ⟨rfl, hb⟩
  have hb := Dr.below (show Dr _ wk6 from hb) ((wk5.alloc (.cells #[.int .i64 0, .int .i64 1, .int .i64 2] 3))).heap.size
  have r2 := Lib.hid (r2.out.below hb)
  have r3 := Lib.hid (r3.out.below hb)
  have r4 := Lib.hid (r4.out.below hb)
  have rX := Lib.hid (rX.out.below hb)
  have hE := Lib.hid (hE.out.trans (hb.mono hE.out.size))
  clear hb 
  clear rX r2
  have r3 := Lib.hid (r3.out.below (below_alloc wk6 (.cells #[.int .i64 1, .int .i64 0, .int .i64 3] 3)))
  have r4 := Lib.hid (r4.out.below (below_alloc wk6 (.cells #[.int .i64 1, .int .i64 0, .int .i64 3] 3)))
  have rX := Lib.hid (show RI (wk6.alloc (.cells #[.int .i64 1, .int .i64 0, .int .i64 3] 3)) (.slice (some ⟨wk6.heap.size, 0, none⟩) 3 3) [1, 0, 3] from by have := RI.lit wk6 [1, 0, 3] 3 3 rfl (by omega); simpa only [World.size_alloc, List.map_cons, List.map_nil] using this)
  have hE := Lib.hid (hE.out.trans ((below_alloc wk6 (.cells #[.int .i64 1, .int .i64 0, .int .i64 3] 3)).mono hE.out.size))
  go_wp2_with fail
  refine (Same_any _ _ [1, 0, 3] [1, 0, 3] _ r3.out rX.out).mono ?_
  rw [show eqL [1, 0, 3] [1, 0, 3] = true from by rfl]
  rintro e wk7 ⟨rfl, hb⟩
  have hb := Dr.below (show Dr _ wk7 from hb) ((wk6.alloc (.cells #[.int .i64 1, .int .i64 0, .int .i64 3] 3))).heap.size
  have r3 := Lib.hid (r3.out.below hb)
  have r4 := Lib.hid (r4.out.below hb)
  have rX := Lib.hid (rX.out.below hb)
  have hE := Lib.hid (hE.out.trans (hb.mono hE.out.size))
  clear hb 
  clear rX r3
  have r4 := Lib.hid (r4.out.below (below_alloc wk7 (.cells #[.int .i64 0, .int .i64 2, .int .i64 0] 3)))
  have rX := Lib.hid (show RI (wk7.alloc (.cells #[.int .i64 0, .int .i64 2, .int .i64 0] 3)) (.slice (some ⟨wk7.heap.size, 0, none⟩) 3 3) [0, 2, 0] from by have := RI.lit wk7 [0, 2, 0] 3 3 rfl (by omega); simpa only [World.size_alloc, List.map_cons, List.map_nil] using this)
  have hE := Lib.hid (hE.out.trans ((below_alloc wk7 (.cells #[.int .i64 0, .int .i64 2, .int .i64 0] 3)).mono hE.out.size))
  go_wp2_with fail
  refine (Same_any _ _ [0, 2, 0] [0, 2, 0] _ r4.out rX.out).mono ?_
  rw [show eqL [0, 2, 0] [0, 2, 0] = true from by rfl]
  rintro e wk8 ⟨rfl, hb⟩
  have hb := Dr.below (show Dr _ wk8 from hb) ((wk7.alloc (.cells #[.int .i64 0, .int .i64 2, .int .i64 0] 3))).heap.size
  have r4 := Lib.hid (r4.out.below hb)
  have rX := Lib.hid (rX.out.below hb)
  have hE := Lib.hid (hE.out.trans (hb.mono hE.out.size))
  clear hb 
  clear rX r4
  go_wp2_with fail
  refine (All_any 3 2 _).mono ?_
  rw [show allL 3 2 = ([[0, 0, 2], [0, 1, 1], [0, 2, 0], [1, 0, 1], [1, 1, 0], [2, 0, 0]], 0) from by rfl]
  rintro e wk9 ⟨v5, rfl, hr, hb⟩
  have hE := Lib.hid (hE.out.trans (hb.mono hE.out.size))
  have r5 := Lib.hid hr
  clear hb hr
  have r5 := Lib.hid (r5.out.below (below_alloc wk9 (.cells #[.int .i64 0, .int .i64 2, .int .i64 0] 3)))
  have rX := Lib.hid (show RI (wk9.alloc (.cells #[.int .i64 0, .int .i64 2, .int .i64 0] 3)) (.slice (some ⟨wk9.heap.size, 0, none⟩) 3 3) [0, 2, 0] from by have := RI.lit wk9 [0, 2, 0] 3 3 rfl (by omega); simpa only [World.size_alloc, List.map_cons, List.map_nil] using this)
  have hE := Lib.hid (hE.out.trans ((below_alloc wk9 (.cells #[.int .i64 0, .int .i64 2, .int .i64 0] 3)).mono hE.out.size))
  go_wp2_with fail
  refine (Next_any _ [0, 2, 0] _ rX.out).mono ?_
  rw [show nextL [0, 2, 0] = (([1, 0, 1], true), 0) from by rfl]
  rintro e wk10 ⟨v6, rfl, ho, hb⟩
  have r5 := Lib.hid (r5.out.below hb)
  have rX := Lib.hid (rX.out.below hb)
  have hE := Lib.hid (hE.out.trans (hb.mono hE.out.size))
  have r6 := Lib.hid ho.ri
  clear hb 
  clear rX
  have r5 := Lib.hid (r5.out.below (below_alloc wk10 (.cells #[.int .i64 1, .int .i64 0, .int .i64 1] 3)))
  have r6 := Lib.hid (r6.out.below (below_alloc wk10 (.cells #[.int .i64 1, .int .i64 0, .int .i64 1] 3)))
  have rX := Lib.hid (show RI (wk10.alloc (.cells #[.int .i64 1, .int .i64 0, .int .i64 1] 3)) (.slice (some ⟨wk10.heap.size, 0, none⟩) 3 3) [1, 0, 1] from by have := RI.lit wk10 [1, 0, 1] 3 3 rfl (by omega); simpa only [World.size_alloc, List.map_cons, List.map_nil] using this)
  have hE := Lib.hid (hE.out.trans ((below_alloc wk10 (.cells #[.int .i64 1, .int .i64 0, .int .i64 1] 3)).mono hE.out.size))
  go_wp2_with fail
  refine (Same_any _ _ [1, 0, 1] [1, 0, 1] _ r6.out rX.out).mono ?_
  rw [show eqL [1, 0, 1] [1, 0, 1] = true from by rfl]
  rintro e wk11 ⟨rfl, hb⟩
  have hb := Dr.below (show Dr _ wk11 from hb) ((wk10.alloc (.cells #[.int .i64 1, .int .i64 0, .int .i64 1] 3))).heap.size
  have r5 := Lib.hid (r5.out.below hb)
  have r6 := Lib.hid (r6.out.below hb)
  have rX := Lib.hid (rX.out.below hb)
  have hE := Lib.hid (hE.out.trans (hb.mono hE.out.size))
  clear hb 
  clear rX r6
  have r5 := Lib.hid (r5.out.below (below_alloc wk11 (.cells #[.int .i64 0, .int .i64 0, .int .i64 2] 3)))
  have q0 := Lib.hid (show RI (wk11.alloc (.cells #[.int .i64 0, .int .i64 0, .int .i64 2] 3)) (.slice (some ⟨wk11.heap.size, 0, none⟩) 3 3) [0, 0, 2] from by have := RI.lit wk11 [0, 0, 2] 3 3 rfl (by omega); simpa only [World.size_alloc, List.map_cons, List.map_nil] using this)
  have r5 := Lib.hid (r5.out.below (below_alloc (wk11.alloc (.cells #[.int .i64 0, .int .i64 0, .int .i64 2] 3)) (.cells #[.int .i64 0, .int .i64 1, .int .i64 1] 3)))
  have q0 := Lib.hid (q0.out.below (below_alloc (wk11.alloc (.cells #[.int .i64 0, .int .i64 0, .int .i64 2] 3)) (.cells #[.int .i64 0, .int .i64 1, .int .i64 1] 3)))
  have q1 := Lib.hid (show RI ((wk11.alloc (.cells #[.int .i64 0, .int .i64 0, .int .i64 2] 3)).alloc (.cells #[.int .i64 0, .int .i64 1, .int .i64 1] 3)) (.slice (some ⟨wk11.heap.size + 1, 0, none⟩) 3 3) [0, 1, 1] from by have := RI.lit (wk11.alloc (.cells #[.int .i64 0, .int .i64 0, .int .i64 2] 3)) [0, 1, 1] 3 3 rfl (by omega); simpa only [World.size_alloc, List.map_cons, List.map_nil] using this)
  have r5 := Lib.hid (r5.out.below (below_alloc ((wk11.alloc (.cells #[.int .i64 0, .int .i64 0, .int .i64 2] 3)).alloc (.cells #[.int .i64 0, .int .i64 1, .int .i64 1] 3)) (.cells #[.int .i64 0, .int .i64 2, .int .i64 0] 3)))
  have q0 := Lib.hid (q0.out.below (below_alloc ((wk11.alloc (.cells #[.int .i64 0, .int .i64 0, .int .i64 2] 3)).alloc (.cells #[.int .i64 0, .int .i64 1, .int .i64 1] 3)) (.cells #[.int .i64 0, .int .i64 2, .int .i64 0] 3)))
  have q1 := Lib.hid (q1.out.below (below_alloc ((wk11.alloc (.cells #[.int .i64 0, .int .i64 0, .int .i64 2] 3)).alloc (.cells #[.int .i64 0, .int .i64 1, .int .i64 1] 3)) (.cells #[.int .i64 0, .int .i64 2, .int .i64 0] 3)))
  have q2 := Lib.hid (show RI (((wk11.alloc (.cells #[.int .i64 0, .int .i64 0, .int .i64 2] 3)).alloc (.cells #[.int .i64 0, .int .i64 1, .int .i64 1] 3)).alloc (.cells #[.int .i64 0, .int .i64 2, .int .i64 0] 3)) (.slice (some ⟨wk11.heap.size + 1 + 1, 0, none⟩) 3 3) [0, 2, 0] from by have := RI.lit ((wk11.alloc (.cells #[.int .i64 0, .int .i64 0, .int .i64 2] 3)).alloc (.cells #[.int .i64 0, .int .i64 1, .int .i64 1] 3)) [0, 2, 0] 3 3 rfl (by omega); simpa only [World.size_alloc, List.map_cons, List.map_nil] using this)
  have r5 := Lib.hid (r5.out.below (below_alloc (((wk11.alloc (.cells #[.int .i64 0, .int .i64 0, .int .i64 2] 3)).alloc (.cells #[.int .i64 0, .int .i64 1, .int .i64 1] 3)).alloc (.cells #[.int .i64 0, .int .i64 2, .int .i64 0] 3)) (.cells #[.int .i64 1, .int .i64 0, .int .i64 1] 3)))
  have q0 := Lib.hid (q0.out.below (below_alloc (((wk11.alloc (.cells #[.int .i64 0, .int .i64 0, .int .i64 2] 3)).alloc (.cells #[.int .i64 0, .int .i64 1, .int .i64 1] 3)).alloc (.cells #[.int .i64 0, .int .i64 2, .int .i64 0] 3)) (.cells #[.int .i64 1, .int .i64 0, .int .i64 1] 3)))
  have q1 := Lib.hid (q1.out.below (below_alloc (((wk11.alloc (.cells #[.int .i64 0, .int .i64 0, .int .i64 2] 3)).alloc (.cells #[.int .i64 0, .int .i64 1, .int .i64 1] 3)).alloc (.cells #[.int .i64 0, .int .i64 2, .int .i64 0] 3)) (.cells #[.int .i64 1, .int .i64 0, .int .i64 1] 3)))
  have q2 := Lib.hid (q2.out.below (below_alloc (((wk11.alloc (.cells #[.int .i64 0, .int .i64 0, .int .i64 2] 3)).alloc (.cells #[.int .i64 0, .int .i64 1, .int .i64 1] 3)).alloc (.cells #[.int .i64 0, .int .i64 2, .int .i64 0] 3)) (.cells #[.int .i64 1, .int .i64 0, .int .i64 1] 3)))
  have q3 := Lib.hid (show RI ((((wk11.alloc (.cells #[.int .i64 0, .int .i64 0, .int .i64 2] 3)).alloc (.cells #[.int .i64 0, .int .i64 1, .int .i64 1] 3)).alloc (.cells #[.int .i64 0, .int .i64 2, .int .i64 0] 3)).alloc (.cells #[.int .i64 1, .int .i64 0, .int .i64 1] 3)) (.slice (some ⟨wk11.heap.size + 1 + 1 + 1, 0, none⟩) 3 3) [1, 0, 1] from by have := RI.lit (((wk11.alloc (.cells #[.int .i64 0, .int .i64 0, .int .i64 2] 3)).alloc (.cells #[.int .i64 0, .int .i64 1, .int .i64 1] 3)).alloc (.cells #[.int .i64 0, .int .i64 2, .int .i64 0] 3)) [1, 0, 1] 3 3 rfl (by omega); simpa only [World.size_alloc, List.map_cons, List.map_nil] using this)
  have r5 := Lib.hid (r5.out.below (below_alloc ((((wk11.alloc (.cells #[.int .i64 0, .int .i64 0, .int .i64 2] 3)).alloc (.cells #[.int .i64 0, .int .i64 1, .int .i64 1] 3)).alloc (.cells #[.int .i64 0, .int .i64 2, .int .i64 0] 3)).alloc (.cells #[.int .i64 1, .int .i64 0, .int .i64 1] 3)) (.cells #[.int .i64 1, .int .i64 1, .int .i64 0] 3)))
  have q0 := Lib.hid (q0.out.below (below_alloc ((((wk11.alloc (.cells #[.int .i64 0, .int .i64 0, .int .i64 2] 3)).alloc (.cells #[.int .i64 0, .int .i64 1, .int .i64 1] 3)).alloc (.cells #[.int .i64 0, .int .i64 2, .int .i64 0] 3)).alloc (.cells #[.int .i64 1, .int .i64 0, .int .i64 1] 3)) (.cells #[.int .i64 1, .int .i64 1, .int .i64 0] 3)))
  have q1 := Lib.hid (q1.out.below (below_alloc ((((wk11.alloc (.cells #[.int .i64 0, .int .i64 0, .int .i64 2] 3)).alloc (.cells #[.int .i64 0, .int .i64 1, .int .i64 1] 3)).alloc (.cells #[.int .i64 0, .int .i64 2, .int .i64 0] 3)).alloc (.cells #[.int .i64 1, .int .i64 0, .int .i64 1] 3)) (.cells #[.int .i64 1, .int .i64 1, .int .i64 0] 3)))
  have q2 := Lib.hid (q2.out.below (below_alloc ((((wk11.alloc (.cells #[.int .i64 0, .int .i64 0, .int .i64 2] 3)).alloc (.cells #[.int .i64 0, .int .i64 1, .int .i64 1] 3)).alloc (.cells #[.int .i64 0, .int .i64 2, .int .i64 0] 3)).alloc (.cells #[.int .i64 1, .int .i64 0, .int .i64 1] 3)) (.cells #[.int .i64 1, .int .i64 1, .int .i64 0] 3)))
  have q3 := Lib.hid (q3.out.below (below_alloc ((((wk11.alloc (.cells #[.int .i64 0, .int .i64 0, .int .i64 2] 3)).alloc (.cells #[.int .i64 0, .int .i64 1, .int .i64 1] 3)).alloc (.cells #[.int .i64 0, .int .i64 2, .int .i64 0] 3)).alloc (.cells #[.int .i64 1, .int .i64 0, .int .i64 1] 3)) (.cells #[.int .i64 1, .int .i64 1, .int .i64 0] 3)))
  have q4 := Lib.hid (show RI (((((wk11.alloc (.cells #[.int .i64 0, .int .i64 0, .int .i64 2] 3)).alloc (.cells #[.int .i64 0, .int .i64 1, .int .i64 1] 3)).alloc (.cells #[.int .i64 0, .int .i64 2, .int .i64 0] 3)).alloc (.cells #[.int .i64 1, .int .i64 0, .int .i64 1] 3)).alloc (.cells #[.int .i64 1, .int .i64 1, .int .i64 0] 3)) (.slice (some ⟨wk11.heap.size + 1 + 1 + 1 + 1, 0, none⟩) 3 3) [1, 1, 0] from by have := RI.lit ((((wk11.alloc (.cells #[.int .i64 0, .int .i64 0, .int .i64 2] 3)).alloc (.cells #[.int .i64 0, .int .i64 1, .int .i64 1] 3)).alloc (.cells #[.int .i64 0, .int .i64 2, .int .i64 0] 3)).alloc (.cells #[.int .i64 1, .int .i64 0, .int .i64 1] 3)) [1, 1, 0] 3 3 rfl (by omega); simpa only [World.size_alloc, List.map_cons, List.map_nil] using this)
  have r5 := Lib.hid (r5.out.below (below_alloc (((((wk11.alloc (.cells #[.int .i64 0, .int .i64 0, .int .i64 2] 3)).alloc (.cells #[.int .i64 0, .int .i64 1, .int .i64 1] 3)).alloc (.cells #[.int .i64 0, .int .i64 2, .int .i64 0] 3)).alloc (.cells #[.int .i64 1, .int .i64 0, .int .i64 1] 3)).alloc (.cells #[.int .i64 1, .int .i64 1, .int .i64 0] 3)) (.cells #[.int .i64 2, .int .i64 0, .int .i64 0] 3)))
  have q0 := Lib.hid (q0.out.below (below_alloc (((((wk11.alloc (.cells #[.int .i64 0, .int .i64 0, .int .i64 2] 3)).alloc (.cells #[.int .i64 0, .int .i64 1, .int .i64 1] 3)).alloc (.cells #[.int .i64 0, .int .i64 2, .int .i64 0] 3)).alloc (.cells #[.int .i64 1, .int .i64 0, .int .i64 1] 3)).alloc (.cells #[.int .i64 1, .int .i64 1, .int .i64 0] 3)) (.cells #[.int .i64 2, .int .i64 0, .int .i64 0] 3)))
  have q1 := Lib.hid (q1.out.below (below_alloc (((((wk11.alloc (.cells #[.int .i64 0, .int .i64 0, .int .i64 2] 3)).alloc (.cells #[.int .i64 0, .int .i64 1, .int .i64 1] 3)).alloc (.cells #[.int .i64 0, .int .i64 2, .int .i64 0] 3)).alloc (.cells #[.int .i64 1, .int .i64 0, .int .i64 1] 3)).alloc (.cells #[.int .i64 1, .int .i64 1, .int .i64 0] 3)) (.cells #[.int .i64 2, .int .i64 0, .int .i64 0] 3)))
  have q2 := Lib.hid (q2.out.below (below_alloc (((((wk11.alloc (.cells #[.int .i64 0, .int .i64 0, .int .i64 2] 3)).alloc (.cells #[.int .i64 0, .int .i64 1, .int .i64 1] 3)).alloc (.cells #[.int .i64 0, .int .i64 2, .int .i64 0] 3)).alloc (.cells #[.int .i64 1, .int .i64 0, .int .i64 1] 3)).alloc (.cells #[.int .i64 1, .int .i64 1, .int .i64 0] 3)) (.cells #[.int .i64 2, .int .i64 0, .int .i64 0] 3)))
  have q3 := Lib.hid (q3.out.below (below_alloc (((((wk11.alloc (.cells #[.int .i64 0, .int .i64 0, .int .i64 2] 3)).alloc (.cells #[.int .i64 0, .int .i64 1, .int .i64 1] 3)).alloc (.cells #[.int .i64 0, .int .i64 2, .int .i64 0] 3)).alloc (.cells #[.int .i64 1, .int .i64 0, .int .i64 1] 3)).alloc (.cells #[.int .i64 1, .int .i64 1, .int .i64 0] 3)) (.cells #[.int .i64 2, .int .i64 0, .int .i64 0] 3)))
  have q4 := Lib.hid (q4.out.below (below_alloc (((((wk11.alloc (.cells #[.int .i64 0, .int .i64 0, .int .i64 2] 3)).alloc (.cells #[.int .i64 0, .int .i64 1, .int .i64 1] 3)).alloc (.cells #[.int .i64 0, .int .i64 2, .int .i64 0] 3)).alloc (.cells #[.int .i64 1, .int .i64 0, .int .i64 1] 3)).alloc (.cells #[.int .i64 1, .int .i64 1, .int .i64 0] 3)) (.cells #[.int .i64 2, .int .i64 0, .int .i64 0] 3)))
  have q5 := Lib.hid (show RI ((((((wk11.alloc (.cells #[.int .i64 0, .int .i64 0, .int .i64 2] 3)).alloc (.cells #[.int .i64 0, .int .i64 1, .int .i64 1] 3)).alloc (.cells #[.int .i64 0, .int .i64 2, .int .i64 0] 3)).alloc (.cells #[.int .i64 1, .int .i64 0, .int .i64 1] 3)).alloc (.cells #[.int .i64 1, .int .i64 1, .int .i64 0] 3)).alloc (.cells #[.int .i64 2, .int .i64 0, .int .i64 0] 3)) (.slice (some ⟨wk11.heap.size + 1 + 1 + 1 + 1 + 1, 0, none⟩) 3 3) [2, 0, 0] from by have := RI.lit (((((wk11.alloc (.cells #[.int .i64 0, .int .i64 0, .int .i64 2] 3)).alloc (.cells #[.int .i64 0, .int .i64 1, .int .i64 1] 3)).alloc (.cells #[.int .i64 0, .int .i64 2, .int .i64 0] 3)).alloc (.cells #[.int .i64 1, .int .i64 0, .int .i64 1] 3)).alloc (.cells #[.int .i64 1, .int .i64 1, .int .i64 0] 3)) [2, 0, 0] 3 3 rfl (by omega); simpa only [World.size_alloc, List.map_cons, List.map_nil] using this)
  have rY0 := Lib.hid (RR.litN ((((((wk11.alloc (.cells #[.int .i64 0, .int .i64 0, .int .i64 2] 3)).alloc (.cells #[.int .i64 0, .int .i64 1, .int .i64 1] 3)).alloc (.cells #[.int .i64 0, .int .i64 2, .int .i64 0] 3)).alloc (.cells #[.int .i64 1, .int .i64 0, .int .i64 1] 3)).alloc (.cells #[.int .i64 1, .int .i64 1, .int .i64 0] 3)).alloc (.cells #[.int .i64 2, .int .i64 0, .int .i64 0] 3)) [.slice (some ⟨wk11.heap.size, 0, none⟩) 3 3, .slice (some ⟨wk11.heap.size + 1, 0, none⟩) 3 3, .slice (some ⟨wk11.heap.size + 1 + 1, 0, none⟩) 3 3, .slice (some ⟨wk11.heap.size + 1 + 1 + 1, 0, none⟩) 3 3, .slice (some ⟨wk11.heap.size + 1 + 1 + 1 + 1, 0, none⟩) 3 3, .slice (some ⟨wk11.heap.size + 1 + 1 + 1 + 1 + 1, 0, none⟩) 3 3] [[0, 0, 2], [0, 1, 1], [0, 2, 0], [1, 0, 1], [1, 1, 0], [2, 0, 0]] 23 6 rfl rfl (by omega) (⟨q0.out, ⟨q1.out, ⟨q2.out, ⟨q3.out, ⟨q4.out, ⟨q5.out, trivial⟩⟩⟩⟩⟩⟩))
  have r5 := Lib.hid (r5.out.below (below_alloc ((((((wk11.alloc (.cells #[.int .i64 0, .int .i64 0, .int .i64 2] 3)).alloc (.cells #[.int .i64 0, .int .i64 1, .int .i64 1] 3)).alloc (.cells #[.int .i64 0, .int .i64 2, .int .i64 0] 3)).alloc (.cells #[.int .i64 1, .int .i64 0, .int .i64 1] 3)).alloc (.cells #[.int .i64 1, .int .i64 1, .int .i64 0] 3)).alloc (.cells #[.int .i64 2, .int .i64 0, .int .i64 0] 3)) (.cells #[.slice (some ⟨wk11.heap.size, 0, none⟩) 3 3, .slice (some ⟨wk11.heap.size + 1, 0, none⟩) 3 3, .slice (some ⟨wk11.heap.size + 1 + 1, 0, none⟩) 3 3, .slice (some ⟨wk11.heap.size + 1 + 1 + 1, 0, none⟩) 3 3, .slice (some ⟨wk11.heap.size + 1 + 1 + 1 + 1, 0, none⟩) 3 3, .slice (some ⟨wk11.heap.size + 1 + 1 + 1 + 1 + 1, 0, none⟩) 3 3] 23)))
  have q0 := Lib.hid (q0.out.below (below_alloc ((((((wk11.alloc (.cells #[.int .i64 0, .int .i64 0, .int .i64 2] 3)).alloc (.cells #[.int .i64 0, .int .i64 1, .int .i64 1] 3)).alloc (.cells #[.int .i64 0, .int .i64 2, .int .i64 0] 3)).alloc (.cells #[.int .i64 1, .int .i64 0, .int .i64 1] 3)).alloc (.cells #[.int .i64 1, .int .i64 1, .int .i64 0] 3)).alloc (.cells #[.int .i64 2, .int .i64 0, .int .i64 0] 3)) (.cells #[.slice (some ⟨wk11.heap.size, 0, none⟩) 3 3, .slice (some ⟨wk11.heap.size + 1, 0, none⟩) 3 3, .slice (some ⟨wk11.heap.size + 1 + 1, 0, none⟩) 3 3, .slice (some ⟨wk11.heap.size + 1 + 1 + 1, 0, none⟩) 3 3, .slice (some ⟨wk11.heap.size + 1 + 1 + 1 + 1, 0, none⟩) 3 3, .slice (some ⟨wk11.heap.size + 1 + 1 + 1 + 1 + 1, 0, none⟩) 3 3] 23)))
  have q1 := Lib.hid (q1.out.below (below_alloc ((((((wk11.alloc (.cells #[.int .i64 0, .int .i64 0, .int .i64 2] 3)).alloc (.cells #[.int .i64 0, .int .i64 1, .int .i64 1] 3)).alloc (.cells #[.int .i64 0, .int .i64 2, .int .i64 0] 3)).alloc (.cells #[.int .i64 1, .int .i64 0, .int .i64 1] 3)).alloc (.cells #[.int .i64 1, .int .i64 1, .int .i64 0] 3)).alloc (.cells #[.int .i64 2, .int .i64 0, .int .i64 0] 3)) (.cells #[.slice (some ⟨wk11.heap.size, 0, none⟩) 3 3, .slice (some ⟨wk11.heap.size + 1, 0, none⟩) 3 3, .slice (some ⟨wk11.heap.size + 1 + 1, 0, none⟩) 3 3, .slice (some ⟨wk11.heap.size + 1 + 1 + 1, 0, none⟩) 3 3, .slice (some ⟨wk11.heap.size + 1 + 1 + 1 + 1, 0, none⟩) 3 3, .slice (some ⟨wk11.heap.size + 1 + 1 + 1 + 1 + 1, 0, none⟩) 3 3] 23)))
  have q2 := Lib.hid (q2.out.below (below_alloc ((((((wk11.alloc (.cells #[.int .i64 0, .int .i64 0, .int .i64 2] 3)).alloc (.cells #[.int .i64 0, .int .i64 1, .int .i64 1] 3)).alloc (.cells #[.int .i64 0, .int .i64 2, .int .i64 0] 3)).alloc (.cells #[.int .i64 1, .int .i64 0, .int .i64 1] 3)).alloc (.cells #[.int .i64 1, .int .i64 1, .int .i64 0] 3)).alloc (.cells #[.int .i64 2, .int .i64 0, .int .i64 0] 3)) (.cells #[.slice (some ⟨wk11.heap.size, 0, none⟩) 3 3, .slice (some ⟨wk11.heap.size + 1, 0, none⟩) 3 3, .slice (some ⟨wk11.heap.size + 1 + 1, 0, none⟩) 3 3, .slice (some ⟨wk11.heap.size + 1 + 1 + 1, 0, none⟩) 3 3, .slice (some ⟨wk11.heap.size + 1 + 1 + 1 + 1, 0, none⟩) 3 3, .slice (some ⟨wk11.heap.size + 1 + 1 + 1 + 1 + 1, 0, none⟩) 3 3] 23)))
  have q3 := Lib.hid (q3.out.below (below_alloc ((((((wk11.alloc (.cells #[.int .i64 0, .int .i64 0, .int .i64 2] 3)).alloc (.cells #[.int .i64 0, .int .i64 1, .int .i64 1] 3)).alloc (.cells #[.int .i64 0, .int .i64 2, .int .i64 0] 3)).alloc (.cells #[.int .i64 1, .int .i64 0, .int .i64 1] 3)).alloc (.cells #[.int .i64 1, .int .i64 1, .int .i64 0] 3)).alloc (.cells #[.int .i64 2, .int .i64 0, .int .i64 0] 3)) (.cells #[.slice (some ⟨wk11.heap.size, 0, none⟩) 3 3, .slice (some ⟨wk11.heap.size + 1, 0, none⟩) 3 3, .slice (some ⟨wk11.heap.size + 1 + 1, 0, none⟩) 3 3, .slice (some ⟨wk11.heap.size + 1 + 1 + 1, 0, none⟩) 3 3, .slice (some ⟨wk11.heap.size + 1 + 1 + 1 + 1, 0, none⟩) 3 3, .slice (some ⟨wk11.heap.size + 1 + 1 + 1 + 1 + 1, 0, none⟩) 3 3] 23)))
  have q4 := Lib.hid (q4.out.below (below_alloc ((((((wk11.alloc (.cells #[.int .i64 0, .int .i64 0, .int .i64 2] 3)).alloc (.cells #[.int .i64 0, .int .i64 1, .int .i64 1] 3)).alloc (.cells #[.int .i64 0, .int .i64 2, .int .i64 0] 3)).alloc (.cells #[.int .i64 1, .int .i64 0, .int .i64 1] 3)).alloc (.cells #[.int .i64 1, .int .i64 1, .int .i64 0] 3)).alloc (.cells #[.int .i64 2, .int .i64 0, .int .i64 0] 3)) (.cells #[.slice (some ⟨wk11.heap.size, 0, none⟩) 3 3, .slice (some ⟨wk11.heap.size + 1, 0, none⟩) 3 3, .slice (some ⟨wk11.heap.size + 1 + 1, 0, none⟩) 3 3, .slice (some ⟨wk11.heap.size + 1 + 1 + 1, 0, none⟩) 3 3, .slice (some ⟨wk11.heap.size + 1 + 1 + 1 + 1, 0, none⟩) 3 3, .slice (some ⟨wk11.heap.size + 1 + 1 + 1 + 1 + 1, 0, none⟩) 3 3] 23)))
  have q5 := Lib.hid (q5.out.below (below_alloc ((((((wk11.alloc (.cells #[.int .i64 0, .int .i64 0, .int .i64 2] 3)).alloc (.cells #[.int .i64 0, .int .i64 1, .int .i64 1] 3)).alloc (.cells #[.int .i64 0, .int .i64 2, .int .i64 0] 3)).alloc (.cells #[.int .i64 1, .int .i64 0, .int .i64 1] 3)).alloc (.cells #[.int .i64 1, .int .i64 1, .int .i64 0] 3)).alloc (.cells #[.int .i64 2, .int .i64 0, .int .i64 0] 3)) (.cells #[.slice (some ⟨wk11.heap.size, 0, none⟩) 3 3, .slice (some ⟨wk11.heap.size + 1, 0, none⟩) 3 3, .slice (some ⟨wk11.heap.size + 1 + 1, 0, none⟩) 3 3, .slice (some ⟨wk11.heap.size + 1 + 1 + 1, 0, none⟩) 3 3, .slice (some ⟨wk11.heap.size + 1 + 1 + 1 + 1, 0, none⟩) 3 3, .slice (some ⟨wk11.heap.size + 1 + 1 + 1 + 1 + 1, 0, none⟩) 3 3] 23)))
  have rY := Lib.hid (show RR (((((((wk11.alloc (.cells #[.int .i64 0, .int .i64 0, .int .i64 2] 3)).alloc (.cells #[.int .i64 0, .int .i64 1, .int .i64 1] 3)).alloc (.cells #[.int .i64 0, .int .i64 2, .int .i64 0] 3)).alloc (.cells #[.int .i64 1, .int .i64 0, .int .i64 1] 3)).alloc (.cells #[.int .i64 1, .int .i64 1, .int .i64 0] 3)).alloc (.cells #[.int .i64 2, .int .i64 0, .int .i64 0] 3)).alloc (.cells #[.slice (some ⟨wk11.heap.size, 0, none⟩) 3 3, .slice (some ⟨wk11.heap.size + 1, 0, none⟩) 3 3, .slice (some ⟨wk11.heap.size + 1 + 1, 0, none⟩) 3 3, .slice (some ⟨wk11.heap.size + 1 + 1 + 1, 0, none⟩) 3 3, .slice (some ⟨wk11.heap.size + 1 + 1 + 1 + 1, 0, none⟩) 3 3, .slice (some ⟨wk11.heap.size + 1 + 1 + 1 + 1 + 1, 0, none⟩) 3 3] 23)) (.slice (some ⟨wk11.heap.size + 1 + 1 + 1 + 1 + 1 + 1, 0, none⟩) 6 6) [[0, 0, 2], [0, 1, 1], [0, 2, 0], [1, 0, 1], [1, 1, 0], [2, 0, 0]] from by have := rY0.out; simpa only [World.size_alloc, List.map_cons, List.map_nil] using this)
  clear q0 q1 q2 q3 q4 q5
  have hE := Lib.hid (hE.out.trans ((below_alloc wk11 (.cells #[.int .i64 0, .int .i64 0, .int .i64 2] 3)).mono hE.out.size))
  have hE := Lib.hid (hE.out.trans ((below_alloc (wk11.alloc (.cells #[.int .i64 0, .int .i64 0, .int .i64 2] 3)) (.cells #[.int .i64 0, .int .i64 1, .int .i64 1] 3)).mono hE.out.size))
  have hE := Lib.hid (hE.out.trans ((below_alloc ((wk11.alloc (.cells #[.int .i64 0, .int .i64 0, .int .i64 2] 3)).alloc (.cells #[.int .i64 0, .int .i64 1, .int .i64 1] 3)) (.cells #[.int .i64 0, .int .i64 2, .int .i64 0] 3)).mono hE.out.size))
  have hE := Lib.hid (hE.out.trans ((below_alloc (((wk11.alloc (.cells #[.int .i64 0, .int .i64 0, .int .i64 2] 3)).alloc (.cells #[.int .i64 0, .int .i64 1, .int .i64 1] 3)).alloc (.cells #[.int .i64 0, .int .i64 2, .int .i64 0] 3)) (.cells #[.int .i64 1, .int .i64 0, .int .i64 1] 3)).mono hE.out.size))
  have hE := Lib.hid (hE.out.trans ((below_alloc ((((wk11.alloc (.cells #[.int .i64 0, .int .i64 0, .int .i64 2] 3)).alloc (.cells #[.int .i64 0, .int .i64 1, .int .i64 1] 3)).alloc (.cells #[.int .i64 0, .int .i64 2, .int .i64 0] 3)).alloc (.cells #[.int .i64 1, .int .i64 0, .int .i64 1] 3)) (.cells #[.int .i64 1, .int .i64 1, .int .i64 0] 3)).mono hE.out.size))
  have hE := Lib.hid (hE.out.trans ((below_alloc (((((wk11.alloc (.cells #[.int .i64 0, .int .i64 0, .int .i64 2] 3)).alloc (.cells #[.int .i64 0, .int .i64 1, .int .i64 1] 3)).alloc (.cells #[.int .i64 0, .int .i64 2, .int .i64 0] 3)).alloc (.cells #[.int .i64 1, .int .i64 0, .int .i64 1] 3)).alloc (.cells #[.int .i64 1, .int .i64 1, .int .i64 0] 3)) (.cells #[.int .i64 2, .int .i64 0, .int .i64 0] 3)).mono hE.out.size))
  have hE := Lib.hid (hE.out.trans ((below_alloc ((((((wk11.alloc (.cells #[.int .i64 0, .int .i64 0, .int .i64 2] 3)).alloc (.cells #[.int .i64 0, .int .i64 1, .int .i64 1] 3)).alloc (.cells #[.int .i64 0, .int .i64 2, .int .i64 0] 3)).alloc (.cells #[.int .i64 1, .int .i64 0, .int .i64 1] 3)).alloc (.cells #[.int .i64 1, .int .i64 1, .int .i64 0] 3)).alloc (.cells #[.int .i64 2, .int .i64 0, .int .i64 0] 3)) (.cells #[.slice (some ⟨wk11.heap.size, 0, none⟩) 3 3, .slice (some ⟨wk11.heap.size + 1, 0, none⟩) 3 3, .slice (some ⟨wk11.heap.size + 1 + 1, 0, none⟩) 3 3, .slice (some ⟨wk11.heap.size + 1 + 1 + 1, 0, none⟩) 3 3, .slice (some ⟨wk11.heap.size + 1 + 1 + 1 + 1, 0, none⟩) 3 3, .slice (some ⟨wk11.heap.size + 1 + 1 + 1 + 1 + 1, 0, none⟩) 3 3] 23)).mono hE.out.size))
  go_wp2_with fail
  refine (SameAll_any _ _ [[0, 0, 2], [0, 1, 1], [0, 2, 0], [1, 0, 1], [1, 1, 0], [2, 0, 0]] [[0, 0, 2], [0, 1, 1], [0, 2, 0], [1, 0, 1], [1, 1, 0], [2, 0, 0]] _ r5.out rY.out).mono ?_
  rw [show eqS [[0, 0, 2], [0, 1, 1], [0, 2, 0], [1, 0, 1], [1, 1, 0], [2, 0, 0]] [[0, 0, 2], [0, 1, 1], [0, 2, 0], [1, 0, 1], [1, 1, 0], [2, 0, 0]] = true from by rfl]
  rintro e wk12 ⟨rfl, hb⟩
  have hb := Dr.below (show Dr _ wk12 from hb) ((((((((wk11.alloc (.cells #[.int .i64 0, .int .i64 0, .int .i64 2] 3)).alloc (.cells #[.int .i64 0, .int .i64 1, .int .i64 1] 3)).alloc (.cells #[.int .i64 0, .int .i64 2, .int .i64 0] 3)).alloc (.cells #[.int .i64 1, .int .i64 0, .int .i64 1] 3)).alloc (.cells #[.int .i64 1, .int .i64 1, .int .i64 0] 3)).alloc (.cells #[.int .i64 2, .int .i64 0, .int .i64 0] 3)).alloc (.cells #[.slice (some ⟨wk11.heap.size, 0, none⟩) 3 3, .slice (some ⟨wk11.heap.size + 1, 0, none⟩) 3 3, .slice (some ⟨wk11.heap.size + 1 + 1, 0, none⟩) 3 3, .slice (some ⟨wk11.heap.size + 1 + 1 + 1, 0, none⟩) 3 3, .slice (some ⟨wk11.heap.size + 1 + 1 + 1 + 1, 0, none⟩) 3 3, .slice (some ⟨wk11.heap.size + 1 + 1 + 1 + 1 + 1, 0, none⟩) 3 3] 23))).heap.size
  have r5 := Lib.hid (r5.out.below hb)
  have rY := Lib.hid (rY.out.below hb)
  have hE := Lib.hid (hE.out.trans (hb.mono hE.out.size))
  clear hb 
  clear rY r5
  have rA := Lib.hid (show RI (wk12.alloc (.cells #[.int .i64 2, .int .i64 0] 3)) (.slice (some ⟨wk12.heap.size, 0, none⟩) 2 2) [2, 0] from by have := RI.lit wk12 [2, 0] 3 2 rfl (by omega); simpa only [World.size_alloc, List.map_cons, List.map_nil] using this)
  have rA := Lib.hid (rA.out.below (below_alloc (wk12.alloc (.cells #[.int .i64 2, .int .i64 0] 3)) (.cells #[.int .i64 1, .int .i64 5] 3)))
  have rB := Lib.hid (show RI ((wk12.alloc (.cells #[.int .i64 2, .int .i64 0] 3)).alloc (.cells #[.int .i64 1, .int .i64 5] 3)) (.slice (some ⟨wk12.heap.size + 1, 0, none⟩) 2 2) [1, 5] from by have := RI.lit (wk12.alloc (.cells #[.int .i64 2, .int .i64 0] 3)) [1, 5] 3 2 rfl (by omega); simpa only [World.size_alloc, List.map_cons, List.map_nil] using this)
  have hE := Lib.hid (hE.out.trans ((below_alloc wk12 (.cells #[.int .i64 2, .int .i64 0] 3)).mono hE.out.size))
  have hE := Lib.hid (hE.out.trans ((below_alloc (wk12.alloc (.cells #[.int .i64 2, .int .i64 0] 3)) (.cells #[.int .i64 1, .int .i64 5] 3)).mono hE.out.size))
  go_wp2_with fail
  refine (Meet_any _ _ [2, 0] [1, 5] _ rA.out rB.out).mono ?_
  rw [show eachL (fun x y => min x y) [2, 0] [1, 5] = ([1, 0], 0) from by rfl]
  rintro e wk13 ⟨v7, rfl, ho, hb⟩
  have rA := Lib.hid (rA.out.below hb)
  have rB := Lib.hid (rB.out.below hb)
  have hE := Lib.hid (hE.out.trans (hb.mono hE.out.size))
  have r7 := Lib.hid ho.ri
  clear hb 
  go_wp2_with fail
  refine (Join_any _ _ [2, 0] [1, 5] _ rA.out rB.out).mono ?_
  rw [show eachL (fun x y => max x y) [2, 0] [1, 5] = ([2, 5], 0) from by rfl]
  rintro e wk14 ⟨v8, rfl, ho, hb⟩
  have rA := Lib.hid (rA.out.below hb)
  have rB := Lib.hid (rB.out.below hb)
  have r7 := Lib.hid (r7.out.below hb)
  have hE := Lib.hid (hE.out.trans (hb.mono hE.out.size))
  have r8 := Lib.hid ho.ri
  clear hb 
  go_wp2_with fail
  refine (Compare_any _ _ [2, 0] [1, 5] _ rA.out rB.out).mono ?_
  rw [show compL [2, 0] [1, 5] = (1, 0) from by rfl]
  rintro e wk15 ⟨rfl, hb⟩
  have rA := Lib.hid (rA.out.below hb)
  have rB := Lib.hid (rB.out.below hb)
  have r7 := Lib.hid (r7.out.below hb)
  have r8 := Lib.hid (r8.out.below hb)
  have hE := Lib.hid (hE.out.trans (hb.mono hE.out.size))
  clear hb 
  go_wp2_with fail
  refine (Above_any _ _ [2, 0] [1, 5] _ rA.out rB.out).mono ?_
  rw [show aboveL [2, 0] [1, 5] = (false, 0) from by rfl]
  rintro e wk16 ⟨rfl, hb⟩
  have rA := Lib.hid (rA.out.below hb)
  have rB := Lib.hid (rB.out.below hb)
  have r7 := Lib.hid (r7.out.below hb)
  have r8 := Lib.hid (r8.out.below hb)
  have hE := Lib.hid (hE.out.trans (hb.mono hE.out.size))
  clear hb 
  clear rA rB
  have r7 := Lib.hid (r7.out.below (below_alloc wk16 (.cells #[.int .i64 1, .int .i64 0] 3)))
  have r8 := Lib.hid (r8.out.below (below_alloc wk16 (.cells #[.int .i64 1, .int .i64 0] 3)))
  have rX := Lib.hid (show RI (wk16.alloc (.cells #[.int .i64 1, .int .i64 0] 3)) (.slice (some ⟨wk16.heap.size, 0, none⟩) 2 2) [1, 0] from by have := RI.lit wk16 [1, 0] 3 2 rfl (by omega); simpa only [World.size_alloc, List.map_cons, List.map_nil] using this)
  have hE := Lib.hid (hE.out.trans ((below_alloc wk16 (.cells #[.int .i64 1, .int .i64 0] 3)).mono hE.out.size))
  go_wp2_with fail
  refine (Same_any _ _ [1, 0] [1, 0] _ r7.out rX.out).mono ?_
  rw [show eqL [1, 0] [1, 0] = true from by rfl]
  rintro e wk17 ⟨rfl, hb⟩
  have hb := Dr.below (show Dr _ wk17 from hb) ((wk16.alloc (.cells #[.int .i64 1, .int .i64 0] 3))).heap.size
  have r7 := Lib.hid (r7.out.below hb)
  have r8 := Lib.hid (r8.out.below hb)
  have rX := Lib.hid (rX.out.below hb)
  have hE := Lib.hid (hE.out.trans (hb.mono hE.out.size))
  clear hb 
  clear rX r7
  have r8 := Lib.hid (r8.out.below (below_alloc wk17 (.cells #[.int .i64 2, .int .i64 5] 3)))
  have rX := Lib.hid (show RI (wk17.alloc (.cells #[.int .i64 2, .int .i64 5] 3)) (.slice (some ⟨wk17.heap.size, 0, none⟩) 2 2) [2, 5] from by have := RI.lit wk17 [2, 5] 3 2 rfl (by omega); simpa only [World.size_alloc, List.map_cons, List.map_nil] using this)
  have hE := Lib.hid (hE.out.trans ((below_alloc wk17 (.cells #[.int .i64 2, .int .i64 5] 3)).mono hE.out.size))
  go_wp2_with fail
  refine (Same_any _ _ [2, 5] [2, 5] _ r8.out rX.out).mono ?_
  rw [show eqL [2, 5] [2, 5] = true from by rfl]
  rintro e wk18 ⟨rfl, hb⟩
  have hb := Dr.below (show Dr _ wk18 from hb) ((wk17.alloc (.cells #[.int .i64 2, .int .i64 5] 3))).heap.size
  have r8 := Lib.hid (r8.out.below hb)
  have rX := Lib.hid (rX.out.below hb)
  have hE := Lib.hid (hE.out.trans (hb.mono hE.out.size))
  clear hb 
  clear rX r8
  go_wp2
  go_ret
  exact ⟨rfl, hE.out⟩
end Go.Proofs.Ytcmkllfocifnlaa
