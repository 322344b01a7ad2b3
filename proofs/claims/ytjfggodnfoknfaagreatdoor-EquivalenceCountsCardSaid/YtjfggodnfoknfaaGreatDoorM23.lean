/- Contract of product.
   Contracts of neg and sum. (printed by gen/sum.py)
   Contract of Sub's function. (printed by gen/sub.py) -/
import Derived.Test.YtjfggodnfoknfaaGreatDoorM03
import Derived.Test.YtjfggodnfoknfaaGreatDoorM22
import Derived.Deep.RegionHeld3
set_option maxRecDepth 100000
set_option maxHeartbeats 16000000
namespace Go.Proofs.YtjfggodnfoknfaaGreatDoor
open Go.RowKit
/-- The world with two boxed numbers and a result. -/
def box3 (w : World) (m1 : Bool) (s1 : Value) (m2 : Bool) (s2 : Value) : World :=
  ((w.alloc (.cells #[.bool m1, s1] 131)).alloc (.cells #[.bool m2, s2] 131)).alloc (.cells #[.bool false, .slice none 0 0] 131)
/-- The boxed numbers' cells. -/
def InBox (w W0 W : World) (m1 : Bool) (s1 : Value) (m2 : Bool) (s2 : Value) : Prop :=
  W.cell? ⟨w.heap.size, 0, none⟩ = some (.bool m1) ∧ W.cell? ⟨w.heap.size, 1, none⟩ = some s1 ∧ W.cell? ⟨w.heap.size + 1, 0, none⟩ = some (.bool m2) ∧ W.cell? ⟨w.heap.size + 1, 1, none⟩ = some s2 ∧ Below (w.heap.size + 2) W0 W
theorem box3_in (w W0 : World) (m1 : Bool) (s1 : Value) (m2 : Bool) (s2 : Value) (h : W0 = box3 w m1 s1 m2 s2) : Hid (∀ W, Below (w.heap.size + 2) W0 W → InBox w W0 W m1 s1 m2 s2) := fun W hb => by
  have hs : W0.heap.size = w.heap.size + 3 := by rw [h]; simp [box3]
  refine ⟨(hb.cell (by simp)).trans ?_, (hb.cell (by simp)).trans ?_, (hb.cell (by simp)).trans ?_, (hb.cell (by simp)).trans ?_, hb⟩ <;>
  · rw [h]; unfold box3; go_cell
/-- The result's block is as it was. -/
def InRes (w W : World) : Prop := W.cell? ⟨w.heap.size + 2, 0, none⟩ = some (.bool false) ∧ W.cell? ⟨w.heap.size + 2, 1, none⟩ = some (.slice none 0 0) ∧ W.frozen? ⟨w.heap.size + 2, 0, none⟩ = false ∧ W.frozen? ⟨w.heap.size + 2, 1, none⟩ = false ∧ BL W (w.heap.size + 2) 131 [.bool false, .slice none 0 0]
theorem box3_res (w W0 : World) (m1 : Bool) (s1 : Value) (m2 : Bool) (s2 : Value) (h : W0 = box3 w m1 s1 m2 s2) : Hid (∀ W, Below W0.heap.size W0 W → InRes w W) := fun W hb => by
  have hs : W0.heap.size = w.heap.size + 3 := by rw [h]; simp [box3]
  have e1 : BL W0 (w.heap.size + 2) 131 [.bool false, .slice none 0 0] := by
    have := BL.new' ((w.alloc (.cells #[.bool m1, s1] 131)).alloc (.cells #[.bool m2, s2] 131)) #[.bool false, .slice none 0 0] 131
    simp only [World.size_alloc] at this
    rw [h]; exact this
  have e2 := e1.below hb (by omega)
  exact ⟨e2.cell 0, e2.cell 1, e2.frozen 0, e2.frozen 1, e2⟩
theorem below_box {B g : Nat} {w W : World} (h : Below B w W) (hg : B ≤ g) (x y : Value) : Below B w ((W.setCell ⟨g, 0, none⟩ x).setCell ⟨g, 1, none⟩ y) := (h.setCell hg _).setCell hg _
theorem box3_below (w : World) (m1 : Bool) (s1 : Value) (m2 : Bool) (s2 : Value) : Below w.heap.size w (box3 w m1 s1 m2 s2) := by unfold box3; go_grown
theorem box3_size (w : World) (m1 : Bool) (s1 : Value) (m2 : Bool) (s2 : Value) : (box3 w m1 s1 m2 s2).heap.size = w.heap.size + 3 := by simp [box3]
/-- A number's words do not lie in a box. -/
theorem NV.box {W : World} {v : Value} {a g : Nat} {b : Bool} {p : Option Addr} {n c : Nat} (h : NV W v a) (hB : BL W g 131 [.bool b, .slice p n c]) (x y : Value) :
    NV ((W.setCell ⟨g, 0, none⟩ x).setCell ⟨g, 1, none⟩ y) v a := by
  rcases h.parts with ⟨rfl, q, d, rfl⟩ | ⟨h0, ad, d, rfl, hd, hb, hc⟩
  · exact NV.zero _ _ _
  · have hne : ad.block ≠ g := fun e => by
      unfold World.cell? at hc
      rw [e, show W.heap[g]? = _ from hB] at hc
      simp only at hc
      split at hc
      · cases hc
      · match ho : ad.off with
        | 0 => rw [ho] at hc; simp at hc
        | 1 => rw [ho] at hc; simp at hc
        | k + 2 => rw [ho] at hc; simp at hc
    refine ⟨⟨some ad, d, by simp [trimL, h0], by simp [trimL, h0]; omega, by simp [trimL, h0], fun k hk => ?_⟩, h.2⟩
    have : k = 0 := by simp [trimL, h0] at hk; omega
    subst this
    refine ⟨ad, rfl, by simpa using hb, ?_⟩
    rw [addr_add_zero]
    have e3 : ((W.setCell ⟨g, 0, none⟩ x).setCell ⟨g, 1, none⟩ y).cell? ad = W.cell? ad := by
      have : ((W.setCell ⟨g, 0, none⟩ x).setCell ⟨g, 1, none⟩ y).heap[ad.block]? = W.heap[ad.block]? := by
        rw [heap_setCell_other _ _ _ _ hne, heap_setCell_other _ _ _ _ hne]
      unfold World.cell?
      rw [this]
    rw [e3, hc]
    simp [trimL, h0, uV]
theorem product_any (vx vy : Value) (x y : Int) (w : World) (hx : ZN w vx x) (hy : ZN w vy y) (hxy : (x * y).natAbs < 1000000000) :
    Calls Tryz.prog 195 #[vx, vy] w fun e w' => ∃ u, e = .returned u ∧ ZN w' u (x * y) ∧ Below w.heap.size w w' := by
  obtain ⟨p, n, c, rfl, hu⟩ := hx.parts
  obtain ⟨q, m, d, rfl, hv⟩ := hy.parts
  have hz := sgN_mul x y
  generalize x * y = z at *
  obtain ⟨W0, hW0⟩ : ∃ W0, W0 = box3 w (decide (x < 0)) (.slice p n c) (decide (y < 0)) (.slice q m d) := ⟨_, rfl⟩
  have hb0 : Below w.heap.size w W0 := by rw [hW0]; exact box3_below ..
  have hs0 : W0.heap.size = w.heap.size + 3 := by rw [hW0]; exact box3_size ..
  have HK := box3_in w W0 _ _ _ _ hW0
  have HR := box3_res w W0 _ _ _ _ hW0
  have HS0 := Lib.hid (HK.out W0.drew (Below.refl _ _).drew)
  have HT := Lib.hid (times_any (.slice p n c) (.slice q m d) x.natAbs y.natAbs W0.drew (NV.below (hu.below hb0) (Below.refl _ _).drew) (NV.below (hv.below hb0) (Below.refl _ _).drew) (by rw [← hz, sgN_abs] at hxy; exact hxy))
  have HB0 := Lib.hid hb0
  have HW0 : Hid (W0 = ((w.alloc (.cells #[.bool (decide (x < 0)), .slice p n c] 131)).alloc (.cells #[.bool (decide (y < 0)), .slice q m d] 131)).alloc (.cells #[.bool false, .slice none 0 0] 131)) := hW0
  have HZ := Lib.hid hz
  have HN := Lib.hid hs0
  clear hx hy hu hv hb0 hW0 hz hxy hs0
  go_enter Tryz.func195, Tryz.ntmps195
  go_wp2_with fail
  rw [← HW0.out]
  go_region_held3 (fun W' : World => W'.cell? ⟨w.heap.size, 0, none⟩ = some (.bool (decide (x < 0))) ∧ W'.cell? ⟨w.heap.size, 1, none⟩ = some (.slice p n c) ∧ W'.cell? ⟨w.heap.size + 1, 0, none⟩ = some (.bool (decide (y < 0))) ∧ W'.cell? ⟨w.heap.size + 1, 1, none⟩ = some (.slice q m d) ∧ Below (w.heap.size + 2) W0 W')
    (first | exact HS0.out | exact HSa.out | exact HSb.out | exact HK.out _ ((HSb.out.2.2.2.2.setCell (by simp) _).setCell (by simp) _))
    (first
      | (go_at_call 215; refine HT.out.mono ?_; rintro e w6 ⟨v6, rfl, ho6, hb6⟩; have HBa := Lib.hid ((Below.refl W0.heap.size W0).drew.trans hb6); have HSa := Lib.hid (HK.out w6 (HBa.out.mono (by have := HN.out; omega))); have HSg := Lib.hid (signed_any (decide (x < 0) != decide (y < 0)) v6 _ w6 ho6); clear ho6 hb6)
      | (go_at_call 136; refine HSg.out.mono ?_; rintro e w7 ⟨p7, n7, c7, rfl, ho7, hb7⟩; have HBb := Lib.hid (HBa.out.trans (hb7.mono HBa.out.size)); have HSb := Lib.hid (HK.out w7 (HBb.out.mono (by have := HN.out; omega))); have HO7 := Lib.hid ho7; obtain ⟨k0, k1, f0, f1, bl⟩ := HR.out w7 HBb.out; have HBL := Lib.hid bl; clear ho7 hb7 bl))
  all_goals
    go_wp2_with fail
    refine bodyPost_ret (results_cell_row rfl _ _ (w.heap.size + 2) 131 #[.bool (decide (sgN (decide (x < 0) != decide (y < 0)) (x.natAbs * y.natAbs) < 0)), .slice p7 n7 c7] (0, 0) _ rfl ((HBL.out.set 0 _).set 1 _) Tryz.underlying131 rfl num_size) rfl ?_
    have ho := HO7.out
    have hb := HBb.out.mono (show w.heap.size ≤ W0.heap.size by have := HN.out; omega)
    rw [HZ.out] at ho ⊢
    exact ⟨_, rfl, ZN.mk (ho.box HBL.out _ _), HB0.out.trans (below_box hb (show w.heap.size ≤ w.heap.size + 2 by omega) _ _)⟩
end Go.Proofs.YtjfggodnfoknfaaGreatDoor

namespace Go.Proofs.YtjfggodnfoknfaaGreatDoor
open Go.RowKit
theorem neg_any (vx : Value) (x : Int) (w : World) (hx : ZN w vx x) :
    Calls Tryz.prog 96 #[vx] w fun e w' => ∃ u, e = .returned u ∧ ZN w' u (-x) ∧ Below w.heap.size w w' := by
  obtain ⟨p, n, c, rfl, hu⟩ := hx.parts
  have hz : sgN (!decide (x < 0)) x.natAbs = -x := by
    by_cases h : x < 0 <;> simp [sgN, h] <;> omega
  obtain ⟨W0, hW0⟩ : ∃ W0, W0 = (w.alloc (.cells #[.bool (decide (x < 0)), .slice p n c] 131)).alloc (.cells #[.bool false, .slice none 0 0] 131) := ⟨_, rfl⟩
  have hb0 : Below w.heap.size w W0 := by rw [hW0]; go_grown
  have hs0 : W0.heap.size = w.heap.size + 2 := by rw [hW0]; simp
  have e1 : BL W0 (w.heap.size + 1) 131 [.bool false, .slice none 0 0] := by
    have := BL.new' (w.alloc (.cells #[.bool (decide (x < 0)), .slice p n c] 131)) #[.bool false, .slice none 0 0] 131
    simp only [World.size_alloc] at this
    rw [hW0]; exact this
  have HT := Lib.hid (signed_any (!decide (x < 0)) (.slice p n c) x.natAbs W0 (hu.below hb0))
  have HB0 := Lib.hid hb0
  have HW0 := Lib.hid hW0
  have HN := Lib.hid hs0
  have HZ := Lib.hid hz
  have HE := Lib.hid e1
  clear hx hu hb0 hW0 hs0 hz e1
  go_enter Tryz.func96, Tryz.ntmps96
  go_wp2_with fail
  rw [← HW0.out]
  refine HT.out.mono ?_
  rintro e w7 ⟨p7, n7, c7, rfl, ho7, hb7⟩
  have bl := HE.out.below hb7 (by have := HN.out; omega)
  have k0 := bl.cell 0
  have k1 := bl.cell 1
  have f0 := bl.frozen 0
  have f1 := bl.frozen 1
  have HBL := Lib.hid bl
  have HO7 := Lib.hid ho7
  have HB7 := Lib.hid hb7
  clear bl ho7 hb7
  go_wp2_with fail
  refine bodyPost_ret (results_cell_row rfl _ _ (w.heap.size + 1) 131 #[.bool (decide (sgN (!decide (x < 0)) x.natAbs < 0)), .slice p7 n7 c7] (0, 0) _ rfl ((HBL.out.set 0 _).set 1 _) Tryz.underlying131 rfl num_size) rfl ?_
  have ho := HO7.out
  have hb := HB7.out.mono (show w.heap.size ≤ W0.heap.size by have := HN.out; omega)
  rw [HZ.out] at ho ⊢
  exact ⟨_, rfl, ZN.mk (ho.box HBL.out _ _), HB0.out.trans (below_box hb (show w.heap.size ≤ w.heap.size + 1 by omega) _ _)⟩
theorem sum_same (m : Bool) (p q : Option Addr) (n c k d a b : Nat) (w : World) (hu : NV w (.slice p n c) a) (hv : NV w (.slice q k d) b) (hab : a + b < 1000000000) :
    Calls Tryz.prog 197 #[.agg #[.bool m, .slice p n c], .agg #[.bool m, .slice q k d]] w fun e w' => ∃ u, e = .returned u ∧ ZN w' u (sgN m (a + b)) ∧ Below w.heap.size w w' := by
  obtain ⟨W0, hW0⟩ : ∃ W0, W0 = box3 w m (.slice p n c) m (.slice q k d) := ⟨_, rfl⟩
  have hb0 : Below w.heap.size w W0 := by rw [hW0]; exact box3_below ..
  have hs0 : W0.heap.size = w.heap.size + 3 := by rw [hW0]; exact box3_size ..
  have HK := box3_in w W0 _ _ _ _ hW0
  have HR := box3_res w W0 _ _ _ _ hW0
  have HT : Hid (∀ W, Below W0.heap.size W0 W → Calls Tryz.prog 216 #[.slice p n c, .slice q k d] W fun e w' => ∃ v, e = .returned v ∧ NV w' v (a + b) ∧ Below W.heap.size W w') := fun W h => plus_any _ _ _ _ W (NV.below (hu.below hb0) h) (NV.below (hv.below hb0) h) hab
  have HB0 := Lib.hid hb0
  have HW0 : Hid (W0 = ((w.alloc (.cells #[.bool m, .slice p n c] 131)).alloc (.cells #[.bool m, .slice q k d] 131)).alloc (.cells #[.bool false, .slice none 0 0] 131)) := hW0
  have HN := Lib.hid hs0
  have HBs := Lib.hid (Below.refl W0.heap.size W0).drew
  have HS0 := Lib.hid (HK.out W0.drew (Below.refl _ _).drew)
  have HT1 := Lib.hid (HT.out W0.drew HBs.out)
  clear hu hv hb0 hW0 hs0 hab
  go_enter Tryz.func197, Tryz.ntmps197
  go_wp2_with fail
  rw [← HW0.out]
  go_region_held3 (fun W' : World => W'.cell? ⟨w.heap.size, 0, none⟩ = some (.bool m) ∧ W'.cell? ⟨w.heap.size, 1, none⟩ = some (.slice p n c) ∧ W'.cell? ⟨w.heap.size + 1, 0, none⟩ = some (.bool m) ∧ W'.cell? ⟨w.heap.size + 1, 1, none⟩ = some (.slice q k d) ∧ Below (w.heap.size + 2) W0 W')
    (first | exact HS0.out | exact HSa.out | exact HSb.out | exact HK.out _ ((HSb.out.2.2.2.2.setCell (by simp) _).setCell (by simp) _))
    (first
      | (go_at_call 216; refine HT1.out.mono ?_; rintro e w6 ⟨v6, rfl, ho6, hb6⟩; have HBa := Lib.hid (HBs.out.trans (hb6.mono HBs.out.size)); have HSa := Lib.hid (HK.out w6 (HBa.out.mono (by have := HN.out; omega))); have HSg := Lib.hid (signed_any m v6 _ w6 ho6); clear ho6 hb6)
      | (go_at_call 136; refine HSg.out.mono ?_; rintro e w7 ⟨p7, n7, c7, rfl, ho7, hb7⟩; have HBb := Lib.hid (HBa.out.trans (hb7.mono HBa.out.size)); have HSb := Lib.hid (HK.out w7 (HBb.out.mono (by have := HN.out; omega))); have HO7 := Lib.hid ho7; obtain ⟨k0, k1, f0, f1, bl⟩ := HR.out w7 HBb.out; have HBL := Lib.hid bl; clear ho7 hb7 bl))
  all_goals
    go_wp2_with fail
    refine bodyPost_ret (results_cell_row rfl _ _ (w.heap.size + 2) 131 #[.bool (decide (sgN m (a + b) < 0)), .slice p7 n7 c7] (0, 0) _ rfl ((HBL.out.set 0 _).set 1 _) Tryz.underlying131 rfl num_size) rfl ?_
    have hb := HBb.out.mono (show w.heap.size ≤ W0.heap.size by have := HN.out; omega)
    exact ⟨_, rfl, ZN.mk (HO7.out.box HBL.out _ _), HB0.out.trans (below_box hb (show w.heap.size ≤ w.heap.size + 2 by omega) _ _)⟩
theorem sum_ge (m : Bool) (p q : Option Addr) (n c k d a b : Nat) (w : World) (hu : NV w (.slice p n c) a) (hv : NV w (.slice q k d) b) (hab : b ≤ a) :
    Calls Tryz.prog 197 #[.agg #[.bool m, .slice p n c], .agg #[.bool (!m), .slice q k d]] w fun e w' => ∃ u, e = .returned u ∧ ZN w' u (sgN m (a - b)) ∧ Below w.heap.size w w' := by
  obtain ⟨W0, hW0⟩ : ∃ W0, W0 = box3 w m (.slice p n c) (!m) (.slice q k d) := ⟨_, rfl⟩
  have hb0 : Below w.heap.size w W0 := by rw [hW0]; exact box3_below ..
  have hs0 : W0.heap.size = w.heap.size + 3 := by rw [hW0]; exact box3_size ..
  have HK := box3_in w W0 _ _ _ _ hW0
  have HR := box3_res w W0 _ _ _ _ hW0
  have HT : Hid (∀ W, Below W0.heap.size W0 W → Calls Tryz.prog 218 #[.slice p n c, .slice q k d] W fun e w' => ∃ v, e = .returned v ∧ NV w' v (a - b) ∧ Below W.heap.size W w') := fun W h => less_any _ _ _ _ W (NV.below (hu.below hb0) h) (NV.below (hv.below hb0) h) hab
  have HB0 := Lib.hid hb0
  have HW0 : Hid (W0 = ((w.alloc (.cells #[.bool m, .slice p n c] 131)).alloc (.cells #[.bool (!m), .slice q k d] 131)).alloc (.cells #[.bool false, .slice none 0 0] 131)) := hW0
  have HN := Lib.hid hs0
  have HC := Lib.hid (ncmp_any (.slice p n c) (.slice q k d) a b W0 (hu.below hb0) (hv.below hb0))
  have HAB := Lib.hid hab
  clear hu hv hb0 hW0 hs0 hab
  go_enter Tryz.func197, Tryz.ntmps197
  go_wp2_with fail
  rw [← HW0.out]
  refine HC.out.mono ?_
  rintro e wd ⟨nd, z, rfl, rfl, hz⟩
  have hz' : 0 ≤ z := by have := HAB.out; omega
  clear hz
  have HBs := Lib.hid ((below_drewN (Below.refl W0.heap.size W0) nd).drew)
  have HS0 := Lib.hid (HK.out (W0.drewN nd).drew (below_drewN (Below.refl _ _) nd).drew)
  have HT1 := Lib.hid (HT.out (W0.drewN nd).drew HBs.out)
  go_wp2_with fail
  go_region_held3 (fun W' : World => W'.cell? ⟨w.heap.size, 0, none⟩ = some (.bool m) ∧ W'.cell? ⟨w.heap.size, 1, none⟩ = some (.slice p n c) ∧ W'.cell? ⟨w.heap.size + 1, 0, none⟩ = some (.bool (!m)) ∧ W'.cell? ⟨w.heap.size + 1, 1, none⟩ = some (.slice q k d) ∧ Below (w.heap.size + 2) W0 W')
    (first | exact HS0.out | exact HSa.out | exact HSb.out | exact HK.out _ ((HSb.out.2.2.2.2.setCell (by simp) _).setCell (by simp) _))
    (first
      | (go_at_call 218; refine HT1.out.mono ?_; rintro e w6 ⟨v6, rfl, ho6, hb6⟩; have HBa := Lib.hid (HBs.out.trans (hb6.mono HBs.out.size)); have HSa := Lib.hid (HK.out w6 (HBa.out.mono (by have := HN.out; omega))); have HSg := Lib.hid (signed_any m v6 _ w6 ho6); clear ho6 hb6)
      | (go_at_call 136; refine HSg.out.mono ?_; rintro e w7 ⟨p7, n7, c7, rfl, ho7, hb7⟩; have HBb := Lib.hid (HBa.out.trans (hb7.mono HBa.out.size)); have HSb := Lib.hid (HK.out w7 (HBb.out.mono (by have := HN.out; omega))); have HO7 := Lib.hid ho7; obtain ⟨k0, k1, f0, f1, bl⟩ := HR.out w7 HBb.out; have HBL := Lib.hid bl; clear ho7 hb7 bl))
  all_goals
    go_wp2_with fail
    refine bodyPost_ret (results_cell_row rfl _ _ (w.heap.size + 2) 131 #[.bool (decide (sgN m (a - b) < 0)), .slice p7 n7 c7] (0, 0) _ rfl ((HBL.out.set 0 _).set 1 _) Tryz.underlying131 rfl num_size) rfl ?_
    have hb := HBb.out.mono (show w.heap.size ≤ W0.heap.size by have := HN.out; omega)
    exact ⟨_, rfl, ZN.mk (HO7.out.box HBL.out _ _), HB0.out.trans (below_box hb (show w.heap.size ≤ w.heap.size + 2 by omega) _ _)⟩
theorem sum_lt (m : Bool) (p q : Option Addr) (n c k d a b : Nat) (w : World) (hu : NV w (.slice p n c) a) (hv : NV w (.slice q k d) b) (hab : a < b) :
    Calls Tryz.prog 197 #[.agg #[.bool m, .slice p n c], .agg #[.bool (!m), .slice q k d]] w fun e w' => ∃ u, e = .returned u ∧ ZN w' u (sgN (!m) (b - a)) ∧ Below w.heap.size w w' := by
  obtain ⟨W0, hW0⟩ : ∃ W0, W0 = box3 w m (.slice p n c) (!m) (.slice q k d) := ⟨_, rfl⟩
  have hb0 : Below w.heap.size w W0 := by rw [hW0]; exact box3_below ..
  have hs0 : W0.heap.size = w.heap.size + 3 := by rw [hW0]; exact box3_size ..
  have HK := box3_in w W0 _ _ _ _ hW0
  have HR := box3_res w W0 _ _ _ _ hW0
  have HT : Hid (∀ W, Below W0.heap.size W0 W → Calls Tryz.prog 218 #[.slice q k d, .slice p n c] W fun e w' => ∃ v, e = .returned v ∧ NV w' v (b - a) ∧ Below W.heap.size W w') := fun W h => less_any _ _ _ _ W (NV.below (hv.below hb0) h) (NV.below (hu.below hb0) h) (by omega)
  have HB0 := Lib.hid hb0
  have HW0 : Hid (W0 = ((w.alloc (.cells #[.bool m, .slice p n c] 131)).alloc (.cells #[.bool (!m), .slice q k d] 131)).alloc (.cells #[.bool false, .slice none 0 0] 131)) := hW0
  have HN := Lib.hid hs0
  have HC := Lib.hid (ncmp_any (.slice p n c) (.slice q k d) a b W0 (hu.below hb0) (hv.below hb0))
  have HAB := Lib.hid hab
  clear hu hv hb0 hW0 hs0 hab
  go_enter Tryz.func197, Tryz.ntmps197
  go_wp2_with fail
  rw [← HW0.out]
  refine HC.out.mono ?_
  rintro e wd ⟨nd, z, rfl, rfl, hz⟩
  have hz' : ¬ 0 ≤ z := by have := HAB.out; omega
  clear hz
  have HBs := Lib.hid ((below_drewN (Below.refl W0.heap.size W0) nd).drew)
  have HS0 := Lib.hid (HK.out (W0.drewN nd).drew (below_drewN (Below.refl _ _) nd).drew)
  have HT1 := Lib.hid (HT.out (W0.drewN nd).drew HBs.out)
  go_wp2_with fail
  go_region_held3 (fun W' : World => W'.cell? ⟨w.heap.size, 0, none⟩ = some (.bool m) ∧ W'.cell? ⟨w.heap.size, 1, none⟩ = some (.slice p n c) ∧ W'.cell? ⟨w.heap.size + 1, 0, none⟩ = some (.bool (!m)) ∧ W'.cell? ⟨w.heap.size + 1, 1, none⟩ = some (.slice q k d) ∧ Below (w.heap.size + 2) W0 W')
    (first | exact HS0.out | exact HSa.out | exact HSb.out | exact HK.out _ ((HSb.out.2.2.2.2.setCell (by simp) _).setCell (by simp) _))
    (first
      | (go_at_call 218; refine HT1.out.mono ?_; rintro e w6 ⟨v6, rfl, ho6, hb6⟩; have HBa := Lib.hid (HBs.out.trans (hb6.mono HBs.out.size)); have HSa := Lib.hid (HK.out w6 (HBa.out.mono (by have := HN.out; omega))); have HSg := Lib.hid (signed_any (!m) v6 _ w6 ho6); clear ho6 hb6)
      | (go_at_call 136; refine HSg.out.mono ?_; rintro e w7 ⟨p7, n7, c7, rfl, ho7, hb7⟩; have HBb := Lib.hid (HBa.out.trans (hb7.mono HBa.out.size)); have HSb := Lib.hid (HK.out w7 (HBb.out.mono (by have := HN.out; omega))); have HO7 := Lib.hid ho7; obtain ⟨k0, k1, f0, f1, bl⟩ := HR.out w7 HBb.out; have HBL := Lib.hid bl; clear ho7 hb7 bl))
  all_goals
    go_wp2_with fail
    refine bodyPost_ret (results_cell_row rfl _ _ (w.heap.size + 2) 131 #[.bool (decide (sgN (!m) (b - a) < 0)), .slice p7 n7 c7] (0, 0) _ rfl ((HBL.out.set 0 _).set 1 _) Tryz.underlying131 rfl num_size) rfl ?_
    have hb := HBb.out.mono (show w.heap.size ≤ W0.heap.size by have := HN.out; omega)
    exact ⟨_, rfl, ZN.mk (HO7.out.box HBL.out _ _), HB0.out.trans (below_box hb (show w.heap.size ≤ w.heap.size + 2 by omega) _ _)⟩
theorem sum_any (vx vy : Value) (x y : Int) (w : World) (hx : ZN w vx x) (hy : ZN w vy y) (hxy : x.natAbs + y.natAbs < 1000000000) :
    Calls Tryz.prog 197 #[vx, vy] w fun e w' => ∃ u, e = .returned u ∧ ZN w' u (x + y) ∧ Below w.heap.size w w' := by
  obtain ⟨p, n, c, rfl, hu⟩ := hx.parts
  obtain ⟨q, k, d, rfl, hv⟩ := hy.parts
  by_cases hm : decide (y < 0) = decide (x < 0)
  · have he : sgN (decide (x < 0)) (x.natAbs + y.natAbs) = x + y := by
      by_cases h1 : x < 0 <;> by_cases h2 : y < 0 <;> simp [h1, h2] at hm <;> simp [sgN, h1] <;> omega
    have := sum_same (decide (x < 0)) p q n c k d _ _ w hu hv hxy
    rw [he] at this
    rw [hm]
    exact this
  · have hm' : decide (y < 0) = !decide (x < 0) := by
      by_cases h1 : x < 0 <;> by_cases h2 : y < 0 <;> simp [h1, h2] at hm ⊢
    by_cases hab : y.natAbs ≤ x.natAbs
    · have he : sgN (decide (x < 0)) (x.natAbs - y.natAbs) = x + y := by
        by_cases h1 : x < 0 <;> by_cases h2 : y < 0 <;> simp [h1, h2] at hm <;> simp [sgN, h1] <;> omega
      have := sum_ge (decide (x < 0)) p q n c k d _ _ w hu hv hab
      rw [he] at this
      rw [hm']
      exact this
    · have he : sgN (!decide (x < 0)) (y.natAbs - x.natAbs) = x + y := by
        by_cases h1 : x < 0 <;> by_cases h2 : y < 0 <;> simp [h1, h2] at hm <;> simp [sgN, h1] <;> omega
      have := sum_lt (decide (x < 0)) p q n c k d _ _ w hu hv (by omega)
      rw [he] at this
      rw [hm']
      exact this
end Go.Proofs.YtjfggodnfoknfaaGreatDoor

namespace Go.Proofs.YtjfggodnfoknfaaGreatDoor
open Go.RowKit
theorem subClo_any (vx vy : Value) (x y : Int) (w : World) (hx : ZN w vx x) (hy : ZN w vy y) (hxy : x.natAbs + y.natAbs < 1000000000) :
    Calls Tryz.prog 196 #[vx, vy] w fun e w' => ∃ u, e = .returned u ∧ ZN w' u (x - y) ∧ Below w.heap.size w w' := by
  obtain ⟨p, n, c, rfl, hu⟩ := hx.parts
  obtain ⟨q, k, d, rfl, hv⟩ := hy.parts
  obtain ⟨W0, hW0⟩ : ∃ W0, W0 = box3 w (decide (x < 0)) (.slice p n c) (decide (y < 0)) (.slice q k d) := ⟨_, rfl⟩
  have hb0 : Below w.heap.size w W0 := by rw [hW0]; exact box3_below ..
  have hs0 : W0.heap.size = w.heap.size + 3 := by rw [hW0]; exact box3_size ..
  have HK := box3_in w W0 _ _ _ _ hW0
  have HR := box3_res w W0 _ _ _ _ hW0
  have HS0 := Lib.hid (HK.out W0.drew (Below.refl _ _).drew)
  have HT := Lib.hid (neg_any (.agg #[.bool (decide (y < 0)), .slice q k d]) y W0.drew (ZN.below (hy.below hb0) (Below.refl _ _).drew))
  have HX : Hid (∀ W v, Below W0.heap.size W0 W → ZN W v (-y) → Calls Tryz.prog 197 #[.agg #[.bool (decide (x < 0)), .slice p n c], v] W fun e w' => ∃ u, e = .returned u ∧ ZN w' u (x - y) ∧ Below W.heap.size W w') := fun W v h1 h2 => by
    have := sum_any _ v x (-y) W (ZN.below (hx.below hb0) h1) h2 (by rw [Int.natAbs_neg]; exact hxy)
    rwa [← Int.sub_eq_add_neg] at this
  have HB0 := Lib.hid hb0
  have HW0 : Hid (W0 = ((w.alloc (.cells #[.bool (decide (x < 0)), .slice p n c] 131)).alloc (.cells #[.bool (decide (y < 0)), .slice q k d] 131)).alloc (.cells #[.bool false, .slice none 0 0] 131)) := hW0
  have HN := Lib.hid hs0
  clear hx hy hu hv hb0 hW0 hxy hs0
  generalize x - y = z at *
  go_enter Tryz.func196, Tryz.ntmps196
  go_wp2_with fail
  rw [← HW0.out]
  go_region_held3 (fun W' : World => W'.cell? ⟨w.heap.size, 0, none⟩ = some (.bool (decide (x < 0))) ∧ W'.cell? ⟨w.heap.size, 1, none⟩ = some (.slice p n c) ∧ W'.cell? ⟨w.heap.size + 1, 0, none⟩ = some (.bool (decide (y < 0))) ∧ W'.cell? ⟨w.heap.size + 1, 1, none⟩ = some (.slice q k d) ∧ Below (w.heap.size + 2) W0 W')
    (first | exact HS0.out | exact HSa.out | exact HSb.out | exact HK.out _ ((HSb.out.2.2.2.2.setCell (by simp) _).setCell (by simp) _))
    (first
      | (go_at_call 96; refine HT.out.mono ?_; rintro e w6 ⟨v6, rfl, ho6, hb6⟩; have HBa := Lib.hid ((Below.refl W0.heap.size W0).drew.trans hb6); have HSa := Lib.hid (HK.out w6 (HBa.out.mono (by have := HN.out; omega))); have HSg := Lib.hid (HX.out w6 v6 HBa.out ho6); clear ho6 hb6)
      | (go_at_call 197; refine HSg.out.mono ?_; rintro e w7 ⟨v7, rfl, ho7, hb7⟩; obtain ⟨p7, n7, c7, rfl, hn7⟩ := ho7.parts; have HBb := Lib.hid (HBa.out.trans (hb7.mono HBa.out.size)); have HSb := Lib.hid (HK.out w7 (HBb.out.mono (by have := HN.out; omega))); have HO7 := Lib.hid hn7; obtain ⟨k0, k1, f0, f1, bl⟩ := HR.out w7 HBb.out; have HBL := Lib.hid bl; clear ho7 hb7 hn7 bl))
  all_goals
    go_wp2_with fail
    refine bodyPost_ret (results_cell_row rfl _ _ (w.heap.size + 2) 131 #[.bool (decide (z < 0)), .slice p7 n7 c7] (0, 0) _ rfl ((HBL.out.set 0 _).set 1 _) Tryz.underlying131 rfl num_size) rfl ?_
    have hb := HBb.out.mono (show w.heap.size ≤ W0.heap.size by have := HN.out; omega)
    exact ⟨_, rfl, ZN.mk (HO7.out.box HBL.out _ _), HB0.out.trans (below_box hb (show w.heap.size ≤ w.heap.size + 2 by omega) _ _)⟩
end Go.Proofs.YtjfggodnfoknfaaGreatDoor

