/- Contracts of the references' Settled and Form.
   Contracts of the references' Form, Normal and Principal.
   Contracts of the references' Form, Normal and Principal.
   Contracts of the references' Form, Normal and Principal.
   The law EquivalenceNames: what the function answers. -/
import Derived.Test.YtefggpdobjboeaaGreatG34
import Derived.Test.YtefggpdobjboeaaGreatG32
namespace Go.Proofs.YtefggpdobjboeaaGreat
open Go.RowKit Go.Shelf

set_option maxRecDepth 100000 in
set_option maxHeartbeats 8000000 in
theorem rSettled_any (g vd : Value) (n : Nat) (es : List Tri) (d r s : List Int) (w : World) (hg : GV w g n es) (hd : RI w vd d) (hr : Rt n es) (hdl : d.length = n) (hb : Bd 100 d) (h : Red n 0 es d r s) :
    Calls Tryz.prog 104 #[g, .int .i64 0, vd] w fun e w' => ∃ v, e = .returned v ∧ RI w' v (offL r) ∧ Below w.heap.size w w' := by
  obtain ⟨A2, c2, rfl, -⟩ := hd.open_
  obtain ⟨A, c, rfl, -⟩ := hg.open_
  obtain ⟨W0, hW0⟩ : ∃ W0, W0 = w.alloc (.cells #[.int .i64 (n:Int), .slice A es.length c] 24) := ⟨_, rfl⟩
  have hb0 : Below w.heap.size w W0 := by rw [hW0]; exact below_alloc w _
  have hx0 : BL W0 w.heap.size 24 [.int .i64 (n:Int), .slice A es.length c] := by rw [hW0]; exact BL.new' w _ _
  have c0 := hx0.cell 0
  have c1 := hx0.cell 1
  have HX0 := Lib.hid hx0
  have HG0 := Lib.hid (hg.below hb0)
  have HB0 := Lib.hid hb0
  have HW0 := Lib.hid hW0
  rw [hW0] at c0 c1
  clear hg hx0 hW0
  have hn1 := hr.n1
  have hn6 := hr.n6
  have HCl := Lib.hid (rCalms_any _ n 0 es W0 HG0.out hr.ed hn6 (by omega))
  have HRk : Hid (∀ x ∈ calmsL n 0 es, x.length = n ∧ Bd 9 x) := fun x hx => ⟨(calm_bd hr hx).1, (calm_bd hr hx).2.1⟩
  have HIn : Hid (offL r ∈ calmsL n 0 es) := off_calm hr h
  have hfb : Bd 700 (flatL d 0) := flat_bd hdl (by omega) hn6 (by decide) hb (by decide)
  have HD0 := Lib.hid (RI.below hd hb0)
  have HFd : Hid (∀ W, Below W0.heap.size W0 W → Calls Tryz.prog 148 #[.slice A2 d.length c2, .int .i64 0] W fun e w' => ∃ v, e = .returned v ∧ OI w' W.heap.size v (flatL d 0) ∧ Below W.heap.size W w') := fun W hw =>
    rFlat_any _ 0 d W (RI.below HD0.out hw) (by omega) (by omega) (hb.mono (by decide))
  have HFx : Hid (∀ (W : World) (v : Value) (x : List Int), x ∈ calmsL n 0 es → RI W v x → Calls Tryz.prog 148 #[v, .int .i64 0] W fun e w' => ∃ v, e = .returned v ∧ OI w' W.heap.size v (flatL x 0) ∧ Below W.heap.size W w') := fun W v x hx hv => by
    obtain ⟨h1, h2⟩ := HRk.out x hx
    exact rFlat_any _ 0 x W hv (by omega) (by omega) (h2.mono (by decide))
  have HAl : Hid (∀ (W : World) (va vb : Value) (x : List Int), x ∈ calmsL n 0 es → Below W0.heap.size W0 W → RI W va (flatL d 0) → RI W vb (flatL x 0) → Calls Tryz.prog 64 #[.agg #[.int .i64 (n : Int), .slice A es.length c], va, vb] W fun e w' => e = .returned (.bool (decide (x = offL r))) ∧ Below W.heap.size W w') := fun W va vb x hx hw h1 h2 => by
    obtain ⟨h3, h4⟩ := HRk.out x hx
    have hxb : Bd 63 (flatL x 0) := flat_bd h3 (by omega) hn6 (by decide) h4 (by decide)
    obtain ⟨m, hm⟩ : ∃ m, n = m + 1 := ⟨n - 1, by omega⟩
    have hfl : (flatL d 0).length = n := by rw [flatL_len]; exact hdl
    have hxl : (flatL x 0).length = n := by rw [flatL_len]; exact h3
    have hdb := minus_bd (C := 1000) hfl hxl hfb hxb (by decide) (by decide)
    have hA := rAlike_any (.agg #[.int .i64 ((m + 1 : Nat) : Int), .slice A es.length c]) va vb m es _ _ W (by rw [← hm]; exact HG0.out.below hw) h1 h2 (by rw [← hm]; exact hr.ed) (by omega) (by rw [← hm]; exact hr.cn) hr.nn (by omega) (by omega) (hfb.mono (by decide)) (hxb.mono (by decide)) hdb
    rw [← hm] at hA
    refine hA.mono ?_
    rintro e w' ⟨out, ok, rfl, hbw, hs⟩
    exact ⟨by rw [settled_ok hr hdl h hx hs], hbw⟩
  have e0 := HX0.out.cell 0
  have e1 := HX0.out.cell 1
  clear hd hr hb h hb0 hfb hn1 hn6 hdl
  generalize calmsL n 0 es = rows at *
  go_enter Tryz.func104, Tryz.ntmps104
  go_wp2_with fail
  rw [← HW0.out]
  refine HCl.out.mono ?_
  rintro e w1 ⟨vl, rfl, hrr, hb1⟩
  obtain ⟨Al, cl, rfl, hrl, hrc, hrows⟩ := hrr.open_
  have HRows := Lib.hid hrows
  have HB1 := Lib.hid hb1
  have HKx : Hid (∀ (k : Nat) (x : List Int), rows[k]? = some x → x ∈ rows) := fun k x hk => List.mem_of_getElem? hk
  clear c0 c1 e0 e1 hrr hb1 hrows
  go_wp2_with fail
  go_loopw [8] (fun i wr => ∃ k : Nat, k ≤ rows.length ∧ i = .int .i64 (k : Int) ∧ Hid (∀ (j : Nat) (x : List Int), j < k → rows[j]? = some x → x ≠ offL r) ∧ Hid (Below w1.heap.size w1 wr)) (fun i _ => rows.length - (intOf i).toNat)
  case atStart => exact ⟨0, Nat.zero_le _, rfl, fun j x hj => absurd hj (by omega), Below.refl _ _⟩
  case round =>
    obtain ⟨k, hk, rfl, hA, hb⟩ := hrel
    by_cases hlt : k < rows.length
    · obtain ⟨ad, x, A1, c1, hAl, hadb, hx, hcl, hxr⟩ := HRows.out k hlt
      subst hAl
      have hxm := HKx.out k x hx
      have hcl1 : wr.cell? (ad.add k) = some (.slice A1 x.length c1) := (hb.out.cell (by rw [block_of_add]; exact hadb)).trans hcl
      have hbw := HB1.out.trans (hb.out.mono HB1.out.size)
      have d0 := (HX0.out.bel hbw).cell 0
      have d1 := (HX0.out.bel hbw).cell 1
      have HXr := Lib.hid ((RI.below hxr hb.out).below (Below.refl _ _).drew)
      have HFd0 := Lib.hid (HFd.out wr.drew hbw.drew)
      have HFx0 := Lib.hid (HFx.out wr.drew _ x hxm HXr.out)
      have HK : Hid (∀ W, Below wr.drew.heap.size wr.drew W → (W.cell? ⟨w.heap.size, 0, none⟩ = some (.int .i64 (n : Int)) ∧ W.cell? ⟨w.heap.size, 1, none⟩ = some (.slice A es.length c) ∧ W.cell? (ad.add k) = some (.slice A1 x.length c1)) ∧ Below W0.heap.size W0 W ∧ RI W (.slice A1 x.length c1) x) := fun W hW =>
        ⟨⟨(hW.cell (p := ⟨w.heap.size, 0, none⟩) (block_lt_of_cell d0)).trans d0, (hW.cell (p := ⟨w.heap.size, 1, none⟩) (block_lt_of_cell d1)).trans d1, (hW.cell (p := ad.add k) (block_lt_of_cell hcl1)).trans hcl1⟩, hbw.drew.trans (hW.mono (hbw.drew).size), RI.below HXr.out hW⟩
      have HK0 := Lib.hid (HK.out wr.drew (Below.refl _ _)).1
      have HAx : Hid (∀ (W : World) (va vb : Value), Below wr.drew.heap.size wr.drew W → RI W va (flatL d 0) → RI W vb (flatL x 0) → Calls Tryz.prog 64 #[.agg #[.int .i64 (n : Int), .slice A es.length c], va, vb] W fun e w' => e = .returned (.bool (decide (x = offL r))) ∧ Below W.heap.size W w') := fun W va vb h1 h2 h3 =>
        HAl.out W va vb x hxm (HK.out W h1).2.1 h2 h3
      have HFdW : Hid (∀ W, Below wr.drew.heap.size wr.drew W → Calls Tryz.prog 148 #[.slice A2 d.length c2, .int .i64 0] W fun e w' => ∃ v, e = .returned v ∧ OI w' W.heap.size v (flatL d 0) ∧ Below W.heap.size W w') := fun W h1 => HFd.out W (HK.out W h1).2.1
      have HFxW : Hid (∀ W, Below wr.drew.heap.size wr.drew W → Calls Tryz.prog 148 #[.slice A1 x.length c1, .int .i64 0] W fun e w' => ∃ v, e = .returned v ∧ OI w' W.heap.size v (flatL x 0) ∧ Below W.heap.size W w') := fun W h1 => HFx.out W _ x hxm (HK.out W h1).2.2
      have HX := Lib.hid hx
      clear hcl hxr hbw hxm hx
      by_cases hdec : x = offL r
      · have hdt : decide (x = offL r) = true := decide_eq_true hdec
        have HDe := Lib.hid hdec
        rw [hdt] at HAx
        clear hdt hdec
        go_wp2_with fail
        go_region_held3 (fun W' : World => W'.cell? ⟨w.heap.size, 0, none⟩ = some (.int .i64 (n : Int)) ∧ W'.cell? ⟨w.heap.size, 1, none⟩ = some (.slice A es.length c) ∧ W'.cell? (ad.add k) = some (.slice A1 x.length c1)) (first | exact HK0.out | exact HSa.out | exact HSb.out | exact HSc.out)
          (first
            | (go_at_call 64; (with_reducible refine HAy.out.mono ?_); rintro e w8 ⟨rfl, hb8⟩; have HBc := Lib.hid (HBb.out.trans (hb8.mono HBb.out.size)); have HSc := Lib.hid (HK.out w8 HBc.out).1; clear hb8)
            | (go_at_call 148; (with_reducible refine HFd0.out.mono ?_); rintro e w6 ⟨v6, rfl, ho6, hb6⟩; have HOa := Lib.hid ho6.rv; have HBa := Lib.hid hb6; have HSa := Lib.hid (HK.out w6 hb6).1; have HFx1 := Lib.hid (HFxW.out w6 hb6); clear ho6 hb6)
            | (go_at_call 148; (with_reducible refine HFx1.out.mono ?_); rintro e w7 ⟨v7, rfl, ho7, hb7⟩; have HBb := Lib.hid (HBa.out.trans (hb7.mono HBa.out.size)); have HAy := Lib.hid (HAx.out w7 _ v7 HBb.out (RI.below HOa.out hb7) ho7.rv); have HSb := Lib.hid (HK.out w7 HBb.out).1; clear ho7 hb7)
            | (go_at_call 148; (with_reducible refine HFx0.out.mono ?_); rintro e w6 ⟨v6, rfl, ho6, hb6⟩; have HOa := Lib.hid ho6.rv; have HBa := Lib.hid hb6; have HSa := Lib.hid (HK.out w6 hb6).1; have HFd1 := Lib.hid (HFdW.out w6 hb6); clear ho6 hb6)
            | (go_at_call 148; (with_reducible refine HFd1.out.mono ?_); rintro e w7 ⟨v7, rfl, ho7, hb7⟩; have HBb := Lib.hid (HBa.out.trans (hb7.mono HBa.out.size)); have HAy := Lib.hid (HAx.out w7 v7 _ HBb.out ho7.rv (RI.below HOa.out hb7)); have HSb := Lib.hid (HK.out w7 HBb.out).1; clear ho7 hb7))
        all_goals
          have m1 := HSc.out.2.2
          have HR8 := Lib.hid (HK.out w8 HBc.out).2
          clear d0 d1 hcl1
          go_wp2
          go_ret
          exact ⟨_, rfl, by rw [← HDe.out]; exact HR8.out.2, HB0.out.trans (HR8.out.1.mono HB0.out.size)⟩
      · have hdt : decide (x = offL r) = false := decide_eq_false hdec
        have HDe := Lib.hid hdec
        rw [hdt] at HAx
        clear hdt hdec
        have HA2 : Hid (∀ (j : Nat) (y : List Int), j < k + 1 → rows[j]? = some y → y ≠ offL r) := fun j y hj hy => by
          by_cases e : j = k
          · subst e
            rw [HX.out] at hy
            cases hy
            exact HDe.out
          · exact hA.out j y (by omega) hy
        go_wp2_with fail
        go_region_held3 (fun W' : World => W'.cell? ⟨w.heap.size, 0, none⟩ = some (.int .i64 (n : Int)) ∧ W'.cell? ⟨w.heap.size, 1, none⟩ = some (.slice A es.length c) ∧ W'.cell? (ad.add k) = some (.slice A1 x.length c1)) (first | exact HK0.out | exact HSa.out | exact HSb.out | exact HSc.out)
          (first
            | (go_at_call 64; (with_reducible refine HAy.out.mono ?_); rintro e w8 ⟨rfl, hb8⟩; have HBc := Lib.hid (HBb.out.trans (hb8.mono HBb.out.size)); have HSc := Lib.hid (HK.out w8 HBc.out).1; clear hb8)
            | (go_at_call 148; (with_reducible refine HFd0.out.mono ?_); rintro e w6 ⟨v6, rfl, ho6, hb6⟩; have HOa := Lib.hid ho6.rv; have HBa := Lib.hid hb6; have HSa := Lib.hid (HK.out w6 hb6).1; have HFx1 := Lib.hid (HFxW.out w6 hb6); clear ho6 hb6)
            | (go_at_call 148; (with_reducible refine HFx1.out.mono ?_); rintro e w7 ⟨v7, rfl, ho7, hb7⟩; have HBb := Lib.hid (HBa.out.trans (hb7.mono HBa.out.size)); have HAy := Lib.hid (HAx.out w7 _ v7 HBb.out (RI.below HOa.out hb7) ho7.rv); have HSb := Lib.hid (HK.out w7 HBb.out).1; clear ho7 hb7)
            | (go_at_call 148; (with_reducible refine HFx0.out.mono ?_); rintro e w6 ⟨v6, rfl, ho6, hb6⟩; have HOa := Lib.hid ho6.rv; have HBa := Lib.hid hb6; have HSa := Lib.hid (HK.out w6 hb6).1; have HFd1 := Lib.hid (HFdW.out w6 hb6); clear ho6 hb6)
            | (go_at_call 148; (with_reducible refine HFd1.out.mono ?_); rintro e w7 ⟨v7, rfl, ho7, hb7⟩; have HBb := Lib.hid (HBa.out.trans (hb7.mono HBa.out.size)); have HAy := Lib.hid (HAx.out w7 v7 _ HBb.out ho7.rv (RI.below HOa.out hb7)); have HSb := Lib.hid (HK.out w7 HBb.out).1; clear ho7 hb7))
        all_goals
          have HB8 := Lib.hid (hb.out.trans (((Below.refl wr.heap.size wr).drew.trans (HBc.out.mono (Nat.le_refl _))).mono hb.out.size))
          clear d0 d1 hcl1
          go_wp2
          go_roundw
          case rel => exact ⟨k + 1, by omega, by go_num, HA2.out, HB8.out⟩
          case measure => simp [intOf]; omega
    · obtain rfl : k = rows.length := by omega
      obtain ⟨j, hj, e⟩ := List.mem_iff_getElem.1 HIn.out
      exact absurd rfl (hA.out j (offL r) hj (by rw [List.getElem?_eq_getElem hj, e]))
end Go.Proofs.YtefggpdobjboeaaGreat

namespace Go.Proofs.YtefggpdobjboeaaGreat
open Go.RowKit Go.Shelf

set_option maxRecDepth 100000 in
set_option maxHeartbeats 8000000 in
theorem rForm_any (g vd : Value) (n : Nat) (es : List Tri) (d r s : List Int) (w : World) (hg : GV w g n es) (hd : RI w vd d) (hr : Rt n es) (hdl : d.length = n) (hb : Bd 100 d) (h : Red n 0 es d r s) :
    Calls Tryz.prog 61 #[g, .int .i64 0, vd] w fun e w' => ∃ v, e = .returned v ∧ OI w' w.heap.size v r ∧ Below w.heap.size w w' := by
  obtain ⟨i0, hi, hz0, hz1, hz2⟩ := info_parts int_info
  obtain ⟨A2, c2, rfl, -⟩ := hd.open_
  obtain ⟨A, c, rfl, -⟩ := hg.open_
  obtain ⟨W0, hW0⟩ : ∃ W0, W0 = w.alloc (.cells #[.int .i64 (n:Int), .slice A es.length c] 24) := ⟨_, rfl⟩
  have hb0 : Below w.heap.size w W0 := by rw [hW0]; exact below_alloc w _
  have hx0 : BL W0 w.heap.size 24 [.int .i64 (n:Int), .slice A es.length c] := by rw [hW0]; exact BL.new' w _ _
  have c0 := hx0.cell 0
  have c1 := hx0.cell 1
  have HX0 := Lib.hid hx0
  have HG0 := Lib.hid (hg.below hb0)
  have HB0 := Lib.hid hb0
  have HW0 := Lib.hid hW0
  rw [hW0] at c0 c1
  clear hg hx0 hW0
  have hn1 := hr.n1
  have hn6 := hr.n6
  have hb1 := below_alloc W0 (.cells #[] 3)
  have HD0 := Lib.hid (RI.below hd hb0)
  have HSt := Lib.hid (rSettled_any _ (.slice A2 d.length c2) n es d r s (W0.alloc (.cells #[] 3)) (HG0.out.below hb1) (RI.below HD0.out hb1) hr hdl hb h)
  have ho0 := own_empty W0
  have hz0' : W0.heap.size = w.heap.size + 1 := by rw [HW0.out]; simp
  rw [hz0'] at ho0
  have HZ := Lib.hid hz0'
  have HO0 := Lib.hid ho0
  have HB1 := Lib.hid hb1
  have hol : (offL r).length = n := by rw [off_len, h.rl]
  have HFq := form_eq hn1 hdl h
  have HFe := Lib.hid HFq
  have hql : d.length ≤ 100 := by omega
  have HBd := Lib.hid hb
  have hob := (calm_bd hr (off_calm hr h)).2.1
  have HOb := Lib.hid hob
  have hx1 : 1 ≤ (offL r).length := by omega
  have hx2 : (offL r).length ≤ 6 := by omega
  have hs1 := sum_take_bd (by decide) hb d.length
  have hs2 := sum_take_bd (by decide) hob (offL r).length
  rw [List.take_of_length_le (Nat.le_refl _)] at hs1 hs2
  have e0 := HX0.out.cell 0
  have e1 := HX0.out.cell 1
  have f0 := fun o => ((below_alloc W0 o).cell (block_lt_of_cell e0)).trans e0
  have f1 := fun o => ((below_alloc W0 o).cell (block_lt_of_cell e1)).trans e1
  clear hd hr hb h hb0 hb1 ho0 HFq hob hz0' hol hdl hn1 hn6
  generalize offL r = x at *
  go_enter Tryz.func61, Tryz.ntmps61
  go_wp2_with fail
  rw [← HW0.out]
  refine HSt.out.mono ?_
  rintro e w1 ⟨v1, rfl, hri, hb2⟩
  have HBw := Lib.hid (HB1.out.trans (hb2.mono HB1.out.size))
  obtain ⟨Ax, cx, rfl, -⟩ := hri.open_
  have HI1 := Lib.hid (ints_one x)
  have HO1 := Lib.hid (HO0.out.below hb2)
  have HX1 := Lib.hid hri
  have hszw := HBw.out.size
  rw [HZ.out] at hszw
  clear hri hb2 e0 e1 f0 f1 c0 c1
  go_wp2_with (at_builtin; refine wpList_appendV _ rfl _ _ _ rfl 3 i0 _ 8 Tryz.underlying25 hi hz0 hz1 hz2 rfl (w.heap.size + 1) _ [] rfl HO1.out _ _ rfl HX1.out HI1.out (by first | omega | (simp; omega)) (by first | omega | (simp; omega)) hszw ?_; intro v1 w2 hown1 hg1 hat1; have HB2 := Lib.hid (show Below W0.heap.size W0 w2 from by have h := below_own (B := w.heap.size + 1) (w0 := W0) (by rw [← HZ.out]; exact HBw.out) (by rw [← HZ.out]; exact HBw.out.size) HO1.out hg1; rw [HZ.out]; exact h); obtain ⟨g1, cap1, ev, -, -⟩ := OV.shape hown1 (by simp; omega); rw [show (([] : List Value) ++ x.map (Value.int .i64)).length = x.length by simp] at ev; subst ev; have HO2 := Lib.hid (show OI w2 (w.heap.size + 1) (.slice (some ⟨g1, 0, none⟩) x.length cap1) x from (by show OV _ _ _ _ _; simpa using hown1)); obtain ⟨-, hgB, q1, q2, q3⟩ := OI.at' HO2.out (show 0 < x.length from hx1); have HS3 := Lib.hid (q3 (d.sum - x.sum)).1; have HGB := Lib.hid hgB; clear q3 hgB hown1 hg1 hat1)
  have HT1 := Lib.hid (rTot_any _ d w2 (RI.below HD0.out HB2.out) hql (HBd.out.mono (by decide)))
  have HT2 := Lib.hid (rTot_any _ x w2 HO2.out.rv (by omega) (HOb.out.mono (by decide)))
  generalize hds : d.sum = y at *
  generalize hxs : x.sum = z at *
  clear hds hxs
  go_wp2_with fail
  refine HT1.out.mono ?_
  rintro e w3 ⟨rfl, rfl⟩
  go_wp2_with fail
  refine HT2.out.mono ?_
  rintro e w3 ⟨rfl, rfl⟩
  go_wp2
  go_ret
  exact ⟨_, rfl, by rw [← HFe.out]; exact OV.mono HS3.out (Nat.le_succ _), HB0.out.trans ((HB2.out.setCell (p := ⟨g1, 0, none⟩) (by have := HGB.out; rw [HZ.out]; exact this) _).mono HB0.out.size)⟩
end Go.Proofs.YtefggpdobjboeaaGreat

namespace Go.Proofs.YtefggpdobjboeaaGreat
open Go.RowKit Go.Shelf

set_option maxRecDepth 100000 in
set_option maxHeartbeats 8000000 in
theorem rNormal_any (g vd : Value) (n : Int) (es : List Tri) (d u : List Int) (er : Int) (w : World) (hg : GV w g n es) (hd : RI w vd d) (hl : Lw n d) (hN : NrmP n es d u er) :
    Calls Tryz.prog 21 #[g, vd] w fun e w' => ∃ v, e = .returned (.tuple #[v, .int .i64 er]) ∧ OI w' w.heap.size v u ∧ Below w.heap.size w w' := by
  obtain ⟨A2, c2, rfl, -⟩ := hd.open_
  obtain ⟨A, c, rfl, -⟩ := hg.open_
  obtain ⟨W0, hW0⟩ : ∃ W0, W0 = w.alloc (.cells #[.int .i64 n, .slice A es.length c] 24) := ⟨_, rfl⟩
  have hb0 : Below w.heap.size w W0 := by rw [hW0]; exact below_alloc w _
  have hx0 : BL W0 w.heap.size 24 [.int .i64 n, .slice A es.length c] := by rw [hW0]; exact BL.new' w _ _
  have c0 := hx0.cell 0
  have c1 := hx0.cell 1
  have HX0 := Lib.hid hx0
  have HG0 := Lib.hid (hg.below hb0)
  have HB0 := Lib.hid hb0
  have HW0 := Lib.hid hW0
  rw [hW0] at c0 c1
  clear hg hx0 hW0
  have hj := rGivE_any _ _ n es d W0 HG0.out (RI.below hd hb0)
  have HD0 := Lib.hid (RI.below hd hb0)
  clear hd hb0
  rcases hN with ⟨h0, rfl, rfl⟩ | ⟨h0, rfl, m, s, rfl, hrt, hred⟩
  · have HJ := Lib.hid hj
    have t : (eGiven n es [d] != 0) = true := by simpa using h0
    clear hj h0
    generalize eGiven n es [d] = r at *
    go_enter Tryz.func21, Tryz.ntmps21
    go_wp2_with fail
    rw [← HW0.out]
    refine HJ.out.mono ?_
    rintro e w1 ⟨rfl, hb1⟩
    have HB1 := Lib.hid (HB0.out.trans (hb1.mono HB0.out.size))
    clear hb1
    clear c0 c1
    go_wp2
    refine bodyPost_ret (results_tmp2 rfl _ _ _) rfl ?_
    exact ⟨_, rfl, OI.nil_ _ _, HB1.out⟩
  · obtain ⟨hgc, hcb, h5⟩ := eGiven_ok h0
    have hca := h5 d (by simp)
    obtain ⟨_, _, hal, _⟩ := checkE_ok hca
    have hba := hl hca
    have hal' : d.length = m := by omega
    have HFo : Hid (∀ W, Below W0.heap.size W0 W → Calls Tryz.prog 61 #[.agg #[.int .i64 (m : Int), .slice A es.length c], .int .i64 0, .slice A2 d.length c2] W fun e w' => ∃ v, e = .returned v ∧ OI w' W.heap.size v u ∧ Below W.heap.size W w') := fun W hW =>
      rForm_any _ _ m es d u s W (HG0.out.below hW) (RI.below HD0.out hW) hrt hal' hba hred
    rw [h0] at hj
    have HJ := Lib.hid hj
    clear hj h0 hgc hcb h5 hca hal hba hal' hrt hred
    go_enter Tryz.func21, Tryz.ntmps21
    go_wp2_with fail
    rw [← HW0.out]
    refine HJ.out.mono ?_
    rintro e w1 ⟨rfl, hb1⟩
    have HF1 := Lib.hid (HFo.out w1 hb1)
    have d0 := (HX0.out.bel hb1).cell 0
    have d1 := (HX0.out.bel hb1).cell 1
    have HB1 := Lib.hid (HB0.out.trans (hb1.mono HB0.out.size))
    clear hb1
    clear c0 c1
    go_wp2_with fail
    refine HF1.out.mono ?_
    rintro e w2 ⟨v2, rfl, ho2, hb2⟩
    have HO2 := Lib.hid (OV.mono ho2 HB1.out.size)
    have HB2 := Lib.hid (HB1.out.trans (hb2.mono HB1.out.size))
    clear hb2
    clear d0 d1 ho2
    go_wp2
    refine bodyPost_ret (results_tmp2 rfl _ _ _) rfl ?_
    exact ⟨_, rfl, HO2.out, HB2.out⟩
end Go.Proofs.YtefggpdobjboeaaGreat

namespace Go.Proofs.YtefggpdobjboeaaGreat
open Go.RowKit Go.Shelf

set_option maxRecDepth 100000 in
set_option maxHeartbeats 8000000 in
theorem rPrincipal_any (g vd : Value) (n : Int) (es : List Tri) (d : List Int) (bb : Bool) (er : Int) (w : World) (hg : GV w g n es) (hd : RI w vd d) (hl : Lw n d) (hN : PrcP n es d bb er) :
    Calls Tryz.prog 23 #[g, vd] w fun e w' => e = .returned (.tuple #[.bool bb, .int .i64 er]) ∧ Below w.heap.size w w' := by
  obtain ⟨A2, c2, rfl, -⟩ := hd.open_
  obtain ⟨A, c, rfl, -⟩ := hg.open_
  obtain ⟨W0, hW0⟩ : ∃ W0, W0 = w.alloc (.cells #[.int .i64 n, .slice A es.length c] 24) := ⟨_, rfl⟩
  have hb0 : Below w.heap.size w W0 := by rw [hW0]; exact below_alloc w _
  have hx0 : BL W0 w.heap.size 24 [.int .i64 n, .slice A es.length c] := by rw [hW0]; exact BL.new' w _ _
  have c0 := hx0.cell 0
  have c1 := hx0.cell 1
  have HX0 := Lib.hid hx0
  have HG0 := Lib.hid (hg.below hb0)
  have HB0 := Lib.hid hb0
  have HW0 := Lib.hid hW0
  rw [hW0] at c0 c1
  clear hg hx0 hW0
  have hj := rGivE_any _ _ n es d W0 HG0.out (RI.below hd hb0)
  have HD0 := Lib.hid (RI.below hd hb0)
  clear hd hb0
  rcases hN with ⟨h0, rfl, rfl⟩ | ⟨h0, rfl, m, r, s, rfl, hrt, hred, hbb⟩
  · have HJ := Lib.hid hj
    have t : (eGiven n es [d] != 0) = true := by simpa using h0
    clear hj h0
    generalize eGiven n es [d] = r at *
    go_enter Tryz.func23, Tryz.ntmps23
    go_wp2_with fail
    rw [← HW0.out]
    refine HJ.out.mono ?_
    rintro e w1 ⟨rfl, hb1⟩
    have HB1 := Lib.hid (HB0.out.trans (hb1.mono HB0.out.size))
    clear hb1
    clear c0 c1
    go_wp2
    refine bodyPost_ret (results_tmp2 rfl _ _ _) rfl ?_
    exact ⟨rfl, HB1.out⟩
  · obtain ⟨hgc, hcb, h5⟩ := eGiven_ok h0
    have hca := h5 d (by simp)
    obtain ⟨_, _, hal, _⟩ := checkE_ok hca
    have hba := hl hca
    have hal' : d.length = m := by omega
    have hm6 := hrt.n6
    have HAl : Hid (∀ (W : World) (vb : Value), Below W0.heap.size W0 W → RI W vb (zerosL m) → Calls Tryz.prog 64 #[.agg #[.int .i64 (m : Int), .slice A es.length c], .slice A2 d.length c2, vb] W fun e w' => e = .returned (.bool bb) ∧ Below W.heap.size W w') := fun W vb hw h2 => by
      obtain ⟨k, hk⟩ : ∃ k, m = k + 1 := ⟨m - 1, by have := hrt.n1; omega⟩
      have hzl : (zerosL m).length = m := by simp [zerosL]
      have hzb : Bd 0 (zerosL m) := fun v => by rw [zerosL_get]; omega
      have hdb := minus_bd (C := 1000) hal' hzl hba hzb (by decide) (by decide)
      have hA := rAlike_any (.agg #[.int .i64 ((k + 1 : Nat) : Int), .slice A es.length c]) (.slice A2 d.length c2) vb k es d (zerosL m) W (by rw [← hk]; exact HG0.out.below hw) (RI.below HD0.out hw) h2 (by rw [← hk]; exact hrt.ed) (by omega) (by rw [← hk]; exact hrt.cn) hrt.nn (by omega) (by omega) (hba.mono (by decide)) (hzb.mono (by decide)) hdb
      rw [← hk] at hA
      refine hA.mono ?_
      rintro e w' ⟨out, ok, rfl, hbw, hs⟩
      exact ⟨by rw [princ_ok hrt hal' hred hs, hbb], hbw⟩
    rw [h0] at hj
    have HJ := Lib.hid hj
    have hmk := run_make_row' (P := Tryz.prog) 25 3 (.int .i64 0) 8 Tryz.underlying25 int_info rfl .i64 .i64 m (by omega) (by omega)
    have HM6 : Hid (m ≤ 6) := hm6
    clear hj h0 hgc hcb h5 hca hal hba hal' hrt hred hbb
    go_enter Tryz.func23, Tryz.ntmps23
    go_wp2_with fail
    rw [← HW0.out]
    refine HJ.out.mono ?_
    rintro e w1 ⟨rfl, hb1⟩
    have d0 := (HX0.out.bel hb1).cell 0
    have d1 := (HX0.out.bel hb1).cell 1
    have hba := below_alloc w1 (.cells (madeCells #[Value.int .i64 0] m) 3)
    have HBa := Lib.hid ((hb1.trans (hba.mono hb1.size)).drew)
    have HAz := Lib.hid (HAl.out _ _ HBa.out (RI.below (own_zeros w1 m (by have := HM6.out; omega)).rv (Below.refl _ _).drew))
    have HK : Hid (∀ W, Below W0.heap.size W0 W → W.cell? ⟨w.heap.size, 0, none⟩ = some (.int .i64 (m : Int)) ∧ W.cell? ⟨w.heap.size, 1, none⟩ = some (.slice A es.length c)) := fun W h => ⟨(HX0.out.bel h).cell 0, (HX0.out.bel h).cell 1⟩
    have HSa := Lib.hid (HK.out _ (hb1.drew))
    have HSb := Lib.hid (HK.out _ HBa.out)
    clear c0 c1 hba hm6 hb1
    go_wp2_with fail
    go_region_held3 (fun W' : World => W'.cell? ⟨w.heap.size, 0, none⟩ = some (.int .i64 (m : Int)) ∧ W'.cell? ⟨w.heap.size, 1, none⟩ = some (.slice A es.length c)) (first | exact HSa.out | exact HSb.out | exact HSc.out)
      (first
        | (go_at_call 64; (with_reducible refine HAz.out.mono ?_); rintro e w2 ⟨rfl, hb2⟩; have HB2 := Lib.hid (HBa.out.trans (hb2.mono HBa.out.size)); have HSc := Lib.hid (HK.out w2 HB2.out); clear hb2))
    all_goals
      go_wp2
      refine bodyPost_ret (results_tmp2 rfl _ _ _) rfl ?_
      exact ⟨rfl, HB0.out.trans (HB2.out.mono HB0.out.size)⟩
end Go.Proofs.YtefggpdobjboeaaGreat

namespace Go.Proofs.YtefggpdobjboeaaGreat
open Go.RowKit Go.Shelf

set_option maxRecDepth 100000 in
set_option maxHeartbeats 8000000 in
theorem names_any (g vd : Value) (n : Int) (es : List Tri) (d : List Int) (w : World) (hg : GV w g n es) (hd : RI w vd d) :
    Calls Tryz.prog 5 #[g, vd] w fun e w' => e = .returned (.bool true) ∧ Below w.heap.size w w' := by
  obtain ⟨A, c, rfl, -⟩ := hg.open_
  obtain ⟨A2, c2, rfl, -⟩ := RI.open_ hd
  obtain ⟨W0, hW0⟩ : ∃ W0, W0 = w.alloc (.cells #[.int .i64 n, .slice A es.length c] 24) := ⟨_, rfl⟩
  have hb0 : Below w.heap.size w W0 := by rw [hW0]; exact below_alloc w _
  have hz0 : W0.heap.size = w.heap.size + 1 := by rw [hW0]; simp
  have hx0 : BL W0 w.heap.size 24 [.int .i64 n, .slice A es.length c] := by rw [hW0]; exact BL.new' w _ _
  have hc0 : GC w (.agg #[.int .i64 n, .slice A es.length c]) [.int .i64 n, .slice A es.length c] n es [(.slice A2 d.length c2, d)] W0 := by
    refine ⟨hg.below hb0, hx0, hb0, fun p hp => ?_⟩
    simp only [List.mem_cons, List.not_mem_nil, or_false] at hp
    rcases hp with rfl
    exact RI.below hd hb0
  obtain ⟨W1, hW1⟩ : ∃ W1, W1 = W0.alloc (.cells #[.slice A2 d.length c2] 26) := ⟨_, rfl⟩
  have hb1 : Below W0.heap.size W0 W1 := by rw [hW1]; exact below_alloc W0 _
  have hr1 : RR W1 (.slice (some ⟨w.heap.size + 1, 0, none⟩) 1 1) [d] := by rw [hW1, ← hz0]; exact RR.lit1 26 (RI.below hd hb0)
  have hc1 := hc0.next hb1
  have hlo := low_any _ _ n es [d] W1 hc1.g hr1
  have q0 := hc0.x.cell 0
  have q1 := hc0.x.cell 1
  have HC1 := Lib.hid hc1
  have HW0 := Lib.hid hW0
  have HW1 := Lib.hid hW1
  rw [hW0] at q0 q1
  have AW : Hid (∀ W, Calls Tryz.prog 10 #[] W fun e w' => e = .returned (.bool true) ∧ Below W.heap.size W w') := awake_any
  clear hg hd hb0 hz0 hx0 hc0 hb1 hr1 hc1 hW0 hW1
  go_enter Tryz.func5, Tryz.ntmps5
  go_wp2_with fail
  rw [← HW0.out, ← HW1.out]
  by_cases hl : lowP n es [d] = false
  · rw [hl] at hlo
    refine hlo.mono ?_
    rintro e w2 ⟨rfl, hb2⟩
    have HC2 := Lib.hid (HC1.out.next hb2)
    clear hlo hb2 hl q0 q1
    go_wp2_with fail
    refine (AW.out _).mono ?_
    rintro e w3 ⟨rfl, hb3⟩
    have HC3 := Lib.hid (HC2.out.next hb3)
    clear hb3
    go_wp2
    go_ret
    exact ⟨rfl, HC3.out.b⟩
  have hl : lowP n es [d] = true := by simpa using hl
  obtain ⟨hsm, hall⟩ := lowP_iff hl
  have hla := hall d (by simp)
  have HSm := Lib.hid hsm
  have HLa := Lib.hid hla
  rw [hl] at hlo
  refine hlo.mono ?_
  rintro e w2 ⟨rfl, hb2⟩
  have HC2 := Lib.hid (HC1.out.next hb2)
  have d0 := HC2.out.x.cell 0
  have d1 := HC2.out.x.cell 1
  have HNo := Lib.hid (Normal_any _ _ n es d w2 HC2.out.g (HC2.out.r (.slice A2 d.length c2, d) (by simp)) HSm.out HLa.out)
  clear hlo hb2 hl q0 q1 hsm hall hla
  go_wp2_with fail
  refine HNo.out.mono ?_
  rintro e w3 ⟨v3, u, er, rfl, ho3, hb3, hp3⟩
  have HC3 := Lib.hid ((HC2.out.next hb3).add ho3.rv)
  have HRn := Lib.hid (rNormal_any _ _ n es d u er w3 HC3.out.g (HC3.out.r (.slice A2 d.length c2, d) (by simp)) HLa.out hp3)
  have e0 := HC3.out.x.cell 0
  have e1 := HC3.out.x.cell 1
  clear ho3 hb3 hp3 d0 d1
  go_wp2_with fail
  refine HRn.out.mono ?_
  rintro e w4 ⟨v4, rfl, ho4, hb4⟩
  have HC4 := Lib.hid ((HC3.out.next hb4).add ho4.rv)
  have HPr := Lib.hid (Principal_any _ _ n es d w4 HC4.out.g (HC4.out.r (.slice A2 d.length c2, d) (by simp)) HSm.out HLa.out)
  have f0 := HC4.out.x.cell 0
  have f1 := HC4.out.x.cell 1
  clear ho4 hb4 e0 e1
  go_wp2_with fail
  refine HPr.out.mono ?_
  rintro e w5 ⟨bb, er2, rfl, hb5, hp5⟩
  have HC5 := Lib.hid (HC4.out.next hb5)
  have HRp := Lib.hid (rPrincipal_any _ _ n es d bb er2 w5 HC5.out.g (HC5.out.r (.slice A2 d.length c2, d) (by simp)) HLa.out hp5)
  have g0 := HC5.out.x.cell 0
  have g1 := HC5.out.x.cell 1
  clear hb5 hp5 f0 f1
  go_wp2_with fail
  refine HRp.out.mono ?_
  rintro e w6 ⟨rfl, hb6⟩
  have HC6 := Lib.hid (HC5.out.next hb6)
  have hq := EqualD_any v3 v4 u u w6 (HC6.out.r (v3, u) (by simp)) (HC6.out.r (v4, u) (by simp))
  rw [(eqL_iff _ _).2 rfl] at hq
  have HQ := Lib.hid hq
  clear hb6 g0 g1 hq
  go_wp2_with fail
  refine HQ.out.mono ?_
  rintro e w7 ⟨rfl, j, rfl⟩
  have HC7 := Lib.hid (HC6.out.next (below_drewN (Below.refl _ _) j))
  go_wp2_with fail
  refine (AW.out _).mono ?_
  rintro e w8 ⟨rfl, hb8⟩
  have HC8 := Lib.hid (HC7.out.next hb8)
  clear hb8
  go_wp2
  go_ret
  exact ⟨rfl, HC8.out.b⟩
end Go.Proofs.YtefggpdobjboeaaGreat
