/- Contract of the reference's Calms: the walk.
   Contracts of the references' Flat and Alike.
   What Normal and Principal of the reference decide, in plain words. No program in sight. -/
import Derived.Test.YtefggpdobjboeaaGreatG33
import Derived.Test.YtefggpdobjboeaaGreatG23
namespace Go.Proofs.YtefggpdobjboeaaGreat
open Go.RowKit Go.Shelf

/-- A list of the call's own of slices that lie below it. -/
def QL (wl W : World) (o : Value) (rows : List (List Int)) : Prop :=
  ∃ us, OV W wl.heap.size 25 o us ∧ us.length = rows.length ∧ ∀ (k : Nat) (row : List Int), rows[k]? = some row → ∃ u, us[k]? = some u ∧ RI wl u row
theorem QL.rr {wl W : World} {o : Value} {rows : List (List Int)} (h : QL wl W o rows) (hb : Below wl.heap.size wl W) : RR W o rows := by
  obtain ⟨us, h1, h2, h3⟩ := h
  refine ⟨us, h1.rv, h2, fun k row hk => ?_⟩
  obtain ⟨u, h4, h5⟩ := h3 k row hk
  exact ⟨u, h4, RI.below h5 hb⟩
theorem QL.below {wl W W' : World} {o : Value} {rows : List (List Int)} (h : QL wl W o rows) (hb : Below W.heap.size W W') : QL wl W' o rows := by
  obtain ⟨us, h1, h2, h3⟩ := h
  exact ⟨us, h1.below hb, h2, h3⟩
theorem QL.snoc {wl w : World} {o : Value} {rows : List (List Int)} {A : Option Addr} {n c : Nat} {row : List Int} (h : QL wl w o rows) (hr : RI wl (.slice A n c) row) :
    ∃ us : List Value, us.length = rows.length ∧ OV (w.alloc (.cells #[.slice A n c] 25)) wl.heap.size 25 o us ∧ RV (w.alloc (.cells #[.slice A n c] 25)) (.slice (some ⟨w.heap.size, 0, none⟩) 1 1) [.slice A n c] ∧
      ∀ v1 w3, OV w3 wl.heap.size 25 v1 (us ++ [.slice A n c]) → (w.alloc (.cells #[.slice A n c] 25)).grownBy w3 o.ownBlock → QL wl w3 v1 (rows ++ [row]) ∧ (Below wl.heap.size wl w → Below wl.heap.size wl w3) := by
  obtain ⟨us, h1, h2, h3⟩ := h
  have hba := below_alloc w (.cells #[.slice A n c] 25)
  have hov := h1.below hba
  refine ⟨us, h2, hov, RV.ones w _ _, fun v1 w3 hown hg => ⟨⟨us ++ [.slice A n c], hown, by simp [h2], fun k row' hk => ?_⟩, fun hb => ?_⟩⟩
  · by_cases hl : k < rows.length
    · rw [List.getElem?_append_left hl] at hk
      obtain ⟨u, h4, h5⟩ := h3 k row' hk
      exact ⟨u, by rw [List.getElem?_append_left (by omega)]; exact h4, h5⟩
    · rw [List.getElem?_append_right (by omega)] at hk
      by_cases e : k = rows.length
      · subst e
        simp only [Nat.sub_self, List.getElem?_cons_zero, Option.some.injEq] at hk
        subst hk
        exact ⟨_, by rw [List.getElem?_append_right (by omega), h2]; simp, hr⟩
      · rw [List.getElem?_eq_none (by simp; omega)] at hk; cases hk
  · exact (hb.trans (hba.mono hb.size)).grown hg (by simp; have := hb.size; omega) fun k hk => (hov.1.lt k hk).1
theorem own_empty (w : World) : OV (w.alloc (.cells #[] 3)) w.heap.size 3 (.slice (some ⟨w.heap.size, 0, none⟩) 0 0) [] :=
  ⟨World.ownsRow_made w #[] 0 (Nat.le_refl _) (by unfold maxLen; omega) (by simp), by simp⟩
set_option maxRecDepth 100000 in
set_option maxHeartbeats 8000000 in
theorem rCalms_any (g : Value) (n q : Nat) (es : List Tri) (w : World) (hg : GV w g n es) (hE : Edges n es) (hn : n ≤ 6) (hq : q < n) :
    Calls Tryz.prog 102 #[g, .int .i64 (q : Int)] w fun e w' => ∃ v, e = .returned v ∧ RR w' v (calmsL n q es) ∧ Below w.heap.size w w' := by
  obtain ⟨i0, hi, hz0, hz1, hz2⟩ := info_parts int_info
  obtain ⟨j0, hj, hj0, hj1, hj2⟩ := info_parts ints_info
  obtain ⟨A, c, rfl, -⟩ := hg.open_
  obtain ⟨W0, hW0⟩ : ∃ W0, W0 = w.alloc (.cells #[.int .i64 (n:Int), .slice A es.length c] 24) := ⟨_, rfl⟩
  have hb0 : Below w.heap.size w W0 := by rw [hW0]; exact below_alloc w _
  have hx0 : BL W0 w.heap.size 24 [.int .i64 (n:Int), .slice A es.length c] := by rw [hW0]; exact BL.new' w _ _
  have c0 := hx0.cell 0
  have c1 := hx0.cell 1
  have HX0 := Lib.hid hx0
  have HG0 := Lib.hid (hg.below hb0)
  have HB0 := Lib.hid hb0
  have HW0 := Lib.hid hW0
  rw [hW0] at c0 c1
  clear hg hx0 hW0
  have HGr := Lib.hid (rGreat_any _ n q es W0 HG0.out hE hn)
  have HMany : Hid (∀ k, k ≤ n → (boxK (topL n es q) k).length ≤ 2430000000000) := fun k hk => boxK_many hE hn hq hk
  have HTb : Hid (∀ v, v < n → -1 ≤ (topL n es q).getD v 0 ∧ (topL n es q).getD v 0 ≤ 300) := fun v hv => by
    rw [topL_get es q hv]; split
    · omega
    · have := valK_le hE v n; omega
  have HTl : Hid ((topL n es q).length = n) := by show _ = _; simp [topL]
  have HCm : Hid (∀ (v : Value) (x : List Int) (W : World), Below W0.heap.size W0 W → RI W v x → x.length = n → Calls Tryz.prog 146 #[.agg #[.int .i64 (n : Int), .slice A es.length c], .int .i64 (q : Int), v] W fun e w' => e = .returned (.bool (calmB n q es x)) ∧ Below W.heap.size W w') := fun v x W h1 h2 h3 =>
    rCalm_any _ v n q es x W (HG0.out.below h1) h2 hE hn hq h3
  have HCL : Hid (calmsL n q es = (boxK (topL n es q) n).filter (calmB n q es)) := rfl
  have e0 := HX0.out.cell 0
  have e1 := HX0.out.cell 1
  clear hE hb0 hq
  generalize topL n es q = tops at *
  go_enter Tryz.func102, Tryz.ntmps102
  go_wp2_with fail
  rw [← HW0.out]
  refine HGr.out.mono ?_
  rintro e w1 ⟨vt, rfl, hot, hb1⟩
  obtain ⟨At, ct, rfl, -, -, htc⟩ := hot.ri.open_
  have HTC := Lib.hid htc
  have HX1 := Lib.hid (HX0.out.bel hb1)
  have HR1 := Lib.hid (RR.lit1 25 (RI.nil_ w1))
  have HB1 := Lib.hid hb1
  have HA1 := Lib.hid (below_alloc w1 (.cells #[.slice none 0 0] 25))
  clear c0 c1 e0 e1 hot hb1 htc
  go_wp2_with fail
  go_loopw [6, 7] (fun l i wr => ∃ (v : Nat) (vl : Value), vl = l ∧ v ≤ n ∧ i = .int .i64 (v : Int) ∧ Hid (RR wr l (boxK tops v)) ∧ Hid (Below w1.heap.size w1 wr)) (fun _ i _ => n - (intOf i).toNat)
  case atStart => exact ⟨0, _, rfl, Nat.zero_le _, rfl, HR1.out, HA1.out⟩
  case round =>
    obtain ⟨v, vl, rfl, hv, rfl, hrr, hb⟩ := hrel
    have d0 := (HX1.out.bel hb.out).cell 0
    by_cases hlt : v < n
    · obtain ⟨Al, cl, rfl, -, -, hrows⟩ := hrr.out.open_
      have HRows := Lib.hid hrows
      obtain ⟨adt, tz, hAt, hadt, htz, hct⟩ := HTC.out v (by rw [HTl.out]; exact hlt)
      have htg : tops.getD v 0 = tz := by rw [List.getD_eq_getElem?_getD, htz.out]; rfl
      have htb := HTb.out v hlt
      rw [htg] at htb
      have hT : cntT tops v = (tz + 1).toNat := by unfold cntT; rw [htg]
      have hmany := HMany.out (v + 1) (by omega)
      have hrl := HMany.out v (by omega)
      rw [boxK_len] at hmany
      have HStep : Hid (boxK tops (v + 1) = nextR (boxK tops v) (cntT tops v) (boxK tops v).length) := rfl
      have HRl : Hid (∀ x ∈ boxK tops v, x.length = v) := boxK_rows tops v
      have hct1 : wr.cell? (adt.add v) = some (.int .i64 tz) := (hb.out.cell (by rw [block_of_add]; exact hadt)).trans hct
      have hvt : v < tops.length := by rw [HTl.out]; exact hlt
      subst hAt
      rw [hT] at HStep hmany
      have hTz : ((tz + 1).toNat : Int) = tz + 1 := by omega
      clear hrows hct htg hT hrr hadt
      generalize (tz + 1).toNat = T at *
      generalize boxK tops v = rows at *
      obtain ⟨wo, rfl⟩ : ∃ wo, wo = wr := ⟨_, rfl⟩
      go_wp2_with fail
      clear d0
      go_loopw [8, 9] (fun o i wr => ∃ (i' : Nat) (vo : Value), vo = o ∧ i' ≤ rows.length ∧ i = .int .i64 (i' : Int) ∧ Hid (OL wo.heap.size wr o (nextR rows T i')) ∧ Hid (Below wo.heap.size wo wr)) (fun _ i _ => rows.length - (intOf i).toNat)
      case atStart => exact ⟨0, _, rfl, Nat.zero_le _, rfl, OL.nil_ _ _, Below.refl _ _⟩
      case round =>
        obtain ⟨i, vo, rfl, hir, rfl, hol, hbi⟩ := hrel
        by_cases hit : i < rows.length
        · obtain ⟨ad, x, A1, c1, hA, hadb, hx, hcl, hxr⟩ := HRows.out i hit
          have hcl1 : wr.cell? (ad.add i) = some (.slice A1 x.length c1) := (hbi.out.cell (by rw [block_of_add]; exact hadb)).trans hcl
          have HXr := Lib.hid hxr
          have HClo := Lib.hid hcl
          have HAdb := Lib.hid hadb
          have hxl : x.length = v := HRl.out x (List.mem_of_getElem? hx.out)
          have hnl := nextR_len (rows := rows) T (i := i) (by omega)
          have hbd : i * T + T ≤ rows.length * T := by
            have := Nat.mul_le_mul_right T (show i + 1 ≤ rows.length by omega)
            rwa [Nat.succ_mul] at this
          have hns := nextR_succ hx.out T
          have HNs := Lib.hid hns
          subst hA
          have hxv : x.length ≤ 6 := by omega
          have HXl := Lib.hid hxl
          have HBd : Hid (i * T + T ≤ 2430000000000) := Nat.le_trans hbd hmany
          have HNl : Hid ((nextR rows T i).length + T ≤ 2430000000000) := by show _ ≤ _; rw [hnl]; exact HBd.out
          clear hcl hxr hns hxl hnl hbd
          go_wp2_with fail
          go_loopw [8, 10] (fun o k wr => ∃ (k' : Nat) (vo : Value), vo = o ∧ k' ≤ T ∧ k = .int .i64 (k' : Int) ∧ Hid (OL wo.heap.size wr o (nextR rows T i ++ expand x k')) ∧ Hid (Below wo.heap.size wo wr)) (fun _ k _ => T - (intOf k).toNat)
          case atStart => exact ⟨0, _, rfl, Nat.zero_le _, rfl, by rw [show expand x 0 = [] from rfl, List.append_nil]; exact hol.out, hbi.out⟩
          case round =>
            obtain ⟨k, vk, rfl, hkT, rfl, holk, hbk⟩ := hrel
            have g1 : wr.cell? (adt.add v) = some (.int .i64 tz) := (hbk.out.cell (block_lt_of_cell hct1)).trans hct1
            by_cases hkt : k < T
            · have g2 : wr.cell? (ad.add i) = some (.slice A1 x.length c1) := (hbk.out.cell (by rw [block_of_add]; exact HAdb.out)).trans HClo.out
              have g2a : ∀ o : Obj, (wr.alloc o).cell? (ad.add i) = some (.slice A1 x.length c1) := fun o => ((below_alloc wr o).cell (block_lt_of_cell g2)).trans g2
              have hkz : (k : Int) ≤ tz := by omega
              have hsz := hbk.out.size
              have ho0 := Lib.hid (own_empty wr)
              have hx0 := Lib.hid (RI.below (RI.below HXr.out hbk.out) (below_alloc wr (.cells #[] 3)))
              have HI1 := Lib.hid (ints_one x)
              have hlen : (nextR rows T i ++ expand x k).length + 1 ≤ 2430000000000 := by
                rw [List.length_append, expand_len]; have := HNl.out; omega
              have HOk := Lib.hid holk.out
              clear holk hcl1
              generalize hnx : nextR rows T i ++ expand x k = nx at *
              have HNx := Lib.hid hnx
              clear hnx
              go_wp2_with (first
                | (at_builtin; refine wpList_appendV _ rfl _ _ _ rfl 3 i0 _ 8 Tryz.underlying25 hi hz0 hz1 hz2 rfl wr.heap.size _ [] rfl ho0.out _ _ rfl hx0.out HI1.out (by simp; omega) (by simp; omega) (by simp) ?_; intro v1 w2 hown1 hg1 hat1; have HB2 := Lib.hid (below_own (below_alloc wr _) (by simp) ho0.out hg1); have ho2 := Lib.hid (show OV (w2.alloc (.cells #[.int .i64 (k : Int)] 3)) wr.heap.size 3 v1 (x.map (Value.int .i64)) from (by have := hown1.below (below_alloc w2 (.cells #[.int .i64 (k : Int)] 3)); simpa using this)); have h2 := Lib.hid (RV.ones w2 (.int .i64 (k : Int)) 3); have hsz2 := HB2.out.size; clear hown1 hg1 hat1)
                | (at_builtin; refine wpList_appendV _ rfl _ _ _ rfl 3 i0 _ 8 Tryz.underlying25 hi hz0 hz1 hz2 rfl wr.heap.size _ _ rfl ho2.out _ _ rfl h2.out (one_ones rfl) (by simp; omega) (by simp; omega) (by simp; omega) ?_; intro v2 w3 hown2 hg2 hat2; have HB3 := Lib.hid (below_own (HB2.out.trans ((below_alloc w2 _).mono HB2.out.size)) (by simp; omega) ho2.out hg2); obtain ⟨g2', cap2, ev, -, -⟩ := OV.shape hown2 (by simp); rw [show (x.map (Value.int .i64) ++ [Value.int .i64 (k : Int)]).length = x.length + 1 by simp] at ev; subst ev; have HRw := Lib.hid (show OI w3 wr.heap.size (.slice (some ⟨g2', 0, none⟩) (x.length + 1) cap2) (x ++ [(k : Int)]) from (by show OV _ _ _ _ _; simpa using hown2)); obtain ⟨us, hul, hov, hrv, hfin⟩ := OL.snoc (OL.below HOk.out HB3.out) (OV.mono HRw.out hsz); have HOv := Lib.hid hov; have HRv := Lib.hid hrv; have HFin := Lib.hid hfin; have hus : us.length + 1 ≤ 2430000000000 := (by rw [hul]; exact hlen); have hsz3 := HB3.out.size; clear hown2 hg2 hat2 hul hov hrv hfin)
                | (at_builtin; refine wpList_appendV _ rfl _ _ _ rfl 25 j0 _ 24 Tryz.underlying41 hj hj0 hj1 hj2 rfl wo.heap.size _ _ rfl HOv.out _ _ rfl HRv.out (one_ones rfl) (by simp; omega) (by simp; omega) (by simp; omega) ?_; intro v3 w4 hown3 hg3 hat3; obtain ⟨hf1, hf2⟩ := HFin.out v3 w4 hown3 hg3; have HF1 := Lib.hid hf1; have HF2 := Lib.hid (hf2 wo.heap.size wo (hbk.out.trans (HB3.out.mono hsz)) (Nat.le_refl _) (by omega) (by omega)); clear hown3 hg3 hat3 hf1 hf2))
              go_wp2
              go_roundw
              case rel => exact ⟨k + 1, _, rfl, by omega, by go_num, by rw [expand_succ, ← List.append_assoc, HNx.out]; exact HF1.out, HF2.out⟩
              case measure => simp [intOf]; omega
            · obtain rfl : k = T := by omega
              have hkz : ¬ ((k : Int) ≤ tz) := by omega
              go_wp2
              go_roundw
              case rel => exact ⟨i + 1, _, rfl, by omega, by go_num, by rw [HNs.out]; exact holk.out, hbk.out⟩
              case measure => simp [intOf]; omega
        · obtain rfl : i = rows.length := by omega
          have hrr2 := hol.out.rr
          have HB2 := Lib.hid (hb.out.trans (hbi.out.mono hb.out.size))
          have HR2 := Lib.hid hrr2
          clear hol hrr2
          go_wp2
          go_roundw
          case rel => exact ⟨v + 1, _, rfl, by omega, by go_num, by rw [HStep.out]; exact HR2.out, HB2.out⟩
          case measure => simp [intOf]; omega
    · obtain rfl : v = n := by omega
      obtain ⟨Al, cl, rfl, -, -, hrows⟩ := hrr.out.open_
      have HRows := Lib.hid hrows
      have HRl : Hid (∀ x ∈ boxK tops v, x.length = v) := boxK_rows tops v
      have hmany := HMany.out v (Nat.le_refl _)
      have HBw := Lib.hid (HB1.out.trans (hb.out.mono HB1.out.size))
      clear hrows hrr
      generalize boxK tops v = rows at *
      obtain ⟨wo, rfl⟩ : ∃ wo, wo = wr := ⟨_, rfl⟩
      go_wp2_with fail
      clear d0
      go_loopw [11, 12] (fun o i wr => ∃ (i' : Nat) (vo : Value), vo = o ∧ i' ≤ rows.length ∧ i = .int .i64 (i' : Int) ∧ Hid (QL wo wr o ((rows.take i').filter (calmB v q es))) ∧ Hid (Below wo.heap.size wo wr)) (fun _ i _ => rows.length - (intOf i).toNat)
      case atStart => exact ⟨0, _, rfl, Nat.zero_le _, rfl, ⟨[], OV.nil_ _ _ _, rfl, fun k z h => by simp at h⟩, Below.refl _ _⟩
      case round =>
        obtain ⟨i, vo, rfl, hir, rfl, hql, hbi⟩ := hrel
        by_cases hit : i < rows.length
        · obtain ⟨ad, x, A1, c1, hA, hadb, hx, hcl, hxr⟩ := HRows.out i hit
          subst hA
          have hxl : x.length = v := HRl.out x (List.mem_of_getElem? hx.out)
          have hcl1 : wr.cell? (ad.add i) = some (.slice A1 x.length c1) := (hbi.out.cell (by rw [block_of_add]; exact hadb)).trans hcl
          have hbw := HBw.out.trans (hbi.out.mono HBw.out.size)
          have d0 := (HX0.out.bel hbw).cell 0
          have d1 := (HX0.out.bel hbw).cell 1
          have hcm := HCm.out (.slice A1 x.length c1) x wr.drew (hbw.drew) ((RI.below hxr hbi.out).below (Below.refl _ _).drew) hxl
          have hfs := filter_take_succ (calmB v q es) hx.out
          have hfl : ((rows.take i).filter (calmB v q es)).length ≤ i := Nat.le_trans (List.length_filter_le _ _) (by rw [List.length_take]; omega)
          have HXr := Lib.hid hxr
          have HK0 : Hid (wr.drew.cell? ⟨w.heap.size, 0, none⟩ = some (.int .i64 (v : Int)) ∧ wr.drew.cell? ⟨w.heap.size, 1, none⟩ = some (.slice A es.length c) ∧ wr.drew.cell? (ad.add i) = some (.slice A1 x.length c1)) := ⟨d0, d1, hcl1⟩
          have HK1 : Hid (∀ w1, Below wr.drew.heap.size wr.drew w1 → w1.cell? ⟨w.heap.size, 0, none⟩ = some (.int .i64 (v : Int)) ∧ w1.cell? ⟨w.heap.size, 1, none⟩ = some (.slice A es.length c) ∧ w1.cell? (ad.add i) = some (.slice A1 x.length c1)) := fun w1 h =>
            ⟨(h.cell (p := ⟨w.heap.size, 0, none⟩) (block_lt_of_cell d0)).trans d0, (h.cell (p := ⟨w.heap.size, 1, none⟩) (block_lt_of_cell d1)).trans d1, (h.cell (p := ad.add i) (block_lt_of_cell hcl1)).trans hcl1⟩
          have hx6 : x.length ≤ 6 := by omega
          clear hcl hxr hbw hxl
          cases hcb : calmB v q es x
          · rw [hcb] at hcm hfs
            rw [if_neg (by simp)] at hfs
            have HCx := Lib.hid hcm
            have HFs := Lib.hid hfs
            clear hcm hfs hcb
            go_wp2_with fail
            go_region_held3 (fun W' : World => W'.cell? ⟨w.heap.size, 0, none⟩ = some (.int .i64 (v : Int)) ∧ W'.cell? ⟨w.heap.size, 1, none⟩ = some (.slice A es.length c) ∧ W'.cell? (ad.add i) = some (.slice A1 x.length c1)) (first | exact HK0.out | exact HKw.out) (first | (go_at_call 146; refine HCx.out.mono ?_; rintro e w6 ⟨rfl, hb6⟩; have HKw := Lib.hid (HK1.out w6 hb6); have HB6 := Lib.hid ((Below.refl wr.heap.size wr).drew.trans (hb6.mono (Nat.le_refl _))); clear hb6))
            all_goals
              have HQ6 := Lib.hid (hql.out.below HB6.out)
              have HBi6 := Lib.hid (hbi.out.trans (HB6.out.mono hbi.out.size))
              go_wp2
              go_roundw
              case rel => exact ⟨i + 1, _, rfl, by omega, by go_num, by rw [HFs.out]; exact HQ6.out, HBi6.out⟩
              case measure => simp [intOf]; omega
          · rw [hcb] at hcm hfs
            rw [if_pos rfl] at hfs
            have HCx := Lib.hid hcm
            have HFs := Lib.hid hfs
            clear hcm hfs hcb
            go_wp2_with fail
            go_region_held3 (fun W' : World => W'.cell? ⟨w.heap.size, 0, none⟩ = some (.int .i64 (v : Int)) ∧ W'.cell? ⟨w.heap.size, 1, none⟩ = some (.slice A es.length c) ∧ W'.cell? (ad.add i) = some (.slice A1 x.length c1)) (first | exact HK0.out | exact HKw.out) (first | (go_at_call 146; refine HCx.out.mono ?_; rintro e w6 ⟨rfl, hb6⟩; have HKw := Lib.hid (HK1.out w6 hb6); have HB6 := Lib.hid ((Below.refl wr.heap.size wr).drew.trans (hb6.mono (Nat.le_refl _))); clear hb6))
            all_goals
              have HQ6 := Lib.hid (hql.out.below HB6.out)
              have HBi6 := Lib.hid (hbi.out.trans (HB6.out.mono hbi.out.size))
              have m1 := HKw.out.2.2
              obtain ⟨us, hul, hov, hrv, hfin⟩ := QL.snoc HQ6.out HXr.out
              have HOv := Lib.hid hov
              have HRv := Lib.hid hrv
              have HFin := Lib.hid hfin
              have hus : us.length ≤ i := by rw [hul]; exact hfl
              have hsz6 := HBi6.out.size
              clear hul hov hrv hfin d0 d1 hcl1
              go_wp2_with (at_builtin; refine wpList_appendV _ rfl _ _ _ rfl 25 j0 _ 24 Tryz.underlying41 hj hj0 hj1 hj2 rfl wo.heap.size _ _ rfl HOv.out _ _ rfl HRv.out (one_ones rfl) (by simp; omega) (by simp; omega) (by simp; omega) ?_; intro v3 w7 hown3 hg3 hat3)
              obtain ⟨hf1, hf2⟩ := HFin.out v3 w7 hown3 hg3
              have HF1 := Lib.hid hf1
              have HF2 := Lib.hid (hf2 HBi6.out)
              clear hown3 hg3 hat3 hf1 hf2
              go_wp2
              go_roundw
              case rel => exact ⟨i + 1, _, rfl, by omega, by go_num, by rw [HFs.out]; exact HF1.out, HF2.out⟩
              case measure => simp [intOf]; omega
        · obtain rfl : i = rows.length := by omega
          have hrr := hql.out.rr hbi.out
          rw [List.take_of_length_le (Nat.le_refl _), ← HCL.out] at hrr
          have HRr := Lib.hid hrr
          clear hql hrr
          go_wp2
          go_ret
          exact ⟨_, rfl, HRr.out, HB0.out.trans ((HBw.out.trans (hbi.out.mono HBw.out.size)).mono HB0.out.size)⟩
end Go.Proofs.YtefggpdobjboeaaGreat

namespace Go.Proofs.YtefggpdobjboeaaGreat
open Go.RowKit Go.Shelf

/-- A divisor with the chips at q that make its degree 0. -/
def flatL (d : List Int) (q : Nat) : List Int := d.set q (d.getD q 0 - d.sum)
theorem flatL_len (d : List Int) (q : Nat) : (flatL d q).length = d.length := by simp [flatL]
set_option maxRecDepth 100000 in
set_option maxHeartbeats 4000000 in
theorem rFlat_any (vd : Value) (q : Nat) (d : List Int) (w : World) (hd : RI w vd d) (hq : q < d.length) (h100 : d.length ≤ 100) (hb : Bd 100000 d) :
    Calls Tryz.prog 148 #[vd, .int .i64 (q : Int)] w fun e w' => ∃ v, e = .returned v ∧ OI w' w.heap.size v (flatL d q) ∧ Below w.heap.size w w' := by
  obtain ⟨i0, hi, hz0, hz1, hz2⟩ := info_parts int_info
  obtain ⟨A2, c2, rfl, -⟩ := hd.open_
  have ho0 := Lib.hid (own_empty w)
  have hx0 := Lib.hid (RI.below hd (below_alloc w (.cells #[] 3)))
  have HI1 := Lib.hid (ints_one d)
  have HD := Lib.hid hd
  have HBd := Lib.hid hb
  have hsb := sum_take_bd (by decide) hb d.length
  rw [List.take_of_length_le (Nat.le_refl _)] at hsb
  have hqb := hb q
  clear hd hb
  go_enter Tryz.func148, Tryz.ntmps148
  go_wp2_with (at_builtin; refine wpList_appendV _ rfl _ _ _ rfl 3 i0 _ 8 Tryz.underlying25 hi hz0 hz1 hz2 rfl w.heap.size _ [] rfl ho0.out _ _ rfl hx0.out HI1.out (by simp; omega) (by simp; omega) (by simp) ?_; intro v1 w2 hown1 hg1 hat1; have HB2 := Lib.hid (below_own (below_alloc w _) (by simp) ho0.out hg1); obtain ⟨g1, cap1, ev, -, -⟩ := OV.shape hown1 (by simp; omega); rw [show (([] : List Value) ++ d.map (Value.int .i64)).length = d.length by simp] at ev; subst ev; have HO2 := Lib.hid (show OI w2 w.heap.size (.slice (some ⟨g1, 0, none⟩) d.length cap1) d from (by show OV _ _ _ _ _; simpa using hown1)); obtain ⟨-, hgB, q1, q2, q3⟩ := OI.at' HO2.out hq; have HS3 := Lib.hid (q3 (d.getD q 0 - d.sum)).1; have HGB := Lib.hid hgB; clear q3 hgB hown1 hg1 hat1)
  have HT := Lib.hid (rTot_any _ d w2.drew (RI.below (RI.below HD.out HB2.out) (Below.refl _ _).drew) h100 (HBd.out.mono (by decide)))
  have HFl : Hid (d.set q (d.getD q 0 - d.sum) = flatL d q) := rfl
  generalize d.getD q 0 = x at *
  generalize d.sum = y at *
  refine wp_region_still_tail 8 (by kernel_rfl) (by kernel_rfl) ?_
  change wpStill _ _ w2.drew _ _ _
  simp only [List.take_succ_cons, List.take_zero, List.drop_succ_cons, List.drop_zero]
  repeat still_step
  still_call (HT.out.mono fun _ _ h => ⟨h.1, h.2.symm⟩)
  repeat still_step
  refine wpStill_nil ?_
  change wpList _ _ _ _ _ w2.drew
  go_wp2
  go_ret
  exact ⟨_, rfl, by rw [← HFl.out]; exact OI.below HS3.out (Below.refl _ _).drew, (HB2.out.setCell (p := ⟨g1, q, none⟩) HGB.out _).drew⟩
set_option maxRecDepth 100000 in
set_option maxHeartbeats 4000000 in
theorem rAlike_any (g va vb : Value) (m : Nat) (es : List Tri) (a b : List Int) (w : World) (hg : GV w g ((m + 1 : Nat) : Int) es) (ha : RI w va a) (hb : RI w vb b) (hE : Edges (m + 1) es) (hm : m ≤ 5) (hc : Conn (m + 1) (wgt es)) (hp : ∀ v u, 0 ≤ wgt es v u)
    (hal : a.length = m + 1) (hbl : b.length = m + 1) (hba : Bd 100000 a) (hbb : Bd 100000 b) (hdb : Bd 1000 (plusL a b (-1))) :
    Calls Tryz.prog 64 #[g, va, vb] w fun e w' => ∃ out ok, e = .returned (.bool ok) ∧ Below w.heap.size w w' ∧ SolP (m + 1) es 0 (plusL a b (-1)) out ok := by
  obtain ⟨n, hn⟩ : ∃ n, n = m + 1 := ⟨_, rfl⟩
  rw [← hn] at hg hal hbl ⊢
  obtain ⟨A2, c2, rfl, -⟩ := ha.open_
  obtain ⟨A3, c3, rfl, -⟩ := hb.open_
  obtain ⟨A, c, rfl, -⟩ := hg.open_
  obtain ⟨W0, hW0⟩ : ∃ W0, W0 = w.alloc (.cells #[.int .i64 (n:Int), .slice A es.length c] 24) := ⟨_, rfl⟩
  have hb0 : Below w.heap.size w W0 := by rw [hW0]; exact below_alloc w _
  have hx0 : BL W0 w.heap.size 24 [.int .i64 (n:Int), .slice A es.length c] := by rw [hW0]; exact BL.new' w _ _
  have c0 := hx0.cell 0
  have c1 := hx0.cell 1
  have HX0 := Lib.hid hx0
  have HG0 := Lib.hid (hg.below hb0)
  have HB0 := Lib.hid hb0
  have HW0 := Lib.hid hW0
  rw [hW0] at c0 c1
  clear hg hx0 hW0
  have hdl := plusL_len (-1) hal hbl
  have HA0 := Lib.hid (RI.below ha hb0)
  have HV0 := Lib.hid (RI.below hb hb0)
  have HPa : Hid (∀ W, Below W0.heap.size W0 W → Calls Tryz.prog 45 #[.slice A2 a.length c2, .slice A3 b.length c3, .int .i64 (-1)] W fun e w' => ∃ v, e = .returned v ∧ OI w' W.heap.size v (plusL a b (-1)) ∧ Below W.heap.size W w') := fun W h =>
    rPlus_any _ _ a b (-1) W (RI.below HA0.out h) (RI.below HV0.out h) (by omega) (by omega) (fun j hj => by
      have := hba j; have := hbb j; omega)
  have HSo : Hid (∀ (W : World) (v : Value), Below W0.heap.size W0 W → RI W v (plusL a b (-1)) → Calls Tryz.prog 44 #[.agg #[.int .i64 (n : Int), .slice A es.length c], .int .i64 0, v] W fun e w' => ∃ v out ok, e = .returned (.tuple #[v, .bool ok]) ∧ OI w' W.heap.size v out ∧ Below W.heap.size W w' ∧ SolP n es 0 (plusL a b (-1)) out ok ∧ Bd 1000000000000000000 out) := fun W v h1 h2 => by
    subst hn
    exact rSolve_any _ v m 0 es _ W (HG0.out.below h1) h2 hE hm hc hp (by omega) hdl hdb
  have HK : Hid (∀ W, Below W0.heap.size W0 W → W.cell? ⟨w.heap.size, 0, none⟩ = some (.int .i64 (n : Int)) ∧ W.cell? ⟨w.heap.size, 1, none⟩ = some (.slice A es.length c) ∧ Below W0.heap.size W0 W) := fun W h => by
    have x1 := HX0.out.bel h
    exact ⟨x1.cell 0, x1.cell 1, h⟩
  have HS0 := Lib.hid (HK.out W0.drew (Below.refl _ _).drew)
  have HPl := Lib.hid (HPa.out W0.drew HS0.out.2.2)
  clear ha hb hE hc hp hal hbl hba hbb hdb hdl hb0 hn
  generalize plusL a b (-1) = d at *
  go_enter Tryz.func64, Tryz.ntmps64
  go_wp2_with fail
  rw [← HW0.out]
  clear c0 c1
  go_region_held3 (fun W' : World => W'.cell? ⟨w.heap.size, 0, none⟩ = some (.int .i64 (n : Int)) ∧ W'.cell? ⟨w.heap.size, 1, none⟩ = some (.slice A es.length c) ∧ Below W0.heap.size W0 W')
    (first | exact HS0.out | exact HSa.out | exact HSb.out)
    (first
      | (go_at_call 45; refine HPl.out.mono ?_; rintro e w6 ⟨v6, rfl, ho6, hb6⟩; have HSa := Lib.hid (HK.out w6 ((Below.refl _ _).drew.trans (hb6.mono (Nat.le_refl _)))); have HSv := Lib.hid (HSo.out w6 v6 HSa.out.2.2 ho6.rv); clear ho6 hb6)
      | (go_at_call 44; refine HSv.out.mono ?_; rintro e w7 ⟨v7, out, ok, rfl, ho7, hb7, hp7, hbd7⟩; have HSb := Lib.hid (HK.out w7 (HSa.out.2.2.trans (hb7.mono HSa.out.2.2.size))); have HP7 := Lib.hid hp7; clear ho7 hb7 hp7 hbd7))
  all_goals
    go_wp2
    go_ret
    exact ⟨_, _, rfl, HB0.out.trans (HSb.out.2.2.mono HB0.out.size), HP7.out⟩
end Go.Proofs.YtefggpdobjboeaaGreat

namespace Go.Proofs.YtefggpdobjboeaaGreat
open Go.RowKit Go.Shelf

theorem sumN_at {n q : Nat} {f g : Nat → Int} (hq : q < n) (h : ∀ v, v < n → v ≠ q → f v = g v) : sumN n f = sumN n g + (f q - g q) := by
  have e := sumN_one (f := fun v => f v + - g v) hq fun i hi hne => by rw [h i hi hne]; omega
  rw [sumN_add, sumN_neg] at e
  omega
theorem getD_set {l : List Int} {q v : Nat} {z : Int} (hq : q < l.length) : (l.set q z).getD v 0 = if v = q then z else l.getD v 0 := by
  simp only [List.getD_eq_getElem?_getD]
  by_cases e : v = q
  · subst e; rw [List.getElem?_set_self hq, if_pos rfl]; rfl
  · rw [List.getElem?_set_ne (fun h => e h.symm), if_neg e]
theorem sum_set' {l : List Int} {q : Nat} {z : Int} (hq : q < l.length) : (l.set q z).sum = l.sum - l.getD q 0 + z := by
  rw [← sumN_list (l.set q z), ← sumN_list l, List.length_set,
    sumN_at (g := fun v => l.getD v 0) hq fun v _ hne => by rw [getD_set hq, if_neg hne]]
  show _ + ((l.set q z).getD q 0 - _) = _
  rw [getD_set hq, if_pos rfl]; omega
theorem flat_sum {d : List Int} {q : Nat} (hq : q < d.length) : (flatL d q).sum = 0 := by unfold flatL; rw [sum_set' hq]; omega
theorem flat_get {d : List Int} {q v : Nat} (hq : q < d.length) : (flatL d q).getD v 0 = if v = q then d.getD q 0 - d.sum else d.getD v 0 := by unfold flatL; exact getD_set hq
theorem list_eq {a b : List Int} {n : Nat} (ha : a.length = n) (hb : b.length = n) (h : ∀ v, v < n → a.getD v 0 = b.getD v 0) : a = b := by
  refine List.ext_getElem (by omega) fun v hv hv' => ?_
  have := h v (by omega)
  rw [List.getD_eq_getElem?_getD, List.getElem?_eq_getElem hv, List.getD_eq_getElem?_getD, List.getElem?_eq_getElem hv'] at this
  exact this
theorem outw_self {n v : Nat} (es : List Tri) : outw n (wgt es) (fun x => decide (x = v)) v = valK es v n := by
  unfold outw valK
  refine sumN_congr fun u _ => ?_
  by_cases e : u = v
  · simp [e]
  · simp [e, wgt_sym es v u]
/-- What is asked of a superstable configuration at 0. -/
theorem calms_iff {n : Nat} {es : List Tri} (hr : Rt n es) {x : List Int} : x ∈ calmsL n 0 es ↔ x.length = n ∧ x.getD 0 0 = 0 ∧ (∀ v, v < n → 0 ≤ x.getD v 0) ∧ Tight n (wgt es) 0 (fnD x) := by
  have hn := hr.n1
  unfold calmsL
  rw [List.mem_filter, boxK_mem]
  unfold calmB
  rw [Bool.and_eq_true, tightB_iff (by omega), List.all_eq_true]
  constructor
  · rintro ⟨⟨h1, h2⟩, h3, h4⟩
    have h0 := h3 0 (List.mem_range.2 (by omega))
    unfold okV at h0
    simp only [ne_eq, not_true_eq_false, decide_false, Bool.false_or, Bool.and_eq_true, decide_eq_true_eq] at h0
    exact ⟨h1, h0.2, fun v hv => (h2 v hv).1, h4⟩
  · rintro ⟨h1, h0, h2, h4⟩
    refine ⟨⟨h1, fun v hv => ⟨h2 v hv, ?_⟩⟩, fun v hv => ?_, h4⟩
    · rw [topL_get es 0 hv]
      by_cases e : v = 0
      · rw [if_pos e, e, h0]; exact Int.le_refl _
      · rw [if_neg e]
        obtain ⟨u, hu, hA, hlt⟩ := h4 (fun y => decide (y = v)) (by simp; exact fun h => e h.symm) ⟨v, hv, by simp⟩
        simp only [decide_eq_true_eq] at hA
        subst hA
        rw [outw_self] at hlt
        unfold fnD at hlt
        omega
    · have hv := List.mem_range.1 hv
      unfold okV
      simp only [Bool.and_eq_true, decide_eq_true_eq, Bool.or_eq_true]
      refine ⟨h2 v hv, ?_⟩
      by_cases e : v = 0
      · exact .inr (by rw [e]; exact h0)
      · exact .inl e
/-- The configuration of a reduced divisor. -/
def offL (r : List Int) : List Int := r.set 0 0
theorem tight_off {n : Nat} {w : Nat → Nat → Int} {d d' : Nat → Int} (h : ∀ v, v < n → v ≠ 0 → d v = d' v) (ht : Tight n w 0 d) : Tight n w 0 d' := fun A hA hs => by
  obtain ⟨v, hv, hvA, hlt⟩ := ht A hA hs
  refine ⟨v, hv, hvA, ?_⟩
  rw [← h v hv (fun e => by rw [e, hA] at hvA; cases hvA)]; exact hlt
theorem off_len (r : List Int) : (offL r).length = r.length := by simp [offL]
theorem off_get {r : List Int} (h : 0 < r.length) (v : Nat) : (offL r).getD v 0 = if v = 0 then 0 else r.getD v 0 := getD_set h
theorem off_calm {n : Nat} {es : List Tri} (hr : Rt n es) {d r s : List Int} (h : Red n 0 es d r s) : offL r ∈ calmsL n 0 es := by
  have hn := hr.n1
  have hl := h.rl
  refine (calms_iff hr).2 ⟨by rw [off_len, hl], by rw [off_get (by omega)]; rfl, fun v hv => ?_, tight_off (fun v hv hne => ?_) h.tight⟩
  · rw [off_get (by omega)]; split
    · exact Int.le_refl _
    · exact h.pos v hv (by assumption)
  · unfold fnD; rw [off_get (by omega), if_neg hne]
/-- A configuration of the list is that of the reduced divisor exactly if Solve finds a script between the two. -/
theorem settled_ok {n : Nat} {es : List Tri} (hr : Rt n es) {d r s x out : List Int} {ok : Bool} (hd : d.length = n) (h : Red n 0 es d r s) (hx : x ∈ calmsL n 0 es) (hs : SolP n es 0 (plusL (flatL d 0) (flatL x 0) (-1)) out ok) : ok = decide (x = offL r) := by
  have hn := hr.n1
  have hl := h.rl
  obtain ⟨hxl, hx0, hxp, hxt⟩ := (calms_iff hr).1 hx
  have hdf := flatL_len d 0
  have hxf := flatL_len x 0
  rcases hs with ⟨rfl, hsl, -, hsv⟩ | ⟨rfl, rfl, hno⟩
  · refine Eq.symm (decide_eq_true ?_)
    obtain ⟨-, h2⟩ := reduced_unique (s := fun v => out.getD v 0 - s.getD v 0) (d := fnD r) (d' := fun v => r.getD v 0 - lap n (wgt es) (fun v => out.getD v 0 - s.getD v 0) v) hr.nn (by omega : 0 < n) h.tight
      (tight_off (fun v hv hne => by
        have e := h.eq v hv
        have e2 := hsv v hv
        rw [minus_get (by omega) (by omega) hv, flat_get (by omega), flat_get (by omega), if_neg hne, if_neg hne] at e2
        show x.getD v 0 = _
        rw [lap_sub]; omega) hxt) h.pos (fun v hv hne => by
        have e := h.eq v hv
        have e2 := hsv v hv
        have e3 := hxp v hv
        rw [minus_get (by omega) (by omega) hv, flat_get (by omega), flat_get (by omega), if_neg hne, if_neg hne] at e2
        rw [lap_sub]; omega) (fun v hv => rfl)
    refine list_eq hxl (by rw [off_len, hl]) fun v hv => ?_
    rw [off_get (by omega)]
    by_cases e : v = 0
    · rw [if_pos e, e, hx0]
    · rw [if_neg e]
      have e1 := h.eq v hv
      have e2 := hsv v hv
      have e3 := h2 v hv
      rw [minus_get (by omega) (by omega) hv, flat_get (by omega), flat_get (by omega), if_neg e, if_neg e] at e2
      rw [lap_sub] at e3
      unfold fnD at e3
      omega
  · refine Eq.symm (decide_eq_false fun hxo => ?_)
    have hoff : ∀ v, v < n → v ≠ 0 → lap n (wgt es) (fun u => s.getD u 0) v = (plusL (flatL d 0) (flatL x 0) (-1)).getD v 0 := fun v hv hne => by
      have e := h.eq v hv
      rw [minus_get (by omega) (by omega) hv, flat_get (by omega), flat_get (by omega), if_neg hne, if_neg hne, hxo, off_get (by omega), if_neg hne]
      omega
    refine hno (fun u => s.getD u 0) fun v hv => ?_
    by_cases e : v = 0
    · subst e
      have h1 := sumN_at hv hoff
      rw [lap_sum (wgt_sym es)] at h1
      have h2 : sumN n (fun v => (plusL (flatL d 0) (flatL x 0) (-1)).getD v 0) = 0 := by
        rw [sumN_congr (g := fun v => (flatL d 0).getD v 0 + - (flatL x 0).getD v 0) fun v hv => by rw [minus_get (by omega) (by omega) hv]; omega, sumN_add, sumN_neg, sumd_len _ (by omega), sumd_len _ (by omega), flat_sum (by omega), flat_sum (by omega)]; rfl
      rw [h2] at h1
      omega
    · exact hoff v hv e
theorem red_sum {n : Nat} {es : List Tri} {d r s : List Int} (hd : d.length = n) (h : Red n 0 es d r s) : r.sum = d.sum := by
  rw [← sumd_len r h.rl, ← sumd_len d hd, sumN_congr h.eq, sumN_congr (g := fun v => d.getD v 0 + - lap n (wgt es) (fun u => s.getD u 0) v) fun v _ => by omega, sumN_add, sumN_neg, lap_sum (wgt_sym es)]; omega
/-- What Form makes of it. -/
theorem form_eq {n : Nat} {es : List Tri} (hn : 1 ≤ n) {d r s : List Int} (hd : d.length = n) (h : Red n 0 es d r s) : (offL r).set 0 (d.sum - (offL r).sum) = r := by
  have hl := h.rl
  have h0 : 0 < r.length := by omega
  have e : d.sum - (offL r).sum = r.getD 0 0 := by unfold offL; rw [sum_set' h0, red_sum hd h]; omega
  rw [e]
  refine list_eq (n := n) (by rw [List.length_set, off_len, hl]) hl fun v hv => ?_
  rw [getD_set (by rw [off_len]; exact h0), off_get h0]
  by_cases c : v = 0
  · rw [if_pos c, c]
  · rw [if_neg c, if_neg c]
theorem zeros_red {n : Nat} {es : List Tri} (hr : Rt n es) : Red n 0 es (zerosL n) (zerosL n) (zerosL n) := by
  have hn := hr.n1
  refine ⟨by simp [zerosL], by simp [zerosL], fun v _ => ?_, zerosL_get _ _, fun v _ _ => by rw [zerosL_get]; exact Int.le_refl _, fun A hA hs => ?_, fun v _ => by rw [zerosL_get]; omega, fun v _ => by rw [zerosL_get]; omega⟩
  · rw [zerosL_get, show lap n (wgt es) (fun u => (zerosL n).getD u 0) v = 0 from sumN_zero fun u _ => by show _ * ((zerosL n).getD v 0 - (zerosL n).getD u 0) = 0; rw [zerosL_get, zerosL_get]; simp]; rfl
  · obtain ⟨v, hv, hvA, hlt⟩ := some_out hr.nn hr.cn (by omega : 0 < n) hA hs
    exact ⟨v, hv, hvA, by unfold fnD; rw [zerosL_get]; exact hlt⟩
/-- Whether a divisor is equivalent to 0. -/
theorem princ_ok {n : Nat} {es : List Tri} (hr : Rt n es) {d r s out : List Int} {ok : Bool} (hd : d.length = n) (h : Red n 0 es d r s) (hs : SolP n es 0 (plusL d (zerosL n) (-1)) out ok) : ok = !r.any fun x => x != 0 := by
  have hzl : (zerosL n).length = n := by simp [zerosL]
  have hb : (!r.any fun x => x != 0) = decide (r = zerosL n) := by
    by_cases e : r = zerosL n
    · rw [decide_eq_true e, e]
      simp [zerosL]
    · rw [decide_eq_false e]
      simp only [Bool.not_eq_false', List.any_eq_true]
      apply Classical.byContradiction
      intro hno
      refine e (List.eq_replicate_iff.2 ⟨h.rl, fun b hb => ?_⟩)
      apply Classical.byContradiction
      intro hb0
      exact hno ⟨b, hb, by simpa using hb0⟩
  rw [hb]
  rcases hs with ⟨rfl, -, -, hsv⟩ | ⟨rfl, rfl, hno⟩
  · refine Eq.symm (decide_eq_true ?_)
    exact (red_way hr h (zeros_red hr) (t := fun u => out.getD u 0) fun v hv => by rw [hsv v hv, minus_get hd hzl hv]).1
  · refine Eq.symm (decide_eq_false fun e => hno (fun u => s.getD u 0) fun v hv => ?_)
    have e1 := h.eq v hv
    rw [minus_get hd hzl hv, zerosL_get]
    rw [e, zerosL_get] at e1
    omega
theorem calm_bd {n : Nat} {es : List Tri} (hr : Rt n es) {x : List Int} (hx : x ∈ calmsL n 0 es) : x.length = n ∧ Bd 9 x ∧ (∀ v, v < n → 0 ≤ x.getD v 0) := by
  obtain ⟨hxl, hx0, hxp, hxt⟩ := (calms_iff hr).1 hx
  refine ⟨hxl, fun v => ?_, hxp⟩
  by_cases hv : v < n
  · by_cases e : v = 0
    · rw [e, hx0]; omega
    · have := tight_lt hr hxt hv e
      have := hxp v hv
      omega
  · rw [List.getD_eq_getElem?_getD, List.getElem?_eq_none (by omega)]; simp
theorem flat_bd {x : List Int} {n : Nat} {B C : Int} (hx : x.length = n) (h0 : 0 < n) (h6 : n ≤ 6) (hB0 : 0 ≤ B) (hb : Bd B x) (hC : 7 * B ≤ C) : Bd C (flatL x 0) := fun v => by
  rw [flat_get (by omega)]
  split
  · have h1 := hb 0
    have h2 := sumN_bd (n := n) (f := fun v => x.getD v 0) (B := B) fun v _ => hb v
    rw [sumd_len x hx] at h2
    have : (n : Int) * B ≤ 6 * B := Int.mul_le_mul_of_nonneg_right (by omega) hB0
    omega
  · have := hb v; omega
end Go.Proofs.YtefggpdobjboeaaGreat
