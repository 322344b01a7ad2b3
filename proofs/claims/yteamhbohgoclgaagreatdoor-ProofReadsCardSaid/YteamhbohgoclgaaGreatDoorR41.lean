/- Contract of the reference's Read. (printed by gen/read57.py) -/
import Derived.Test.YteamhbohgoclgaaGreatDoorR40
set_option maxRecDepth 100000
set_option maxHeartbeats 16000000
namespace Go.Proofs.YteamhbohgoclgaaGreatDoor
open Go.RowKit Go.Shelf

def RdI (T : TypeId) (m : Nat) (V : List (List UInt8)) (B : Nat) (W0 : World) (k : Nat) (v : Value) (W : World) : Prop :=
 (∀ j, j < k -> parE m (V.getD (j + 1) []) = 0) /\ RW T B W v (((V.drop 1).take k).map (clmOf m)) /\ Below B W0 W
theorem rRead_any (s : List UInt8) (w : World) :
   Calls Tryz.prog 8 #[strV s] w fun e w' => ∃ g v, e = .returned (.tuple #[g, v, .int .i64 (rdE s).1, .int .i64 (rdE s).2]) /\ GV w' g (rdG s).1 (rdG s).2 /\ CV w' v (rdC s) /\ Below w.heap.size w w' := by
 obtain ⟨Wr, hWr⟩ : ∃ Wr, Wr = w.alloc (.cells #[.int .i64 0, .slice none 0 0] 25) := ⟨_, rfl⟩
 have hbr : Below w.heap.size w Wr := by rw [hWr]; exact below_alloc w _
 have hxr : BL Wr w.heap.size 25 [.int .i64 0, .slice none 0 0] := by rw [hWr]; exact BL.new' w _ _
 have HBr := Hd hbr
 have HXr := Hd hxr
 have HWr := Hd hWr
 have HLi := Hd (rLines_any s Wr)
 have HLe := Hd (@rdV_lines s)
 have HHd := Hd (@rdV_head s)
 have HBo := Hd (@rdV_body s)
 have HGo := Hd (@rdV_good s)
 have HFc := Hd (@linesV_facts s)
 clear hWr hbr hxr
 generalize rdE s = RE at *
 generalize rdG s = RG at *
 generalize rdC s = RC at *
 generalize linesE s = E at *
 generalize linesN s = N0 at *
 generalize linesV s = V at *
 generalize tornB s = T at *
 go_enter Tryz.func8, Tryz.ntmps8
 go_upto_region 1 with fail
 rw [<- HWr.out]
 go_wp2_with fail
 refine HLi.out.mono ?_
 rintro e w1 ⟨v1, rfl, hr1, hb1⟩
 have HX1 := Hd (HXr.out.bel hb1)
 have HB1 := Hd (HBr.out.trans (hb1.mono HBr.out.size))
 clear hb1 HLi
 by_cases hE : E ≠ 0
 · have hR := Hd (HLe.out hE)
   have t1 : (E != 0) = true := by simpa using hE
   clear HLe HHd HBo HGo HFc hE hr1
   have x0 := HX1.out.cell 0
   have x1 := HX1.out.cell 1
   have z0 := HX1.out.frozen 0
   have z1 := HX1.out.frozen 1
   have HX9 := Hd ((HX1.out.set 0 (.int .i64 0)).set 1 (.slice none 0 0))
   have HB9 := Hd ((HB1.out.setCell (p := ⟨w.heap.size, 0, none⟩) (Nat.le_refl _) (.int .i64 0)).setCell (p := ⟨w.heap.size, 1, none⟩) (Nat.le_refl _) (.slice none 0 0))
   go_wp2
   refine bodyPost_ret (results_row_tmp3 rfl _ _ w.heap.size 25 #[.int .i64 0, .slice none 0 0] (0, 0) _ rfl HX9.out Tryz.underlying25 rfl graph_size) rfl ?_
   exact rd_fin' hR.out HB9.out
 have hE0 : E = 0 := by omega
 subst hE0
 obtain ⟨-, -, hV1, hV2, hVp⟩ := HFc.out rfl
 have hr := hr1 rfl
 obtain ⟨A1, c1, rfl, hlc1, hcl1⟩ := hr.open_
 obtain ⟨ad1, rfl, had1, hc01⟩ := hcl1 0 (by omega)
 rw [add_zero'] at hc01
 have HC1 := Hd hcl1
 have HVp := Hd hVp
 have HHd' := Hd (HHd.out rfl)
 have HBo' := Hd (HBo.out rfl)
 have HGo' := Hd (HGo.out rfl)
 have HHe := Hd (rHead_any (V.getD 0 []) w1 (by have := hVp (V.getD 0 []) (by rw [List.getD_eq_getElem?_getD, List.getElem?_eq_getElem (by omega)]; exact List.getElem_mem _); omega))
 have HOf : Hid (hdE (V.getD 0 []) = 0 -> ∃ m : Nat, hdN (V.getD 0 []) = m /\ 1 <= m /\ m <= 12) := fun h => hd_m h
 have c0 := hc01
 have HA1 := Hd had1
 rw [show strV (V.getD 0 []) = .string ⟨(V.getD 0 []).toArray⟩ from rfl] at c0 HHe
 generalize (⟨(V.getD 0 []).toArray⟩ : ByteArray) = Z0 at *
 generalize hdE (V.getD 0 []) = E0 at *
 generalize hdN (V.getD 0 []) = z0 at *
 generalize hdT (V.getD 0 []) = es at *
 obtain ⟨L, hq⟩ : ∃ L, V.length = L := ⟨_, rfl⟩
 rw [hq]
 have hq1 : L <= 65536 := by omega
 have hL1 : 1 <= L := by omega
 have HQ := Hd hq
 clear HLe HHd HBo HGo HFc hE hr1 hr hcl1 hVp hlc1 hc01 hV1 hV2 hq had1
 go_wp2_with fail
 refine HHe.out.mono ?_
 rintro e w2 ⟨g2, rfl, hg2, ⟨zz, Ag, lg, cg, rfl⟩, hb2⟩
 obtain ⟨W3, hW3⟩ : ∃ W3, W3 = w2.alloc (.cells #[.int .i64 zz, .slice Ag lg cg] 25) := ⟨_, rfl⟩
 have hb3 : Below w2.heap.size w2 W3 := by rw [hW3]; exact below_alloc w2 _
 have hb23 := hb2.trans (hb3.mono hb2.size)
 have HXg := Hd (show BL W3 w2.heap.size 25 [.int .i64 zz, .slice Ag lg cg] by rw [hW3]; exact BL.new' w2 _ _)
 have HX3 := Hd (HX1.out.bel hb23)
 have HB3 := Hd (HB1.out.trans (hb23.mono HB1.out.size))
 have HC3 : Hid (∀ k, k < L -> W3.cell? (ad1.add k) = some (strV (V.getD k [])) /\ ad1.block < W3.heap.size) := fun k hk => by
   obtain ⟨_, he, h1, h2⟩ := HC1.out k (by have := HQ.out; omega)
   cases he
   have := hb23.size
   exact ⟨(hb23.cell (p := ad1.add k) (by rw [block_of_add]; exact h1)).trans h2, by omega⟩
 have HGi : Hid (E0 = 0 -> GV W3 (.agg #[.int .i64 zz, .slice Ag lg cg]) z0 es) := fun h => (hg2 h).below hb3
 have HW3 := Hd hW3
 have HLt : Hid (w.heap.size < w2.heap.size /\ w2.heap.size < W3.heap.size) := by
   have h1 := HX1.out.lt
   have h2 := hb2.size
   have h3 := HXg.out.lt
   exact ⟨by omega, h3⟩
 clear hW3 hb3 hb23 hg2 hb2 HHe HX1 HB1 HC1 c0
 go_upto_region 5 with fail
 rw [<- HW3.out]
 by_cases he0 : E0 ≠ 0
 · have hR := Hd (HHd'.out he0)
   have t3 : (E0 != 0) = true := by simpa using he0
   clear HHd' HBo' HGo' he0 HGi HOf
   have x0 := HX3.out.cell 0
   have x1 := HX3.out.cell 1
   have z0 := HX3.out.frozen 0
   have z1 := HX3.out.frozen 1
   have HX9 := Hd ((HX3.out.set 0 (.int .i64 0)).set 1 (.slice none 0 0))
   have HB9 := Hd ((HB3.out.setCell (p := ⟨w.heap.size, 0, none⟩) (Nat.le_refl _) (.int .i64 0)).setCell (p := ⟨w.heap.size, 1, none⟩) (Nat.le_refl _) (.slice none 0 0))
   go_wp2
   refine bodyPost_ret (results_row_tmp3 rfl _ _ w.heap.size 25 #[.int .i64 0, .slice none 0 0] (0, 0) _ rfl HX9.out Tryz.underlying25 rfl graph_size) rfl ?_
   exact rd_fin' hR.out HB9.out
 have he00 : E0 = 0 := by omega
 subst he00
 obtain ⟨m, rfl, hm1, hm⟩ := HOf.out rfl
 have HG3 := Hd (HGi.out rfl)
 obtain ⟨A, c, hA, -⟩ := HG3.out.open_
 simp only [Value.agg.injEq, Array.mk.injEq, List.cons.injEq, Value.int.injEq, Value.slice.injEq, and_true, true_and] at hA
 obtain ⟨rfl, rfl, rfl, rfl⟩ := hA
 have HBo := Hd (HBo'.out rfl m rfl)
 have HGo := Hd (HGo'.out rfl m rfl)
 have HM1 := Hd hm1
 have HM := Hd hm
 clear HOf HGi HHd' HBo' HGo' he0 hm1 hm
 go_wp2_with fail
 go_loopw [10, 11] (fun v i wr => ∃ x : Nat, 1 <= x /\ x <= L /\ i = .int .i64 (x : Int) /\ Hid (RdI 47 m V W3.heap.size W3 (x - 1) v wr)) (fun _ i _ => L - (intOf i).toNat)
 case atStart => exact ⟨1, Nat.le_refl _, hL1, rfl, fun j hj => absurd hj (by omega), by rw [Nat.sub_self, List.take_zero]; exact RW.nil_ _ _ _, Below.refl _ _⟩
 case round =>
   obtain ⟨x, hx1, hk, rfl, hrd⟩ := hrel
   obtain ⟨k, hxk⟩ : ∃ k, k = x - 1 := ⟨_, rfl⟩
   rw [<- hxk] at hrd
   have HXk : Hid (k + 1 = x) := by show _ = _; omega
   clear hxk
   obtain ⟨hpre, hrw, hbw⟩ := hrd.out
   have HPre := Hd hpre
   have HRw := Hd hrw
   have HBw := Hd hbw
   clear hrd hpre hrw hbw
   by_cases hlt : x < L
   · have hlt' : (x : Int) < (L : Int) := by omega
     have ck := (HC3.out x (by omega)).1
     have ckb := (HC3.out x (by omega)).2
     have hkl : x < 65536 := by omega
     have HPl : Hid (parE m (V.getD x []) ≠ 0 -> RE = ((x : Int), parE m (V.getD x [])) /\ RG = (0, []) /\ RC = []) := fun h => by
       have h2 := HBo.out k HPre.out (by have := HQ.out; have := HXk.out; omega)
       rw [HXk.out] at h2
       exact h2 h
     have HSn : Hid (((V.drop 1).take (k + 1)).map (clmOf m) = ((V.drop 1).take k).map (clmOf m) ++ [clmOf m (V.getD x [])]) := by
       show _ = _
       rw [map_snoc _ _ _ (by rw [List.length_drop]; have := HQ.out; have := HXk.out; omega)]
       simp only [List.getD_eq_getElem?_getD, List.getElem?_drop]
       rw [Nat.add_comm 1 k, HXk.out]
     have hlen : (((V.drop 1).take k).map (clmOf m)).length = k := by rw [List.length_map, List.length_take, List.length_drop]; have := HQ.out; have := HXk.out; omega
     have HGw := Hd (HG3.out.below HBw.out)
     have HLk : Hid ((V.getD x []).length <= 90000) := by
       have := HVp.out (V.getD x []) (by rw [List.getD_eq_getElem?_getD, List.getElem?_eq_getElem (by have := HQ.out; omega)]; exact List.getElem_mem _)
       show _ <= _
       omega
     have HPa : Hid (∀ W, Below wr.heap.size wr W -> Calls Tryz.prog 28 #[.agg #[.int .i64 (m : Int), .slice Ag es.length cg], strV (V.getD x [])] W fun e w' => ∃ (kk Q N : Int) (vc : Value) (Aa : Option Addr) (na ca : Nat) (Ab : Option Addr) (nb cb : Nat) (Af : Option Addr) (nf cf : Nat), e = .returned (.tuple #[.agg #[.int .i64 kk, .int .i64 Q, .int .i64 N, .slice Aa na ca, .slice Ab nb cb, .slice Af nf cf], vc, .int .i64 (parE m (V.getD x []))]) /\
         (parE m (V.getD x []) = 0 -> CO w' W.heap.size [.int .i64 kk, .int .i64 Q, .int .i64 N, .slice Aa na ca, .slice Ab nb cb, .slice Af nf cf] (clmOf m (V.getD x []))) /\ Below W.heap.size W w') := fun W hW => by
       have h1 := rParseO_any _ m es (V.getD x []) W (HGw.out.below hW) HM1.out HM.out HLk.out
       exact h1.mono (fun e w' h => ParO.co h)
     rw [show strV (V.getD x []) = .string ⟨(V.getD x []).toArray⟩ from rfl] at ck HPa
     generalize (⟨(V.getD x []).toArray⟩ : ByteArray) = Z at *
     generalize hpe : parE m (V.getD x []) = pe at *
     have HPe := Hd hpe
     generalize clmOf m (V.getD x []) = cl at *
     generalize ((V.drop 1).take k).map (clmOf m) = cls at *
     obtain ⟨Av, cv, rfl⟩ := HRw.out.shape
     rw [hlen]
     have HCl := Hd hlen
     clear hpe hlen
     obtain ⟨wo, hwo⟩ : ∃ wo, wo = wr := ⟨_, rfl⟩
     subst hwo
     have HSm := Hd HBw.out.size
     have HKp : Hid (∀ W : World, Below wo.heap.size wo W -> (fun W : World => W.cell? ⟨w2.heap.size, 0, none⟩ = some (.int .i64 (m : Int)) /\ W.cell? ⟨w2.heap.size, 1, none⟩ = some (.slice Ag es.length cg) /\ W.cell? (ad1.add x) = some (.string Z)) W) := fun W h =>
       have hb := HBw.out.trans (h.mono HBw.out.size)
       ⟨(HXg.out.bel hb).cell 0, (HXg.out.bel hb).cell 1, (hb.cell (p := ad1.add x) (by rw [block_of_add]; exact ckb)).trans ck⟩
     have HBd := Hd ((Below.refl wo.heap.size wo).drew)
     have HBz := Hd (below_alloc wo (.cells #[.int .i64 0, .int .i64 0, .int .i64 0, .slice none 0 0, .slice none 0 0, .slice none 0 0] 47)).drew
     have HS0 := Hd (HKp.out _ HBd.out)
     have HSz := Hd (HKp.out _ HBz.out)
     have HPd := Hd (HPa.out _ HBd.out)
     have HPz := Hd (HPa.out _ HBz.out)
     have HXz : Hid (BL (wo.alloc (.cells #[.int .i64 0, .int .i64 0, .int .i64 0, .slice none 0 0, .slice none 0 0, .slice none 0 0] 47)).drew wo.heap.size 47 [.int .i64 0, .int .i64 0, .int .i64 0, .slice none 0 0, .slice none 0 0, .slice none 0 0]) := BL.new' wo _ _
     clear ck ckb HPa
     go_wp2_with fail
     go_cut [12, 13, 14] from 43 to 52 (fun p cv0 ev wx => ∃ (b6 : Nat) (kk Q N : Int) (Aa : Option Addr) (na ca : Nat) (Ab : Option Addr) (nb cb : Nat) (Af : Option Addr) (nf cf : Nat), p = .pointer (some ⟨b6, 0, none⟩) /\ AnyV cv0 /\ ev = .int .i64 pe /\ Hid (BL wx b6 47 [.int .i64 kk, .int .i64 Q, .int .i64 N, .slice Aa na ca, .slice Ab nb cb, .slice Af nf cf]) /\ Hid (pe = 0 -> CO wx wo.heap.size [.int .i64 kk, .int .i64 Q, .int .i64 N, .slice Aa na ca, .slice Ab nb cb, .slice Af nf cf] cl) /\ Hid (Below wo.heap.size wo wx))
     case first =>
       go_region_held3 (fun W : World => W.cell? ⟨w2.heap.size, 0, none⟩ = some (.int .i64 (m : Int)) /\ W.cell? ⟨w2.heap.size, 1, none⟩ = some (.slice Ag es.length cg) /\ W.cell? (ad1.add x) = some (.string Z)) (first | with_reducible exact HS0.out | with_reducible exact HSz.out | with_reducible exact HS1.out | with_reducible exact HS6.out | with_reducible exact HS7.out | with_reducible exact HS8.out | exact HKp.out _ (HBk.out.alloc HBk.out.size _))
         (first
           | (go_at_call 28; (with_reducible refine HPz.out.mono ?_); rintro e w6 ⟨kk, Q, N, vc, Aa, na, ca, Ab, nb, cb, Af, nf, cf, rfl, hok, hb6⟩; have HBk := Hd (HBz.out.trans (hb6.mono HBz.out.size)); have HS1 := Hd (HKp.out _ HBk.out); have HOk := Hd hok; have hz := HXz.out.bel hb6; have z0 := hz.cell 0; have z1 := hz.cell 1; have z2 := hz.cell 2; have z3 := hz.cell 3; have z4 := hz.cell 4; have z5 := hz.cell 5; have f0 := Go.Lib.frozen_of_heap hz 0; have f1 := Go.Lib.frozen_of_heap hz 1; have f2 := Go.Lib.frozen_of_heap hz 2; have f3 := Go.Lib.frozen_of_heap hz 3; have f4 := Go.Lib.frozen_of_heap hz 4; have f5 := Go.Lib.frozen_of_heap hz 5; have HZ := Hd hz; have HS6 := Hd (HKp.out _ (below6 HBk.out (Nat.le_refl _) (.int .i64 kk) (.int .i64 Q) (.int .i64 N) (.slice Aa na ca) (.slice Ab nb cb) (.slice Af nf cf))); have HZs := Hd HBz.out.size; clear hb6 hz hok)
           | (go_at_call 28; (with_reducible refine HPd.out.mono ?_); rintro e w6 ⟨kk, Q, N, vc, Aa, na, ca, Ab, nb, cb, Af, nf, cf, rfl, hok, hb6⟩; have HBk := Hd (HBd.out.trans hb6); have HS1 := Hd (HKp.out _ HBk.out); have HOk := Hd hok; have HS7 := Hd (HKp.out _ (HBk.out.alloc HBk.out.size (.cells #[.int .i64 kk, .int .i64 Q, .int .i64 N, .slice Aa na ca, .slice Ab nb cb, .slice Af nf cf] 47))); have HS8 := Hd (HKp.out _ (HBk.out.alloc HBk.out.size (.cells #[.int .i64 0, .int .i64 0, .int .i64 0, .slice none 0 0, .slice none 0 0, .slice none 0 0] 47))); clear hb6 hok))
       all_goals
         go_wp2_with fail
         go_meet
         first
           | exact ⟨_, kk, Q, N, Aa, na, ca, Ab, nb, cb, Af, nf, cf, rfl, True.intro, rfl, HZ.out.set6 _ _ _ _ _ _, fun h => ((HOk.out h).mono HZs.out).set6 HZ.out _ _ _ _ _ _, below6 HBk.out (Nat.le_refl _) _ _ _ _ _ _⟩
           | exact ⟨_, kk, Q, N, Aa, na, ca, Ab, nb, cb, Af, nf, cf, rfl, True.intro, rfl, BL.new' w6 _ _, fun h => (HOk.out h).below (below_alloc w6 _), HBk.out.alloc HBk.out.size _⟩
     case rest =>
     obtain ⟨wd, hwd⟩ : ∃ wd, wd = wc := ⟨_, rfl⟩
     subst hwd
     obtain ⟨b6, kk, Q, N, Aa, na, ca, Ab, nb, cb, Af, nf, cf, rfl, -, rfl, HX7, HOk, hb7⟩ := hcut
     have HB7 := Hd (HBw.out.trans (hb7.out.mono HBw.out.size))
     have HBw7 := Hd (HB3.out.trans (HB7.out.mono HB3.out.size))
     have HXr7 := Hd (HX3.out.bel HB7.out)
     have HR7 := Hd (HRw.out.below hb7.out)
     clear hb7 HPd HPz HXz HSz HS0 HBz HBd HKp HRw
     by_cases hp0 : pe ≠ 0
     · have hR := Hd (HPl.out hp0)
       have t4 : (pe != 0) = true := by simpa using hp0
       clear HPl hp0 HOk
       have x0 := HXr7.out.cell 0
       have x1 := HXr7.out.cell 1
       have z0 := HXr7.out.frozen 0
       have z1 := HXr7.out.frozen 1
       have HX9 := Hd ((HXr7.out.set 0 (.int .i64 0)).set 1 (.slice none 0 0))
       have HB9 := Hd ((HBw7.out.setCell (p := ⟨w.heap.size, 0, none⟩) (Nat.le_refl _) (.int .i64 0)).setCell (p := ⟨w.heap.size, 1, none⟩) (Nat.le_refl _) (.slice none 0 0))
       go_wp2
       refine bodyPost_ret (results_row_tmp3 rfl _ _ w.heap.size 25 #[.int .i64 0, .slice none 0 0] (0, 0) _ rfl HX9.out Tryz.underlying25 rfl graph_size) rfl ?_
       exact rd_fin' hR.out HB9.out
     have hp00 : pe = 0 := by omega
     subst hp00
     have HCo := Hd (HOk.out rfl)
     obtain ⟨i1, hi1, hz01, hz11, hz21⟩ := info_parts' rclaim_info
     have hB7 : W3.heap.size <= wd.heap.size := HB7.out.size
     have hR7 := HR7.out
     obtain ⟨g9, cap9, w9, hrun, hown, hgr⟩ := RW.push (P := Tryz.prog) wd 30 30 i1 _ 96 Tryz.underlying30 hi1 hz01 hz11 hz21 (by omega) rfl (by decide) W3.heap.size _ cls hR7 kk Q N Aa Ab Af na nb nf ca cb cf cl (HCo.out.mono HSm.out) (by have := HCl.out; have := HXk.out; omega) hB7
     have HB9 : Hid (Below W3.heap.size W3 w9) := (HB7.out.alloc hB7 _).grown hgr (by simp; omega) (fun k hk => (hR7.own hk).1)
     rw [HCl.out] at hrun hown
     rw [<- HSn.out] at hown
     have HOw := Hd hown
     have HPk : Hid (∀ j, j < k + 1 -> parE m (V.getD (j + 1) []) = 0) := fun j hj => by
       by_cases h : j < k
       · exact HPre.out j h
       · obtain rfl : j = k := by omega
         rw [HXk.out]
         exact HPe.out
     have y0 := HX7.out.cell 0
     have y1 := HX7.out.cell 1
     have y2 := HX7.out.cell 2
     have y3 := HX7.out.cell 3
     have y4 := HX7.out.cell 4
     have y5 := HX7.out.cell 5
     clear hi1 hz01 hz11 hz21 hown hgr HSn HOk HPl hp0 hB7 hR7
     go_wp2_with (refine wpList_append' rfl (.tmp 58) (.tmp 60) 30 rfl _ _ (by simp [Act.eval]) (by simp [Act.eval]) _ _ hrun ?_)
     go_roundw
     case rel => exact ⟨x + 1, by omega, by omega, by go_num, by rw [show x + 1 - 1 = k + 1 by have := HXk.out; omega]; exact ⟨HPk.out, HOw.out, HB9.out⟩⟩
     case measure => simp [intOf]; omega
   · obtain rfl : x = L := by omega
     have hR := Hd (HGo.out fun j hj => HPre.out j (by have := HQ.out; have := HXk.out; omega))
     have HRw' := HRw.out
     rw [List.take_of_length_le (by rw [List.length_drop]; have := HQ.out; have := HXk.out; omega)] at HRw'
     have HRc := Hd HRw'
     obtain ⟨Av, cv, hv⟩ := HRw.out.shape
     rw [show (((V.drop 1).take k).map (clmOf m)).length = k by rw [List.length_map, List.length_take, List.length_drop]; have := HQ.out; have := HXk.out; omega] at hv
     subst hv
     have HBww := Hd (HB3.out.trans (HBw.out.mono HB3.out.size))
     have HXr := Hd (HX3.out.bel HBw.out)
     have HXgr := Hd (HXg.out.bel HBw.out)
     have g0 := HXgr.out.cell 0
     have g1 := HXgr.out.cell 1
     have x0 := HXr.out.cell 0
     have x1 := HXr.out.cell 1
     have z0 := HXr.out.frozen 0
     have z1 := HXr.out.frozen 1
     have HGr := Hd (HG3.out.below HBw.out)
     have HX9 := Hd ((HXr.out.set 0 (.int .i64 (m : Int))).set 1 (.slice Ag es.length cg))
     have HB9 := Hd ((HBww.out.setCell (p := ⟨w.heap.size, 0, none⟩) (Nat.le_refl _) (.int .i64 (m : Int))).setCell (p := ⟨w.heap.size, 1, none⟩) (Nat.le_refl _) (.slice Ag es.length cg))
     have HG9 := Hd ((HGr.out.set2 HXr.out 0 (.int .i64 (m : Int))).set2 (HXr.out.set 0 (.int .i64 (m : Int))) 1 (.slice Ag es.length cg))
     have HR9 := Hd ((HRc.out.set HXr.out (by decide) (by decide) 0 (.int .i64 (m : Int))).set (HXr.out.set 0 (.int .i64 (m : Int))) (by decide) (by decide) 1 (.slice Ag es.length cg))
     clear HRw'
     go_wp2
     refine bodyPost_ret (results_row_tmp3 rfl _ _ w.heap.size 25 #[.int .i64 (m : Int), .slice Ag es.length cg] (0, 0) _ rfl HX9.out Tryz.underlying25 rfl graph_size) rfl ?_
     refine ⟨_, _, by rw [hR.out.1] <;> rfl, ?_, ?_, HB9.out⟩
     · rw [hR.out.2.1]; exact HG9.out
     · rw [hR.out.2.2]; exact HR9.out.cv
theorem ordP_lt {x y : Int} (xs ys : List Int) (h : x < y) : cmpL (x :: xs) (y :: ys) = -1 := by
 have e : cmpI x y = -1 := sgn_lt h
 rw [cmpL, e]; rfl
theorem ordP_gt {x y : Int} (xs ys : List Int) (h : y < x) : cmpL (x :: xs) (y :: ys) = 1 := by
 have e : cmpI x y = 1 := sgn_gt h
 rw [cmpL, e]; rfl
theorem ordL_eq (x : Int) (xs ys : List Int) : cmpL (x :: xs) (x :: ys) = cmpL xs ys := by
 have e : cmpI x x = 0 := sgn_eq rfl
 rw [cmpL, e]; rfl
theorem rOrdP_any (va vb : Value) (xs ys : List Int) (w : World) (ha : RI w va xs) (hb : RI w vb ys) (hl : xs.length = ys.length) :
   Calls Tryz.prog 71 #[va, vb] w fun e w' => e = .returned (.int .i64 (cmpL xs ys)) /\ ∃ n, w' = w.drewN n := by
 obtain ⟨A, c, rfl, hlc, hc, hcell⟩ := ha.open_
 obtain ⟨A', c', rfl, hlc', hc', hcell'⟩ := hb.open_
 have HA := Hd hcell
 have HB := Hd hcell'
 have HL := Hd hl
 clear hcell hcell' ha hb hl
 go_enter Tryz.func71, Tryz.ntmps71
 go_wp2
 go_loopw [5] (fun i wr => ∃ k : Nat, k <= xs.length /\ i = .int .i64 k /\ Hid (cmpL (xs.drop k) (ys.drop k) = cmpL xs ys) /\ Dr w wr) (fun i _ => xs.length - (intOf i).toNat)
 case atStart => exact ⟨0, Nat.zero_le _, rfl, rfl, Dr.refl _⟩
 case round =>
   obtain ⟨k, hk, rfl, he, hdr⟩ := hrel
   by_cases hlt : k < xs.length
   · obtain ⟨ad, z, rfl, _, hz, hcl⟩ := HA.out k hlt
     have hlt' : k < ys.length := by have := HL.out; omega
     obtain ⟨ad', z', rfl, _, hz', hcl'⟩ := HB.out k hlt'
     have hcw := (hdr.cell _).trans hcl
     have hcw' := (hdr.cell _).trans hcl'
     have HD := Hd (drop_at hz)
     have HD' := Hd (drop_at hz')
     clear HA HB
     by_cases c1 : z < z'
     · have HR : Hid (cmpL xs ys = -1) := by show _ = _; rw [<- he.out, HD.out, HD'.out, ordP_lt _ _ c1]
       go_wp2_with fail
       go_quiet (fail)
       go_wp2
       go_ret
       exact ⟨ret_i HR.out.symm, (by obtain ⟨n, rfl⟩ := hdr; exact ⟨n + nq, World.drewN_drewN ..⟩)⟩
     · by_cases c2 : z' < z
       · have HR : Hid (cmpL xs ys = 1) := by show _ = _; rw [<- he.out, HD.out, HD'.out, ordP_gt _ _ c2]
         go_wp2_with fail
         go_quiet (fail)
         go_wp2_with fail
         go_quiet (fail)
         go_wp2
         go_ret
         refine ⟨ret_i HR.out.symm, ?_⟩
         show Dr w _
         repeat (first | assumption | exact Dr.refl _ | apply Dr.drewN | apply Dr.drew)
       · obtain rfl : z' = z := by omega
         have HR : Hid (cmpL (xs.drop (k + 1)) (ys.drop (k + 1)) = cmpL xs ys) := by show _ = _; rw [<- he.out, HD.out, HD'.out, ordL_eq]
         go_wp2_with fail
         go_quiet (fail)
         go_wp2_with fail
         go_quiet (fail)
         go_wp2
         go_roundw
         case rel => exact ⟨k + 1, by omega, by go_num, HR.out, (by repeat (first | assumption | exact Dr.refl _ | apply Dr.drewN | apply Dr.drew))⟩
         case measure => simp [intOf]; omega
   · have HR : Hid (cmpL xs ys = 0) := by
       show _ = _
       rw [<- he.out, List.drop_of_length_le (by omega), List.drop_of_length_le (by have := HL.out; omega)]; rfl
     go_wp2
     go_ret
     exact ⟨ret_i HR.out.symm, hdr⟩
theorem RI.drewN' {w : World} {v : Value} {zs : List Int} (h : RI w v zs) (n : Nat) : RI (w.drewN n) v zs := h
theorem SameInts08_any (va vb : Value) (xs ys : List Int) (w : World) (ha : RI w va xs) (hb : RI w vb ys) :
   Calls Tryz.prog 40 #[va, vb] w (Quiet w (.bool (eqL xs ys))) := by
 obtain ⟨A, c, rfl, hlc, hc, hcell⟩ := ha.open_
 obtain ⟨A', c', rfl, hlc', hc', hcell'⟩ := hb.open_
 have HA := Hd hcell
 have HB := Hd hcell'
 clear hcell hcell' ha hb
 by_cases hl : xs.length = ys.length
 · have hl' : ((xs.length : Int) != ys.length) = false := by simp [hl]
   have HL := Hd hl
   clear hl
   go_enter Tryz.func40, Tryz.ntmps40
   go_wp2
   go_loopw [5] (fun i wr => ∃ k m : Nat, k <= xs.length /\ i = .int .i64 k /\ Hid (eqL (xs.drop k) (ys.drop k) = eqL xs ys) /\ wr = w.drewN m) (fun i _ => xs.length - (intOf i).toNat)
   case atStart => exact ⟨0, 0, Nat.zero_le _, rfl, rfl, rfl⟩
   case round =>
     obtain ⟨k, m, hk, rfl, he, rfl⟩ := hrel
     by_cases hlt : k < xs.length
     · obtain ⟨ad, z, rfl, _, hz, hcl⟩ := HA.out k hlt
       have hlt' : k < ys.length := by have := HL.out; omega
       obtain ⟨ad', z', rfl, _, hz', hcl'⟩ := HB.out k hlt'
       have HD := Hd (drop_at hz)
       have HD' := Hd (drop_at hz')
       clear HA HB
       go_wp2_with fail
       go_quiet (fail)
       go_wp2
       · have hne : z ≠ z' := by have : (z != z') = true := by assumption
                                 simpa using this
         go_ret
         refine ⟨ret_b ?_, m + nq, by simp⟩
         rw [<- he.out, HD.out, HD'.out]
         simp [eqL, hne]
       · have heq : z = z' := by have : (z != z') = false := by assumption
                                 simpa using this
         go_roundw
         case rel => exact ⟨k + 1, m + nq, by omega, by go_num, by show _ = _; rw [<- he.out, HD.out, HD'.out]; simp [eqL, heq], by simp⟩
         case measure => simp [intOf]; omega
     · go_wp2
       go_ret
       refine ⟨ret_b ?_, m, rfl⟩
       rw [<- he.out, List.drop_of_length_le (by omega), List.drop_of_length_le (by have := HL.out; omega)]; rfl
 · have hl' : ((xs.length : Int) != ys.length) = true := by simp; omega
   have HL := Hd hl
   clear hl
   go_enter Tryz.func40, Tryz.ntmps40
   go_wp2
   go_ret
   exact ⟨ret_b (eqL_len HL.out).symm, 0, rfl⟩
theorem cmp_eq {xs ys : List Int} : (cmpL xs ys == 0) = eqL xs ys := by
 by_cases h : xs = ys
 · subst h; rw [cmpL_refl, (eqL_iff _ _).2 rfl]; rfl
 · have h1 : eqL xs ys = false := by rw [Bool.eq_false_iff]; intro e; exact h ((eqL_iff _ _).1 e)
   rw [h1, beq_eq_false_iff_ne]
   intro e
   refine h (cmpL_anti xs ys (by omega) ?_)
   have : cmpL ys xs = - cmpL xs ys := by
     clear h h1 e
     induction xs generalizing ys with
     | nil => cases ys <;> simp [cmpL]
     | cons x r ih =>
       cases ys with
       | nil => simp [cmpL]
       | cons y s =>
         rw [cmpL_cons, cmpL_cons, ih]
         by_cases h1 : x < y
         · rw [if_pos h1, if_neg (by omega), if_pos h1]; decide
         · by_cases h2 : y < x
           · rw [if_pos h2, if_neg h1, if_pos h2]
           · rw [if_neg h2, if_neg h1]; first | done | (rw [if_neg h1, if_neg h2])
   omega
theorem rSame17_any (va vb : Value) (xs ys : List Int) (w : World) (ha : RI w va xs) (hb : RI w vb ys) :
   Calls Tryz.prog 39 #[va, vb] w (Quiet w (.bool (eqL xs ys))) := by
 have HO := Hd (fun h => rOrdP_any va vb xs ys w ha hb h)
 obtain ⟨A, c, rfl, -⟩ := ha.open_
 obtain ⟨A', c', rfl, -⟩ := hb.open_
 clear ha hb
 by_cases hl : xs.length = ys.length
 · have hl' : ((xs.length : Int) != ys.length) = false := by simp [hl]
   have HOr := Hd (HO.out hl)
   have HE : Hid ((cmpL xs ys == 0) = eqL xs ys) := cmp_eq
   generalize cmpL xs ys = z at *
   clear HO hl
   go_enter Tryz.func39, Tryz.ntmps39
   go_wp2_with fail
   refine HOr.out.mono ?_
   rintro e w2 ⟨rfl, n, rfl⟩
   go_wp2
   go_ret
   exact ⟨ret_b HE.out, n, rfl⟩
 · have hl' : ((xs.length : Int) != ys.length) = true := by simp; omega
   have HL := Hd hl
   clear hl HO
   go_enter Tryz.func39, Tryz.ntmps39
   go_wp2
   go_ret
   exact ⟨ret_b (eqL_len HL.out).symm, 0, rfl⟩
def sameC (k1 Q1 N1 : Int) (a1 b1 f1 : List Int) (k2 Q2 N2 : Int) (a2 b2 f2 : List Int) : Bool := (k1 == k2) && (Q1 == Q2) && (N1 == N2) && eqL a1 a2 && eqL b1 b2 && eqL f1 f2
theorem rSame57_any (va1 vb1 vf1 va2 vb2 vf2 : Value) (k1 Q1 N1 : Int) (a1 b1 f1 : List Int) (k2 Q2 N2 : Int) (a2 b2 f2 : List Int) (w : World) (ha1 : RI w va1 a1) (hb1 : RI w vb1 b1) (hf1 : RI w vf1 f1) (ha2 : RI w va2 a2) (hb2 : RI w vb2 b2) (hf2 : RI w vf2 f2) :
   Calls Tryz.prog 19 #[.agg #[.int .i64 k1, .int .i64 Q1, .int .i64 N1, va1, vb1, vf1], .agg #[.int .i64 k2, .int .i64 Q2, .int .i64 N2, va2, vb2, vf2]] w fun e w' => e = .returned (.bool (sameC k1 Q1 N1 a1 b1 f1 k2 Q2 N2 a2 b2 f2)) /\ Below w.heap.size w w' := by
 obtain ⟨Aa1, ca1, rfl, -⟩ := ha1.open_
 obtain ⟨Ab1, cb1, rfl, -⟩ := hb1.open_
 obtain ⟨Af1, cf1, rfl, -⟩ := hf1.open_
 obtain ⟨Aa2, ca2, rfl, -⟩ := ha2.open_
 obtain ⟨Ab2, cb2, rfl, -⟩ := hb2.open_
 obtain ⟨Af2, cf2, rfl, -⟩ := hf2.open_
 obtain ⟨W0, hW0⟩ : ∃ W0, W0 = (w.alloc (.cells #[.int .i64 k1, .int .i64 Q1, .int .i64 N1, .slice Aa1 a1.length ca1, .slice Ab1 b1.length cb1, .slice Af1 f1.length cf1] 47)).alloc (.cells #[.int .i64 k2, .int .i64 Q2, .int .i64 N2, .slice Aa2 a2.length ca2, .slice Ab2 b2.length cb2, .slice Af2 f2.length cf2] 47) := ⟨_, rfl⟩
 have hbW : Below w.heap.size w W0 := by rw [hW0]; exact (below_alloc w _).alloc (by simp) _
 have hx1 : BL W0 w.heap.size 47 [.int .i64 k1, .int .i64 Q1, .int .i64 N1, .slice Aa1 a1.length ca1, .slice Ab1 b1.length cb1, .slice Af1 f1.length cf1] := by rw [hW0]; exact (BL.new' w _ _).alloc _
 have hx2 : BL W0 (w.heap.size + 1) 47 [.int .i64 k2, .int .i64 Q2, .int .i64 N2, .slice Aa2 a2.length ca2, .slice Ab2 b2.length cb2, .slice Af2 f2.length cf2] := by
   rw [hW0]
   have := BL.new' (w.alloc (.cells #[.int .i64 k1, .int .i64 Q1, .int .i64 N1, .slice Aa1 a1.length ca1, .slice Ab1 b1.length cb1, .slice Af1 f1.length cf1] 47)) #[.int .i64 k2, .int .i64 Q2, .int .i64 N2, .slice Aa2 a2.length ca2, .slice Ab2 b2.length cb2, .slice Af2 f2.length cf2] 47
   rwa [World.size_alloc] at this
 have HE1 : Hid (∀ n, Calls Tryz.prog 39 #[.slice Aa1 a1.length ca1, .slice Aa2 a2.length ca2] (W0.drewN n) (Quiet (W0.drewN n) (.bool (eqL a1 a2)))) := fun n => rSame17_any _ _ a1 a2 _ (RI.drewN' (RI.below ha1 hbW) n) (RI.drewN' (RI.below ha2 hbW) n)
 have HE2 : Hid (∀ n, Calls Tryz.prog 39 #[.slice Ab1 b1.length cb1, .slice Ab2 b2.length cb2] (W0.drewN n) (Quiet (W0.drewN n) (.bool (eqL b1 b2)))) := fun n => rSame17_any _ _ b1 b2 _ (RI.drewN' (RI.below hb1 hbW) n) (RI.drewN' (RI.below hb2 hbW) n)
 have HE3 : Hid (∀ n, Calls Tryz.prog 40 #[.slice Af1 f1.length cf1, .slice Af2 f2.length cf2] (W0.drewN n) (Quiet (W0.drewN n) (.bool (eqL f1 f2)))) := fun n => SameInts08_any _ _ f1 f2 _ (RI.drewN' (RI.below hf1 hbW) n) (RI.drewN' (RI.below hf2 hbW) n)
 have HR : Hid (sameC k1 Q1 N1 a1 b1 f1 k2 Q2 N2 a2 b2 f2 = ((k1 == k2) && (Q1 == Q2) && (N1 == N2) && eqL a1 a2 && eqL b1 b2 && eqL f1 f2)) := rfl
 generalize sameC k1 Q1 N1 a1 b1 f1 k2 Q2 N2 a2 b2 f2 = E at *
 generalize eqL a1 a2 = ea at *
 generalize eqL b1 b2 = eb at *
 generalize eqL f1 f2 = ef at *
 have HX1 := Hd hx1
 have HX2 := Hd hx2
 have HBW := Hd hbW
 have HW0 := Hd hW0
 clear ha1 hb1 hf1 ha2 hb2 hf2 hx1 hx2 hbW hW0
 have x10 := HX1.out.cell 0
 have x11 := HX1.out.cell 1
 have x12 := HX1.out.cell 2
 have x13 := HX1.out.cell 3
 have x14 := HX1.out.cell 4
 have x15 := HX1.out.cell 5
 have x20 := HX2.out.cell 0
 have x21 := HX2.out.cell 1
 have x22 := HX2.out.cell 2
 have x23 := HX2.out.cell 3
 have x24 := HX2.out.cell 4
 have x25 := HX2.out.cell 5
 rw [HW0.out] at x10 x11 x12 x13 x14 x15 x20 x21 x22 x23 x24 x25
 cases t0 : (k1 == k2)
 · have hR : Hid (E = false) := by show _ = _; rw [HR.out, t0]; simp
   clear HR
   go_enter Tryz.func19, Tryz.ntmps19
   go_wp2
   go_ret
   exact ⟨ret_b hR.out.symm, by rw [<- HW0.out]; exact HBW.out⟩
 cases t1 : (Q1 == Q2)
 · have hR : Hid (E = false) := by show _ = _; rw [HR.out, t1]; simp
   clear HR
   go_enter Tryz.func19, Tryz.ntmps19
   go_wp2
   go_ret
   exact ⟨ret_b hR.out.symm, by rw [<- HW0.out]; exact HBW.out⟩
 cases t2 : (N1 == N2)
 · have hR : Hid (E = false) := by show _ = _; rw [HR.out, t2]; simp
   clear HR
   go_enter Tryz.func19, Tryz.ntmps19
   go_wp2
   go_ret
   exact ⟨ret_b hR.out.symm, by rw [<- HW0.out]; exact HBW.out⟩
 rw [t0, t1, t2] at HR
 go_enter Tryz.func19, Tryz.ntmps19
 go_wp2_with fail
 rw [<- HW0.out]
 refine (HE1.out 0).mono ?_
 rintro e w1 ⟨rfl, n1, rfl⟩
 have hw1 : (W0.drewN 0).drewN n1 = W0.drewN n1 := by simp
 rw [hw1]
 clear x10 x11 x12 x13 x14 x15
 have x10 : (W0.drewN n1).cell? ⟨w.heap.size, 0, none⟩ = _ := HX1.out.cell 0
 have x11 : (W0.drewN n1).cell? ⟨w.heap.size, 1, none⟩ = _ := HX1.out.cell 1
 have x12 : (W0.drewN n1).cell? ⟨w.heap.size, 2, none⟩ = _ := HX1.out.cell 2
 have x13 : (W0.drewN n1).cell? ⟨w.heap.size, 3, none⟩ = _ := HX1.out.cell 3
 have x14 : (W0.drewN n1).cell? ⟨w.heap.size, 4, none⟩ = _ := HX1.out.cell 4
 have x15 : (W0.drewN n1).cell? ⟨w.heap.size, 5, none⟩ = _ := HX1.out.cell 5
 clear x20 x21 x22 x23 x24 x25
 have x20 : (W0.drewN n1).cell? ⟨w.heap.size + 1, 0, none⟩ = _ := HX2.out.cell 0
 have x21 : (W0.drewN n1).cell? ⟨w.heap.size + 1, 1, none⟩ = _ := HX2.out.cell 1
 have x22 : (W0.drewN n1).cell? ⟨w.heap.size + 1, 2, none⟩ = _ := HX2.out.cell 2
 have x23 : (W0.drewN n1).cell? ⟨w.heap.size + 1, 3, none⟩ = _ := HX2.out.cell 3
 have x24 : (W0.drewN n1).cell? ⟨w.heap.size + 1, 4, none⟩ = _ := HX2.out.cell 4
 have x25 : (W0.drewN n1).cell? ⟨w.heap.size + 1, 5, none⟩ = _ := HX2.out.cell 5
 cases ea
 · have hR : Hid (E = false) := by show _ = _; rw [HR.out]; simp
   clear HR
   go_wp2
   go_ret
   exact ⟨ret_b hR.out.symm, below_drewN HBW.out n1⟩
 go_wp2_with fail
 refine (HE2.out n1).mono ?_
 rintro e w1 ⟨rfl, n2, rfl⟩
 have hw2 : (W0.drewN n1).drewN n2 = W0.drewN (n1 + n2) := by simp
 rw [hw2]
 clear x10 x11 x12 x13 x14 x15
 have x10 : (W0.drewN (n1 + n2)).cell? ⟨w.heap.size, 0, none⟩ = _ := HX1.out.cell 0
 have x11 : (W0.drewN (n1 + n2)).cell? ⟨w.heap.size, 1, none⟩ = _ := HX1.out.cell 1
 have x12 : (W0.drewN (n1 + n2)).cell? ⟨w.heap.size, 2, none⟩ = _ := HX1.out.cell 2
 have x13 : (W0.drewN (n1 + n2)).cell? ⟨w.heap.size, 3, none⟩ = _ := HX1.out.cell 3
 have x14 : (W0.drewN (n1 + n2)).cell? ⟨w.heap.size, 4, none⟩ = _ := HX1.out.cell 4
 have x15 : (W0.drewN (n1 + n2)).cell? ⟨w.heap.size, 5, none⟩ = _ := HX1.out.cell 5
 clear x20 x21 x22 x23 x24 x25
 have x20 : (W0.drewN (n1 + n2)).cell? ⟨w.heap.size + 1, 0, none⟩ = _ := HX2.out.cell 0
 have x21 : (W0.drewN (n1 + n2)).cell? ⟨w.heap.size + 1, 1, none⟩ = _ := HX2.out.cell 1
 have x22 : (W0.drewN (n1 + n2)).cell? ⟨w.heap.size + 1, 2, none⟩ = _ := HX2.out.cell 2
 have x23 : (W0.drewN (n1 + n2)).cell? ⟨w.heap.size + 1, 3, none⟩ = _ := HX2.out.cell 3
 have x24 : (W0.drewN (n1 + n2)).cell? ⟨w.heap.size + 1, 4, none⟩ = _ := HX2.out.cell 4
 have x25 : (W0.drewN (n1 + n2)).cell? ⟨w.heap.size + 1, 5, none⟩ = _ := HX2.out.cell 5
 cases eb
 · have hR : Hid (E = false) := by show _ = _; rw [HR.out]; simp
   clear HR
   go_wp2
   go_ret
   exact ⟨ret_b hR.out.symm, below_drewN HBW.out _⟩
 go_wp2_with fail
 refine (HE3.out (n1 + n2)).mono ?_
 rintro e w1 ⟨rfl, n3, rfl⟩
 have hR : Hid (E = ef) := by show _ = _; rw [HR.out]; simp
 clear HR
 go_wp2
 go_ret
 exact ⟨ret_b hR.out.symm, by first | exact below_drewN (below_drewN HBW.out _) n3 | exact below_drewN HBW.out _⟩
end Go.Proofs.YteamhbohgoclgaaGreatDoor
