/- Contract of proof.Read. -/
import Derived.Test.YteamhbohgoclgaaGreatDoorR37
set_option maxRecDepth 100000
set_option maxHeartbeats 16000000
namespace Go.Proofs.YteamhbohgoclgaaGreatDoor
open Go.RowKit Go.Shelf

theorem PclQ.co {m : Nat} {s : List UInt8} {w0 : World} {e : Ending} {w' : World} (h : PclQ m s w0 e w') :
   ∃ (kk Q N : Int) (Aa : Option Addr) (na ca : Nat) (Ab : Option Addr) (nb cb : Nat) (Af : Option Addr) (nf cf : Nat), e = .returned (.tuple #[.agg #[.int .i64 kk, .int .i64 Q, .int .i64 N, .slice Aa na ca, .slice Ab nb cb, .slice Af nf cf], .int .i64 (parE m s)]) /\
     (parE m s = 0 -> CO w' w0.heap.size [.int .i64 kk, .int .i64 Q, .int .i64 N, .slice Aa na ca, .slice Ab nb cb, .slice Af nf cf] (clmOf m s)) /\ Below w0.heap.size w0 w' := by
 obtain ⟨kk, Q, N, va, vb, vf, he, hok, ⟨⟨Aa, na, ca, rfl⟩, ⟨Ab, nb, cb, rfl⟩, ⟨Af, nf, cf, rfl⟩⟩, hb⟩ := h
 refine ⟨kk, Q, N, Aa, na, ca, Ab, nb, cb, Af, nf, cf, he, fun h0 => ?_, hb⟩
 obtain ⟨i, l, hi9, hi, hl, hbd, hkk, hQ, hN, vl, hol, hall⟩ := hok h0
 refine ⟨vl, l, hol, fun W hW => ?_⟩
 obtain ⟨ra, rb, rf⟩ := hall W hW
 subst hi hl
 refine ⟨_, _, _, ?_, ra, rb, rf⟩
 rw [hkk, hQ, hN]; rfl
def RdP (T : TypeId) (m : Nat) (ls : List (List UInt8)) (B : Nat) (W0 : World) (k : Nat) (v : Value) (W : World) : Prop :=
 (∀ j, j < k -> parE m (ls.getD j []) = 0) /\ RW T B W v ((ls.take k).map (clmOf m)) /\ Below B W0 W
theorem pReadT_any (s : List UInt8) (w : World) (hlv : LV w) :
   Calls Tryz.prog 7 #[strV s] w fun e w' => ∃ g v, e = .returned (.tuple #[g, v, .int .i64 (rdE s).1, .int .i64 (rdE s).2]) /\ GV w' g (rdG s).1 (rdG s).2 /\ CV w' v (rdC s) /\ Below w.heap.size w w' := by
 obtain ⟨Wr, hWr⟩ : ∃ Wr, Wr = w.alloc (.cells #[.int .i64 0, .slice none 0 0] 25) := ⟨_, rfl⟩
 have hbr : Below w.heap.size w Wr := by rw [hWr]; exact below_alloc w _
 have hxr : BL Wr w.heap.size 25 [.int .i64 0, .slice none 0 0] := by rw [hWr]; exact BL.new' w _ _
 have HBr := Hd hbr
 have HXr := Hd hxr
 have HWr := Hd hWr
 have HLVr := Hd (hlv.below hbr)
 have hsz : (⟨s.toArray⟩ : ByteArray).size = s.length := by simp [ByteArray.size]
 clear hWr hbr hxr hlv
 by_cases hl : 65536 < s.length
 · have hR := Hd (rd_long hl)
   rw [show strV s = .string ⟨s.toArray⟩ from rfl]
   generalize (⟨s.toArray⟩ : ByteArray) = Z at *
   have hl1 : (65536 : Int) < (s.length : Int) := by omega
   have x0 := HXr.out.cell 0
   have x1 := HXr.out.cell 1
   have z0 := HXr.out.frozen 0
   have z1 := HXr.out.frozen 1
   have HX9 := Hd ((HXr.out.set 0 (.int .i64 0)).set 1 (.slice none 0 0))
   have HB9 := Hd ((HBr.out.setCell (p := ⟨w.heap.size, 0, none⟩) (Nat.le_refl _) (.int .i64 0)).setCell (p := ⟨w.heap.size, 1, none⟩) (Nat.le_refl _) (.slice none 0 0))
   go_enter Tryz.func7, Tryz.ntmps7
   go_upto_region 2 with fail
   rw [<- HWr.out]
   go_wp2
   refine bodyPost_ret (results_row_tmp3 rfl _ _ w.heap.size 25 #[.int .i64 0, .slice none 0 0] (0, 0) _ rfl HX9.out Tryz.underlying25 rfl graph_size) rfl ?_
   exact rd_fin' hR.out HB9.out
 have hs1 : s.length <= 65536 := by omega
 have HSp := Hd (split_any s 10 Wr HLVr.out (by omega))
 have hne := splitL_ne 10 s
 have hsl := splitL_length 10 s
 have hsp := splitL_part 10 s
 have HTo := Hd (rd_torn hs1)
 have HHd := Hd (rd_head hs1)
 have HBo := Hd (rd_body hs1)
 have HGo := Hd (rd_good hs1)
 have e4 : Hid (tornB s = (decide ((splitL 10 s).length = 1) || decide ((splitL 10 s).getD ((splitL 10 s).length - 1) [] ≠ []))) := rfl
 generalize tornB s = T at *
 generalize rdE s = RE at *
 generalize rdG s = RG at *
 generalize rdC s = RC at *
 generalize splitL 10 s = ws at *
 rw [show strV s = .string ⟨s.toArray⟩ from rfl] at *
 generalize (⟨s.toArray⟩ : ByteArray) = Y at *
 have hw0 : 0 < ws.length := List.length_pos_iff.2 hne
 obtain ⟨n, hn⟩ : ∃ n, ws.length = n + 1 := ⟨ws.length - 1, by omega⟩
 simp only [hn, Nat.add_sub_cancel] at HTo HBo HGo e4
 have hnl : n <= 65536 := by omega
 have HSl : Hid (∀ x ∈ ws, x.length <= 65536) := fun x hx => by have := hsp x hx; omega
 clear hs1 hsp hne hsl hw0
 go_enter Tryz.func7, Tryz.ntmps7
 go_upto_region 2 with fail
 rw [<- HWr.out]
 go_wp2_with fail
 refine HSp.out.mono ?_
 rintro e w1 ⟨v1, rfl, hr1, hb1⟩
 have HX1 := Hd (HXr.out.bel hb1)
 have HL1 := Hd (HLVr.out.below hb1)
 have HB1 := Hd (HBr.out.trans (hb1.mono HBr.out.size))
 obtain ⟨A1, c1, rfl, hlc1, hcl1⟩ := hr1.open_
 obtain ⟨ad1, rfl, had1, hc01⟩ := hcl1 0 (by omega)
 rw [add_zero'] at hc01
 obtain ⟨_, he, -, hcn⟩ := hcl1 n (by omega)
 cases he
 rw [hn] at hr1 hlc1
 rw [hn]
 have HR1 := Hd hr1
 have HN := Hd hn
 have hse := str_ne (ws.getD n [])
 have HC0 := Hd hc01
 have HA1 := Hd had1
 rw [show strV (ws.getD n []) = .string ⟨(ws.getD n []).toArray⟩ from rfl] at hcn
 generalize (⟨(ws.getD n []).toArray⟩ : ByteArray) = Z at *
 clear hr1 hb1 hcl1 HSp hn hc01 had1 hsz
 by_cases hT : T = true
 · have hR := Hd (HTo.out hT)
   clear HTo HHd HBo HGo
   by_cases he : ws.getD n [] = []
   · have h0 : n = 0 := by
       rw [hT] at e4
       have h := e4.out
       rw [he] at h
       simpa using h.symm
     subst h0
     have hTT : Z.toList.isEmpty = true := by rw [hse, he]; rfl
     clear hT e4 hse he
     have c0 : w1.cell? ad1 = some (.string Z) := by rwa [add_zero'] at hcn
     clear hcn
     have x0 := HX1.out.cell 0
     have x1 := HX1.out.cell 1
     have z0 := HX1.out.frozen 0
     have z1 := HX1.out.frozen 1
     have HX9 := Hd ((HX1.out.set 0 (.int .i64 0)).set 1 (.slice none 0 0))
     have HB9 := Hd ((HB1.out.setCell (p := ⟨w.heap.size, 0, none⟩) (Nat.le_refl _) (.int .i64 0)).setCell (p := ⟨w.heap.size, 1, none⟩) (Nat.le_refl _) (.slice none 0 0))
     go_wp2
     refine bodyPost_ret (results_row_tmp3 rfl _ _ w.heap.size 25 #[.int .i64 0, .slice none 0 0] (0, 0) _ rfl HX9.out Tryz.underlying25 rfl graph_size) rfl ?_
     exact rd_fin' hR.out HB9.out
   · have hTT : Z.toList.isEmpty = false := by rw [hse]; simpa using he
     clear hT e4 hse he
     have x0 := HX1.out.cell 0
     have x1 := HX1.out.cell 1
     have z0 := HX1.out.frozen 0
     have z1 := HX1.out.frozen 1
     have HX9 := Hd ((HX1.out.set 0 (.int .i64 0)).set 1 (.slice none 0 0))
     have HB9 := Hd ((HB1.out.setCell (p := ⟨w.heap.size, 0, none⟩) (Nat.le_refl _) (.int .i64 0)).setCell (p := ⟨w.heap.size, 1, none⟩) (Nat.le_refl _) (.slice none 0 0))
     go_wp2
     refine bodyPost_ret (results_row_tmp3 rfl _ _ w.heap.size 25 #[.int .i64 0, .slice none 0 0] (0, 0) _ rfl HX9.out Tryz.underlying25 rfl graph_size) rfl ?_
     exact rd_fin' hR.out HB9.out
 have hTf : T = false := by cases T; rfl; exact absurd rfl hT
 have hn0 : ¬ n = 0 := fun h => by
   have h4 := e4.out
   rw [hTf, h] at h4
   simp at h4
 have hTT : Z.toList.isEmpty = true := by
   have h4 := e4.out
   rw [hTf] at h4
   have h5 : decide (ws.getD n [] ≠ []) = false := by
     rcases Bool.eq_false_or_eq_true (decide (ws.getD n [] ≠ [])) with h | h
     · rw [h] at h4; simp at h4
     · exact h
   rw [hse, h5]; rfl
 have HHd' := Hd (HHd.out hTf)
 have HBo' := Hd (HBo.out hTf)
 have HGo' := Hd (HGo.out hTf)
 clear HTo hT hTf e4 hse HHd HBo HGo
 have hn1 : 0 < n := by omega
 have HHe := Hd (pHead_any (ws.getD 0 []) w1 HL1.out (by have := HSl.out (ws.getD 0 []) (by rw [List.getD_eq_getElem?_getD, List.getElem?_eq_getElem (by have := HN.out; omega)]; exact List.getElem_mem _); omega))
 have HOf : Hid (hdE (ws.getD 0 []) = 0 -> ∃ m : Nat, hdN (ws.getD 0 []) = m /\ 1 <= m /\ m <= 12) := fun h => hd_m h
 have c0 := HC0.out
 rw [show strV (ws.getD 0 []) = .string ⟨(ws.getD 0 []).toArray⟩ from rfl] at c0 HHe
 generalize (⟨(ws.getD 0 []).toArray⟩ : ByteArray) = Z0 at *
 generalize hdE (ws.getD 0 []) = E0 at *
 generalize hdN (ws.getD 0 []) = z0 at *
 generalize hdT (ws.getD 0 []) = es at *
 have hls := RS.sub (i := 1) (j := n) HR1.out (by omega) (by have := HN.out; omega)
 have hc1 : c1 ≠ 1 := by omega
 have hc1n : n <= c1 := by omega
 rw [if_neg hc1, show ad1.add 1 = ⟨ad1.block, ad1.off + 1, none⟩ by simp [Addr.add]] at hls
 have HLs := Hd hls
 clear hls
 go_wp2_with fail
 refine HHe.out.mono ?_
 rintro e w2 ⟨g2, rfl, hg2, ⟨zz, Ag, lg, cg, rfl⟩, hb2⟩
 obtain ⟨W3, hW3⟩ : ∃ W3, W3 = w2.alloc (.cells #[.int .i64 zz, .slice Ag lg cg] 25) := ⟨_, rfl⟩
 have hb3 : Below w2.heap.size w2 W3 := by rw [hW3]; exact below_alloc w2 _
 have hb23 := hb2.trans (hb3.mono hb2.size)
 have HXg := Hd (show BL W3 w2.heap.size 25 [.int .i64 zz, .slice Ag lg cg] by rw [hW3]; exact BL.new' w2 _ _)
 have HX3 := Hd (HX1.out.bel hb23)
 have HL3 := Hd (HL1.out.below hb23)
 have HB3 := Hd (HB1.out.trans (hb23.mono HB1.out.size))
 have HS3 := Hd (HLs.out.below hb23)
 have HGi : Hid (E0 = 0 -> GV W3 (.agg #[.int .i64 zz, .slice Ag lg cg]) z0 es) := fun h => (hg2 h).below hb3
 have hlt2 : w2.heap.size < W3.heap.size := by rw [hW3]; simp
 have HW3 := Hd hW3
 clear hW3 hb3 hb23 hg2 hb2 HHe HX1 HL1 HB1 HLs c0
 go_upto_region 8 with fail
 rw [<- HW3.out]
 by_cases he0 : E0 ≠ 0
 · have hR := Hd (HHd'.out he0)
   have t3 : (E0 != 0) = true := by simpa using he0
   clear HHd' HBo' HGo' he0 HGi HOf
   have x0 := HX3.out.cell 0
   have x1 := HX3.out.cell 1
   have z0 := HX3.out.frozen 0
   have z1 := HX3.out.frozen 1
   have HX9 := Hd ((HX3.out.set 0 (.int .i64 0)).set 1 (.slice none 0 0))
   have HB9 := Hd ((HB3.out.setCell (p := ⟨w.heap.size, 0, none⟩) (Nat.le_refl _) (.int .i64 0)).setCell (p := ⟨w.heap.size, 1, none⟩) (Nat.le_refl _) (.slice none 0 0))
   go_wp2
   refine bodyPost_ret (results_row_tmp3 rfl _ _ w.heap.size 25 #[.int .i64 0, .slice none 0 0] (0, 0) _ rfl HX9.out Tryz.underlying25 rfl graph_size) rfl ?_
   exact rd_fin' hR.out HB9.out
 have he00 : E0 = 0 := by omega
 subst he00
 obtain ⟨m, rfl, hm1, hm⟩ := HOf.out rfl
 have HG3 := Hd (HGi.out rfl)
 obtain ⟨A, c, hA, -⟩ := HG3.out.open_
 simp only [Value.agg.injEq, Array.mk.injEq, List.cons.injEq, Value.int.injEq, Value.slice.injEq, and_true, true_and] at hA
 obtain ⟨rfl, rfl, rfl, rfl⟩ := hA
 have HBo := Hd (HBo'.out rfl m rfl)
 have HGo := Hd (HGo'.out rfl m rfl)
 have HLl : Hid (((ws.take n).drop 1).length = n - 1) := by show _ = _; rw [List.length_drop, List.length_take, HN.out]; omega
 have HSs : Hid (∀ k, k < n - 1 -> (((ws.take n).drop 1).getD k []).length <= 65536) := fun k hk => by
   refine HSl.out _ ?_
   have h := HLl.out
   rw [List.getD_eq_getElem?_getD, List.getElem?_eq_getElem (by omega)]
   exact List.mem_of_mem_take (List.mem_of_mem_drop (List.getElem_mem _))
 clear HOf HGi HHd' HBo' HGo' HSl he0 HR1 HC0
 generalize (ws.take n).drop 1 = ls at *
 obtain ⟨A5, c5, h5, -, hcl5⟩ := HS3.out.open_
 simp only [Value.slice.injEq] at h5
 obtain ⟨rfl, hl5, rfl⟩ := h5
 have HCe := Hd hcl5
 obtain ⟨q, hq⟩ : ∃ q, n = q + 1 := ⟨n - 1, by omega⟩
 have HLq : Hid (ls.length = q) := by show _ = _; rw [HLl.out]; omega
 have HSq : Hid (∀ k, k < q -> (ls.getD k []).length <= 65536) := fun k hk => HSs.out k (by omega)
 have k1 : q + 1 <= 65536 := by omega
 have HQ := Hd hq
 have e5 : ((n : Int) - 1) = (q : Int) := by omega
 clear hcl5 hl5 HLl HSs
 have HM1 := Hd hm1
 have HM := Hd hm
 go_wp2_with fail
 clear hq e5 hTT hn0 hn1 hc1 hc1n
 go_loopw [10, 50] (fun v i wr => ∃ k : Nat, k <= q /\ i = .int .i64 (k : Int) /\ Hid (RdP 40 m ls W3.heap.size W3 k v wr)) (fun _ i _ => q - (intOf i).toNat)
 case atStart => exact ⟨0, Nat.zero_le _, rfl, fun j hj => absurd hj (by omega), by rw [List.take_zero]; exact RW.nil_ _ _ _, Below.refl _ _⟩
 case round =>
   obtain ⟨k, hk, rfl, hrd⟩ := hrel
   obtain ⟨hpre, hrw, hbw⟩ := hrd.out
   have HPre := Hd hpre
   have HRw := Hd hrw
   have HBw := Hd hbw
   have HBww := Hd (HB3.out.trans (hbw.mono HB3.out.size))
   have HXr := Hd (HX3.out.bel hbw)
   have HXgr := Hd (HXg.out.bel hbw)
   clear hrd hpre hrw hbw
   by_cases hlt : k < q
   · obtain ⟨_, he, ckb, ck⟩ := HCe.out k (by have := HLq.out; omega)
     cases he
     have ckw := (HBw.out.cell (p := (⟨ad1.block, ad1.off + 1, none⟩ : Addr).add k) (by rw [block_of_add]; exact ckb)).trans ck
     have HPl : Hid (parE m (ls.getD k []) ≠ 0 -> RE = (((1 + k : Nat) : Int), parE m (ls.getD k [])) /\ RG = (0, []) /\ RC = []) := fun h => HBo.out k HPre.out (by have := HLq.out; omega) h
     have HSn : Hid ((ls.take (k + 1)).map (clmOf m) = (ls.take k).map (clmOf m) ++ [clmOf m (ls.getD k [])]) := map_snoc _ _ _ (by have := HLq.out; omega)
     have hlen : ((ls.take k).map (clmOf m)).length = k := by rw [List.length_map, List.length_take]; have := HLq.out; omega
     have HPa := Hd (pCl_any _ m es (ls.getD k []) wr (HG3.out.below HBw.out) (HL3.out.below HBw.out) HM1.out HM.out (by have := HSq.out k hlt; omega))
     rw [show strV (ls.getD k []) = .string ⟨(ls.getD k []).toArray⟩ from rfl] at ckw HPa
     generalize (⟨(ls.getD k []).toArray⟩ : ByteArray) = Zk at *
     have g0 := HXgr.out.cell 0
     have g1 := HXgr.out.cell 1
     have hkl : k < 65536 := by omega
     rw [show (⟨ad1.block, ad1.off + 1, none⟩ : Addr).add k = ⟨ad1.block, ad1.off + 1 + k, none⟩ by (unfold Addr.add; split <;> simp_all)] at ckw
     clear ckb ck
     go_wp2_with fail
     refine HPa.out.mono ?_
     intro e w4 hq4
     obtain ⟨kk, Q, N, Aa, na, ca, Ab, nb, cb, Af, nf, cf, rfl, hok, hb4⟩ := hq4.co
     generalize hpe : parE m (ls.getD k []) = pe at *
     have HPe := Hd hpe
     generalize clmOf m (ls.getD k []) = cl at *
     generalize (ls.take k).map (clmOf m) = cls at *
     obtain ⟨W5, hW5⟩ : ∃ W5, W5 = w4.alloc (.cells #[.int .i64 kk, .int .i64 Q, .int .i64 N, .slice Aa na ca, .slice Ab nb cb, .slice Af nf cf] 40) := ⟨_, rfl⟩
     have hb5 : Below w4.heap.size w4 W5 := by rw [hW5]; exact below_alloc w4 _
     have hb45 := hb4.trans (hb5.mono hb4.size)
     have HX5 := Hd (show BL W5 w4.heap.size 40 [.int .i64 kk, .int .i64 Q, .int .i64 N, .slice Aa na ca, .slice Ab nb cb, .slice Af nf cf] by rw [hW5]; exact BL.new' w4 _ _)
     have HB5 := Hd (HBw.out.trans (hb45.mono HBw.out.size))
     have HBw5 := Hd (HBww.out.trans (hb45.mono HBww.out.size))
     have HR5 := Hd (HRw.out.below hb45)
     have HOk : Hid (pe = 0 -> CO W5 wr.heap.size [.int .i64 kk, .int .i64 Q, .int .i64 N, .slice Aa na ca, .slice Ab nb cb, .slice Af nf cf] cl) := fun h => (hok h).below hb5
     have HXr5 := Hd (HXr.out.bel hb45)
     have HW5 := Hd hW5
     clear hpe hb4 hb5 hb45 hok hW5 HPa ckw HRw hq4
     go_upto_region 15 with fail
     rw [<- HW5.out]
     by_cases hp0 : pe ≠ 0
     · have hR : Hid (RE = ((k : Int) + 1, pe) /\ RG = (0, []) /\ RC = []) := by
         have h := HPl.out hp0
         rw [show ((1 + k : Nat) : Int) = (k : Int) + 1 by omega] at h
         exact h
       have t4 : (pe != 0) = true := by simpa using hp0
       clear HPl hp0 HOk
       have x0 := HXr5.out.cell 0
       have x1 := HXr5.out.cell 1
       have z0 := HXr5.out.frozen 0
       have z1 := HXr5.out.frozen 1
       have HX9 := Hd ((HXr5.out.set 0 (.int .i64 0)).set 1 (.slice none 0 0))
       have HB9 := Hd ((HBw5.out.setCell (p := ⟨w.heap.size, 0, none⟩) (Nat.le_refl _) (.int .i64 0)).setCell (p := ⟨w.heap.size, 1, none⟩) (Nat.le_refl _) (.slice none 0 0))
       go_wp2
       refine bodyPost_ret (results_row_tmp3 rfl _ _ w.heap.size 25 #[.int .i64 0, .slice none 0 0] (0, 0) _ rfl HX9.out Tryz.underlying25 rfl graph_size) rfl ?_
       exact rd_fin' hR.out HB9.out
     have hp00 : pe = 0 := by omega
     subst hp00
     have HCo := Hd (HOk.out rfl)
     obtain ⟨i1, hi1, hz01, hz11, hz21⟩ := info_parts' claim_info
     obtain ⟨Av, cv, rfl⟩ := HR5.out.shape
     have hB5 : W3.heap.size <= W5.heap.size := HB5.out.size
     have hBr : W3.heap.size <= wr.heap.size := HBw.out.size
     obtain ⟨g9, cap9, w9, hrun, hown, hgr⟩ := RW.push (P := Tryz.prog) W5 26 26 i1 _ 96 Tryz.underlying26 hi1 hz01 hz11 hz21 (by omega) rfl (by decide) W3.heap.size _ cls HR5.out kk Q N Aa Ab Af na nb nf ca cb cf cl (HCo.out.mono hBr) (by omega) hB5
     have HB9 : Hid (Below W3.heap.size W3 w9) := (HB5.out.alloc hB5 _).grown hgr (by simp; omega) (fun k hk => (HR5.out.own hk).1)
     rw [hlen] at hrun hown
     rw [hlen]
     rw [<- HSn.out] at hown
     have HOw := Hd hown
     have HPk : Hid (∀ j, j < k + 1 -> parE m (ls.getD j []) = 0) := fun j hj => by
       by_cases h : j < k
       · exact HPre.out j h
       · obtain rfl : j = k := by omega
         exact HPe.out
     have y0 := HX5.out.cell 0
     have y1 := HX5.out.cell 1
     have y2 := HX5.out.cell 2
     have y3 := HX5.out.cell 3
     have y4 := HX5.out.cell 4
     have y5 := HX5.out.cell 5
     clear hi1 hz01 hz11 hz21 hown hgr HSn hlen HOk HPl hp0 hB5 hBr
     go_wp2_with (refine wpList_append' rfl (.tmp 67) (.tmp 69) 26 rfl _ _ (by simp [Act.eval]) (by simp [Act.eval]) _ _ hrun ?_)
     go_roundw
     case rel => exact ⟨k + 1, by omega, by go_num, HPk.out, HOw.out, HB9.out⟩
     case measure => simp [intOf]; omega
   · obtain rfl : k = q := by omega
     have HAll : Hid (∀ j, j < ls.length -> parE m (ls.getD j []) = 0) := fun j hj => HPre.out j (by have := HLq.out; omega)
     have hR := Hd (HGo.out HAll.out)
     have HRw' := HRw.out
     rw [List.take_of_length_le (by have := HLq.out; omega)] at HRw'
     have HRc := Hd HRw'
     obtain ⟨Av, cv, rfl⟩ := HRw.out.shape
     have g0 := HXgr.out.cell 0
     have g1 := HXgr.out.cell 1
     have x0 := HXr.out.cell 0
     have x1 := HXr.out.cell 1
     have z0 := HXr.out.frozen 0
     have z1 := HXr.out.frozen 1
     have HGr := Hd (HG3.out.below HBw.out)
     have HX9 := Hd ((HXr.out.set 0 (.int .i64 (m : Int))).set 1 (.slice Ag es.length cg))
     have HB9 := Hd ((HBww.out.setCell (p := ⟨w.heap.size, 0, none⟩) (Nat.le_refl _) (.int .i64 (m : Int))).setCell (p := ⟨w.heap.size, 1, none⟩) (Nat.le_refl _) (.slice Ag es.length cg))
     have HG9 := Hd ((HGr.out.set2 HXr.out 0 (.int .i64 (m : Int))).set2 (HXr.out.set 0 (.int .i64 (m : Int))) 1 (.slice Ag es.length cg))
     have HR9 := Hd ((HRc.out.set HXr.out (by decide) (by decide) 0 (.int .i64 (m : Int))).set (HXr.out.set 0 (.int .i64 (m : Int))) (by decide) (by decide) 1 (.slice Ag es.length cg))
     clear HRw' HAll
     go_wp2
     refine bodyPost_ret (results_row_tmp3 rfl _ _ w.heap.size 25 #[.int .i64 (m : Int), .slice Ag es.length cg] (0, 0) _ rfl HX9.out Tryz.underlying25 rfl graph_size) rfl ?_
     refine ⟨_, _, by rw [hR.out.1] <;> rfl, ?_, ?_, HB9.out⟩
     · rw [hR.out.2.1]; exact HG9.out
     · rw [hR.out.2.2]; exact HR9.out.cv

theorem ring_any (w : World) : Calls Tryz.prog 20 #[] w fun e w' => ∃ (A : Option Addr) (c : Nat), e = .returned (.agg #[.int .i64 3, .slice A 3 c]) /\ GV w' (.agg #[.int .i64 3, .slice A 3 c]) 3 ring /\ Below w.heap.size w w' := by
 obtain ⟨W0, hW0⟩ : ∃ W0, W0 = w.alloc (.cells #[.int .i64 3, .slice (some ⟨w.heap.size + 1, 0, none⟩) 3 3] 25) := ⟨_, rfl⟩
 have hb0 : Below w.heap.size w W0 := by rw [hW0]; exact below_alloc w _
 have hz0 : W0.heap.size = w.heap.size + 1 := by rw [hW0]; simp
 obtain ⟨W1, hW1⟩ : ∃ W1, W1 = W0.alloc (.cells #[.int .i64 0, .int .i64 1, .int .i64 1, .int .i64 0, .int .i64 2, .int .i64 1, .int .i64 1, .int .i64 2, .int .i64 1] 68) := ⟨_, rfl⟩
 have hb1 : Below W0.heap.size W0 W1 := by rw [hW1]; exact below_alloc W0 _
 have HG1 : Hid (GV W1 (.agg #[.int .i64 3, .slice (some ⟨w.heap.size + 1, 0, none⟩) 3 3]) 3 ring) := by
   show GV _ _ _ _
   rw [hW1, <- hz0]; exact gq3 W0
 have HX1 : Hid (BL W1 w.heap.size 25 [.int .i64 3, .slice (some ⟨w.heap.size + 1, 0, none⟩) 3 3]) := by
   have : BL W0 w.heap.size 25 [.int .i64 3, .slice (some ⟨w.heap.size + 1, 0, none⟩) 3 3] := by rw [hW0]; exact BL.new' w _ _
   exact this.bel hb1
 have HB1 := Hd (hb0.trans (hb1.mono hb0.size))
 have HW0 := Hd hW0
 have HW1 := Hd hW1
 clear hb0 hb1 hz0 hW0 hW1
 go_enter Tryz.func20, Tryz.ntmps20
 go_wp2
 rw [<- HW0.out, <- HW1.out]
 refine bodyPost_ret (results_cell_row rfl _ _ w.heap.size 25 #[.int .i64 3, .slice (some ⟨w.heap.size + 1, 0, none⟩) 3 3] (0, 0) _ rfl HX1.out Tryz.underlying25 rfl graph_size) rfl ?_
 exact ⟨_, _, rfl, HG1.out, HB1.out⟩
theorem ring_bd : Bd 100 [1, -1, 0] := fun j => by
 match j with
 | 0 | 1 | 2 => decide
 | j + 3 => simp
theorem awake57_any (w : World) (hlv : LV w) (ht : TB w) : Calls Tryz.prog 6 #[] w fun e w' => e = .returned (.bool true) /\ Below w.heap.size w w' := by
 have HLV := Hd hlv
 have HT := Hd ht
 have HRi := Hd (ring_any w)
 clear hlv ht
 go_enter Tryz.func6, Tryz.ntmps6
 go_wp2_with fail
 refine HRi.out.mono ?_
 rintro e w1 ⟨A, c, rfl, hg, hb⟩
 obtain ⟨W1, hW1⟩ : ∃ W1, W1 = w1.alloc (.cells #[.int .i64 3, .slice A 3 c] 25) := ⟨_, rfl⟩
 have hb1 : Below w1.heap.size w1 W1 := by rw [hW1]; exact below_alloc w1 _
 have hx1 : BL W1 w1.heap.size 25 [.int .i64 3, .slice A 3 c] := by rw [hW1]; exact BL.new' w1 _ _
 have hz1 : W1.heap.size = w1.heap.size + 1 := by rw [hW1]; simp
 have HB1 := Hd (hb.trans (hb1.mono hb.size))
 have HG1 := Hd (hg.below hb1)
 have HX1 := Hd hx1
 obtain ⟨W2, hW2⟩ : ∃ W2, W2 = (W1.alloc (.cells #[.int .i64 1, .int .i64 1, .int .i64 0] 3)).alloc (.cells #[.int .i64 0, .int .i64 0, .int .i64 2] 3) := ⟨_, rfl⟩
 have hb2 : Below W1.heap.size W1 W2 := by rw [hW2]; exact (below_alloc W1 _).alloc (by simp) _
 have hr2 : RI W2 (.slice (some ⟨w1.heap.size + 1, 0, none⟩) 3 3) [1, 1, 0] := by
   rw [hW2, <- hz1]
   exact RI.below (RV.lit W1 #[.int .i64 1, .int .i64 1, .int .i64 0] 3 3 rfl (by omega)) (below_alloc _ _)
 have hr3 : RI W2 (.slice (some ⟨w1.heap.size + 1 + 1, 0, none⟩) 3 3) [0, 0, 2] := by
   have h : RI W2 (.slice (some ⟨(W1.alloc (.cells #[.int .i64 1, .int .i64 1, .int .i64 0] 3)).heap.size, 0, none⟩) 3 3) [0, 0, 2] := by
     rw [hW2]; exact RV.lit (W1.alloc (.cells #[.int .i64 1, .int .i64 1, .int .i64 0] 3)) #[.int .i64 0, .int .i64 0, .int .i64 2] 3 3 rfl (by omega)
   rwa [World.size_alloc, hz1] at h
 have HB2 := Hd (HB1.out.trans (hb2.mono HB1.out.size))
 have HX2 := Hd (hx1.bel hb2)
 have HG2 := Hd (HG1.out.below hb2)
 have hcl := pClaimed_any _ _ _ (.slice none 0 0) 3 0 0 0 ring [1, 1, 0] [0, 0, 2] [] W2 HG2.out hr2 hr3 (RI.nil_ _) (HT.out.below HB2.out)
 rw [claimed_eqv.1, claimed_eqv.2] at hcl
 obtain ⟨S1, hS1, hS1l⟩ : ∃ S : ByteArray, strV eqvT = .string S /\ S.toList = eqvT := ⟨⟨eqvT.toArray⟩, rfl, ByteArray.toList_mk _⟩
 rw [hS1] at hcl
 have HCl := Hd hcl
 have HS1 : Hid (S1.toList = eqvT) := hS1l
 have HW1 := Hd hW1
 have HW2 := Hd hW2
 clear hb hg hb1 hx1 hz1 hb2 hr2 hr3 hcl hW1 hW2 hS1 hS1l HRi
 go_wp2_with fail
 rw [<- HW1.out, <- HW2.out]
 refine HCl.out.mono ?_
 rintro e w3 ⟨rfl, hb3⟩
 have HB3 := Hd (HB2.out.trans (hb3.mono HB2.out.size))
 have HX3 := Hd (HX2.out.bel hb3)
 have HG3 := Hd (HG2.out.below hb3)
 clear hb3 HCl
 obtain ⟨W4, hW4⟩ : ∃ W, W = w3.alloc (.cells #[.int .i64 3] 3) := ⟨_, rfl⟩
 have hb4 : Below w3.heap.size w3 W4 := by rw [hW4]; exact below_alloc w3 _
 have hr4 : RI W4 (.slice (some ⟨w3.heap.size, 0, none⟩) 1 1) [3] := by
   rw [hW4]
   exact RV.lit w3 #[.int .i64 3] 3 1 rfl (by omega)
 have HB4 := Hd (HB3.out.trans (hb4.mono HB3.out.size))
 have HX4 := Hd (HX3.out.bel hb4)
 have HG4 := Hd (HG3.out.below hb4)
 have hcl := pClaimed_any _ (.slice none 0 0) (.slice none 0 0) _ 3 8 0 0 ring [] [] [3] W4 HG4.out (RI.nil_ _) (RI.nil_ _) hr4 (HT.out.below HB4.out)
 rw [claimed_grp.1, claimed_grp.2] at hcl
 obtain ⟨S2, hS2, hS2l⟩ : ∃ S : ByteArray, strV grpT = .string S /\ S.toList = grpT := ⟨⟨grpT.toArray⟩, rfl, ByteArray.toList_mk _⟩
 rw [hS2] at hcl
 have HCl := Hd hcl
 have HS2 : Hid (S2.toList = grpT) := hS2l
 have HW4 := Hd hW4
 have d0 := HX3.out.cell 0
 have d1 := HX3.out.cell 1
 have e0 := HX4.out.cell 0
 have e1 := HX4.out.cell 1
 clear hb4 hr4 hcl hW4 hS2 hS2l
 go_wp2_with fail
 rw [<- HW4.out]
 refine HCl.out.mono ?_
 rintro e w5 ⟨rfl, hb5⟩
 have HB5 := Hd (HB4.out.trans (hb5.mono HB4.out.size))
 have HX5 := Hd (HX4.out.bel hb5)
 have HG5 := Hd (HG4.out.below hb5)
 clear hb5 HCl d0 d1 e0 e1
 obtain ⟨W6, hW6⟩ : ∃ W, W = w5.alloc (.cells #[.int .i64 0, .int .i64 1, .int .i64 0] 3) := ⟨_, rfl⟩
 have hb6 : Below w5.heap.size w5 W6 := by rw [hW6]; exact below_alloc w5 _
 have hr6 : RI W6 (.slice (some ⟨w5.heap.size, 0, none⟩) 3 3) [0, 1, 0] := by
   rw [hW6]
   exact RV.lit w5 #[.int .i64 0, .int .i64 1, .int .i64 0] 3 3 rfl (by omega)
 have HB6 := Hd (HB5.out.trans (hb6.mono HB5.out.size))
 have HX6 := Hd (HX5.out.bel hb6)
 have HG6 := Hd (HG5.out.below hb6)
 have hmk := Make_any _ _ (.slice none 0 0) (.slice none 0 0) 3 5 0 0 ring [0, 1, 0] [] [] W6 HG6.out hr6 (RI.nil_ _) (RI.nil_ _) (HT.out.below HB6.out) (SsP 3 0 ring [0, 1, 0]) (fun _ _ W hW =>
   superst1_any _ _ _ _ 3 3 0 ring [0, 1, 0] 5 0 W (HG6.out.below hW) ring_rt (by omega) (RI.below hr6 hW) rfl (fun v hv => ring_cf.hi v hv) ⟨_, _, _, rfl⟩ ⟨_, _, _, rfl⟩)
 have HCl := Hd hmk
 have HW6 := Hd hW6
 have d0 := HX5.out.cell 0
 have d1 := HX5.out.cell 1
 clear hb6 hr6 hmk hW6
 go_wp2_with fail
 rw [<- HW6.out]
 refine HCl.out.mono ?_
 rintro e w7 ⟨t7, er7, rfl, hp7, hb7⟩
 obtain ⟨rfl, rfl⟩ := make_super hp7
 have HB7 := Hd (HB6.out.trans (hb7.mono HB6.out.size))
 have HX7 := Hd (HX6.out.bel hb7)
 have HG7 := Hd (HG6.out.below hb7)
 obtain ⟨S3, hS3, hS3l⟩ : ∃ S : ByteArray, strV supT = .string S /\ S.toList = supT := ⟨⟨supT.toArray⟩, rfl, ByteArray.toList_mk _⟩
 rw [hS3]
 have HS3 : Hid (S3.toList = supT) := hS3l
 clear hb7 HCl hp7 hS3 hS3l d0 d1
 obtain ⟨W8, hW8⟩ : ∃ W, W = w7.alloc (.cells #[.int .i64 1, .int .i64 (-1), .int .i64 0] 3) := ⟨_, rfl⟩
 have hb8 : Below w7.heap.size w7 W8 := by rw [hW8]; exact below_alloc w7 _
 have hr8 : RI W8 (.slice (some ⟨w7.heap.size, 0, none⟩) 3 3) [1, -1, 0] := by
   rw [hW8]
   exact RV.lit w7 #[.int .i64 1, .int .i64 (-1), .int .i64 0] 3 3 rfl (by omega)
 have HB8 := Hd (HB7.out.trans (hb8.mono HB7.out.size))
 have HX8 := Hd (HX7.out.bel hb8)
 have HG8 := Hd (HG7.out.below hb8)
 have hmk := Make_any _ _ (.slice none 0 0) (.slice none 0 0) 3 1 0 0 ring [1, -1, 0] [] [] W8 HG8.out hr8 (RI.nil_ _) (RI.nil_ _) (HT.out.below HB8.out) (WnP 3 ring [1, -1, 0]) (fun _ _ W hW =>
   winnable1_any _ _ _ _ 3 3 ring [1, -1, 0] 1 0 0 W (HG8.out.below hW) ring_rt (RI.below hr8 hW) (by decide) (fun _ => ring_bd) ⟨_, _, _, rfl⟩ ⟨_, _, _, rfl⟩)
 have HCl := Hd hmk
 have HW8 := Hd hW8
 have d0 := HX7.out.cell 0
 have d1 := HX7.out.cell 1
 clear hb8 hr8 hmk hW8
 go_wp2_with fail
 rw [<- HW8.out]
 refine HCl.out.mono ?_
 rintro e w9 ⟨t9, er9, rfl, hp9, hb9⟩
 obtain ⟨rfl, rfl⟩ := make_lost hp9
 have HB9 := Hd (HB8.out.trans (hb9.mono HB8.out.size))
 have HX9 := Hd (HX8.out.bel hb9)
 have HG9 := Hd (HG8.out.below hb9)
 rw [show strV [] = .string ⟨#[]⟩ from rfl]
 have hrd := pReadT_any logT w9 (HLV.out.below HB9.out)
 rw [read_log.1, read_log.2.1, read_log.2.2] at hrd
 have HRd := Hd hrd
 clear hb9 HCl hp9 hrd d0 d1
 go_wp2_with fail
 refine HRd.out.mono ?_
 rintro e w10 ⟨g10, v10, rfl, hg10, hv10, hb10⟩
 have HB10 := Hd (HB9.out.trans (hb10.mono HB9.out.size))
 have HX10 := Hd (HX9.out.bel hb10)
 have HG10 := Hd (HG9.out.below hb10)
 have HG10' := Hd hg10
 obtain ⟨A10, c10, rfl, -⟩ := hg10.open_
 clear hg10 hb10 HRd
 obtain ⟨W11, hW11⟩ : ∃ W, W = w10.alloc (.cells #[.int .i64 3, .slice A10 ring.length c10] 25) := ⟨_, rfl⟩
 have hb11 : Below w10.heap.size w10 W11 := by rw [hW11]; exact below_alloc w10 _
 have hx11 : BL W11 w10.heap.size 25 [.int .i64 3, .slice A10 ring.length c10] := by rw [hW11]; exact BL.new' w10 _ _
 have HB11 := Hd (HB10.out.trans (hb11.mono HB10.out.size))
 have HX11 := Hd (HX10.out.bel hb11)
 have HG11 := Hd (HG10.out.below hb11)
 have HG11' := Hd (HG10'.out.below hb11)
 have HV11 := Hd (hv10.below hb11)
 have HY11 := Hd hx11
 have HW11 := Hd hW11
 obtain ⟨Av, cv, rfl, -⟩ := hv10
 clear hb11 hx11 hW11
 have t1 : (S1.toList == [101, 113, 117, 105, 118, 97, 108, 101, 110, 116, 32, 49, 32, 49, 32, 48, 32, 48, 32, 48, 32, 50]) = true := by rw [HS1.out]; rfl
 have t2 : (S2.toList == [103, 114, 111, 117, 112, 32, 49, 32, 51]) = true := by rw [HS2.out]; rfl
 have t3 : (S3.toList == [115, 117, 112, 101, 114, 115, 116, 97, 98, 108, 101, 32, 48, 32, 48, 32, 49, 32, 48, 32, 58, 32, 50, 32, 49]) = true := by rw [HS3.out]; rfl
 have y0 := HY11.out.cell 0
 have y1 := HY11.out.cell 1
 have x0 := HX11.out.cell 0
 have x1 := HX11.out.cell 1
 have hsa := rSame08_any _ _ 3 3 ring ring W11 HG11'.out HG11.out
 rw [show decide ((3 : Int) = 3 /\ ring = ring) = true from decide_eq_true ⟨rfl, rfl⟩] at hsa
 have HSa := Hd hsa
 clear hsa HG9 HG10 HG10' HX9 HX10 HX8 HX7 HX6 HX5 HX4 HX3 HX2 HG8 HG7 HG6 HG5 HG4 HG3 HG2
 go_upto_region 7 with fail
 rw [<- HW11.out]
 go_wp2_with fail
 refine HSa.out.mono ?_
 rintro e w12 ⟨rfl, hb12⟩
 have HB12 := Hd (HB11.out.trans (hb12.mono HB11.out.size))
 obtain ⟨A12, c12, e12, -, -, h12⟩ := HV11.out.below hb12
 simp only [List.length_cons, List.length_nil, Value.slice.injEq, Nat.reduceAdd, true_and] at e12
 obtain ⟨rfl, rfl⟩ := e12
 obtain ⟨ad, ⟨k0, q0, n0, a0, b0, f0⟩, va0, vb0, vf0, rfl, hab, hx0, p0, -⟩ := h12 0 (by decide)
 obtain ⟨_, ⟨k1, q1, n1, a1, b1, f1⟩, va1, vb1, vf1, hA1, -, hx1, r0, -, -, r3, -, -, ra1, -, -⟩ := h12 1 (by decide)
 cases hA1
 have hx0' := hx0.out
 have hx1' := hx1.out
 simp only [List.getElem?_cons_zero, List.getElem?_cons_succ, Option.some.injEq, Prod.mk.injEq] at hx0' hx1'
 obtain ⟨rfl, -⟩ := hx0'
 obtain ⟨rfl, -, -, rfl, -⟩ := hx1'
 obtain ⟨Aa, ca, rfl, -⟩ := ra1.open_
 have p0' : w12.cell? ad = some (.int .i64 0) := by rw [Nat.zero_mul, add_zero'] at p0; exact p0
 have hadd : ad.add (1 * 6) = ⟨ad.block, ad.off + 6, none⟩ := by simp [Addr.add]
 rw [hadd] at r0 r3
 have r3' : w12.cell? ⟨ad.block, ad.off + 9, none⟩ = some (.slice Aa 3 ca) := r3
 have ra1' : RI w12 (.slice Aa 3 ca) [1, -1, 0] := ra1
 obtain ⟨W13, hW13⟩ : ∃ W, W = w12.alloc (.cells #[.int .i64 1, .int .i64 (-1), .int .i64 0] 3) := ⟨_, rfl⟩
 have hb13 : Below w12.heap.size w12 W13 := by rw [hW13]; exact below_alloc w12 _
 have hr13 : RI W13 (.slice (some ⟨w12.heap.size, 0, none⟩) 3 3) [1, -1, 0] := by
   rw [hW13]
   exact RV.lit w12 #[.int .i64 1, .int .i64 (-1), .int .i64 0] 3 3 rfl (by omega)
 have heq := EqualD_any _ _ [1, -1, 0] [1, -1, 0] W13 (RI.below ra1' hb13) hr13
 rw [show eqL [1, -1, 0] [1, -1, 0] = true from (eqL_iff _ _).2 rfl] at heq
 have HEq := Hd heq
 have HB13 := Hd (HB12.out.trans (hb13.mono HB12.out.size))
 have HW13 := Hd hW13
 clear hb12 h12 hx0 hx1 p0 ra1 ra1' hb13 hr13 heq hW13 hadd HSa x0 x1 y0 y1
 go_wp2_with fail
 rw [<- HW13.out]
 refine HEq.out.mono ?_
 rintro e w14 ⟨rfl, nq, rfl⟩
 have HB14 := Hd (below_drewN HB13.out nq)
 clear HEq
 go_wp2
 go_ret
 exact ⟨rfl, HB14.out⟩
end Go.Proofs.YteamhbohgoclgaaGreatDoor
