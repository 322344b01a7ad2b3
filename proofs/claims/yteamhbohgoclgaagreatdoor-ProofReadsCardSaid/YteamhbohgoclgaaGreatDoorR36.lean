/- Contract of package proof's claimed. (printed by gen/claimed57.py) -/
import Derived.Test.YteamhbohgoclgaaGreatDoorR35
set_option maxRecDepth 100000
set_option maxHeartbeats 16000000
namespace Go.Proofs.YteamhbohgoclgaaGreatDoor
open Go.RowKit Go.Shelf
def PclQ (m : Nat) (s : List UInt8) (w0 : World) (e : Ending) (w' : World) : Prop :=
 ∃ (kk Q N : Int) (va vb vf : Value), e = .returned (.tuple #[.agg #[.int .i64 kk, .int .i64 Q, .int .i64 N, va, vb, vf], .int .i64 (parE m s)]) /\
   (parE m s = 0 -> ∃ (i : Nat) (l : List Int), i < 9 /\ i = (idxG ((splitL 32 s).getD 0 []) kwL).toNat /\ l = numsV (((splitL 32 s).take (idxG [58] (splitL 32 s)).toNat).drop 1) /\
     Bd 1048576 l /\ kk = i /\ Q = fQ (kq i) l /\ N = fQ (kn i) (l1L (kq i) l) /\ ∃ vl, OI w' w0.heap.size vl l /\ ∀ W, RI W vl l -> RI W va (fA m (kb i) (kf i) (l2L (kq i) (kn i) l)) /\ RI W vb (fB m (kb i) (kf i) (l2L (kq i) (kn i) l)) /\ RI W vf (fF (kf i) (l2L (kq i) (kn i) l))) /\ ((∃ A n c, va = .slice A n c) /\ (∃ A n c, vb = .slice A n c) /\ (∃ A n c, vf = .slice A n c)) /\ Below w0.heap.size w0 w' 
def GvP (m i : Nat) (vl : Value) (nl : List Int) (kk Q N : Int) (va vb vf : Value) : Prop :=
 fillE m (kq i) (kn i) (kb i) (kf i) nl = 0 -> kk = i /\ Q = fQ (kq i) nl /\ N = fQ (kn i) (l1L (kq i) nl) /\ ∀ W, RI W vl nl -> RI W va (fA m (kb i) (kf i) (l2L (kq i) (kn i) nl)) /\ RI W vb (fB m (kb i) (kf i) (l2L (kq i) (kn i) nl)) /\ RI W vf (fF (kf i) (l2L (kq i) (kn i) nl))
theorem pCl_any (g : Value) (m : Nat) (es : List Tri) (s : List UInt8) (w : World) (hg : GV w g m es) (hlv : LV w) (hm1 : 1 <= m) (hm : m <= 12) (hs : s.length <= 90000) :
   Calls Tryz.prog 25 #[g, strV s] w fun e w' => PclQ m s w e w' := by
 obtain ⟨A, c, rfl, -⟩ := hg.open_
 obtain ⟨W0, hW0⟩ : ∃ W0, W0 = (w.alloc (.cells #[.int .i64 (m : Int), .slice A es.length c] 25)).alloc (.cells #[.int .i64 0, .int .i64 0, .int .i64 0, .slice none 0 0, .slice none 0 0, .slice none 0 0] 40) := ⟨_, rfl⟩
 have hb0 : Below w.heap.size w W0 := by rw [hW0]; exact (below_alloc w _).alloc (by simp) _
 have hxg : BL W0 w.heap.size 25 [.int .i64 (m : Int), .slice A es.length c] := by rw [hW0]; exact (BL.new' w _ _).alloc _
 have hxc : BL W0 (w.heap.size + 1) 40 [.int .i64 0, .int .i64 0, .int .i64 0, .slice none 0 0, .slice none 0 0, .slice none 0 0] := by
   rw [hW0]
   have := BL.new' (w.alloc (.cells #[.int .i64 (m : Int), .slice A es.length c] 25)) #[.int .i64 0, .int .i64 0, .int .i64 0, .slice none 0 0, .slice none 0 0, .slice none 0 0] 40
   rwa [World.size_alloc] at this
 have HXg0 := Hd hxg
 have HXc0 := Hd hxc
 have HG0 := Hd (hg.below hb0)
 have HLV := Hd (hlv.below hb0)
 have HBw0 := Hd hb0
 have HW0 := Hd hW0
 have HSp := Hd (split_any s 32 W0 HLV.out (by omega))
 have hwp := splitL_part 32 s
 have hsl := splitL_length 32 s
 have hwn := splitL_ne 32 s
 have HE0 : Hid (parE m s = if idxG ((splitL 32 s).getD 0 []) kwL < 0 \/ idxG [58] (splitL 32 s) < 0 then 4
   else if numsE (((splitL 32 s).take (idxG [58] (splitL 32 s)).toNat).drop 1) = 4 \/ numsE ((splitL 32 s).drop ((idxG [58] (splitL 32 s)).toNat + 1)) = 4 then 4
   else if numsE (((splitL 32 s).take (idxG [58] (splitL 32 s)).toNat).drop 1) ≠ 0 \/ numsE ((splitL 32 s).drop ((idxG [58] (splitL 32 s)).toNat + 1)) ≠ 0 then 2
   else parC m (idxG ((splitL 32 s).getD 0 []) kwL).toNat (numsV (((splitL 32 s).take (idxG [58] (splitL 32 s)).toNat).drop 1))) := rfl
 unfold PclQ
 generalize parE m s = E at *
 generalize splitL 32 s = ws at *
 have hw0 : 0 < ws.length := List.length_pos_iff.2 hwn
 have HWp : Hid (∀ x ∈ ws, x.length <= 1000000) := fun x hx => by have := hwp x hx; omega
 have hwl : ws.length <= 90001 := by omega
 clear hg hb0 hxg hxc hW0 hwp hsl hwn hs hlv
 go_enter Tryz.func25, Tryz.ntmps25
 go_wp2_with fail
 rw [<- HW0.out]
 refine HSp.out.mono ?_
 rintro e w1 ⟨v1, rfl, hr1, hb1⟩
 obtain ⟨A1, c1, rfl, hlc1, hcl1⟩ := hr1.open_
 obtain ⟨ad1, rfl, had1, hc01⟩ := hcl1 0 hw0
 rw [add_zero'] at hc01
 obtain ⟨W1, hW1⟩ : ∃ W1, W1 = w1.alloc (.cells #[.slice (some ad1) ws.length c1] 55) := ⟨_, rfl⟩
 have hb2 : Below w1.heap.size w1 W1 := by rw [hW1]; exact below_alloc w1 _
 have hb12 := hb1.trans (hb2.mono hb1.size)
 have HB1 := Hd hb12
 have HBw1 := Hd (HBw0.out.trans (hb12.mono HBw0.out.size))
 have HXg1 := Hd (HXg0.out.bel hb12)
 have HXc1 := Hd (HXc0.out.bel hb12)
 have HR1 := Hd (hr1.below hb2)
 have HX5 := Hd (show BL W1 w1.heap.size 55 [.slice (some ad1) ws.length c1] by rw [hW1]; exact BL.new' w1 _ _)
 have HC0 : Hid (W1.cell? ad1 = some (strV (ws.getD 0 []))) := (hb2.cell had1).trans hc01
 have HW1 := Hd hW1
 have HKi := Hd (pKinds_any W1)
 clear hb1 hr1 hcl1 had1 hc01 hW1 hb2 hb12 HSp
 go_wp2_with fail
 rw [<- HW1.out]
 refine HKi.out.mono ?_
 rintro e w2 ⟨rfl, hb3⟩
 obtain ⟨W2, hW2⟩ : ∃ W2, W2 = w2.alloc (.cells pkL.toArray 86) := ⟨_, rfl⟩
 have hb4 : Below w2.heap.size w2 W2 := by rw [hW2]; exact below_alloc w2 _
 have hx6 : BL W2 w2.heap.size 86 pkL := by rw [hW2]; exact BL.new' w2 _ _
 have HW2 := Hd hW2
 clear hW2
 go_wp2_with (refine wpList_store_row rfl 86 _ _ rfl w2.heap.size pkL.toArray rfl rfl _ _ (heap_alloc_new w2 _) pk_size (by kernel_rfl) (by kernel_rfl) ?_; rw [World.setRow_alloc_new, <- HW2.out])
 have hb34 : Below W1.heap.size W1 W2 := hb3.trans (hb4.mono hb3.size)
 have hka := PK.of hx6
 generalize (⟨w2.heap.size, 0, none⟩ : Addr) = ad6 at *
 have HB2 := Hd (HB1.out.trans (hb34.mono HB1.out.size))
 have HBw2 := Hd (HBw1.out.trans (hb34.mono HBw1.out.size))
 have HXg2 := Hd (HXg1.out.bel hb34)
 have HXc2 := Hd (HXc1.out.bel hb34)
 have HX5b := Hd (HX5.out.bel hb34)
 have HR2 := Hd (HR1.out.below hb34)
 have HC0b : Hid (W2.cell? ad1 = some (strV (ws.getD 0 []))) := (hb34.cell (World.block_lt_of_cell? _ _ HC0.out)).trans HC0.out
 have HFi := Hd (pFind_any ad6 ad1 w1.heap.size ws.length c1 (ws.getD 0 []) W2 hka HX5b.out hw0 HC0b.out)
 have HKa := Hd hka
 clear hb3 hb4 hx6 hb34 hka HW2 HX5 HR1 HC0 HKi HW1 HXg1 HXc1
 refine HFi.out.mono ?_
 rintro e w3 ⟨rfl, hb5⟩
 have HB3 := Hd (HB2.out.trans (hb5.mono HB2.out.size))
 have HBw3 := Hd (HBw2.out.trans (hb5.mono HBw2.out.size))
 have HXg3 := Hd (HXg2.out.bel hb5)
 have HXc3 := Hd (HXc2.out.bel hb5)
 have HX5c := Hd (HX5b.out.bel hb5)
 have HR3 := Hd (HR2.out.below hb5)
 have HKa3 := Hd (HKa.out.bel hb5)
 have HIx := Hd (IndexT_any _ ws [58] w3 HR3.out (by omega))
 have c5 := HX5c.out.cell 0
 have hilo := idxG_lo (ws.getD 0 []) kwL
 have hihi := idxG_hi (ws.getD 0 []) kwL
 have halo := idxG_lo [58] ws
 have hahi := idxG_hi [58] ws
 have haat : idxG [58] ws = 0 -> ws.getD 0 [] = [58] := fun h => by
   have := idxG_at (k := 0) (v := [58]) (l := ws) (by omega)
   rw [List.getD_eq_getElem?_getD, this]; rfl
 have hk58 : idxG [58] kwL = -1 := by decide
 have ha0 : 0 <= idxG (ws.getD 0 []) kwL -> idxG [58] ws ≠ 0 := fun h1 h2 => by
   have h3 := haat h2
   rw [h3, hk58] at h1
   omega
 rw [show strV [58] = .string ⟨#[58]⟩ from rfl] at HIx
 have HIe : Hid (∀ ix : Int, idxG (ws.getD 0 []) kwL = ix -> ix = idxG (ws.getD 0 []) kwL) := fun _ h => h.symm
 generalize hix : idxG (ws.getD 0 []) kwL = ix at *
 generalize hat : idxG [58] ws = at_ at *
 have HIk := Hd hix
 have HAt := Hd hat
 clear hb5 HX5b HR2 HKa HC0b HFi haat hk58 HXg2 HXc2 hix hat HIe
 go_wp2_with fail
 refine HIx.out.mono ?_
 rintro e w4 ⟨rfl, rfl⟩
 clear HIx
 by_cases hbad : ix < 0 \/ at_ < 0
 · by_cases h1 : ix < 0
   · skip
     have HR : Hid (E = 4) := by
       show _ = _
       rw [HE0.out, if_pos hbad]
     have HNz : Hid ((4 : Int) ≠ 0) := by
       show _ ≠ _
       decide
     have HX9 := Hd (HXc3.out.set6 (.int .i64 0) (.int .i64 0) (.int .i64 0) (.slice none 0 0) (.slice none 0 0) (.slice none 0 0))
     have HB9 := Hd (below6 HBw3.out (show w.heap.size <= w.heap.size + 1 by omega) (.int .i64 0) (.int .i64 0) (.int .i64 0) (.slice none 0 0) (.slice none 0 0) (.slice none 0 0))
     have hsw := HBw3.out.size
     have x0 := HXc3.out.cell 0
     have z0 := HXc3.out.frozen 0
     have x1 := HXc3.out.cell 1
     have z1 := HXc3.out.frozen 1
     have x2 := HXc3.out.cell 2
     have z2 := HXc3.out.frozen 2
     have x3 := HXc3.out.cell 3
     have z3 := HXc3.out.frozen 3
     have x4 := HXc3.out.cell 4
     have z4 := HXc3.out.frozen 4
     have x5 := HXc3.out.cell 5
     have z5 := HXc3.out.frozen 5
     clear HE0
     go_wp2_with fail
     refine bodyPost_ret (results_row_tmp rfl _ _ (w.heap.size + 1) 40 #[.int .i64 0, .int .i64 0, .int .i64 0, .slice none 0 0, .slice none 0 0, .slice none 0 0] (0, 0) _ rfl HX9.out Tryz.underlying40 rfl pclaim_size) rfl ?_
     exact ⟨_, _, _, _, _, _, by rw [HR.out] <;> rfl, fun h => absurd (HR.out.symm.trans h) HNz.out, ⟨⟨_, _, _, rfl⟩, ⟨_, _, _, rfl⟩, ⟨_, _, _, rfl⟩⟩, HB9.out⟩
   · have h2 : at_ < 1 := by omega
     have HR : Hid (E = 4) := by
       show _ = _
       rw [HE0.out, if_pos hbad]
     have HNz : Hid ((4 : Int) ≠ 0) := by
       show _ ≠ _
       decide
     have HX9 := Hd (HXc3.out.set6 (.int .i64 0) (.int .i64 0) (.int .i64 0) (.slice none 0 0) (.slice none 0 0) (.slice none 0 0))
     have HB9 := Hd (below6 HBw3.out (show w.heap.size <= w.heap.size + 1 by omega) (.int .i64 0) (.int .i64 0) (.int .i64 0) (.slice none 0 0) (.slice none 0 0) (.slice none 0 0))
     have hsw := HBw3.out.size
     have x0 := HXc3.out.cell 0
     have z0 := HXc3.out.frozen 0
     have x1 := HXc3.out.cell 1
     have z1 := HXc3.out.frozen 1
     have x2 := HXc3.out.cell 2
     have z2 := HXc3.out.frozen 2
     have x3 := HXc3.out.cell 3
     have z3 := HXc3.out.frozen 3
     have x4 := HXc3.out.cell 4
     have z4 := HXc3.out.frozen 4
     have x5 := HXc3.out.cell 5
     have z5 := HXc3.out.frozen 5
     clear HE0
     go_wp2_with fail
     refine bodyPost_ret (results_row_tmp rfl _ _ (w.heap.size + 1) 40 #[.int .i64 0, .int .i64 0, .int .i64 0, .slice none 0 0, .slice none 0 0, .slice none 0 0] (0, 0) _ rfl HX9.out Tryz.underlying40 rfl pclaim_size) rfl ?_
     exact ⟨_, _, _, _, _, _, by rw [HR.out] <;> rfl, fun h => absurd (HR.out.symm.trans h) HNz.out, ⟨⟨_, _, _, rfl⟩, ⟨_, _, _, rfl⟩, ⟨_, _, _, rfl⟩⟩, HB9.out⟩
 · rw [if_neg hbad] at HE0
   obtain ⟨i, rfl⟩ : ∃ i : Nat, ix = (i : Int) := ⟨ix.toNat, by omega⟩
   obtain ⟨k, rfl⟩ : ∃ k : Nat, at_ = (k : Int) := ⟨at_.toNat, by omega⟩
   have hi9 : i < 9 := by have : kwL.length = 9 := rfl; omega
   have hk1 : 1 <= k := by have := ha0 (by omega); omega
   have hkl : k < ws.length := by omega
   rw [Int.toNat_natCast, Int.toNat_natCast] at HE0
   clear ha0 hbad hilo hihi halo hahi
   have hs1 := RS.sub HR3.out (i := 1) (j := k) hk1 (by omega)
   have hs2 := RS.sub HR3.out (i := k + 1) (j := ws.length) (by omega) (Nat.le_refl _)
   rw [List.take_of_length_le (Nat.le_refl _)] at hs2
   rw [if_neg (by omega), show ad1.add 1 = ⟨ad1.block, ad1.off + 1, none⟩ from rfl] at hs1
   have HL3 := Hd (HLV.out.below HB3.out)
   have HLt := Hd HXc3.out.lt
   have HN1 := Hd (pParsed_any _ ((ws.take k).drop 1) w3 hs1 HL3.out (by rw [List.length_drop, List.length_take]; omega) fun x hx => HWp.out x (List.mem_of_mem_take (List.mem_of_mem_drop hx)))
   have HN2 : Hid (∀ W, Below w3.heap.size w3 W -> Calls Tryz.prog 43 #[.slice (if c1 = k + 1 then some ad1 else some (ad1.add (k + 1))) (ws.length - (k + 1)) (c1 - (k + 1))] W fun e w' => ∃ vo, e = .returned (.tuple #[vo, .int .i64 (numsE (ws.drop (k + 1)))]) /\ (numsE (ws.drop (k + 1)) = 0 -> OI w' W.heap.size vo (numsV (ws.drop (k + 1)))) /\ Below W.heap.size W w') := fun W h =>
     pParsed_any _ (ws.drop (k + 1)) W (hs2.below h) (HL3.out.below h) (by rw [List.length_drop]; omega) fun x hx => HWp.out x (List.mem_of_mem_drop hx)
   have HLc : Hid ((numsV ((ws.take k).drop 1)).length <= 100000) := by show _ <= _; rw [numsV_len, List.length_drop, List.length_take]; omega
   have HBd1 : Hid (numsE ((ws.take k).drop 1) = 0 -> Bd 1048576 (numsV ((ws.take k).drop 1))) := fun h => nums_bd20 h
   have HLe : Hid (∀ l, numsV ((ws.take k).drop 1) = l -> l = numsV ((ws.take k).drop 1)) := fun _ h => h.symm
   generalize numsE ((ws.take k).drop 1) = e1 at *
   generalize numsE (ws.drop (k + 1)) = e2 at *
   generalize hnl : numsV ((ws.take k).drop 1) = nl at *
   have HNl := Hd hnl
   have f1 : (1 : Int) <= (k : Int) := by omega
   have f1b : ¬ (k : Int) < 1 := by omega
   have f2 : k <= c1 := by omega
   have f3 : (k : Int) <= (c1 : Int) := by omega
   have f4 : (k : Int) + 1 <= (ws.length : Int) := by omega
   have f5 : k + 1 <= ws.length := by omega
   clear hs1 hs2 HR3 hnl HLe
   go_wp2_with fail
   refine HN1.out.mono ?_
   rintro e w4 ⟨vl, rfl, hl4, hb4⟩
   have HBw4 := Hd (HBw3.out.trans (hb4.mono HBw3.out.size))
   have HXg4 := Hd (HXg3.out.bel hb4)
   have HXc4 := Hd (HXc3.out.bel hb4)
   have HX5d := Hd (HX5c.out.bel hb4)
   have HKa4 := Hd (HKa3.out.bel hb4)
   have HG4 := Hd (HG0.out.below (HB3.out.trans (hb4.mono HB3.out.size)))
   have HN2b := Hd (HN2.out w4 hb4)
   have HL4 := Hd hl4
   have d5 := HX5d.out.cell 0
   clear hb4 hl4 c5 HN1 HN2 HXg3 HXc3 HKa3 HB3 HB2 HB1 HBw3 HBw2 HBw1 HL3 HWp HX5c
   go_upto_region 8 with fail
   go_cut [12, 13] from 39 to 46 (fun vp ef wx => ef = .int .i64 e2 /\ Hid (Below w4.heap.size w4 wx))
   case first =>
     by_cases hck : c1 = k + 1
     · subst hck
       rw [if_pos rfl, Nat.sub_self, show ws.length - (k + 1) = 0 by omega] at HN2b
       clear f2 f3
       go_wp2_with fail
       refine HN2b.out.mono ?_
       rintro e w5 ⟨vp, rfl, hl5, hb5⟩
       have HB5 := Hd hb5
       clear hl5 hb5
       go_wp2_with fail
       go_meet
       exact ⟨rfl, HB5.out⟩
     · rw [if_neg hck, show ad1.add (k + 1) = ⟨ad1.block, ad1.off + (k + 1), none⟩ by simp [Addr.add]] at HN2b
       go_wp2_with fail
       refine HN2b.out.mono ?_
       rintro e w5 ⟨vp, rfl, hl5, hb5⟩
       have HB5 := Hd hb5
       clear hl5 hb5
       go_wp2_with fail
       go_meet
       exact ⟨rfl, HB5.out⟩
   case rest =>
     obtain ⟨rfl, hb5⟩ := hcut
     have HBw5 := Hd (HBw4.out.trans (hb5.out.mono HBw4.out.size))
     have HXg5 := Hd (HXg4.out.bel hb5.out)
     have HXc5 := Hd (HXc4.out.bel hb5.out)
     have HKa5 := Hd (HKa4.out.bel hb5.out)
     have HG5 := Hd (HG4.out.below hb5.out)
     have HL5 : Hid (e1 = 0 -> OI wc w3.heap.size vl nl) := fun h => OI.below (HL4.out h) hb5.out
     clear HXg4 HXc4 HKa4 HG4 HL4 hb5 d5 HX5d
     by_cases h4 : e1 = 4 \/ e2 = 4
     · clear HL5 HBd1
       by_cases h41 : e1 = 4
       · have t1 : (e1 == 4) = true := by simpa using h41
         have HR : Hid (E = 4) := by
           show _ = _
           rw [HE0.out, if_pos h4]
         have HNz : Hid ((4 : Int) ≠ 0) := by
           show _ ≠ _
           decide
         have HX9 := Hd (HXc5.out.set6 (.int .i64 0) (.int .i64 0) (.int .i64 0) (.slice none 0 0) (.slice none 0 0) (.slice none 0 0))
         have HB9 := Hd (below6 HBw5.out (show w.heap.size <= w.heap.size + 1 by omega) (.int .i64 0) (.int .i64 0) (.int .i64 0) (.slice none 0 0) (.slice none 0 0) (.slice none 0 0))
         have hsw := HBw5.out.size
         have x0 := HXc5.out.cell 0
         have z0 := HXc5.out.frozen 0
         have x1 := HXc5.out.cell 1
         have z1 := HXc5.out.frozen 1
         have x2 := HXc5.out.cell 2
         have z2 := HXc5.out.frozen 2
         have x3 := HXc5.out.cell 3
         have z3 := HXc5.out.frozen 3
         have x4 := HXc5.out.cell 4
         have z4 := HXc5.out.frozen 4
         have x5 := HXc5.out.cell 5
         have z5 := HXc5.out.frozen 5
         clear HE0
         go_wp2_with fail
         refine bodyPost_ret (results_row_tmp rfl _ _ (w.heap.size + 1) 40 #[.int .i64 0, .int .i64 0, .int .i64 0, .slice none 0 0, .slice none 0 0, .slice none 0 0] (0, 0) _ rfl HX9.out Tryz.underlying40 rfl pclaim_size) rfl ?_
         exact ⟨_, _, _, _, _, _, by rw [HR.out] <;> rfl, fun h => absurd (HR.out.symm.trans h) HNz.out, ⟨⟨_, _, _, rfl⟩, ⟨_, _, _, rfl⟩, ⟨_, _, _, rfl⟩⟩, HB9.out⟩
       · have t1 : (e1 == 4) = false := by simpa using h41
         have t2 : (e2 == 4) = true := by simp; omega
         have HR : Hid (E = 4) := by
           show _ = _
           rw [HE0.out, if_pos h4]
         have HNz : Hid ((4 : Int) ≠ 0) := by
           show _ ≠ _
           decide
         have HX9 := Hd (HXc5.out.set6 (.int .i64 0) (.int .i64 0) (.int .i64 0) (.slice none 0 0) (.slice none 0 0) (.slice none 0 0))
         have HB9 := Hd (below6 HBw5.out (show w.heap.size <= w.heap.size + 1 by omega) (.int .i64 0) (.int .i64 0) (.int .i64 0) (.slice none 0 0) (.slice none 0 0) (.slice none 0 0))
         have hsw := HBw5.out.size
         have x0 := HXc5.out.cell 0
         have z0 := HXc5.out.frozen 0
         have x1 := HXc5.out.cell 1
         have z1 := HXc5.out.frozen 1
         have x2 := HXc5.out.cell 2
         have z2 := HXc5.out.frozen 2
         have x3 := HXc5.out.cell 3
         have z3 := HXc5.out.frozen 3
         have x4 := HXc5.out.cell 4
         have z4 := HXc5.out.frozen 4
         have x5 := HXc5.out.cell 5
         have z5 := HXc5.out.frozen 5
         clear HE0
         go_wp2_with fail
         refine bodyPost_ret (results_row_tmp rfl _ _ (w.heap.size + 1) 40 #[.int .i64 0, .int .i64 0, .int .i64 0, .slice none 0 0, .slice none 0 0, .slice none 0 0] (0, 0) _ rfl HX9.out Tryz.underlying40 rfl pclaim_size) rfl ?_
         exact ⟨_, _, _, _, _, _, by rw [HR.out] <;> rfl, fun h => absurd (HR.out.symm.trans h) HNz.out, ⟨⟨_, _, _, rfl⟩, ⟨_, _, _, rfl⟩, ⟨_, _, _, rfl⟩⟩, HB9.out⟩
     · rw [if_neg h4] at HE0
       have t1 : (e1 == 4) = false := by simp; omega
       have t2 : (e2 == 4) = false := by simp; omega
       by_cases h0 : e1 ≠ 0 \/ e2 ≠ 0
       · clear HL5 HBd1
         by_cases h01 : e1 = 0
         · have t3 : (e1 != 0) = false := by simpa using h01
           have t4 : (e2 != 0) = true := by simp; omega
           have HR : Hid (E = 2) := by
             show _ = _
             rw [HE0.out, if_pos h0]
           have HNz : Hid ((2 : Int) ≠ 0) := by
             show _ ≠ _
             decide
           have HX9 := Hd (HXc5.out.set6 (.int .i64 0) (.int .i64 0) (.int .i64 0) (.slice none 0 0) (.slice none 0 0) (.slice none 0 0))
           have HB9 := Hd (below6 HBw5.out (show w.heap.size <= w.heap.size + 1 by omega) (.int .i64 0) (.int .i64 0) (.int .i64 0) (.slice none 0 0) (.slice none 0 0) (.slice none 0 0))
           have hsw := HBw5.out.size
           have x0 := HXc5.out.cell 0
           have z0 := HXc5.out.frozen 0
           have x1 := HXc5.out.cell 1
           have z1 := HXc5.out.frozen 1
           have x2 := HXc5.out.cell 2
           have z2 := HXc5.out.frozen 2
           have x3 := HXc5.out.cell 3
           have z3 := HXc5.out.frozen 3
           have x4 := HXc5.out.cell 4
           have z4 := HXc5.out.frozen 4
           have x5 := HXc5.out.cell 5
           have z5 := HXc5.out.frozen 5
           clear HE0
           go_wp2_with fail
           refine bodyPost_ret (results_row_tmp rfl _ _ (w.heap.size + 1) 40 #[.int .i64 0, .int .i64 0, .int .i64 0, .slice none 0 0, .slice none 0 0, .slice none 0 0] (0, 0) _ rfl HX9.out Tryz.underlying40 rfl pclaim_size) rfl ?_
           exact ⟨_, _, _, _, _, _, by rw [HR.out] <;> rfl, fun h => absurd (HR.out.symm.trans h) HNz.out, ⟨⟨_, _, _, rfl⟩, ⟨_, _, _, rfl⟩, ⟨_, _, _, rfl⟩⟩, HB9.out⟩
         · have t3 : (e1 != 0) = true := by simpa using h01
           have HR : Hid (E = 2) := by
             show _ = _
             rw [HE0.out, if_pos h0]
           have HNz : Hid ((2 : Int) ≠ 0) := by
             show _ ≠ _
             decide
           have HX9 := Hd (HXc5.out.set6 (.int .i64 0) (.int .i64 0) (.int .i64 0) (.slice none 0 0) (.slice none 0 0) (.slice none 0 0))
           have HB9 := Hd (below6 HBw5.out (show w.heap.size <= w.heap.size + 1 by omega) (.int .i64 0) (.int .i64 0) (.int .i64 0) (.slice none 0 0) (.slice none 0 0) (.slice none 0 0))
           have hsw := HBw5.out.size
           have x0 := HXc5.out.cell 0
           have z0 := HXc5.out.frozen 0
           have x1 := HXc5.out.cell 1
           have z1 := HXc5.out.frozen 1
           have x2 := HXc5.out.cell 2
           have z2 := HXc5.out.frozen 2
           have x3 := HXc5.out.cell 3
           have z3 := HXc5.out.frozen 3
           have x4 := HXc5.out.cell 4
           have z4 := HXc5.out.frozen 4
           have x5 := HXc5.out.cell 5
           have z5 := HXc5.out.frozen 5
           clear HE0
           go_wp2_with fail
           refine bodyPost_ret (results_row_tmp rfl _ _ (w.heap.size + 1) 40 #[.int .i64 0, .int .i64 0, .int .i64 0, .slice none 0 0, .slice none 0 0, .slice none 0 0] (0, 0) _ rfl HX9.out Tryz.underlying40 rfl pclaim_size) rfl ?_
           exact ⟨_, _, _, _, _, _, by rw [HR.out] <;> rfl, fun h => absurd (HR.out.symm.trans h) HNz.out, ⟨⟨_, _, _, rfl⟩, ⟨_, _, _, rfl⟩, ⟨_, _, _, rfl⟩⟩, HB9.out⟩
       · rw [if_neg h0] at HE0
         have h1 : e1 = 0 := by omega
         have h2 : e2 = 0 := by omega
         subst h1 h2
         have HLv := Hd (HL5.out rfl)
         have HLb := Hd (HBd1.out rfl)
         clear h4 h0 t1 t2 HL5 HBd1
         obtain ⟨S, -, q0, q1, q2, q3⟩ := HKa5.out.2 i hi9
         have hi9' : (i : Int) < 9 := by omega
         obtain ⟨wo, hwo⟩ : ∃ wo, wo = wc := ⟨_, rfl⟩
         subst hwo
         have HKp : Hid (∀ W : World, Below wo.heap.size wo W -> (fun W' : World => W'.cell? ⟨w.heap.size, 0, none⟩ = some (.int .i64 (m : Int)) /\ W'.cell? ⟨w.heap.size, 1, none⟩ = some (.slice A es.length c) /\ W'.cell? (ad6.add (i * 4)) = some (.string S) /\ W'.cell? ⟨(ad6.add (i * 4)).block, (ad6.add (i * 4)).off + 1, none⟩ = some (.int .i64 (pm i)) /\ W'.cell? ⟨(ad6.add (i * 4)).block, (ad6.add (i * 4)).off + 2, none⟩ = some (.int .i64 (kl i)) /\ W'.cell? ⟨(ad6.add (i * 4)).block, (ad6.add (i * 4)).off + 3, none⟩ = some (.func (.func (pfn i)) #[] #[])) W) := fun W h =>
           have hb : (ad6.add (i * 4)).block < wo.heap.size := by rw [block_of_add]; exact HKa5.out.1
           ⟨(HXg5.out.bel h).cell 0, (HXg5.out.bel h).cell 1, (h.cell hb).trans q0, (h.cell (p := ⟨(ad6.add (i * 4)).block, (ad6.add (i * 4)).off + 1, none⟩) hb).trans q1, (h.cell (p := ⟨(ad6.add (i * 4)).block, (ad6.add (i * 4)).off + 2, none⟩) hb).trans q2, (h.cell (p := ⟨(ad6.add (i * 4)).block, (ad6.add (i * 4)).off + 3, none⟩) hb).trans q3⟩
         obtain ⟨fe, hfe⟩ : ∃ fe, fe = decide (fillE m (kq i) (kn i) (kb i) (kf i) nl = 0) := ⟨_, rfl⟩
         have HFa : Hid (∀ W, Below wo.heap.size wo W -> Calls Tryz.prog 49 #[.agg #[.int .i64 (m : Int), .slice A es.length c], .int .i64 (i : Int), .agg #[.string S, .int .i64 (pm i), .int .i64 (kl i), .func (.func (pfn i)) #[] #[]], vl] W fun e w' => ∃ (kk Q N : Int) (Aa : Option Addr) (na ca : Nat) (Ab : Option Addr) (nb cb : Nat) (Af : Option Addr) (nf cf : Nat), e = .returned (.tuple #[.agg #[.int .i64 kk, .int .i64 Q, .int .i64 N, .slice Aa na ca, .slice Ab nb cb, .slice Af nf cf], .bool fe]) /\ GvP m i vl nl kk Q N (.slice Aa na ca) (.slice Ab nb cb) (.slice Af nf cf) /\ Below W.heap.size W w') := fun W h => by
           refine (pFilled_any _ vl m i S es nl W hi9 (HG5.out.below h) (HLv.out.ri.below h) hm1 hm HLc.out).mono ?_
           rintro e w' ⟨kk, Q, N, va, vb, vf, rfl, hok, ⟨⟨Aa, na, ca, rfl⟩, ⟨Ab, nb, cb, rfl⟩, ⟨Af, nf, cf, rfl⟩⟩, hb⟩
           exact ⟨kk, Q, N, Aa, na, ca, Ab, nb, cb, Af, nf, cf, by rw [hfe], hok, hb⟩
         have HFe := Hd hfe
         have HBd := Hd ((Below.refl wo.heap.size wo).drew)
         have HBz := Hd (below_alloc wo (.cells #[.int .i64 0, .int .i64 0, .int .i64 0, .slice none 0 0, .slice none 0 0, .slice none 0 0] 40)).drew
         have HS0 := Hd (HKp.out _ HBd.out)
         have HSz := Hd (HKp.out _ HBz.out)
         have HFd := Hd (HFa.out _ HBd.out)
         have HFz := Hd (HFa.out _ HBz.out)
         have HXz : Hid (BL (wo.alloc (.cells #[.int .i64 0, .int .i64 0, .int .i64 0, .slice none 0 0, .slice none 0 0, .slice none 0 0] 40)).drew wo.heap.size 40 [.int .i64 0, .int .i64 0, .int .i64 0, .slice none 0 0, .slice none 0 0, .slice none 0 0]) := BL.new' wo _ _
         clear q0 q1 q2 q3 HFa hfe
         generalize pm i = pmi at *
         generalize kl i = kli at *
         generalize pfn i = pfi at *
         go_upto_region 13 with fail
         go_cut [14, 15] from 63 to 72 (fun p okv wx => ∃ (b6 : Nat) (kk Q N : Int) (Aa : Option Addr) (na ca : Nat) (Ab : Option Addr) (nb cb : Nat) (Af : Option Addr) (nf cf : Nat), p = .pointer (some ⟨b6, 0, none⟩) /\ okv = .bool fe /\ Hid (BL wx b6 40 [.int .i64 kk, .int .i64 Q, .int .i64 N, .slice Aa na ca, .slice Ab nb cb, .slice Af nf cf]) /\ Hid (GvP m i vl nl kk Q N (.slice Aa na ca) (.slice Ab nb cb) (.slice Af nf cf)) /\ Hid (Below wo.heap.size wo wx))
         case first =>
           go_region_held3 (fun W' : World => W'.cell? ⟨w.heap.size, 0, none⟩ = some (.int .i64 (m : Int)) /\ W'.cell? ⟨w.heap.size, 1, none⟩ = some (.slice A es.length c) /\ W'.cell? (ad6.add (i * 4)) = some (.string S) /\ W'.cell? ⟨(ad6.add (i * 4)).block, (ad6.add (i * 4)).off + 1, none⟩ = some (.int .i64 pmi) /\ W'.cell? ⟨(ad6.add (i * 4)).block, (ad6.add (i * 4)).off + 2, none⟩ = some (.int .i64 kli) /\ W'.cell? ⟨(ad6.add (i * 4)).block, (ad6.add (i * 4)).off + 3, none⟩ = some (.func (.func pfi) #[] #[])) (first | with_reducible exact HS0.out | with_reducible exact HSz.out | with_reducible exact HS1.out | with_reducible exact HS6.out | with_reducible exact HS7.out | with_reducible exact HS8.out | exact HKp.out _ (HBk.out.alloc HBk.out.size _))
             (first
               | (go_at_call 49; (with_reducible refine HFz.out.mono ?_); rintro e w6 ⟨kk, Q, N, Aa, na, ca, Ab, nb, cb, Af, nf, cf, rfl, hok, hb6⟩; have HBk := Hd (HBz.out.trans (hb6.mono HBz.out.size)); have HS1 := Hd (HKp.out _ HBk.out); have HOk := Hd hok; have hz := HXz.out.bel hb6; have z0 := hz.cell 0; have z1 := hz.cell 1; have z2 := hz.cell 2; have z3 := hz.cell 3; have z4 := hz.cell 4; have z5 := hz.cell 5; have f0 := Go.Lib.frozen_of_heap hz 0; have f1 := Go.Lib.frozen_of_heap hz 1; have f2 := Go.Lib.frozen_of_heap hz 2; have f3 := Go.Lib.frozen_of_heap hz 3; have f4 := Go.Lib.frozen_of_heap hz 4; have f5 := Go.Lib.frozen_of_heap hz 5; have HZ := Hd hz; have HS6 := Hd (HKp.out _ (below6 HBk.out (Nat.le_refl _) (.int .i64 kk) (.int .i64 Q) (.int .i64 N) (.slice Aa na ca) (.slice Ab nb cb) (.slice Af nf cf))); clear hb6 hz hok)
               | (go_at_call 49; (with_reducible refine HFd.out.mono ?_); rintro e w6 ⟨kk, Q, N, Aa, na, ca, Ab, nb, cb, Af, nf, cf, rfl, hok, hb6⟩; have HBk := Hd (HBd.out.trans hb6); have HS1 := Hd (HKp.out _ HBk.out); have HOk := Hd hok; have HS7 := Hd (HKp.out _ (HBk.out.alloc HBk.out.size (.cells #[.int .i64 kk, .int .i64 Q, .int .i64 N, .slice Aa na ca, .slice Ab nb cb, .slice Af nf cf] 40))); have HS8 := Hd (HKp.out _ (HBk.out.alloc HBk.out.size (.cells #[.int .i64 0, .int .i64 0, .int .i64 0, .slice none 0 0, .slice none 0 0, .slice none 0 0] 40))); clear hb6 hok))
           all_goals
             go_wp2_with fail
             go_meet
             first
               | exact ⟨_, kk, Q, N, Aa, na, ca, Ab, nb, cb, Af, nf, cf, rfl, rfl, HZ.out.set6 _ _ _ _ _ _, HOk.out, below6 HBk.out (Nat.le_refl _) _ _ _ _ _ _⟩
               | exact ⟨_, kk, Q, N, Aa, na, ca, Ab, nb, cb, Af, nf, cf, rfl, rfl, BL.new' w6 _ _, HOk.out, HBk.out.alloc HBk.out.size _⟩
         case rest =>
         obtain ⟨wd, hwd⟩ : ∃ wd, wd = wc := ⟨_, rfl⟩
         subst hwd
         obtain ⟨b6, kk, Q, N, Aa, na, ca, Ab, nb, cb, Af, nf, cf, rfl, rfl, HX7, HOk, hb7⟩ := hcut
         have HBw7 := Hd (HBw5.out.trans (hb7.out.mono HBw5.out.size))
         have HXg7 := Hd (HXg5.out.bel hb7.out)
         have HXc7 := Hd (HXc5.out.bel hb7.out)
         have HG7 := Hd (HG5.out.below hb7.out)
         have HL7 := Hd (OI.below HLv.out hb7.out)
         clear hb7 HFd HFz HXz HSz HS0 HBz HBd HKp HXg5 HXc5 HG5 HLv HKa5
         by_cases hfi : fillE m (kq i) (kn i) (kb i) (kf i) nl = 0
         rotate_left
         · have hf8 : fillE m (kq i) (kn i) (kb i) (kf i) nl = 8 := (fill_08 m i nl).resolve_left hfi
           have hdf : decide (fillE m (kq i) (kn i) (kb i) (kf i) nl = 0) = false := decide_eq_false hfi
           have hfe := HFe.out
           rw [hdf] at hfe
           subst hfe
           have HF8 := Hd hf8
           clear HOk hdf hfi hf8 HFe
           have HR : Hid (E = 8) := by
             show _ = _
             rw [HE0.out]; unfold parC; rw [if_pos (by rw [HF8.out]; decide), HF8.out]
           have HNz : Hid ((8 : Int) ≠ 0) := by
             show _ ≠ _
             decide
           have HX9 := Hd (HXc7.out.set6 (.int .i64 0) (.int .i64 0) (.int .i64 0) (.slice none 0 0) (.slice none 0 0) (.slice none 0 0))
           have HB9 := Hd (below6 HBw7.out (show w.heap.size <= w.heap.size + 1 by omega) (.int .i64 0) (.int .i64 0) (.int .i64 0) (.slice none 0 0) (.slice none 0 0) (.slice none 0 0))
           have hsw := HBw7.out.size
           have x0 := HXc7.out.cell 0
           have z0 := HXc7.out.frozen 0
           have x1 := HXc7.out.cell 1
           have z1 := HXc7.out.frozen 1
           have x2 := HXc7.out.cell 2
           have z2 := HXc7.out.frozen 2
           have x3 := HXc7.out.cell 3
           have z3 := HXc7.out.frozen 3
           have x4 := HXc7.out.cell 4
           have z4 := HXc7.out.frozen 4
           have x5 := HXc7.out.cell 5
           have z5 := HXc7.out.frozen 5
           clear HE0
           go_wp2_with fail
           refine bodyPost_ret (results_row_tmp rfl _ _ (w.heap.size + 1) 40 #[.int .i64 0, .int .i64 0, .int .i64 0, .slice none 0 0, .slice none 0 0, .slice none 0 0] (0, 0) _ rfl HX9.out Tryz.underlying40 rfl pclaim_size) rfl ?_
           exact ⟨_, _, _, _, _, _, by rw [HR.out] <;> rfl, fun h => absurd (HR.out.symm.trans h) HNz.out, ⟨⟨_, _, _, rfl⟩, ⟨_, _, _, rfl⟩, ⟨_, _, _, rfl⟩⟩, HB9.out⟩
         obtain ⟨rfl, rfl, rfl, hall⟩ := HOk.out hfi
         have HAll := Hd hall
         obtain ⟨hva7, hvb7, hvf7⟩ := hall wd HL7.out.ri
         have HFm := Hd (pFormA_any _ (.slice Aa na ca) (.slice Ab nb cb) (.slice Af nf cf) m i (fQ (kq i) nl) (fQ (kn i) (l1L (kq i) nl)) es (fA m (kb i) (kf i) (l2L (kq i) (kn i) nl)) (fB m (kb i) (kf i) (l2L (kq i) (kn i) nl)) (fF (kf i) (l2L (kq i) (kn i) nl)) wd HG7.out hva7 hvb7 hvf7 hm1 hm)
         have hRE : Hid (E = formA m i (fQ (kq i) nl) (fQ (kn i) (l1L (kq i) nl)) (fA m (kb i) (kf i) (l2L (kq i) (kn i) nl)) (fB m (kb i) (kf i) (l2L (kq i) (kn i) nl)) (fF (kf i) (l2L (kq i) (kn i) nl))) := by
           show _ = _
           rw [HE0.out]; unfold parC
           rw [if_neg (by rw [hfi]; simp)]
           exact form_right hi9 hm1 hm hfi HLb.out
         have hdf : decide (fillE m (kq i) (kn i) (kb i) (kf i) nl = 0) = true := decide_eq_true hfi
         have hfe := HFe.out
         rw [hdf] at hfe
         subst hfe
         clear HE0 HOk hdf hfi hall HFe hva7 hvb7 hvf7 HLc
         generalize formA m i (fQ (kq i) nl) (fQ (kn i) (l1L (kq i) nl)) (fA m (kb i) (kf i) (l2L (kq i) (kn i) nl)) (fB m (kb i) (kf i) (l2L (kq i) (kn i) nl)) (fF (kf i) (l2L (kq i) (kn i) nl)) = re at *
         obtain ⟨Q, hQ⟩ : ∃ Q, Q = fQ (kq i) nl := ⟨_, rfl⟩
         obtain ⟨N, hN⟩ : ∃ N, N = fQ (kn i) (l1L (kq i) nl) := ⟨_, rfl⟩
         rw [<- hQ, <- hN] at HFm HX7
         have HQ := Hd hQ
         have HN := Hd hN
         clear hQ hN
         have g0 := HXg7.out.cell 0
         have g1 := HXg7.out.cell 1
         have y0 := HX7.out.cell 0
         have y1 := HX7.out.cell 1
         have y2 := HX7.out.cell 2
         have y3 := HX7.out.cell 3
         have y4 := HX7.out.cell 4
         have y5 := HX7.out.cell 5
         go_wp2_with fail
         refine HFm.out.mono ?_
         rintro e w8 ⟨rfl, hb8⟩
         have HXc8 := Hd (HXc7.out.bel hb8)
         have HX8 := Hd (HX7.out.bel hb8)
         have HBw8 := Hd (HBw7.out.trans (hb8.mono HBw7.out.size))
         have HL8 := Hd (OI.below HL7.out hb8)
         clear hb8 g0 g1 y0 y1 y2 y3 y4 y5 HFm HXc7 HX7 HXg7 HG7
         by_cases hr0 : re = 0
         rotate_left
         · have t3 : (re != 0) = true := by rw [bne_iff_ne]; exact hr0
           have HE0 : Hid (re ≠ 0) := hr0
           have HE1 := HE0
           clear hr0
           have HR : Hid (E = re) := by
             show _ = _
             exact hRE.out
           have HNz : Hid ((re : Int) ≠ 0) := by
             show _ ≠ _
             exact HE1.out
           have HX9 := Hd (HXc8.out.set6 (.int .i64 0) (.int .i64 0) (.int .i64 0) (.slice none 0 0) (.slice none 0 0) (.slice none 0 0))
           have HB9 := Hd (below6 HBw8.out (show w.heap.size <= w.heap.size + 1 by omega) (.int .i64 0) (.int .i64 0) (.int .i64 0) (.slice none 0 0) (.slice none 0 0) (.slice none 0 0))
           have hsw := HBw8.out.size
           have x0 := HXc8.out.cell 0
           have z0 := HXc8.out.frozen 0
           have x1 := HXc8.out.cell 1
           have z1 := HXc8.out.frozen 1
           have x2 := HXc8.out.cell 2
           have z2 := HXc8.out.frozen 2
           have x3 := HXc8.out.cell 3
           have z3 := HXc8.out.frozen 3
           have x4 := HXc8.out.cell 4
           have z4 := HXc8.out.frozen 4
           have x5 := HXc8.out.cell 5
           have z5 := HXc8.out.frozen 5
           clear HE0
           go_wp2_with fail
           refine bodyPost_ret (results_row_tmp rfl _ _ (w.heap.size + 1) 40 #[.int .i64 0, .int .i64 0, .int .i64 0, .slice none 0 0, .slice none 0 0, .slice none 0 0] (0, 0) _ rfl HX9.out Tryz.underlying40 rfl pclaim_size) rfl ?_
           exact ⟨_, _, _, _, _, _, by rw [HR.out] <;> rfl, fun h => absurd (HR.out.symm.trans h) HNz.out, ⟨⟨_, _, _, rfl⟩, ⟨_, _, _, rfl⟩, ⟨_, _, _, rfl⟩⟩, HB9.out⟩
         subst hr0
         have y0 := HX8.out.cell 0
         have x0 := HXc8.out.cell 0
         have z0 := HXc8.out.frozen 0
         have y1 := HX8.out.cell 1
         have x1 := HXc8.out.cell 1
         have z1 := HXc8.out.frozen 1
         have y2 := HX8.out.cell 2
         have x2 := HXc8.out.cell 2
         have z2 := HXc8.out.frozen 2
         have y3 := HX8.out.cell 3
         have x3 := HXc8.out.cell 3
         have z3 := HXc8.out.frozen 3
         have y4 := HX8.out.cell 4
         have x4 := HXc8.out.cell 4
         have z4 := HXc8.out.frozen 4
         have y5 := HX8.out.cell 5
         have x5 := HXc8.out.cell 5
         have z5 := HXc8.out.frozen 5
         have HX9 := Hd (HXc8.out.set6 (.int .i64 (i : Int)) (.int .i64 Q) (.int .i64 N) (.slice Aa na ca) (.slice Ab nb cb) (.slice Af nf cf))
         have HB9 := Hd (below6 HBw8.out (show w.heap.size <= w.heap.size + 1 by omega) (.int .i64 (i : Int)) (.int .i64 Q) (.int .i64 N) (.slice Aa na ca) (.slice Ab nb cb) (.slice Af nf cf))
         have HL9 := Hd (OI.set6' HL8.out (b := w.heap.size + 1) HLt.out (.int .i64 (i : Int)) (.int .i64 Q) (.int .i64 N) (.slice Aa na ca) (.slice Ab nb cb) (.slice Af nf cf))
         go_wp2_with fail
         refine bodyPost_ret (results_row_tmp rfl _ _ (w.heap.size + 1) 40 #[.int .i64 (i : Int), .int .i64 Q, .int .i64 N, .slice Aa na ca, .slice Ab nb cb, .slice Af nf cf] (0, 0) _ rfl HX9.out Tryz.underlying40 rfl pclaim_size) rfl ?_
         refine ⟨_, _, _, _, _, _, by rw [hRE.out] <;> rfl, fun _ => ⟨i, nl, hi9, by rw [HIk.out, Int.toNat_natCast], by rw [HAt.out, Int.toNat_natCast]; exact HNl.out.symm, HLb.out, rfl, HQ.out, HN.out, vl, OV.mono HL9.out (by have := HLt.out; omega), HAll.out⟩, ⟨⟨_, _, _, rfl⟩, ⟨_, _, _, rfl⟩, ⟨_, _, _, rfl⟩⟩, HB9.out⟩
attribute [local go_sem] Oper.semAt_some

def CkPre (w0 : World) (hx hn : Nat) (v : Value) (W : World) : Prop := BL W hx 37 [v] /\ BL W hn 3 [.int .i64 3] /\ Below w0.heap.size w0 W
def CkK (w0 : World) (hx hn : Nat) (A C : World) : Prop := Below w0.heap.size A C /\ C.heap[hx]? = A.heap[hx]? /\ C.heap[hn]? = A.heap[hn]?
theorem CkPre.keep {w0 : World} {hx hn : Nat} {v : Value} {A C : World} (h : CkPre w0 hx hn v A) (hk : CkK w0 hx hn A C) : CkPre w0 hx hn v C := ⟨hk.2.1.trans h.1, hk.2.2.trans h.2.1, h.2.2.trans hk.1⟩
theorem CkPre.below {w0 : World} {hx hn : Nat} {v : Value} {A C : World} (h : CkPre w0 hx hn v A) (hb : Below A.heap.size A C) : CkPre w0 hx hn v C := ⟨h.1.bel hb, h.2.1.bel hb, h.2.2.trans (hb.mono h.2.2.size)⟩
theorem pChunk1_iter (w0 : World) (hx hn : Nat) (ad : Addr) (k c : Nat) (hc : 3 * k <= c) (hk : k <= 100000) :
   IterC Tryz.prog 76 #[.pointer (some ⟨hx, 0, none⟩), .pointer (some ⟨hn, 0, none⟩)] (fun x : Nat => #[.slice (some (ad.add (3 * x))) 3 3]) (fun pre x _ => pre = List.range x /\ x < k)
     (fun A B => Below A.heap.size A B) (CkK w0 hx hn) (fun xs => xs = List.range k) (fun _ => True) (CkPre w0 hx hn (.slice (some ad) (3 * k) c)) := by
 intro N l J Jx W hpre hJ hJx hY h0
 have HJ := Hd hJ
 have HY := Hd hY
 have HP := Hd hpre
 clear hJ hY hpre hJx
 refine callsIn_of_wp Tryz.func76 rfl trivial ?_ rfl
 simp only [Tryz.ntmps76, List.size_toArray, List.length_cons, List.length_nil, Nat.reduceAdd, Nat.reduceSub, Array.replicate_succ, Array.replicate_zero, List.push_toArray, List.append_toArray, List.nil_append, List.cons_append]
 gi_wp2
 gi_loopg [4] k (fun kk i wr => ∃ j : Nat, j + kk = k /\ i = .int .i64 ((3 * j : Nat) : Int) /\ Hid (J (List.range j) wr) /\ Hid (CkPre w0 hx hn (.slice (some ad) (3 * k) c) wr))
 case atStart => exact ⟨0, by omega, rfl, h0, HP.out⟩
 case round =>
   obtain ⟨j, hjk, rfl, hj, hpr⟩ := hrel
   have x0 := hpr.out.1.cell 0
   have n0 := hpr.out.2.1.cell 0
   by_cases hlt : j < k
   · obtain ⟨a, ha⟩ : ∃ a, a = 3 * j := ⟨_, rfl⟩
     obtain ⟨K, hK⟩ : ∃ K, K = 3 * k := ⟨_, rfl⟩
     have hlt2 : (a : Int) < (K : Int) := by omega
     have hs1 : ∀ W : World, (Instr.slice 37 (.slice (some ad) K c) (some (.int .i64 (a : Int))) none none).run Tryz.prog W = .ok (.slice (some (ad.add a)) (K - a) (c - a)) W := fun W => by
       rw [run_slice_l W 37 (some ad) K c Tryz.underlying37 .i64 (a : Int) (by omega) (by omega)]
       have hne : ¬ c = a := by omega
       simp [go_sem, hne]
     have hs2 : ∀ W : World, (Instr.slice 37 (.slice (some ad) K c) (some (.int .i64 (a : Int))) (some (.int .i64 ((a : Int) + 3))) (some (.int .i64 ((a : Int) + 3)))).run Tryz.prog W = .ok (.slice (some (ad.add a)) 3 3) W := fun W => by
       rw [run_slice_lhm W 37 (some ad) K c Tryz.underlying37 .i64 .i64 .i64 (a : Int) ((a : Int) + 3) ((a : Int) + 3) (by omega) (by omega) (by omega) (by omega)]
       have h1 : ((a : Int) + 3).toNat = a + 3 := by omega
       simp [go_sem, h1]
     have hKa : ((K - a : Nat) : Int) = (K : Int) - (a : Int) := by omega
     have hK3 : (3 : Int) <= (K : Int) - (a : Int) := by omega
     rw [<- ha]
     rw [<- hK] at x0
     have HA := Hd ha
     have HP1 := Hd hpr.out
     have HK := Hd hK
     clear ha hK
     have hmin : min (3 : Int) ((K : Int) - (a : Int)) = 3 := by omega
     have hbd : Below wr.heap.size wr wr.drew := (Below.refl _ _).drew
     have HP2 := Hd (hpr.out.below hbd)
     have HYx := Hd (HY.out (List.range j) j wr.drew (HJ.out _ wr wr.drew hj.out hbd) ⟨rfl, hlt⟩)
     rw [<- HA.out] at HYx
     clear hbd hpr
     have hab : a <= 300000 := by have := HA.out; omega
     obtain ⟨fn, tmps, assign, body, hy, hRd⟩ := HYx.out
     have HR := Hd hRd
     clear hRd HYx
     gi_wp2_with fail
     gi_region
     gi_wp2_with fail
     refine ⟨fun h => (by simp [Fence.wide] at h), HR.out.mono ?_⟩
     rintro e W3 (⟨rfl, hJ2, hk2⟩ | ⟨rfl, hJx2⟩)
     · have HJ2 := Hd hJ2
       have HP3 := Hd (HP2.out.keep hk2)
       have n1 := HP3.out.2.1.cell 0
       have HE : Hid (3 * (j + 1) = a + 3) := by show _ = _; have := HA.out; omega
       clear hJ2 hk2 hy x0 n0 hs1 hs2
       gi_wp2
       gi_roundg (gk - 1)
       case measure => omega
       case rel => exact ⟨j + 1, by omega, by rw [HE.out]; go_num, by rw [List.range_succ]; exact HJ2.out, HP3.out⟩
     · clear hy
       gi_wp2
       refine bodyPost_ret (results_none rfl _ _ _) rfl ?_
       exact ⟨⟨_, rfl⟩, .inr ⟨_, trivial, hJx2⟩⟩
   · have hje : j = k := by omega
     subst hje
     have HF : Hid (J (List.range j) wr) := hj.out
     clear hj
     gi_wp2
     refine bodyPost_end (results_none rfl _ _ _) rfl ?_
     exact ⟨⟨_, rfl⟩, .inl ⟨_, rfl, HF.out⟩⟩
end Go.Proofs.YteamhbohgoclgaaGreatDoor
