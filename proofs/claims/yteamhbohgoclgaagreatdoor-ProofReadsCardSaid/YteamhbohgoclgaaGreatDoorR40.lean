/- Contract of the reference's Parse, with the slice where the numbers lie. -/
import Derived.Test.YteamhbohgoclgaaGreatDoorR39
import Derived.Test.YteamhbohgoclgaaGreatDoorR35
set_option maxRecDepth 100000
set_option maxHeartbeats 16000000
namespace Go.Proofs.YteamhbohgoclgaaGreatDoor
open Go.RowKit Go.Shelf

def ParG (m : Nat) (ws : List (List UInt8)) (w0 w' : World) (kk Q N : Int) (va vb vf : Value) : Prop :=
 ∃ (i : Nat) (l : List Int), i < 9 /\ i = (idxG (ws.getD 0 []) kwL).toNat /\ l = numsV ((ws.take (idxG [58] ws).toNat).drop 1) /\
     Bd 1048576 l /\ kk = i /\ Q = fQ (kq i) l /\ N = fQ (kn i) (l1L (kq i) l) /\ ∃ vl, OI w' w0.heap.size vl l /\ ∀ W, RI W vl l -> RI W va (fA m (kb i) (kf i) (l2L (kq i) (kn i) l)) /\ RI W vb (fB m (kb i) (kf i) (l2L (kq i) (kn i) l)) /\ RI W vf (fF (kf i) (l2L (kq i) (kn i) l))
def AnyV (_ : Value) : Prop := True
def ParO (m : Nat) (s : List UInt8) (w0 : World) (e : Ending) (w' : World) : Prop :=
 ∃ (kk Q N : Int) (va vb vf vc : Value), e = .returned (.tuple #[.agg #[.int .i64 kk, .int .i64 Q, .int .i64 N, va, vb, vf], vc, .int .i64 (parE m s)]) /\
   (parE m s = 0 -> ParG m (splitL 32 s) w0 w' kk Q N va vb vf) /\ ((∃ A n c, va = .slice A n c) /\ (∃ A n c, vb = .slice A n c) /\ (∃ A n c, vf = .slice A n c) /\ AnyV vc) /\ Below w0.heap.size w0 w'
theorem rParseO_any (g : Value) (m : Nat) (es : List Tri) (s : List UInt8) (w : World) (hg : GV w g m es) (hm1 : 1 <= m) (hm : m <= 12) (hs : s.length <= 90000) :
   Calls Tryz.prog 28 #[g, strV s] w fun e w' => ParO m s w e w' := by
 obtain ⟨A, c, rfl, -⟩ := hg.open_
 obtain ⟨W0, hW0⟩ : ∃ W0, W0 = (w.alloc (.cells #[.int .i64 (m : Int), .slice A es.length c] 25)).alloc (.cells #[.int .i64 0, .int .i64 0, .int .i64 0, .slice none 0 0, .slice none 0 0, .slice none 0 0] 47) := ⟨_, rfl⟩
 have hb0 : Below w.heap.size w W0 := by rw [hW0]; exact (below_alloc w _).alloc (by simp) _
 have hxg : BL W0 w.heap.size 25 [.int .i64 (m : Int), .slice A es.length c] := by rw [hW0]; exact (BL.new' w _ _).alloc _
 have hxc : BL W0 (w.heap.size + 1) 47 [.int .i64 0, .int .i64 0, .int .i64 0, .slice none 0 0, .slice none 0 0, .slice none 0 0] := by
   rw [hW0]
   have := BL.new' (w.alloc (.cells #[.int .i64 (m : Int), .slice A es.length c] 25)) #[.int .i64 0, .int .i64 0, .int .i64 0, .slice none 0 0, .slice none 0 0, .slice none 0 0] 47
   rwa [World.size_alloc] at this
 have HXg := Hd hxg
 have HXc := Hd hxc
 have HG0 := Hd (hg.below hb0)
 have HB0 := Hd hb0
 have HW0 := Hd hW0
 have HSp : Hid (Calls Tryz.prog 50 #[strV s, .int .u8 32] W0 fun e w' => ∃ v, e = .returned v /\ RS w' v (splitL 32 s) /\ Below W0.heap.size W0 w') := rSplit_any s 32 W0 (by omega)
 have hwp := splitL_part 32 s
 have hsl := splitL_length 32 s
 have hwn := splitL_ne 32 s
 have HE0 : Hid (parE m s = if idxG ((splitL 32 s).getD 0 []) kwL < 0 \/ idxG [58] (splitL 32 s) < 0 then 4
   else if numsE (((splitL 32 s).take (idxG [58] (splitL 32 s)).toNat).drop 1) = 4 \/ numsE ((splitL 32 s).drop ((idxG [58] (splitL 32 s)).toNat + 1)) = 4 then 4
   else if numsE (((splitL 32 s).take (idxG [58] (splitL 32 s)).toNat).drop 1) ≠ 0 \/ numsE ((splitL 32 s).drop ((idxG [58] (splitL 32 s)).toNat + 1)) ≠ 0 then 2
   else parC m (idxG ((splitL 32 s).getD 0 []) kwL).toNat (numsV (((splitL 32 s).take (idxG [58] (splitL 32 s)).toNat).drop 1))) := rfl
 unfold ParO
 generalize parE m s = E at *
 generalize splitL 32 s = ws at *
 have hw0 : 0 < ws.length := List.length_pos_iff.2 hwn
 have HWp : Hid (∀ x ∈ ws, x.length <= 1000000) := fun x hx => by have := hwp x hx; omega
 have hwl : ws.length <= 90001 := by omega
 have HKi : Hid (∀ (W : World), Calls Tryz.prog 52 #[strV (ws.getD 0 [])] W fun e w' => e = .returned (.int .i64 (idxG (ws.getD 0 []) kwL)) /\ Below W.heap.size W w') := fun W => kind_any _ W
 have hklo := idxG_lo (ws.getD 0 []) kwL
 have hkhi := idxG_hi (ws.getD 0 []) kwL
 have HkL : Hid (kwL.length = 9) := rfl
 have hkhi9 : idxG (ws.getD 0 []) kwL < 9 := by rw [HkL.out] at hkhi; exact hkhi
 have HCol : Hid (0 <= idxG (ws.getD 0 []) kwL -> ws.getD 0 [] ≠ [58]) := kw_colon
 clear hg hb0 hxg hxc hW0 hwp hsl hwn hs hkhi
 go_enter Tryz.func28, Tryz.ntmps28
 go_wp2_with fail
 rw [<- HW0.out]
 refine HSp.out.mono ?_
 rintro e w1 ⟨v1, rfl, hr1, hb1⟩
 obtain ⟨A1, c1, rfl, hlc1, hcl1⟩ := hr1.open_
 obtain ⟨ad1, rfl, had1, hc01⟩ := hcl1 0 hw0
 rw [add_zero'] at hc01
 have HR1 := Hd hr1
 have HC1 := Hd hcl1
 have HB1 := Hd hb1
 have had1' := Hd had1
 rw [show strV (ws.getD 0 []) = .string ⟨(ws.getD 0 []).toArray⟩ from rfl] at hc01 HKi
 generalize (⟨(ws.getD 0 []).toArray⟩ : ByteArray) = Z at *
 clear hr1 hb1 hcl1 HSp had1
 go_wp2_with fail
 refine (HKi.out w1).mono ?_
 rintro e w2 ⟨rfl, hb2⟩
 have HB2 := Hd (HB1.out.trans (hb2.mono HB1.out.size))
 have HR2 := Hd (RS.below HR1.out hb2)
 have HCw : Hid (∀ k, k < ws.length -> w2.cell? (ad1.add k) = some (strV (ws.getD k []))) := fun k hk => by
   obtain ⟨ad', he, h1, h2⟩ := HC1.out k hk
   cases he
   exact (hb2.cell (p := ad1.add k) (by rw [block_of_add]; exact had1'.out)).trans h2
 have HAl := Hd (atN_le ws)
 have HA1 : Hid (atN ws 1 = 0) := by show _ = _; rw [atN, if_neg (by omega)]; rfl
 have HAs : Hid (∀ i, 1 <= i -> atN ws (i + 1) = if ws.getD i [] = [58] /\ atN ws i = 0 then i else atN ws i) := fun i hi => by
   rw [atN]
   by_cases h : ws.getD i [] = [58] /\ atN ws i = 0
   · rw [if_pos ⟨hi, h.1, h.2⟩, if_pos h]
   · rw [if_neg (fun hh => h hh.2), if_neg h]
 clear hb2 HKi HC1 HR1 hc01
 generalize hki : idxG (ws.getD 0 []) kwL = ki at *
 have HKe := Hd hki
 clear hki
 go_wp2_with fail
 go_loop [9, 10] (fun aa ii => ∃ i : Nat, 1 <= i /\ i <= ws.length /\ aa = .int .i64 ((atN ws i : Nat) : Int) /\ ii = .int .i64 (i : Int)) (fun _ ii => ws.length - (intOf ii).toNat)
 case atStart => exact ⟨1, Nat.le_refl _, hw0, by rw [HA1.out]; rfl, rfl⟩
 case round =>
   obtain ⟨i, hi1, hi2, rfl, rfl⟩ := hrel
   have hal := HAl.out i
   by_cases hlt : i < ws.length
   · have hci := HCw.out i hlt
     have hst := HAs.out i hi1
     have hZ : (ByteArray.mk (ws.getD i []).toArray).toList = ws.getD i [] := ByteArray.toList_mk _
     rw [show strV (ws.getD i []) = .string ⟨(ws.getD i []).toArray⟩ from rfl] at hci
     generalize (⟨(ws.getD i []).toArray⟩ : ByteArray) = Y at *
     by_cases hc : ws.getD i [] = [58]
     · have t1 : (Y.toList == [58]) = true := by rw [hZ, hc]; rfl
       by_cases hz : atN ws i = 0
       · rw [if_pos ⟨hc, hz⟩] at hst
         have HSt := Hd hst
         rw [hz]
         clear hst hZ hc hz hal
         go_wp2
         go_round
         case rel => exact ⟨i + 1, by omega, by omega, by rw [HSt.out], by go_num⟩
         case measure => simp [intOf]; omega
       · rw [if_neg (fun h => hz h.2)] at hst
         have HSt := Hd hst
         generalize atN ws i = a at *
         have t2 : ((a : Int) == 0) = false := by rw [beq_eq_false_iff_ne]; omega
         have a0 : ¬ a = 0 := hz
         clear hst hZ hc hz
         go_wp2
         go_round
         case rel => exact ⟨i + 1, by omega, by omega, by rw [HSt.out], by go_num⟩
         case measure => simp [intOf]; omega
     · have t1 : (Y.toList == [58]) = false := by rw [hZ]; simpa using hc
       rw [if_neg (fun h => hc h.1)] at hst
       have HSt := Hd hst
       generalize atN ws i = a at *
       clear hst hZ hc
       go_wp2
       go_round
       case rel => exact ⟨i + 1, by omega, by omega, by rw [HSt.out], by go_num⟩
       case measure => simp [intOf]; omega
   · obtain rfl : i = ws.length := by omega
     have HB2w := Hd (HB0.out.trans (HB2.out.mono HB0.out.size))
     have HXc2 := Hd (HXc.out.bel HB2.out)
     by_cases hk0 : ki < 0
     · have HR : Hid (E = 4) := by show _ = _; rw [HE0.out, if_pos (.inl hk0)]
       have HNz : Hid ((4 : Int) ≠ 0) := by show _ ≠ _; decide
       clear HE0 HAs HCw
       generalize atN ws ws.length = a at *
       have x0 := HXc2.out.cell 0
       have z0 := HXc2.out.frozen 0
       have x1 := HXc2.out.cell 1
       have z1 := HXc2.out.frozen 1
       have x2 := HXc2.out.cell 2
       have z2 := HXc2.out.frozen 2
       have x3 := HXc2.out.cell 3
       have z3 := HXc2.out.frozen 3
       have x4 := HXc2.out.cell 4
       have z4 := HXc2.out.frozen 4
       have x5 := HXc2.out.cell 5
       have z5 := HXc2.out.frozen 5
       have HX9 := Hd (HXc2.out.set6 (.int .i64 0) (.int .i64 0) (.int .i64 0) (.slice none 0 0) (.slice none 0 0) (.slice none 0 0))
       have HB9 := Hd (below6 HB2w.out (show w.heap.size <= w.heap.size + 1 by omega) (.int .i64 0) (.int .i64 0) (.int .i64 0) (.slice none 0 0) (.slice none 0 0) (.slice none 0 0))
       have hsw := HB2w.out.size
       go_wp2_with fail
       refine bodyPost_ret (results_row_tmp2 rfl _ _ (w.heap.size + 1) 47 #[.int .i64 0, .int .i64 0, .int .i64 0, .slice none 0 0, .slice none 0 0, .slice none 0 0] (0, 0) _ rfl HX9.out Tryz.underlying47 rfl claim57_size) rfl ?_
       exact ⟨_, _, _, _, _, _, _, by rw [HR.out] <;> rfl, fun h => absurd (HR.out.symm.trans h) HNz.out, ⟨⟨_, _, _, rfl⟩, ⟨_, _, _, rfl⟩, ⟨_, _, _, rfl⟩, True.intro⟩, HB9.out⟩
     have hk0' : 0 <= ki := by omega
     have hai := at_idx (HCol.out hk0') ws.length (Nat.le_refl _)
     have hihi := idxG_hi [58] ws
     generalize atN ws ws.length = a at *
     by_cases hz : a = 0
     · have HR : Hid (E = 4) := by
         show _ = _
         rw [HE0.out, if_pos]
         by_cases h1 : 0 <= idxG [58] ws
         · right
           rw [if_pos ⟨h1, hihi⟩] at hai
           have h2 : idxG [58] ws = 0 := by omega
           exact absurd (by have := idxG_at (k := 0) h2; rw [List.getD_eq_getElem?_getD, this]; rfl) (HCol.out hk0')
         · right; omega
       have HNz : Hid ((4 : Int) ≠ 0) := by show _ ≠ _; decide
       subst hz
       clear HE0 HAs HCw hai hihi hal
       have x0 := HXc2.out.cell 0
       have z0 := HXc2.out.frozen 0
       have x1 := HXc2.out.cell 1
       have z1 := HXc2.out.frozen 1
       have x2 := HXc2.out.cell 2
       have z2 := HXc2.out.frozen 2
       have x3 := HXc2.out.cell 3
       have z3 := HXc2.out.frozen 3
       have x4 := HXc2.out.cell 4
       have z4 := HXc2.out.frozen 4
       have x5 := HXc2.out.cell 5
       have z5 := HXc2.out.frozen 5
       have HX9 := Hd (HXc2.out.set6 (.int .i64 0) (.int .i64 0) (.int .i64 0) (.slice none 0 0) (.slice none 0 0) (.slice none 0 0))
       have HB9 := Hd (below6 HB2w.out (show w.heap.size <= w.heap.size + 1 by omega) (.int .i64 0) (.int .i64 0) (.int .i64 0) (.slice none 0 0) (.slice none 0 0) (.slice none 0 0))
       have hsw := HB2w.out.size
       go_wp2_with fail
       refine bodyPost_ret (results_row_tmp2 rfl _ _ (w.heap.size + 1) 47 #[.int .i64 0, .int .i64 0, .int .i64 0, .slice none 0 0, .slice none 0 0, .slice none 0 0] (0, 0) _ rfl HX9.out Tryz.underlying47 rfl claim57_size) rfl ?_
       exact ⟨_, _, _, _, _, _, _, by rw [HR.out] <;> rfl, fun h => absurd (HR.out.symm.trans h) HNz.out, ⟨⟨_, _, _, rfl⟩, ⟨_, _, _, rfl⟩, ⟨_, _, _, rfl⟩, True.intro⟩, HB9.out⟩
     have hcond : 0 <= idxG [58] ws /\ idxG [58] ws < ws.length := by
       by_cases h1 : 0 <= idxG [58] ws
       · exact ⟨h1, hihi⟩
       · rw [if_neg (by omega)] at hai; omega
     rw [if_pos hcond] at hai
     obtain ⟨k, rfl⟩ : ∃ k : Nat, ki = k := ⟨ki.toNat, by omega⟩
     have hk9 : k < 9 := by omega
     have haw : a < ws.length := by omega
     have HAi : Hid ((idxG [58] ws).toNat = a) := by show _ = _; omega
     have a0 : ¬ a = 0 := hz
     have ta : ((a : Int) == 0) = false := by rw [beq_eq_false_iff_ne]; omega
     rw [if_neg (by omega), HAi.out, Int.toNat_natCast] at HE0
     have hc1 : c1 ≠ 1 := by omega
     have hs1 := RS.sub (i := 1) (j := a) HR2.out (by omega) (by omega)
     rw [if_neg hc1, show ad1.add 1 = ⟨ad1.block, ad1.off + 1, none⟩ by simp [Addr.add]] at hs1
     obtain ⟨P2, hs2, hslice⟩ := subS_l HR2.out (a + 1) ((a : Int) + 1) (by push_cast; rfl) (by omega)
     have HN1 := Hd (rNumsO_any _ ((ws.take a).drop 1) w2 hs1 (by simp; omega) fun x hx => HWp.out x (List.mem_of_mem_take (List.mem_of_mem_drop hx)))
     have HN2 : Hid (∀ W, Below w2.heap.size w2 W -> Calls Tryz.prog 51 #[.slice P2 (ws.length - (a + 1)) (c1 - (a + 1))] W fun e w' => ∃ vo, e = .returned (.tuple #[vo, .int .i64 (numsE (ws.drop (a + 1)))]) /\ (numsE (ws.drop (a + 1)) = 0 -> OI w' W.heap.size vo (numsV (ws.drop (a + 1)))) /\ Below W.heap.size W w') := fun W h =>
       rNumsO_any _ (ws.drop (a + 1)) W (RS.below hs2 h) (by simp; omega) fun x hx => HWp.out x (List.mem_of_mem_drop hx)
     have HLl : Hid ((numsV ((ws.take a).drop 1)).length <= 100000) := by show _ <= _; rw [numsV_len]; simp; omega
     have HBd1 : Hid (numsE ((ws.take a).drop 1) = 0 -> Bd 1048576 (numsV ((ws.take a).drop 1))) := fun h => nums_bd20 h
     have HBd2 : Hid (numsE (ws.drop (a + 1)) = 0 -> Bd 1048576 (numsV (ws.drop (a + 1)))) := fun h => nums_bd20 h
     have k1 : (1 : Int) <= (a : Int) := by omega
     have k2 : (a : Int) <= (c1 : Int) := by omega
     have k3 : (a : Int) <= 90001 := by omega
     have HLe : Hid (numsV ((ws.take a).drop 1) = numsV ((ws.take (idxG [58] ws).toNat).drop 1)) := by show _ = _; rw [HAi.out]
     have HPe : Hid (numsV (ws.drop (a + 1)) = numsV (ws.drop ((idxG [58] ws).toNat + 1))) := by show _ = _; rw [HAi.out]
     clear hs1 hs2 hai hihi hcond hz HAs HCw HAl HWp HCol HAi HR2 hal
     generalize numsE ((ws.take a).drop 1) = n1 at *
     generalize numsV ((ws.take a).drop 1) = l at *
     generalize numsE (ws.drop (a + 1)) = n2 at *
     generalize numsV (ws.drop (a + 1)) = pf at *
     go_wp2_with fail
     refine HN1.out.mono ?_
     rintro e w3 ⟨vl, rfl, hl3, hb3⟩
     have HB3 := Hd (HB2.out.trans (hb3.mono HB2.out.size))
     have HN2' := Hd (HN2.out w3 hb3)
     have HL3 := Hd hl3
     clear hb3 hl3 HN1 HN2
     go_wp2_with fail
     refine HN2'.out.mono ?_
     rintro e w4 ⟨vc, rfl, hl4, hb4⟩
     have HB4 := Hd (HB3.out.trans (hb4.mono HB3.out.size))
     have HL4 : Hid (n1 = 0 -> OI w4 w2.heap.size vl l) := fun h => OI.below (HL3.out h) hb4
     have HP4 := Hd hl4
     have HXc4 := Hd (HXc.out.bel HB4.out)
     have HLt : Hid (w.heap.size + 1 < w2.heap.size /\ w.heap.size + 1 < w3.heap.size) := by
       have h1 := HB2.out.size
       have h3 := HB3.out.size
       have h2 := World.block_lt_of_cell? _ _ (HXc.out.cell 0)
       dsimp only at h2
       exact ⟨by omega, by omega⟩
     have HB4w := Hd (HB0.out.trans (HB4.out.mono HB0.out.size))
     clear hb4 hl4 HN2' HL3 hslice
     by_cases h14 : n1 = 4
     · subst h14
       have HR : Hid (E = 4) := by show _ = _; rw [HE0.out, if_pos (.inl rfl)]
       have HNz : Hid ((4 : Int) ≠ 0) := by show _ ≠ _; decide
       clear HE0
       have x0 := HXc4.out.cell 0
       have z0 := HXc4.out.frozen 0
       have x1 := HXc4.out.cell 1
       have z1 := HXc4.out.frozen 1
       have x2 := HXc4.out.cell 2
       have z2 := HXc4.out.frozen 2
       have x3 := HXc4.out.cell 3
       have z3 := HXc4.out.frozen 3
       have x4 := HXc4.out.cell 4
       have z4 := HXc4.out.frozen 4
       have x5 := HXc4.out.cell 5
       have z5 := HXc4.out.frozen 5
       have HX9 := Hd (HXc4.out.set6 (.int .i64 0) (.int .i64 0) (.int .i64 0) (.slice none 0 0) (.slice none 0 0) (.slice none 0 0))
       have HB9 := Hd (below6 HB4w.out (show w.heap.size <= w.heap.size + 1 by omega) (.int .i64 0) (.int .i64 0) (.int .i64 0) (.slice none 0 0) (.slice none 0 0) (.slice none 0 0))
       have hsw := HB4w.out.size
       go_wp2_with fail
       refine bodyPost_ret (results_row_tmp2 rfl _ _ (w.heap.size + 1) 47 #[.int .i64 0, .int .i64 0, .int .i64 0, .slice none 0 0, .slice none 0 0, .slice none 0 0] (0, 0) _ rfl HX9.out Tryz.underlying47 rfl claim57_size) rfl ?_
       exact ⟨_, _, _, _, _, _, _, by rw [HR.out] <;> rfl, fun h => absurd (HR.out.symm.trans h) HNz.out, ⟨⟨_, _, _, rfl⟩, ⟨_, _, _, rfl⟩, ⟨_, _, _, rfl⟩, True.intro⟩, HB9.out⟩
     by_cases h24 : n2 = 4
     · subst h24
       have HR : Hid (E = 4) := by show _ = _; rw [HE0.out, if_pos (.inr rfl)]
       have HNz : Hid ((4 : Int) ≠ 0) := by show _ ≠ _; decide
       have t1 : (n1 == 4) = false := by rw [beq_eq_false_iff_ne]; exact h14
       clear HE0
       have x0 := HXc4.out.cell 0
       have z0 := HXc4.out.frozen 0
       have x1 := HXc4.out.cell 1
       have z1 := HXc4.out.frozen 1
       have x2 := HXc4.out.cell 2
       have z2 := HXc4.out.frozen 2
       have x3 := HXc4.out.cell 3
       have z3 := HXc4.out.frozen 3
       have x4 := HXc4.out.cell 4
       have z4 := HXc4.out.frozen 4
       have x5 := HXc4.out.cell 5
       have z5 := HXc4.out.frozen 5
       have HX9 := Hd (HXc4.out.set6 (.int .i64 0) (.int .i64 0) (.int .i64 0) (.slice none 0 0) (.slice none 0 0) (.slice none 0 0))
       have HB9 := Hd (below6 HB4w.out (show w.heap.size <= w.heap.size + 1 by omega) (.int .i64 0) (.int .i64 0) (.int .i64 0) (.slice none 0 0) (.slice none 0 0) (.slice none 0 0))
       have hsw := HB4w.out.size
       go_wp2_with fail
       refine bodyPost_ret (results_row_tmp2 rfl _ _ (w.heap.size + 1) 47 #[.int .i64 0, .int .i64 0, .int .i64 0, .slice none 0 0, .slice none 0 0, .slice none 0 0] (0, 0) _ rfl HX9.out Tryz.underlying47 rfl claim57_size) rfl ?_
       exact ⟨_, _, _, _, _, _, _, by rw [HR.out] <;> rfl, fun h => absurd (HR.out.symm.trans h) HNz.out, ⟨⟨_, _, _, rfl⟩, ⟨_, _, _, rfl⟩, ⟨_, _, _, rfl⟩, True.intro⟩, HB9.out⟩
     have t1 : (n1 == 4) = false := by rw [beq_eq_false_iff_ne]; exact h14
     have t2 : (n2 == 4) = false := by rw [beq_eq_false_iff_ne]; exact h24
     rw [if_neg (by rintro (h | h); exact h14 h; exact h24 h)] at HE0
     by_cases h10 : n1 = 0
     rotate_left
     · have HR : Hid (E = 2) := by show _ = _; rw [HE0.out, if_pos (.inl h10)]
       have HNz : Hid ((2 : Int) ≠ 0) := by show _ ≠ _; decide
       have t3 : (n1 != 0) = true := by rw [bne_iff_ne]; exact h10
       clear HE0
       have x0 := HXc4.out.cell 0
       have z0 := HXc4.out.frozen 0
       have x1 := HXc4.out.cell 1
       have z1 := HXc4.out.frozen 1
       have x2 := HXc4.out.cell 2
       have z2 := HXc4.out.frozen 2
       have x3 := HXc4.out.cell 3
       have z3 := HXc4.out.frozen 3
       have x4 := HXc4.out.cell 4
       have z4 := HXc4.out.frozen 4
       have x5 := HXc4.out.cell 5
       have z5 := HXc4.out.frozen 5
       have HX9 := Hd (HXc4.out.set6 (.int .i64 0) (.int .i64 0) (.int .i64 0) (.slice none 0 0) (.slice none 0 0) (.slice none 0 0))
       have HB9 := Hd (below6 HB4w.out (show w.heap.size <= w.heap.size + 1 by omega) (.int .i64 0) (.int .i64 0) (.int .i64 0) (.slice none 0 0) (.slice none 0 0) (.slice none 0 0))
       have hsw := HB4w.out.size
       go_wp2_with fail
       refine bodyPost_ret (results_row_tmp2 rfl _ _ (w.heap.size + 1) 47 #[.int .i64 0, .int .i64 0, .int .i64 0, .slice none 0 0, .slice none 0 0, .slice none 0 0] (0, 0) _ rfl HX9.out Tryz.underlying47 rfl claim57_size) rfl ?_
       exact ⟨_, _, _, _, _, _, _, by rw [HR.out] <;> rfl, fun h => absurd (HR.out.symm.trans h) HNz.out, ⟨⟨_, _, _, rfl⟩, ⟨_, _, _, rfl⟩, ⟨_, _, _, rfl⟩, True.intro⟩, HB9.out⟩
     subst h10
     by_cases h20 : n2 = 0
     rotate_left
     · have HR : Hid (E = 2) := by show _ = _; rw [HE0.out, if_pos (.inr h20)]
       have HNz : Hid ((2 : Int) ≠ 0) := by show _ ≠ _; decide
       have t3 : (n2 != 0) = true := by rw [bne_iff_ne]; exact h20
       clear HE0
       have x0 := HXc4.out.cell 0
       have z0 := HXc4.out.frozen 0
       have x1 := HXc4.out.cell 1
       have z1 := HXc4.out.frozen 1
       have x2 := HXc4.out.cell 2
       have z2 := HXc4.out.frozen 2
       have x3 := HXc4.out.cell 3
       have z3 := HXc4.out.frozen 3
       have x4 := HXc4.out.cell 4
       have z4 := HXc4.out.frozen 4
       have x5 := HXc4.out.cell 5
       have z5 := HXc4.out.frozen 5
       have HX9 := Hd (HXc4.out.set6 (.int .i64 0) (.int .i64 0) (.int .i64 0) (.slice none 0 0) (.slice none 0 0) (.slice none 0 0))
       have HB9 := Hd (below6 HB4w.out (show w.heap.size <= w.heap.size + 1 by omega) (.int .i64 0) (.int .i64 0) (.int .i64 0) (.slice none 0 0) (.slice none 0 0) (.slice none 0 0))
       have hsw := HB4w.out.size
       go_wp2_with fail
       refine bodyPost_ret (results_row_tmp2 rfl _ _ (w.heap.size + 1) 47 #[.int .i64 0, .int .i64 0, .int .i64 0, .slice none 0 0, .slice none 0 0, .slice none 0 0] (0, 0) _ rfl HX9.out Tryz.underlying47 rfl claim57_size) rfl ?_
       exact ⟨_, _, _, _, _, _, _, by rw [HR.out] <;> rfl, fun h => absurd (HR.out.symm.trans h) HNz.out, ⟨⟨_, _, _, rfl⟩, ⟨_, _, _, rfl⟩, ⟨_, _, _, rfl⟩, True.intro⟩, HB9.out⟩
     subst h20
     rw [if_neg (by rintro (h | h) <;> exact h rfl)] at HE0
     have HLr := Hd (HL4.out rfl)
     have HPr := Hd (HP4.out rfl)
     have HBl := Hd (HBd1.out rfl)
     have HBp := Hd (HBd2.out rfl)
     obtain ⟨Al, cl, rfl, -, -, -⟩ := HLr.out.ri.open_
     have HSh := Hd (short_any k hk9 w4)
     have hsle := shortN_le k
     clear HL4 HP4 HBd1 HBd2 t1 t2 h14 h24
     by_cases hsh : l.length < shortN k
     · have HR : Hid (E = 8) := by show _ = _; rw [HE0.out]; unfold parC; rw [fill_short hk9 hsh]; rfl
       have HNz : Hid ((8 : Int) ≠ 0) := by show _ ≠ _; decide
       have hshi : (l.length : Int) < ((shortN k : Nat) : Int) := by omega
       generalize shortN k = sh at *
       clear HE0 hsh
       go_wp2_with fail
       refine HSh.out.mono ?_
       rintro e w5 ⟨rfl, hb5⟩
       have HXc5 := Hd (HXc4.out.bel hb5)
       have HB5w := Hd (HB4w.out.trans (hb5.mono HB4w.out.size))
       clear hb5
       have x0 := HXc5.out.cell 0
       have z0 := HXc5.out.frozen 0
       have x1 := HXc5.out.cell 1
       have z1 := HXc5.out.frozen 1
       have x2 := HXc5.out.cell 2
       have z2 := HXc5.out.frozen 2
       have x3 := HXc5.out.cell 3
       have z3 := HXc5.out.frozen 3
       have x4 := HXc5.out.cell 4
       have z4 := HXc5.out.frozen 4
       have x5 := HXc5.out.cell 5
       have z5 := HXc5.out.frozen 5
       have HX9 := Hd (HXc5.out.set6 (.int .i64 0) (.int .i64 0) (.int .i64 0) (.slice none 0 0) (.slice none 0 0) (.slice none 0 0))
       have HB9 := Hd (below6 HB5w.out (show w.heap.size <= w.heap.size + 1 by omega) (.int .i64 0) (.int .i64 0) (.int .i64 0) (.slice none 0 0) (.slice none 0 0) (.slice none 0 0))
       have hsw := HB5w.out.size
       go_wp2_with fail
       refine bodyPost_ret (results_row_tmp2 rfl _ _ (w.heap.size + 1) 47 #[.int .i64 0, .int .i64 0, .int .i64 0, .slice none 0 0, .slice none 0 0, .slice none 0 0] (0, 0) _ rfl HX9.out Tryz.underlying47 rfl claim57_size) rfl ?_
       exact ⟨_, _, _, _, _, _, _, by rw [HR.out] <;> rfl, fun h => absurd (HR.out.symm.trans h) HNz.out, ⟨⟨_, _, _, rfl⟩, ⟨_, _, _, rfl⟩, ⟨_, _, _, rfl⟩, True.intro⟩, HB9.out⟩
     have hshi : ¬ ((l.length : Int) < ((shortN k : Nat) : Int)) := by omega
     have HGv : Hid (∀ W, Below W0.heap.size W0 W -> RI W (.slice Al l.length cl) l -> Calls Tryz.prog 54 #[.agg #[.int .i64 (m : Int), .slice A es.length c], .int .i64 (k : Int), .slice Al l.length cl] W fun e w' => GivQ m k (kq k) (kn k) (kb k) (kf k) (.slice Al l.length cl) l W e w') := fun W h h2 => rGiv57_any _ _ m k es l W hk9 (HG0.out.below h) h2 hm1 hm HLl.out (by omega)
     generalize shortN k = sh at *
     clear hsh
     go_wp2_with fail
     refine HSh.out.mono ?_
     rintro e w5 ⟨rfl, hb5⟩
     have HB5 := Hd (HB4.out.trans (hb5.mono HB4.out.size))
     have HL5 := Hd (OI.below HLr.out hb5)
     have HG5 := Hd (HGv.out w5 HB5.out HL5.out.ri)
     have HP5 := Hd (OI.below HPr.out hb5)
     have g0 := (HXg.out.bel HB5.out).cell 0
     have g1 := (HXg.out.bel HB5.out).cell 1
     clear hb5 HSh HGv
     go_wp2_with fail
     refine HG5.out.mono ?_
     rintro e w6 ⟨kk, Q, N, va, vb, vf, rfl, hok, ⟨⟨Aa, na, ca, rfl⟩, ⟨Ab, nb, cb, rfl⟩, ⟨Af, nf, cf, rfl⟩⟩, hb6⟩
     have HB6 := Hd (HB5.out.trans (hb6.mono HB5.out.size))
     have HP6 := Hd (OI.below HP5.out hb6)
     have HL6 := Hd (OI.below HL5.out hb6)
     have HOk := Hd hok
     clear hb6 hok HG5 g0 g1
     obtain ⟨W7, hW7⟩ : ∃ W7, W7 = w6.alloc (.cells #[.int .i64 kk, .int .i64 Q, .int .i64 N, .slice Aa na ca, .slice Ab nb cb, .slice Af nf cf] 47) := ⟨_, rfl⟩
     have hb7 : Below w6.heap.size w6 W7 := by rw [hW7]; exact below_alloc w6 _
     have hx7 : BL W7 w6.heap.size 47 [.int .i64 kk, .int .i64 Q, .int .i64 N, .slice Aa na ca, .slice Ab nb cb, .slice Af nf cf] := by rw [hW7]; exact BL.new' w6 _ _
     have HB7 := Hd (HB6.out.trans (hb7.mono HB6.out.size))
     have HX7 := Hd hx7
     have HP7 := Hd (OI.below HP6.out hb7)
     have HL7 := Hd (OI.below HL6.out hb7)
     have HW7 := Hd hW7
     have HXc7 := Hd (HXc.out.bel HB7.out)
     have HB7w := Hd (HB0.out.trans (HB7.out.mono HB0.out.size))
     clear hb7 hx7 hW7
     by_cases hfi : fillE m (kq k) (kn k) (kb k) (kf k) l = 0
     rotate_left
     · have hf8 : fillE m (kq k) (kn k) (kb k) (kf k) l = 8 := (fill_08 m k l).resolve_left hfi
       have HR : Hid (E = 8) := by show _ = _; rw [HE0.out]; unfold parC; rw [if_pos hfi, hf8]
       have HNz : Hid ((8 : Int) ≠ 0) := by show _ ≠ _; decide
       have hdf : decide (fillE m (kq k) (kn k) (kb k) (kf k) l = 0) = false := decide_eq_false hfi
       rw [hdf]
       clear HE0 HOk hdf hfi hf8
       go_upto_region 20 with fail
       rw [<- HW7.out]
       have x0 := HXc7.out.cell 0
       have z0 := HXc7.out.frozen 0
       have x1 := HXc7.out.cell 1
       have z1 := HXc7.out.frozen 1
       have x2 := HXc7.out.cell 2
       have z2 := HXc7.out.frozen 2
       have x3 := HXc7.out.cell 3
       have z3 := HXc7.out.frozen 3
       have x4 := HXc7.out.cell 4
       have z4 := HXc7.out.frozen 4
       have x5 := HXc7.out.cell 5
       have z5 := HXc7.out.frozen 5
       have HX9 := Hd (HXc7.out.set6 (.int .i64 0) (.int .i64 0) (.int .i64 0) (.slice none 0 0) (.slice none 0 0) (.slice none 0 0))
       have HB9 := Hd (below6 HB7w.out (show w.heap.size <= w.heap.size + 1 by omega) (.int .i64 0) (.int .i64 0) (.int .i64 0) (.slice none 0 0) (.slice none 0 0) (.slice none 0 0))
       have hsw := HB7w.out.size
       go_wp2_with fail
       refine bodyPost_ret (results_row_tmp2 rfl _ _ (w.heap.size + 1) 47 #[.int .i64 0, .int .i64 0, .int .i64 0, .slice none 0 0, .slice none 0 0, .slice none 0 0] (0, 0) _ rfl HX9.out Tryz.underlying47 rfl claim57_size) rfl ?_
       exact ⟨_, _, _, _, _, _, _, by rw [HR.out] <;> rfl, fun h => absurd (HR.out.symm.trans h) HNz.out, ⟨⟨_, _, _, rfl⟩, ⟨_, _, _, rfl⟩, ⟨_, _, _, rfl⟩, True.intro⟩, HB9.out⟩
     obtain ⟨rfl, rfl, rfl, hall⟩ := HOk.out hfi
     have HAll := Hd hall
     obtain ⟨hva7, hvb7, hvf7⟩ := hall W7 HL7.out.ri
     have hRE : Hid (E = rightE m (kq k) (kn k) (kl k) (fQ (kq k) l) (fQ (kn k) (l1L (kq k) l)) (fF (kf k) (l2L (kq k) (kn k) l))) := by show _ = _; rw [HE0.out]; unfold parC; rw [if_neg (by rw [hfi]; simp)]
     have hb1' := HBl.out.l1 (by decide) (kq k)
     have hb2' := hb1'.l1 (by decide) (kn k)
     have hfm := rFormA_any _ (.slice Aa na ca) (.slice Ab nb cb) (.slice Af nf cf) m k (fQ (kq k) l) (fQ (kn k) (l1L (kq k) l)) es (fA m (kb k) (kf k) (l2L (kq k) (kn k) l)) (fB m (kb k) (kf k) (l2L (kq k) (kn k) l)) (fF (kf k) (l2L (kq k) (kn k) l)) W7 (HG0.out.below HB7.out) hva7 hvb7 hvf7 hm
     rw [<- form_right hk9 hm1 hm hfi HBl.out] at hfm
     have HFm := Hd hfm
     clear hfm
     have hdf : decide (fillE m (kq k) (kn k) (kb k) (kf k) l = 0) = true := decide_eq_true hfi
     rw [hdf]
     clear HE0 HOk hdf hfi hall hva7 hvb7 hvf7 hb1' hb2' HLl
     generalize hre : rightE m (kq k) (kn k) (kl k) (fQ (kq k) l) (fQ (kn k) (l1L (kq k) l)) (fF (kf k) (l2L (kq k) (kn k) l)) = re at *
     obtain ⟨Q, hQ⟩ : ∃ Q, Q = fQ (kq k) l := ⟨_, rfl⟩
     obtain ⟨N, hN⟩ : ∃ N, N = fQ (kn k) (l1L (kq k) l) := ⟨_, rfl⟩
     rw [<- hQ, <- hN] at HFm HW7 HX7
     rw [<- hQ, <- hN]
     have HQ := Hd hQ
     have HN := Hd hN
     clear hQ hN hre
     go_upto_region 20 with fail
     rw [<- HW7.out]
     have g0 := (HXg.out.bel HB7.out).cell 0
     have g1 := (HXg.out.bel HB7.out).cell 1
     have y0 := HX7.out.cell 0
     have y1 := HX7.out.cell 1
     have y2 := HX7.out.cell 2
     have y3 := HX7.out.cell 3
     have y4 := HX7.out.cell 4
     have y5 := HX7.out.cell 5
     go_wp2_with fail
     refine HFm.out.mono ?_
     rintro e w8 ⟨rfl, hb8⟩
     have HXc8 := Hd (HXc7.out.bel hb8)
     have HX8 := Hd (HX7.out.bel hb8)
     have HB8w := Hd (HB7w.out.trans (hb8.mono HB7w.out.size))
     have HP8 := Hd (OI.below HP7.out hb8)
     have HL8 := Hd (OI.below HL7.out hb8)
     clear hb8 g0 g1 y0 y1 y2 y3 y4 y5 HFm
     by_cases hr0 : re = 0
     rotate_left
     · have HR : Hid (E = re) := hRE.out
       have HNz : Hid (re ≠ 0) := hr0
       have t3 : (re != 0) = true := by rw [bne_iff_ne]; exact hr0
       clear hr0
       have x0 := HXc8.out.cell 0
       have z0 := HXc8.out.frozen 0
       have x1 := HXc8.out.cell 1
       have z1 := HXc8.out.frozen 1
       have x2 := HXc8.out.cell 2
       have z2 := HXc8.out.frozen 2
       have x3 := HXc8.out.cell 3
       have z3 := HXc8.out.frozen 3
       have x4 := HXc8.out.cell 4
       have z4 := HXc8.out.frozen 4
       have x5 := HXc8.out.cell 5
       have z5 := HXc8.out.frozen 5
       have HX9 := Hd (HXc8.out.set6 (.int .i64 0) (.int .i64 0) (.int .i64 0) (.slice none 0 0) (.slice none 0 0) (.slice none 0 0))
       have HB9 := Hd (below6 HB8w.out (show w.heap.size <= w.heap.size + 1 by omega) (.int .i64 0) (.int .i64 0) (.int .i64 0) (.slice none 0 0) (.slice none 0 0) (.slice none 0 0))
       have hsw := HB8w.out.size
       go_wp2_with fail
       refine bodyPost_ret (results_row_tmp2 rfl _ _ (w.heap.size + 1) 47 #[.int .i64 0, .int .i64 0, .int .i64 0, .slice none 0 0, .slice none 0 0, .slice none 0 0] (0, 0) _ rfl HX9.out Tryz.underlying47 rfl claim57_size) rfl ?_
       exact ⟨_, _, _, _, _, _, _, by rw [HR.out] <;> rfl, fun h => absurd (HR.out.symm.trans h) HNz.out, ⟨⟨_, _, _, rfl⟩, ⟨_, _, _, rfl⟩, ⟨_, _, _, rfl⟩, True.intro⟩, HB9.out⟩
     subst hr0
     have y0 := HX8.out.cell 0
     have y1 := HX8.out.cell 1
     have y2 := HX8.out.cell 2
     have y3 := HX8.out.cell 3
     have y4 := HX8.out.cell 4
     have y5 := HX8.out.cell 5
     have x0 := HXc8.out.cell 0
     have z0 := HXc8.out.frozen 0
     have x1 := HXc8.out.cell 1
     have z1 := HXc8.out.frozen 1
     have x2 := HXc8.out.cell 2
     have z2 := HXc8.out.frozen 2
     have x3 := HXc8.out.cell 3
     have z3 := HXc8.out.frozen 3
     have x4 := HXc8.out.cell 4
     have z4 := HXc8.out.frozen 4
     have x5 := HXc8.out.cell 5
     have z5 := HXc8.out.frozen 5
     have HX9 := Hd (HXc8.out.set6 (.int .i64 (k : Int)) (.int .i64 Q) (.int .i64 N) (.slice Aa na ca) (.slice Ab nb cb) (.slice Af nf cf))
     have HB9 := Hd (below6 HB8w.out (show w.heap.size <= w.heap.size + 1 by omega) (.int .i64 (k : Int)) (.int .i64 Q) (.int .i64 N) (.slice Aa na ca) (.slice Ab nb cb) (.slice Af nf cf))
     have HL9 := Hd (OI.set6' HL8.out (b := w.heap.size + 1) HLt.out.1 (.int .i64 (k : Int)) (.int .i64 Q) (.int .i64 N) (.slice Aa na ca) (.slice Ab nb cb) (.slice Af nf cf))
     have HP9 := Hd (OI.set6' HP8.out (b := w.heap.size + 1) HLt.out.2 (.int .i64 (k : Int)) (.int .i64 Q) (.int .i64 N) (.slice Aa na ca) (.slice Ab nb cb) (.slice Af nf cf))
     go_wp2_with fail
     refine bodyPost_ret (results_row_tmp2 rfl _ _ (w.heap.size + 1) 47 #[.int .i64 (k : Int), .int .i64 Q, .int .i64 N, .slice Aa na ca, .slice Ab nb cb, .slice Af nf cf] (0, 0) _ rfl HX9.out Tryz.underlying47 rfl claim57_size) rfl ?_
     refine ⟨_, _, _, _, _, _, _, by rw [hRE.out] <;> rfl, fun _ => ⟨k, l, hk9, by rw [HKe.out]; rfl, HLe.out, HBl.out, rfl, HQ.out, HN.out, _, OV.mono HL9.out (by have := HLt.out.1; omega), HAll.out⟩, ⟨⟨_, _, _, rfl⟩, ⟨_, _, _, rfl⟩, ⟨_, _, _, rfl⟩, True.intro⟩, HB9.out⟩
theorem ParO.co {m : Nat} {s : List UInt8} {w0 : World} {e : Ending} {w' : World} (h : ParO m s w0 e w') :
   ∃ (kk Q N : Int) (vc : Value) (Aa : Option Addr) (na ca : Nat) (Ab : Option Addr) (nb cb : Nat) (Af : Option Addr) (nf cf : Nat), e = .returned (.tuple #[.agg #[.int .i64 kk, .int .i64 Q, .int .i64 N, .slice Aa na ca, .slice Ab nb cb, .slice Af nf cf], vc, .int .i64 (parE m s)]) /\
     (parE m s = 0 -> CO w' w0.heap.size [.int .i64 kk, .int .i64 Q, .int .i64 N, .slice Aa na ca, .slice Ab nb cb, .slice Af nf cf] (clmOf m s)) /\ Below w0.heap.size w0 w' := by
 obtain ⟨kk, Q, N, va, vb, vf, vc, he, hok, ⟨⟨Aa, na, ca, rfl⟩, ⟨Ab, nb, cb, rfl⟩, ⟨Af, nf, cf, rfl⟩, -⟩, hb⟩ := h
 refine ⟨kk, Q, N, vc, Aa, na, ca, Ab, nb, cb, Af, nf, cf, he, fun h0 => ?_, hb⟩
 obtain ⟨i, l, hi9, hi, hl, hbd, hkk, hQ, hN, vl, hol, hall⟩ := hok h0
 refine ⟨vl, l, hol, fun W hW => ?_⟩
 obtain ⟨ra, rb, rf⟩ := hall W hW
 subst hi hl
 refine ⟨_, _, _, ?_, ra, rb, rf⟩
 rw [hkk, hQ, hN]; rfl
end Go.Proofs.YteamhbohgoclgaaGreatDoor
