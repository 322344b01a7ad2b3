/- Contract of the reference's Head. -/
import Derived.Test.YteamhbohgoclgaaGreatDoorR28
import Derived.Test.YteamhbohgoclgaaGreatDoorR00
set_option maxRecDepth 100000
set_option maxHeartbeats 16000000
namespace Go.Proofs.YteamhbohgoclgaaGreatDoor
open Go.RowKit Go.Shelf

theorem graph_size : (Tryz.prog.info? 25).map (·.size) = some 2 := by kernel_rfl
theorem rHead_any (s : List UInt8) (w : World) (hs : s.length <= 90000) :
   Calls Tryz.prog 27 #[strV s] w fun e w' => ∃ v, e = .returned (.tuple #[v, .int .i64 (hdE s)]) /\ (hdE s = 0 -> GV w' v (hdN s) (hdT s)) /\ (∃ (z : Int) (A : Option Addr) (l c : Nat), v = .agg #[.int .i64 z, .slice A l c]) /\ Below w.heap.size w w' := by
 obtain ⟨Wr, hWr⟩ : ∃ Wr, Wr = w.alloc (.cells #[.int .i64 0, .slice none 0 0] 25) := ⟨_, rfl⟩
 have hbr : Below w.heap.size w Wr := by rw [hWr]; exact below_alloc w _
 have hxr : BL Wr w.heap.size 25 [.int .i64 0, .slice none 0 0] := by rw [hWr]; exact BL.new' w _ _
 have HBr := Hd hbr
 have HXr := Hd hxr
 have HWr := Hd hWr
 have HSp : Hid (Calls Tryz.prog 50 #[strV s, .int .u8 32] Wr fun e w' => ∃ v, e = .returned v /\ RS w' v (splitL 32 s) /\ Below Wr.heap.size Wr w') := rSplit_any s 32 Wr (by omega)
 clear hWr hbr hxr
 have hwp := splitL_part 32 s
 have hsl := splitL_length 32 s
 have hwn := splitL_ne 32 s
 have HN0 : Hid (hdN s = (numsV ((splitL 32 s).drop 1)).getD 0 0) := rfl
 have HT0 : Hid (hdT s = triL ((numsV ((splitL 32 s).drop 1)).drop 1)) := rfl
 have HE0 : Hid (hdE s = if (splitL 32 s).getD 0 [] ≠ [103, 114, 97, 112, 104] \/ (splitL 32 s).length % 3 ≠ 2 then 4
   else if numsE ((splitL 32 s).drop 1) ≠ 0 then numsE ((splitL 32 s).drop 1) else ofE (hdN s) (hdT s)) := rfl
 generalize hdN s = n at *
 generalize hdT s = es at *
 generalize hdE s = E at *
 generalize splitL 32 s = ws at *
 have hw0 : 0 < ws.length := List.length_pos_iff.2 hwn
 have HWp : Hid (∀ x ∈ ws, x.length <= 1000000) := fun x hx => by have := hwp x hx; omega
 have HWl : Hid (ws.length <= 90001) := by show _ <= _; omega
 clear hwp hwn hsl hs
 go_enter Tryz.func27, Tryz.ntmps27
 go_wp2_with fail
 rw [<- HWr.out]
 refine HSp.out.mono ?_
 rintro e w1 ⟨v1, rfl, hr1, hb1⟩
 have HX1 := Hd (HXr.out.bel hb1)
 obtain ⟨A1, c1, rfl, hlc1, hcl1⟩ := hr1.open_
 obtain ⟨ad1, rfl, had1, hc01⟩ := hcl1 0 hw0
 rw [add_zero'] at hc01
 have HR1 := Hd hr1
 have HB1 := Hd (HBr.out.trans (hb1.mono HBr.out.size))
 have hZ : (ByteArray.mk (ws.getD 0 []).toArray).toList = ws.getD 0 [] := ByteArray.toList_mk _
 rw [show strV (ws.getD 0 []) = .string ⟨(ws.getD 0 []).toArray⟩ from rfl] at hc01
 generalize (⟨(ws.getD 0 []).toArray⟩ : ByteArray) = Z at *
 have HZ := Hd hZ
 clear hr1 hb1 hcl1 HSp hZ
 by_cases hw : ws.getD 0 [] ≠ [103, 114, 97, 112, 104]
 · have hR : Hid (E = 4) := by show _ = _; rw [HE0.out, if_pos (.inl hw)]
   have t1 : (Z.toList == [103, 114, 97, 112, 104]) = false := by rw [HZ.out]; simpa using hw
   clear HN0 HT0 HE0 hw
   have x0 := HX1.out.cell 0
   have x1 := HX1.out.cell 1
   have z0 := HX1.out.frozen 0
   have z1 := HX1.out.frozen 1
   have HX9 := Hd ((HX1.out.set 0 (.int .i64 0)).set 1 (.slice none 0 0))
   have HB9 := Hd ((HB1.out.setCell (p := ⟨w.heap.size, 0, none⟩) (Nat.le_refl _) (.int .i64 0)).setCell (p := ⟨w.heap.size, 1, none⟩) (Nat.le_refl _) (.slice none 0 0))
   go_wp2
   refine bodyPost_ret (results_row_tmp rfl _ _ w.heap.size 25 #[.int .i64 0, .slice none 0 0] (0, 0) _ rfl HX9.out Tryz.underlying25 rfl graph_size) rfl ?_
   exact ⟨_, by rw [hR.out]; rfl, fun h => absurd (hR.out.symm.trans h) (by decide), ⟨0, none, 0, 0, rfl⟩, HB9.out⟩
 have t1 : (Z.toList == [103, 114, 97, 112, 104]) = true := by rw [HZ.out]; simpa using hw
 have hwb : (ws.length : Int) <= 90001 := by have := HWl.out; omega
 by_cases hm : ws.length % 3 ≠ 2
 · have hR : Hid (E = 4) := by show _ = _; rw [HE0.out, if_pos (.inr hm)]
   by_cases h2 : ws.length < 2
   · have g1 : (ws.length : Int) < 2 := by omega
     clear HN0 HT0 HE0 hw hm h2
     have x0 := HX1.out.cell 0
     have x1 := HX1.out.cell 1
     have z0 := HX1.out.frozen 0
     have z1 := HX1.out.frozen 1
     have HX9 := Hd ((HX1.out.set 0 (.int .i64 0)).set 1 (.slice none 0 0))
     have HB9 := Hd ((HB1.out.setCell (p := ⟨w.heap.size, 0, none⟩) (Nat.le_refl _) (.int .i64 0)).setCell (p := ⟨w.heap.size, 1, none⟩) (Nat.le_refl _) (.slice none 0 0))
     go_wp2
     refine bodyPost_ret (results_row_tmp rfl _ _ w.heap.size 25 #[.int .i64 0, .slice none 0 0] (0, 0) _ rfl HX9.out Tryz.underlying25 rfl graph_size) rfl ?_
     exact ⟨_, by rw [hR.out]; rfl, fun h => absurd (hR.out.symm.trans h) (by decide), ⟨0, none, 0, 0, rfl⟩, HB9.out⟩
   · have g1 : ¬ (ws.length : Int) < 2 := by omega
     have g0 : (0 : Int) <= (ws.length : Int) - 2 := by omega
     have t2 : (((ws.length : Int) - 2) % 3 != 0) = true := by simp; omega
     clear HN0 HT0 HE0 hw hm h2
     have x0 := HX1.out.cell 0
     have x1 := HX1.out.cell 1
     have z0 := HX1.out.frozen 0
     have z1 := HX1.out.frozen 1
     have HX9 := Hd ((HX1.out.set 0 (.int .i64 0)).set 1 (.slice none 0 0))
     have HB9 := Hd ((HB1.out.setCell (p := ⟨w.heap.size, 0, none⟩) (Nat.le_refl _) (.int .i64 0)).setCell (p := ⟨w.heap.size, 1, none⟩) (Nat.le_refl _) (.slice none 0 0))
     go_wp2
     refine bodyPost_ret (results_row_tmp rfl _ _ w.heap.size 25 #[.int .i64 0, .slice none 0 0] (0, 0) _ rfl HX9.out Tryz.underlying25 rfl graph_size) rfl ?_
     exact ⟨_, by rw [hR.out]; rfl, fun h => absurd (hR.out.symm.trans h) (by decide), ⟨0, none, 0, 0, rfl⟩, HB9.out⟩
 have HE1 : Hid (E = if numsE (ws.drop 1) ≠ 0 then numsE (ws.drop 1) else ofE n es) := by show _ = _; rw [HE0.out, if_neg (by rintro (h | h); exact hw h; exact hm h)]
 have g0 : (0 : Int) <= (ws.length : Int) - 2 := by omega
 have g1 : ¬ (ws.length : Int) < 2 := by omega
 have t2 : (((ws.length : Int) - 2) % 3 != 0) = false := by simp; omega
 have hc1 : c1 ≠ 1 := by omega
 have hs1 := RS.sub (i := 1) (j := ws.length) HR1.out (by omega) (by omega)
 rw [List.take_of_length_le (Nat.le_refl _), if_neg hc1, show ad1.add 1 = ⟨ad1.block, ad1.off + 1, none⟩ by simp [Addr.add]] at hs1
 have HNu := Hd (rNums_any _ (ws.drop 1) w1 hs1 (by have := HWl.out; rw [List.length_drop]; omega) fun x hx => HWp.out x (List.mem_of_mem_drop hx))
 have hw2 : 2 <= ws.length := by omega
 have HLn : Hid ((numsV (ws.drop 1)).length = ws.length - 1) := by show _ = _; rw [numsV_len, List.length_drop]
 have HM3 : Hid (ws.length % 3 = 2) := by show _ = _; omega
 clear HE0 hw hm hs1
 generalize numsE (ws.drop 1) = ne at *
 generalize numsV (ws.drop 1) = l at *
 have f1 : 2 <= c1 := by omega
 go_wp2_with fail
 refine HNu.out.mono ?_
 rintro e w2 ⟨vl, rfl, hl2, hb2⟩
 have HB2 := Hd (HB1.out.trans (hb2.mono HB1.out.size))
 have HX2 := Hd (HX1.out.bel hb2)
 by_cases hne : ne ≠ 0
 · have hR : Hid (E = ne) := by show _ = _; rw [HE1.out, if_pos hne]
   have t3 : (ne != 0) = true := by simpa using hne
   have hEne : Hid (E ≠ 0) := by show _ ≠ _; rw [hR.out]; exact hne
   clear HN0 HT0 HE1 HNu hl2 hb2 hne
   have x0 := HX2.out.cell 0
   have x1 := HX2.out.cell 1
   have z0 := HX2.out.frozen 0
   have z1 := HX2.out.frozen 1
   have HX9 := Hd ((HX2.out.set 0 (.int .i64 0)).set 1 (.slice none 0 0))
   have HB9 := Hd ((HB2.out.setCell (p := ⟨w.heap.size, 0, none⟩) (Nat.le_refl _) (.int .i64 0)).setCell (p := ⟨w.heap.size, 1, none⟩) (Nat.le_refl _) (.slice none 0 0))
   go_wp2
   refine bodyPost_ret (results_row_tmp rfl _ _ w.heap.size 25 #[.int .i64 0, .slice none 0 0] (0, 0) _ rfl HX9.out Tryz.underlying25 rfl graph_size) rfl ?_
   exact ⟨_, by rw [hR.out]; rfl, fun h => absurd h hEne.out, ⟨0, none, 0, 0, rfl⟩, HB9.out⟩
 have h00 : ne = 0 := by omega
 subst h00
 have HE2 : Hid (E = ofE n es) := by show _ = _; rw [HE1.out, if_neg hne]
 have HLs := Hd (hl2 rfl)
 obtain ⟨k, hk⟩ : ∃ k, ws.length = 3 * k + 2 := ⟨ws.length / 3, by have := HM3.out; omega⟩
 clear hl2 hb2 hne HE1 HNu HR1 HWp hc01 HZ
 have hlen : l.length = 3 * k + 1 := by have := HLn.out; omega
 obtain ⟨Al, cl, rfl, hlcl, -, hcell⟩ := HLs.out.open_
 obtain ⟨al, z0, rfl, hal, hz0, hcl0⟩ := hcell 0 (by omega)
 rw [add_zero'] at hcl0
 have hz : z0 = n := by
   have h := hz0.out
   rw [HN0.out, List.getD_eq_getElem?_getD, h]; rfl
 subst hz
 have HCe := Hd hcell
 rw [hlen] at hlcl HLs ⊢
 have HLen := Hd hlen
 have hal0 : (0 : Int) < ((3 * k + 1 : Nat) : Int) := by omega
 have hpos : 0 < 3 * k + 1 := by omega
 have hkl : k < 100000 := by have := HWl.out; omega
 clear HN0 HLn hlen hcell hz0 had1 hlc1 hc1 t1 t2 hw2 f1 hw0 hk
 obtain ⟨len, hle⟩ : ∃ len, len = 3 * k + 1 := ⟨_, rfl⟩
 rw [<- hle] at hlcl HLs hal0 hpos ⊢
 obtain ⟨W3, hW3⟩ : ∃ W3, W3 = w2.alloc (.cells #[.int .i64 z0, .slice none 0 0] 25) := ⟨_, rfl⟩
 have hb3 : Below w2.heap.size w2 W3 := by rw [hW3]; exact below_alloc w2 _
 have hx3 : BL W3 w2.heap.size 25 [.int .i64 z0, .slice none 0 0] := by rw [hW3]; exact BL.new' w2 _ _
 have HX3 := Hd hx3
 have hz3 : W3.heap.size = w2.heap.size + 1 := by rw [hW3]; simp
 have HB3 := Hd hb3
 have HW3 := Hd hW3
 have HZ3 := Hd hz3
 have HLe := Hd hle
 clear hW3 hb3 hx3 hz3 hle
 obtain ⟨i1, hi1, hz01, hz11, hz21⟩ := info_parts' edge_info
 go_upto_region 8 with fail
 rw [<- HW3.out]
 go_wp2_with fail
 go_loopw [8] (fun i wr => ∃ (j : Nat) (vo : Value), j <= k /\ i = .int .i64 ((3 * j + 1 : Nat) : Int) /\ Hid (BL wr w2.heap.size 25 [.int .i64 z0, vo]) /\ Hid (OE wr (w2.heap.size + 1) vo (triL ((l.drop 1).take (3 * j)))) /\ Hid (Below w2.heap.size w2 wr)) (fun i _ => len - (intOf i).toNat)
 case atStart => exact ⟨0, _, Nat.zero_le _, rfl, HX3.out, OE.nil_ _ _, HB3.out⟩
 case round =>
   obtain ⟨j, vo, hj, rfl, hx, ho, hb⟩ := hrel
   by_cases hlt : j < k
   · have hx' : 3 * j + 3 < l.length := by have := HLen.out; omega
     obtain ⟨_, a, e0, -, ha, d1⟩ := HCe.out (3 * j + 1) (by omega)
     cases e0
     obtain ⟨_, b, e0, -, hbb, d2⟩ := HCe.out (3 * j + 1 + 1) (by omega)
     cases e0
     obtain ⟨_, c, e0, -, hc, d3⟩ := HCe.out (3 * j + 1 + 2) (by omega)
     cases e0
     have HTr : Hid (triL ((l.drop 1).take (3 * (j + 1))) = triL ((l.drop 1).take (3 * j)) ++ [(a, b, c)]) := by
       refine triL_snoc (l.drop 1) j a b c ?_
       rw [List.drop_drop, List.drop_drop]
       rw [show 1 + 3 * j = 3 * j + 1 by omega, show 1 + 3 * (j + 1) = 3 * j + 1 + 1 + 1 + 1 by omega, drop_at ha, drop_at hbb, drop_at hc]
     have hll : (triL ((l.drop 1).take (3 * j))).length = j := triL_len _ j (by rw [List.length_take, List.length_drop]; omega)
     obtain ⟨A1, c1', rfl⟩ := ho.out.shape
     generalize triL ((l.drop 1).take (3 * j)) = ts at *
     rw [hll] at hx ho
     have hjl : j < 100000 := by omega
     have hle := HLe.out
     have hod := OE.below (w' := wr.drew) ho.out (Below.refl _ _).drew
     have hbs := hb.out.size
     have hxl := hx.out.lt
     obtain ⟨g2, cap2, w', hrun, hown, hgr, hat⟩ := run_append_tri (P := Tryz.prog) wr.drew 23 23 i1 _ 24 Tryz.underlying23 hi1 hz01 hz11 hz21 (by omega) rfl (w2.heap.size + 1) _ _ hod a b c (by omega) hxl
     have HX3 : Hid (BL w' w2.heap.size 25 [.int .i64 z0, .slice A1 j c1']) := BL.grown (w := wr.drew.alloc (.cells #[.int .i64 a, .int .i64 b, .int .i64 c] 68)) (BL.alloc (BL.drew hx.out) _) hgr (fun e => by have := (hod.block_ e).choose_spec.2.1; omega)
     have HB4 : Hid (Below w2.heap.size w2 w') := by
       have h1 : Below w2.heap.size w2 wr.drew := hb.out.drew
       exact (h1.alloc hbs _).grown hgr (by simp; omega) (fun k hk => by have := (hod.block_ hk).choose_spec.2.1; omega)
     have y1 := hx.out.cell 1
     have hba : Below wr.heap.size wr (wr.alloc (.cells #[.int .i64 a, .int .i64 b, .int .i64 c] 68)).drew := (below_alloc wr _).drew
     have habr : al.block < wr.heap.size := by omega
     have r4 := (hx.out.bel hba).cell 1
     have HXn := HX3.out.set 1 (.slice (some ⟨g2, 0, none⟩) (j + 1) cap2)
     have HBn := HB4.out.setCell (p := ⟨w2.heap.size, 1, none⟩) (Nat.le_refl _) (.slice (some ⟨g2, 0, none⟩) (j + 1) cap2)
     rw [hll] at hrun hown
     have HOn := hown.set HX3.out (by decide) 1 (.slice (some ⟨g2, 0, none⟩) (j + 1) cap2)
     rw [<- HTr.out] at HOn
     have s4 := HX3.out.cell 1
     have s5 := HX3.out.frozen 1
     have HXN := Hd HXn
     have HBN := Hd HBn
     have HON := Hd HOn
     have hrunB := hrun
     change (Builtin.append_ #[23, 23] 23 #[_, .slice (some ⟨wr.heap.size, 0, none⟩) 1 1]).run Tryz.prog (wr.drew.alloc (.cells #[.int .i64 a, .int .i64 b, .int .i64 c] 68)) = _ at hrunB
     change (Builtin.append_ #[23, 23] 23 _).run Tryz.prog (wr.alloc (.cells #[.int .i64 a, .int .i64 b, .int .i64 c] 68)).drew = _ at hrun
     change (Builtin.append_ #[23, 23] 23 #[_, .slice (some ⟨wr.heap.size, 0, none⟩) 1 1]).run Tryz.prog _ = _ at hrun
     obtain ⟨x, hxe⟩ : ∃ x, x = 3 * j + 1 := ⟨_, rfl⟩
     have hxl1 : x < len := by have := HLen.out; omega
     have hxl2 : x + 1 < len := by have := HLen.out; omega
     have hxl3 : x + 2 < len := by have := HLen.out; omega
     rw [<- hxe] at d1 d2 d3 ⊢
     have HXE := Hd hxe
     have hxs : x < 9223372036854775000 := by omega
     have w1e : IntKind.i64.wrap ((x : Int) + 1) = (x : Int) + 1 := by simp (disch := omega) only [IntWalk.i64_in]
     have w2e : IntKind.i64.wrap ((x : Int) + 2) = (x : Int) + 2 := by simp (disch := omega) only [IntWalk.i64_in]
     have w3e : (0 : Int) <= (x : Int) + 1 /\ (x : Int) + 1 < (len : Int) := by omega
     have w4e : (0 : Int) <= (x : Int) + 2 /\ (x : Int) + 2 < (len : Int) := by omega
     have w5e : ((x : Int) + 1).toNat = x + 1 := by omega
     have w6e : ((x : Int) + 2).toNat = x + 2 := by omega
     rw [show al.add (x + 1) = ⟨al.block, al.off + (x + 1), none⟩ by simp [Addr.add]] at d2
     rw [show al.add (x + 2) = ⟨al.block, al.off + (x + 2), none⟩ by simp [Addr.add]] at d3
     have HKK : Hid (∀ W : World, Below w2.heap.size w2 W -> (fun W : World => W.cell? (al.add x) = some (.int .i64 a) /\ W.cell? ⟨al.block, al.off + (x + 1), none⟩ = some (.int .i64 b) /\ W.cell? ⟨al.block, al.off + (x + 2), none⟩ = some (.int .i64 c)) W) := fun W hW =>
       ⟨(hW.cell (by rw [block_of_add]; exact hal)).trans d1, (hW.cell (p := ⟨al.block, al.off + (x + 1), none⟩) hal).trans d2, (hW.cell (p := ⟨al.block, al.off + (x + 2), none⟩) hal).trans d3⟩
     have HS0 := Hd (HKK.out wr.drew hb.out.drew)
     have HS1 := Hd (HKK.out _ (hb.out.trans (hba.mono hb.out.size)))
     have HS2 := Hd (HKK.out _ HB4.out)
     have HS3 := Hd (HKK.out _ HBN.out)
     clear hod hbs hgr hat hown hxl hba HXn HBn HOn HX3 HB4 hx ho hb hll HTr ha hbb hc d1 d2 d3 hle hxe hx'
     go_wp2_with fail
     refine wp_region_noPanic ?_
     refine wp_region_held_drew (S := (fun W : World => W.cell? (al.add x) = some (.int .i64 a) /\ W.cell? ⟨al.block, al.off + (x + 1), none⟩ = some (.int .i64 b) /\ W.cell? ⟨al.block, al.off + (x + 2), none⟩ = some (.int .i64 c))) (by kernel_rfl) HS0.out (fun hHeld => ?_)
     refine tkY (v := ?_) 0 (some 49) rfl (.inl ⟨by rfl, ?_⟩) ?_
     rotate_left
     · (intro w hSw; (try dsimp only at hSw); go_simp; try with_reducible rfl)
     try simp only [Act.put, tk1, tk2, tk3]
     refine tkY (v := ?_) 2 (some 51) rfl (.inl ⟨by rfl, ?_⟩) ?_
     rotate_left
     · (intro w hSw; (try dsimp only at hSw); go_simp; try with_reducible rfl)
     try simp only [Act.put, tk1, tk2, tk3]
     refine tkY (v := ?_) 3 (some 52) rfl (.inl ⟨by rfl, ?_⟩) ?_
     rotate_left
     · (intro w hSw; (try dsimp only at hSw); go_simp; try with_reducible rfl)
     try simp only [Act.put, tk1, tk2, tk3]
     refine tkY (v := ?_) 4 (some 53) rfl (.inl ⟨by rfl, ?_⟩) ?_
     rotate_left
     · (intro w hSw; (try dsimp only at hSw); go_simp; try with_reducible rfl)
     try simp only [Act.put, tk1, tk2, tk3]
     refine tkY (v := ?_) 5 (some 54) rfl (.inl ⟨by rfl, ?_⟩) ?_
     rotate_left
     · (intro w hSw; (try dsimp only at hSw); go_simp; try with_reducible rfl)
     try simp only [Act.put, tk1, tk2, tk3]
     refine tkY (v := ?_) 6 (some 55) rfl (.inl ⟨by rfl, ?_⟩) ?_
     rotate_left
     · (intro w hSw; (try dsimp only at hSw); go_simp; try with_reducible rfl)
     try simp only [Act.put, tk1, tk2, tk3]
     refine tkY (v := ?_) 7 (some 56) rfl (.inl ⟨by rfl, ?_⟩) ?_
     rotate_left
     · (intro w hSw; (try dsimp only at hSw); go_simp; try with_reducible rfl)
     try simp only [Act.put, tk1, tk2, tk3]
     refine tkY (v := ?_) 8 (some 57) rfl (.inl ⟨by rfl, ?_⟩) ?_
     rotate_left
     · (intro w hSw; (try dsimp only at hSw); go_simp; try with_reducible rfl)
     try simp only [Act.put, tk1, tk2, tk3]
     refine tkY (v := ?_) 9 (some 58) rfl (.inl ⟨by rfl, ?_⟩) ?_
     rotate_left
     · (intro w hSw; (try dsimp only at hSw); go_simp; try with_reducible rfl)
     try simp only [Act.put, tk1, tk2, tk3]
     refine tkY (v := ?_) 10 (some 59) rfl (.inl ⟨by rfl, ?_⟩) ?_
     rotate_left
     · (intro w hSw; (try dsimp only at hSw); go_simp; try with_reducible rfl)
     try simp only [Act.put, tk1, tk2, tk3]
     refine tkY (v := ?_) 11 (some 60) rfl (.inl ⟨by rfl, ?_⟩) ?_
     rotate_left
     · (intro w hSw; (try dsimp only at hSw); go_simp; try with_reducible rfl)
     try simp only [Act.put, tk1, tk2, tk3]
     refine tkY (v := ?_) 12 (some 61) rfl (.inl ⟨by rfl, ?_⟩) ?_
     rotate_left
     · (intro w hSw; (try dsimp only at hSw); go_simp; try with_reducible rfl)
     try simp only [Act.put, tk1, tk2, tk3]
     refine tkY (v := ?_) 13 (some 62) rfl (.inl ⟨by rfl, ?_⟩) ?_
     rotate_left
     · (intro w hSw; (try dsimp only at hSw); go_simp; try with_reducible rfl)
     try simp only [Act.put, tk1, tk2, tk3]
     refine tkY (v := ?_) 14 (some 63) rfl (.inl ⟨by rfl, ?_⟩) ?_
     rotate_left
     · (intro w hSw; (try dsimp only at hSw); go_simp; try with_reducible rfl)
     try simp only [Act.put, tk1, tk2, tk3]
     refine tkY (v := ?_) 15 (some 64) rfl (.inl ⟨by rfl, ?_⟩) ?_
     rotate_left
     · (intro w hSw; (try dsimp only at hSw); go_simp; try with_reducible rfl)
     try simp only [Act.put, tk1, tk2, tk3]
     refine tkY (v := ?_) 16 (some 65) rfl (.inl ⟨by rfl, ?_⟩) ?_
     rotate_left
     · (intro w hSw; (try dsimp only at hSw); go_simp; try with_reducible rfl)
     try simp only [Act.put, tk1, tk2, tk3]
     refine wpAnyH_ready (rs := [1, 17]) (by kernel_rfl) (by simp) ?_
     refine AllReadyH.cons (o := { dst := some 50, op := _, type := _, pos := _, after := _, guard := _ }) rfl (fun K hK => ?_) (AllReadyH.cons (o := { dst := some 66, op := _, type := _, pos := _, after := _, guard := _ }) rfl (fun K hK => ?_) AllReadyH.nil)
     · go_simp
       clear hHeld
       refine hK.out _ _ (by first | exact HS0.out | exact HS1.out | exact HS2.out | exact HS3.out) (fun hHeld => ?_)
       clear hK K
       try simp only [Act.put, tk1, tk2, tk3]
       refine wpAnyH_ready (rs := [17]) (by kernel_rfl) (by simp) ?_
       refine AllReadyH.cons (o := { dst := some 66, op := _, type := _, pos := _, after := _, guard := _ }) rfl (fun K hK => ?_) AllReadyH.nil
       go_simp
       clear hHeld
       refine hK.out _ _ (by first | exact HS0.out | exact HS1.out | exact HS2.out | exact HS3.out) (fun hHeld => ?_)
       clear hK K
       try simp only [Act.put, tk1, tk2, tk3]
       refine wpAnyH_ready (rs := [18]) (by kernel_rfl) (by simp) ?_
       refine AllReadyH.cons (o := { dst := some 67, op := _, type := _, pos := _, after := _, guard := _ }) rfl (fun K hK => ?_) AllReadyH.nil
       (refine step_append' rfl (.tmp 50) (.tmp 66) 23 rfl (.slice A1 j c1') (.slice (some ⟨wr.heap.size, 0, none⟩) 1 1) (by simp [Act.eval]) (by simp [Act.eval]) _ _ (by first | exact hrun | exact hrunB) ?_)
       clear hHeld
       refine hK.out _ _ (by first | exact HS0.out | exact HS1.out | exact HS2.out | exact HS3.out) (fun hHeld => ?_)
       clear hK K
       try simp only [Act.put, tk1, tk2, tk3]
       refine tkY (v := ?_) 19 (some 68) rfl (.inl ⟨by rfl, ?_⟩) ?_
       rotate_left
       · (intro w hSw; (try dsimp only at hSw); go_simp; try with_reducible rfl)
       try simp only [Act.put, tk1, tk2, tk3]
       refine wpAnyH_ready (rs := [20]) (by kernel_rfl) (by simp) ?_
       refine AllReadyH.cons (o := { dst := none, op := _, type := _, pos := _, after := _, guard := _ }) rfl (fun K hK => ?_) AllReadyH.nil
       go_simp
       clear hHeld
       refine hK.out _ _ (by first | exact HS0.out | exact HS1.out | exact HS2.out | exact HS3.out) (fun hHeld => ?_)
       clear hK K
       try simp only [Act.put, tk1, tk2, tk3]
       refine wpAnyH_done (by kernel_rfl) ?_ _
       refine NoPanic.normal ?_
       go_wp2
       go_roundw
       case rel => exact ⟨j + 1, _, by omega, by rw [show ((3 * (j + 1) + 1 : Nat) : Int) = (x : Int) + 3 by have := HXE.out; omega], HXN.out, HON.out, HBN.out⟩
       case measure => simp [intOf]; omega
     · go_simp
       clear hHeld
       refine hK.out _ _ (by first | exact HS0.out | exact HS1.out | exact HS2.out | exact HS3.out) (fun hHeld => ?_)
       clear hK K
       try simp only [Act.put, tk1, tk2, tk3]
       refine wpAnyH_ready (rs := [1]) (by kernel_rfl) (by simp) ?_
       refine AllReadyH.cons (o := { dst := some 50, op := _, type := _, pos := _, after := _, guard := _ }) rfl (fun K hK => ?_) AllReadyH.nil
       go_simp
       clear hHeld
       refine hK.out _ _ (by first | exact HS0.out | exact HS1.out | exact HS2.out | exact HS3.out) (fun hHeld => ?_)
       clear hK K
       try simp only [Act.put, tk1, tk2, tk3]
       refine wpAnyH_ready (rs := [18]) (by kernel_rfl) (by simp) ?_
       refine AllReadyH.cons (o := { dst := some 67, op := _, type := _, pos := _, after := _, guard := _ }) rfl (fun K hK => ?_) AllReadyH.nil
       (refine step_append' rfl (.tmp 50) (.tmp 66) 23 rfl (.slice A1 j c1') (.slice (some ⟨wr.heap.size, 0, none⟩) 1 1) (by simp [Act.eval]) (by simp [Act.eval]) _ _ (by first | exact hrun | exact hrunB) ?_)
       clear hHeld
       refine hK.out _ _ (by first | exact HS0.out | exact HS1.out | exact HS2.out | exact HS3.out) (fun hHeld => ?_)
       clear hK K
       try simp only [Act.put, tk1, tk2, tk3]
       refine tkY (v := ?_) 19 (some 68) rfl (.inl ⟨by rfl, ?_⟩) ?_
       rotate_left
       · (intro w hSw; (try dsimp only at hSw); go_simp; try with_reducible rfl)
       try simp only [Act.put, tk1, tk2, tk3]
       refine wpAnyH_ready (rs := [20]) (by kernel_rfl) (by simp) ?_
       refine AllReadyH.cons (o := { dst := none, op := _, type := _, pos := _, after := _, guard := _ }) rfl (fun K hK => ?_) AllReadyH.nil
       go_simp
       clear hHeld
       refine hK.out _ _ (by first | exact HS0.out | exact HS1.out | exact HS2.out | exact HS3.out) (fun hHeld => ?_)
       clear hK K
       try simp only [Act.put, tk1, tk2, tk3]
       refine wpAnyH_done (by kernel_rfl) ?_ _
       refine NoPanic.normal ?_
       go_wp2
       go_roundw
       case rel => exact ⟨j + 1, _, by omega, by rw [show ((3 * (j + 1) + 1 : Nat) : Int) = (x : Int) + 3 by have := HXE.out; omega], HXN.out, HON.out, HBN.out⟩
       case measure => simp [intOf]; omega
   · obtain rfl : j = k := by omega
     have ho2 : OE wr (w2.heap.size + 1) vo es := by
       have h := ho.out
       rwa [List.take_of_length_le (by have := HLen.out; rw [List.length_drop]; omega), <- HT0.out] at h
     have HOf := Hd (rJoined_any _ z0 es wr ⟨vo, rfl, ho2.ev⟩)
     have hxe := HLe.out
     have y0 := hx.out.cell 0
     have y1 := hx.out.cell 1
     have hnl : ¬ ((3 * j + 1 : Nat) : Int) < (len : Int) := by omega
     have HBr9 := Hd (HB2.out.trans (hb.out.mono HB2.out.size))
     have HXr9 := Hd (HX2.out.bel hb.out)
     have HO2 := Hd ho2
     have hEE : Hid (eGiven z0 es [] = E) := by show _ = _; rw [HE2.out]; rfl
     rw [hEE.out] at HOf
     have HXg := Hd hx.out
     clear ho2 ho
     go_wp2_with fail
     refine HOf.out.mono ?_
     rintro e w9 ⟨rfl, hb9⟩
     have HB9a := Hd (HBr9.out.trans (hb9.mono HBr9.out.size))
     have HX3a := Hd (HXr9.out.bel hb9)
     have HO3 := Hd (HO2.out.below hb9)
     have HXg9 := Hd (HXg.out.bel hb9)
     clear hb9 y0 y1 HOf
     have x0 := HX3a.out.cell 0
     have x1 := HX3a.out.cell 1
     have q0 := HX3a.out.frozen 0
     have q1 := HX3a.out.frozen 1
     by_cases hE0 : E ≠ 0
     · have hne : Hid (E ≠ 0) := hE0
       have t3 : (E != 0) = true := by simpa using hE0
       have HX9 := Hd ((HX3a.out.set 0 (.int .i64 0)).set 1 (.slice none 0 0))
       have HB9 := Hd ((HB9a.out.setCell (p := ⟨w.heap.size, 0, none⟩) (Nat.le_refl _) (.int .i64 0)).setCell (p := ⟨w.heap.size, 1, none⟩) (Nat.le_refl _) (.slice none 0 0))
       clear hE0 HE2 hEE
       go_wp2
       refine bodyPost_ret (results_row_tmp rfl _ _ w.heap.size 25 #[.int .i64 0, .slice none 0 0] (0, 0) _ rfl HX9.out Tryz.underlying25 rfl graph_size) rfl ?_
       exact ⟨_, rfl, fun h => absurd h hne.out, ⟨0, none, 0, 0, rfl⟩, HB9.out⟩
     · obtain rfl : E = 0 := by omega
       have HX9 := Hd ((HX3a.out.set 0 (.int .i64 z0)).set 1 vo)
       have HB9 := Hd ((HB9a.out.setCell (p := ⟨w.heap.size, 0, none⟩) (Nat.le_refl _) (.int .i64 z0)).setCell (p := ⟨w.heap.size, 1, none⟩) (Nat.le_refl _) vo)
       have HO9 := Hd ((HO3.out.set HX3a.out (by decide) 0 (.int .i64 z0)).set (HX3a.out.set 0 (.int .i64 z0)) (by decide) 1 vo)
       obtain ⟨Av, cv, rfl⟩ := HO3.out.shape
       have y0 := HXg9.out.cell 0
       have y1 := HXg9.out.cell 1
       clear hE0 HE2 hEE
       go_wp2
       refine bodyPost_ret (results_row_tmp rfl _ _ w.heap.size 25 #[.int .i64 z0, .slice Av es.length cv] (0, 0) _ rfl HX9.out Tryz.underlying25 rfl graph_size) rfl ?_
       exact ⟨_, rfl, ⟨_, rfl, HO9.out.ev⟩, ⟨z0, Av, es.length, cv, rfl⟩, HB9.out⟩

theorem nums_bd20 {ws : List (List UInt8)} (h : numsE ws = 0) : Bd 1048576 (numsV ws) := by
 have h0 := nums_bd h
 unfold numsE at h
 by_cases h1 : ws.all canB = false
 · rw [if_pos h1] at h; cases h
 · rw [if_neg h1] at h
   by_cases h2 : ws.all (fun s => decide (-1048576 <= wv s) && decide (wv s <= 1048576)) = false
   · rw [if_pos h2] at h; cases h
   · intro k
     have h3 : ws.all (fun s => decide (-1048576 <= wv s) && decide (wv s <= 1048576)) = true := by simpa using h2
     rw [List.all_eq_true] at h3
     unfold numsV
     rw [List.getD_eq_getElem?_getD, List.getElem?_map]
     cases hx : ws[k]? with
     | none => simp
     | some x =>
       have := h3 x (List.mem_of_getElem? hx)
       simpa using this
end Go.Proofs.YteamhbohgoclgaaGreatDoor
