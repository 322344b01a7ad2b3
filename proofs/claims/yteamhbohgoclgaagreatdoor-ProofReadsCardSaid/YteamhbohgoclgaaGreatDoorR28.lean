/- Contract of the reference's Small. -/
import Derived.Test.YteamhbohgoclgaaGreatDoorR27
set_option maxRecDepth 100000
set_option maxHeartbeats 16000000
namespace Go.Proofs.YteamhbohgoclgaaGreatDoor
open Go.RowKit Go.Shelf

theorem dig_all {l : List Int} (h : ∀ d ∈ l, 0 <= d /\ d <= 9) : Dig l := fun k => by
 by_cases hk : k < l.length
 · rw [List.getD_eq_getElem?_getD, List.getElem?_eq_getElem hk]; exact h _ (List.getElem_mem hk)
 · rw [List.getD_eq_getElem?_getD, List.getElem?_eq_none (by omega)]; simp
def maxD : List Int := [7, 0, 8, 5, 7, 7, 4, 5, 8, 6, 3, 0, 2, 7, 3, 3, 2, 2, 9]
def minD : List Int := [8, 0, 8, 5, 7, 7, 4, 5, 8, 6, 3, 0, 2, 7, 3, 3, 2, 2, 9]
theorem max_zs : ZS (.string ⟨#[57, 50, 50, 51, 51, 55, 50, 48, 51, 54, 56, 53, 52, 55, 55, 53, 56, 48, 55]⟩) 9223372036854775807 :=
 ⟨maxD, false, by kernel_rfl, dig_all (by decide), Or.inr (by decide), fun _ => rfl, by decide⟩
theorem min_zs : ZS (.string ⟨#[45, 57, 50, 50, 51, 51, 55, 50, 48, 51, 54, 56, 53, 52, 55, 55, 53, 56, 48, 56]⟩) (-9223372036854775808) :=
 ⟨minD, true, by kernel_rfl, dig_all (by decide), Or.inr (by decide), fun h => absurd h (by decide), by decide⟩
def smE (s : List UInt8) : Int := if chkE s ≠ 0 then chkE s else if wv s < -9223372036854775808 \/ 9223372036854775807 < wv s then 2 else 0
theorem p19 : (9223372036854775808 : Int) < p10 1024 := Int.lt_of_lt_of_le (by decide : (9223372036854775808 : Int) < p10 19) (p10_mono (by omega))
theorem dval_drop {l : List Int} (h : Dig l) (k : Nat) (hk : k <= l.length) : 0 <= dval (l.drop k) /\ dval (l.drop k) <= dval l := by
 have h1 := (dval_bd (h.drop k)).1
 have h2 := (dval_bd (h.take k)).1
 have h3 := dval_split l hk
 have h4 := p10_pos k
 refine ⟨h1, ?_⟩
 have h5 : dval (l.drop k) * 1 <= dval (l.drop k) * p10 k := Int.mul_le_mul_of_nonneg_left h4 h1
 rw [Int.mul_comm (dval (l.drop k)) (p10 k)] at h5
 omega
theorem sg_drop {l : List Int} {k : Nat} {d : Int} (m : Bool) (hx : l[k]? = some d) : sgZ (l.drop k) m = if m then 10 * sgZ (l.drop (k + 1)) m - d else 10 * sgZ (l.drop (k + 1)) m + d := by
 have e : l.drop k = d :: l.drop (k + 1) := drop_at hx
 rw [e]
 cases m
 · simp only [sgZ, dval]; simp; omega
 · simp only [sgZ, dval]; simp; omega
theorem zSmall_any (s : List UInt8) (w : World) (hs : s.length <= 1000000) :
   Calls Tryz.prog 89 #[strV s] w fun e w' => ∃ z, e = .returned (.tuple #[.int .i64 z, .int .i64 (smE s)]) /\ (smE s = 0 -> z = wv s) /\ Below w.heap.size w w' := by
 have HCk := Hd (rChk_any s w hs)
 by_cases h1 : chkE s ≠ 0
 · have hR : Hid (smE s = chkE s) := by show _ = _; unfold smE; rw [if_pos h1]
   have t1 : (chkE s != 0) = true := by simpa using h1
   have hne : Hid (smE s ≠ 0) := by show _ ≠ _; rw [hR.out]; exact h1
   generalize chkE s = c at *
   generalize smE s = E at *
   clear h1
   go_enter Tryz.func89, Tryz.ntmps89
   go_wp2_with fail
   refine HCk.out.mono ?_
   rintro e w1 ⟨rfl, hb1⟩
   have HB1 := Hd hb1
   clear hb1 HCk
   go_wp2
   go_ret2
   exact ⟨0, by rw [hR.out]; rfl, fun h => absurd h hne.out, HB1.out⟩
 have h10 : chkE s = 0 := by omega
 have hcan : canB s = true := by
   unfold chkE at h10
   by_cases h : canB s = false
   · rw [if_pos h] at h10; cases h10
   · simpa using h
 have hlong : (magW s).length <= 1024 := by
   unfold chkE at h10
   rw [if_neg (by rw [hcan]; simp)] at h10
   by_cases h : 1024 < (magW s).length
   · rw [if_pos h] at h10; cases h10
   · omega
 have hR : Hid (smE s = if wv s < -9223372036854775808 \/ 9223372036854775807 < wv s then 2 else 0) := by show _ = _; unfold smE; rw [if_neg h1]
 obtain ⟨l, m, ht, hd, hc, hm, hw, hl, -⟩ := can_text hcan
 have hbw : BW 1024 (wv s) := by
   have h2 := dval_bd hd
   have h3 := p10_mono (show l.length <= 1024 by omega)
   rw [hw]
   unfold BW sgZ
   cases m <;> simp <;> omega
 have hzs : ZS (strV s) (wv s) := ⟨l, m, by rw [ht]; rfl, hd, hc, hm, hw⟩
 have h19 := p19
 have hb1 : BW 1024 9223372036854775807 := by unfold BW; omega
 have hb2 : BW 1024 (-9223372036854775808) := by unfold BW; omega
 have HO1 : Hid (∀ W, Calls Tryz.prog 134 #[strV s, .string ⟨#[57, 50, 50, 51, 51, 55, 50, 48, 51, 54, 56, 53, 52, 55, 55, 53, 56, 48, 55]⟩] W fun e w' => e = .returned (.int .i64 (cmpI (wv s) 9223372036854775807)) /\ Below W.heap.size W w') := fun W => zOrderW_any 1024 (by omega) _ _ _ _ W hzs max_zs hbw hb1
 have HO2 : Hid (∀ W, Calls Tryz.prog 134 #[strV s, .string ⟨#[45, 57, 50, 50, 51, 51, 55, 50, 48, 51, 54, 56, 53, 52, 55, 55, 53, 56, 48, 56]⟩] W fun e w' => e = .returned (.int .i64 (cmpI (wv s) (-9223372036854775808))) /\ Below W.heap.size W w') := fun W => zOrderW_any 1024 (by omega) _ _ _ _ W hzs min_zs hbw hb2
 have HDg : Hid (∀ W, Calls Tryz.prog 135 #[strV s] W fun e w' => ∃ v, e = .returned v /\ RI w' v l /\ Below W.heap.size W w') := fun W => by
   have h := dDigitsW_any l m W hd hc (by omega)
   rw [ht] at h
   exact h
 have HMi : Hid (∀ W, Calls Tryz.prog 136 #[strV s] W fun e w' => e = .returned (.bool m) /\ W = w') := fun W => by
   have h := zMinus_any l m W hd hm
   rw [ht] at h
   exact h
 have HD := Hd hd
 have HL1 : Hid (l.length <= 1024) := by show _ <= _; omega
 have HW := Hd hw
 rw [h10] at HCk
 generalize smE s = E at *
 generalize wv s = z at *
 generalize strV s = sv at *
 clear h1 h10 hcan hlong ht hd hc hm hw hl hbw hzs h19 hb1 hb2
 by_cases hhi : 9223372036854775807 < z
 · have hE : Hid (E = 2) := by show _ = _; rw [hR.out, if_pos (.inr hhi)]
   have hc1 : cmpI z 9223372036854775807 = 1 := by unfold cmpI; rw [if_neg (by omega), if_pos hhi]
   rw [hc1] at HO1
   clear hc1 hhi hR
   go_enter Tryz.func89, Tryz.ntmps89
   go_wp2_with fail
   refine HCk.out.mono ?_
   rintro e w1 ⟨rfl, hb1⟩
   have HB1 := Hd hb1
   clear hb1 HCk
   go_wp2_with fail
   refine (HO1.out _).mono ?_
   rintro e w2 ⟨rfl, hb2⟩
   have HB2 := Hd (HB1.out.trans (hb2.mono HB1.out.size))
   clear hb2
   go_wp2
   go_ret2
   exact ⟨0, by rw [hE.out]; rfl, fun h => absurd (hE.out.symm.trans h) (by decide), HB2.out⟩
 by_cases hlo : z < -9223372036854775808
 · have hE : Hid (E = 2) := by show _ = _; rw [hR.out, if_pos (.inl hlo)]
   have hc1 : ∃ x, cmpI z 9223372036854775807 = x /\ ¬ 0 < x := by unfold cmpI; exact ⟨_, rfl, by rw [if_pos (by omega)]; decide⟩
   have hc2 : cmpI z (-9223372036854775808) = -1 := by unfold cmpI; rw [if_pos hlo]
   obtain ⟨x, hx, hx0⟩ := hc1
   rw [hx] at HO1
   rw [hc2] at HO2
   clear hc2 hx hlo hhi hR
   go_enter Tryz.func89, Tryz.ntmps89
   go_wp2_with fail
   refine HCk.out.mono ?_
   rintro e w1 ⟨rfl, hb1⟩
   have HB1 := Hd hb1
   clear hb1 HCk
   go_wp2_with fail
   refine (HO1.out _).mono ?_
   rintro e w2 ⟨rfl, hb2⟩
   have HB2 := Hd (HB1.out.trans (hb2.mono HB1.out.size))
   clear hb2
   go_wp2_with fail
   refine (HO2.out _).mono ?_
   rintro e w3 ⟨rfl, hb3⟩
   have HB3 := Hd (HB2.out.trans (hb3.mono HB2.out.size))
   clear hb3
   go_wp2
   go_ret2
   exact ⟨0, by rw [hE.out]; rfl, fun h => absurd (hE.out.symm.trans h) (by decide), HB3.out⟩
 have hE : Hid (E = 0) := by show _ = _; rw [hR.out, if_neg (by omega)]
 have hc1 : ∃ x, cmpI z 9223372036854775807 = x /\ ¬ 0 < x := by
   unfold cmpI
   by_cases h : z < 9223372036854775807
   · exact ⟨_, rfl, by rw [if_pos h]; decide⟩
   · exact ⟨_, rfl, by rw [if_neg h, if_neg hhi]; decide⟩
 have hc2 : ∃ x, cmpI z (-9223372036854775808) = x /\ ¬ x < 0 := by
   unfold cmpI
   refine ⟨_, rfl, ?_⟩
   rw [if_neg hlo]
   split <;> decide
 obtain ⟨x1, hx1, hx10⟩ := hc1
 obtain ⟨x2, hx2, hx20⟩ := hc2
 rw [hx1] at HO1
 rw [hx2] at HO2
 clear hx1 hx2 hR
 cases m
 · have HBn : Hid (∀ j, j <= l.length -> 0 <= sgZ (l.drop j) false /\ sgZ (l.drop j) false <= 9223372036854775807) := fun j hj => by
     have h := dval_drop HD.out j hj
     have hw := HW.out
     simp [sgZ] at hw ⊢
     omega
   have HSt : Hid (∀ (j : Nat) (d : Int), l[j]? = some d -> sgZ (l.drop j) false = 10 * sgZ (l.drop (j + 1)) false + d) := fun j d h => by
     have h2 := sg_drop false h
     simpa using h2
   have HSz : Hid (sgZ (l.drop 0) false = z) := by show _ = _; rw [HW.out]; rfl
   have HS0 : Hid (sgZ (l.drop l.length) false = 0) := by show _ = _; rw [List.drop_length]; rfl
   clear HW
   go_enter Tryz.func89, Tryz.ntmps89
   go_wp2_with fail
   refine HCk.out.mono ?_
   rintro e w1 ⟨rfl, hb1⟩
   have HB1 := Hd hb1
   clear hb1 HCk
   go_wp2_with fail
   refine (HO1.out _).mono ?_
   rintro e w2 ⟨rfl, hb2⟩
   have HB2 := Hd (HB1.out.trans (hb2.mono HB1.out.size))
   clear hb2
   go_wp2_with fail
   refine (HO2.out _).mono ?_
   rintro e w3 ⟨rfl, hb3⟩
   have HB3 := Hd (HB2.out.trans (hb3.mono HB2.out.size))
   clear hb3
   go_wp2_with fail
   refine (HDg.out _).mono ?_
   rintro e w4 ⟨v4, rfl, hr4, hb4⟩
   have HB4 := Hd (HB3.out.trans (hb4.mono HB3.out.size))
   obtain ⟨A, c, rfl, -, -, hcell⟩ := hr4.open_
   have HC := Hd hcell
   have hl4 : l.length < 5000 := by have := HL1.out; omega
   clear hb4 hr4 hcell HO1 HO2 HDg
   go_wp2_with fail
   go_loopw [5, 7] (fun n i wr => ∃ k : Nat, k <= l.length /\ i = .int .i64 ((k : Int) - 1) /\ n = .int .i64 (sgZ (l.drop k) false) /\ Hid (Below w4.heap.size w4 wr)) (fun _ i _ => (intOf i + 1).toNat)
   case atStart => exact ⟨l.length, Nat.le_refl _, by go_num, by rw [HS0.out], Below.refl _ _⟩
   case round =>
     obtain ⟨k, hk, rfl, rfl, hb⟩ := hrel
     cases k with
     | zero =>
       have h0 := HSz.out
       have HB9 := Hd (HB4.out.trans (hb.out.mono HB4.out.size))
       generalize sgZ (l.drop 0) false = q at *
       go_wp2
       go_ret2
       exact ⟨q, by rw [hE.out]; rfl, fun _ => h0, HB9.out⟩
     | succ j =>
       obtain ⟨ad, d, rfl, hab, hx, hcl⟩ := HC.out j (by omega)
       have hcw := (hb.out.cell (p := ad.add j) (by rw [block_of_add]; exact hab)).trans hcl
       have hst := HSt.out j d hx.out
       have hb0 := HBn.out j (by omega)
       have hb1 := HBn.out (j + 1) hk
       have hd9 := HD.out j
       rw [getD_of hx.out] at hd9
       have HM := Hd (HMi.out wr)
       have hjl : j < l.length := by omega
       have ei : ((j + 1 : Nat) : Int) - 1 = (j : Int) := by omega
       rw [ei]
       have HSt2 := Hd hst
       generalize sgZ (l.drop (j + 1)) false = p at *
       have w1e : IntKind.i64.wrap (10 * p) = 10 * p := by simp (disch := omega) only [IntWalk.i64_in]
       have w2e : IntKind.i64.wrap (10 * p + d) = 10 * p + d := by simp (disch := omega) only [IntWalk.i64_in]
       clear hx hcl hab hst hb0 hb1 hd9 ei
       go_wp2_with fail
       refine HM.out.mono ?_
       rintro e w5 ⟨rfl, rfl⟩
       go_wp2
       go_roundw
       case rel => exact ⟨j, by omega, by go_num, by rw [HSt2.out], hb.out⟩
       case measure => simp [intOf] <;> omega
 · have HBn : Hid (∀ j, j <= l.length -> -9223372036854775808 <= sgZ (l.drop j) true /\ sgZ (l.drop j) true <= 0) := fun j hj => by
     have h := dval_drop HD.out j hj
     have hw := HW.out
     simp [sgZ] at hw ⊢
     omega
   have HSt : Hid (∀ (j : Nat) (d : Int), l[j]? = some d -> sgZ (l.drop j) true = 10 * sgZ (l.drop (j + 1)) true - d) := fun j d h => by
     have h2 := sg_drop true h
     simpa using h2
   have HSz : Hid (sgZ (l.drop 0) true = z) := by show _ = _; rw [HW.out]; rfl
   have HS0 : Hid (sgZ (l.drop l.length) true = 0) := by show _ = _; rw [List.drop_length]; rfl
   clear HW
   go_enter Tryz.func89, Tryz.ntmps89
   go_wp2_with fail
   refine HCk.out.mono ?_
   rintro e w1 ⟨rfl, hb1⟩
   have HB1 := Hd hb1
   clear hb1 HCk
   go_wp2_with fail
   refine (HO1.out _).mono ?_
   rintro e w2 ⟨rfl, hb2⟩
   have HB2 := Hd (HB1.out.trans (hb2.mono HB1.out.size))
   clear hb2
   go_wp2_with fail
   refine (HO2.out _).mono ?_
   rintro e w3 ⟨rfl, hb3⟩
   have HB3 := Hd (HB2.out.trans (hb3.mono HB2.out.size))
   clear hb3
   go_wp2_with fail
   refine (HDg.out _).mono ?_
   rintro e w4 ⟨v4, rfl, hr4, hb4⟩
   have HB4 := Hd (HB3.out.trans (hb4.mono HB3.out.size))
   obtain ⟨A, c, rfl, -, -, hcell⟩ := hr4.open_
   have HC := Hd hcell
   have hl4 : l.length < 5000 := by have := HL1.out; omega
   clear hb4 hr4 hcell HO1 HO2 HDg
   go_wp2_with fail
   go_loopw [5, 7] (fun n i wr => ∃ k : Nat, k <= l.length /\ i = .int .i64 ((k : Int) - 1) /\ n = .int .i64 (sgZ (l.drop k) true) /\ Hid (Below w4.heap.size w4 wr)) (fun _ i _ => (intOf i + 1).toNat)
   case atStart => exact ⟨l.length, Nat.le_refl _, by go_num, by rw [HS0.out], Below.refl _ _⟩
   case round =>
     obtain ⟨k, hk, rfl, rfl, hb⟩ := hrel
     cases k with
     | zero =>
       have h0 := HSz.out
       have HB9 := Hd (HB4.out.trans (hb.out.mono HB4.out.size))
       generalize sgZ (l.drop 0) true = q at *
       go_wp2
       go_ret2
       exact ⟨q, by rw [hE.out]; rfl, fun _ => h0, HB9.out⟩
     | succ j =>
       obtain ⟨ad, d, rfl, hab, hx, hcl⟩ := HC.out j (by omega)
       have hcw := (hb.out.cell (p := ad.add j) (by rw [block_of_add]; exact hab)).trans hcl
       have hst := HSt.out j d hx.out
       have hb0 := HBn.out j (by omega)
       have hb1 := HBn.out (j + 1) hk
       have hd9 := HD.out j
       rw [getD_of hx.out] at hd9
       have HM := Hd (HMi.out wr)
       have hjl : j < l.length := by omega
       have ei : ((j + 1 : Nat) : Int) - 1 = (j : Int) := by omega
       rw [ei]
       have HSt2 := Hd hst
       generalize sgZ (l.drop (j + 1)) true = p at *
       have w1e : IntKind.i64.wrap (10 * p) = 10 * p := by simp (disch := omega) only [IntWalk.i64_in]
       have w2e : IntKind.i64.wrap (10 * p - d) = 10 * p - d := by simp (disch := omega) only [IntWalk.i64_in]
       clear hx hcl hab hst hb0 hb1 hd9 ei
       go_wp2_with fail
       refine HM.out.mono ?_
       rintro e w5 ⟨rfl, rfl⟩
       go_wp2
       go_roundw
       case rel => exact ⟨j, by omega, by go_num, by rw [HSt2.out], hb.out⟩
       case measure => simp [intOf] <;> omega

theorem sm_not {s : List UInt8} (hc : canB s = true) (h : smE s ≠ 0) : smallB s = false := by
 unfold smE chkE at h
 rw [if_neg (show ¬ (canB s = false) by rw [hc]; simp)] at h
 by_cases hl : 1024 < (magW s).length
 · have h1 := can_long hc hl (by omega)
   have h2 := p10_19
   unfold smallB
   simp
   omega
 · rw [if_neg hl, if_neg (by simp)] at h
   by_cases hw : wv s < -9223372036854775808 \/ 9223372036854775807 < wv s
   · unfold smallB
     simp
     omega
   · rw [if_neg hw] at h
     exact absurd rfl h
theorem chk3 {s : List UInt8} : (chkE s == 3) = !canB s := by
 unfold chkE
 cases canB s
 · rfl
 · simp; split <;> decide
theorem rNums_any (v : Value) (ws : List (List UInt8)) (w : World) (hv : RS w v ws) (hl : ws.length <= 100000) (hs : ∀ s ∈ ws, s.length <= 1000000) :
   Calls Tryz.prog 51 #[v] w fun e w' => ∃ vo, e = .returned (.tuple #[vo, .int .i64 (numsE ws)]) /\ (numsE ws = 0 -> RI w' vo (numsV ws)) /\ Below w.heap.size w w' := by
 obtain ⟨i0, hi, hz0, hz1, hz2⟩ := info_parts int_info
 obtain ⟨A, c, rfl, hlc, hcell⟩ := hv.open_
 have HC := Hd hcell
 have HS := Hd hs
 clear hcell hv hs
 go_enter Tryz.func51, Tryz.ntmps51
 go_wp2_with fail
 go_loopw [4] (fun i wr => ∃ k : Nat, k <= ws.length /\ i = .int .i64 (k : Int) /\ Hid ((ws.take k).all canB = true) /\ Hid (Below w.heap.size w wr)) (fun i _ => ws.length - (intOf i).toNat)
 case atStart => exact ⟨0, Nat.zero_le _, rfl, rfl, Below.refl _ _⟩
 case round =>
   obtain ⟨k, hk, rfl, hA, hb⟩ := hrel
   by_cases hlt : k < ws.length
   · obtain ⟨ad, rfl, hadb, hcl⟩ := HC.out k hlt
     have hc2 := (hb.out.cell (p := ad.add k) (by rw [block_of_add]; exact hadb)).trans hcl
     have hx : ws[k]? = some (ws.getD k []) := by rw [List.getD_eq_getElem?_getD, List.getElem?_eq_getElem hlt]; rfl
     have HX := Hd hx
     generalize ws.getD k [] = s at *
     have HCan := Hd (rChk_any s wr (HS.out s (List.mem_of_getElem? HX.out)))
     have h3 := chk3 (s := s)
     clear hcl hx
     have hcv : strV s = .string ⟨s.toArray⟩ := rfl
     rw [hcv] at HCan hc2
     clear hcv
     generalize (⟨s.toArray⟩ : ByteArray) = S at *
     generalize chkE s = ce at *
     cases hcb : canB s
     · have HR : Hid (numsE ws = 4) := by
         show _ = _; unfold numsE; rw [all_not HX.out hcb]; rfl
       have t3 : (ce == 3) = true := by rw [h3, hcb]; rfl
       clear hcb h3
       go_wp2_with fail
       refine HCan.out.mono ?_
       rintro e w2 ⟨rfl, hb2⟩
       have HB2 := Hd (hb.out.trans (hb2.mono hb.out.size))
       clear hb2
       go_wp2
       go_ret2
       exact ⟨.slice none 0 0, by rw [HR.out] <;> rfl, fun h => absurd (HR.out.symm.trans h) (by decide), HB2.out⟩
     · have HA2 : Hid ((ws.take (k + 1)).all canB = true) := all_take HX.out hA.out hcb
       have t3 : (ce == 3) = false := by rw [h3, hcb]; rfl
       clear hcb h3
       go_wp2_with fail
       refine HCan.out.mono ?_
       rintro e w2 ⟨rfl, hb2⟩
       have HB2 := Hd (hb.out.trans (hb2.mono hb.out.size))
       clear hb2
       go_wp2
       go_roundw
       case rel => exact ⟨k + 1, by omega, by go_num, HA2.out, HB2.out⟩
       case measure => simp [intOf]; omega
   · have HAll : Hid (ws.all canB = true) := by
       have := hA.out
       rwa [List.take_of_length_le (by omega)] at this
     have HNs : Hid (numsE ws = if ws.all smallB = false then 2 else 0) := by
       show _ = _; unfold numsE; rw [HAll.out]; rfl
     go_wp2_with fail
     clear hA hlt hk
     go_loopw [5, 6] (fun o i wr => ∃ (k : Nat) (vo : Value), vo = o /\ k <= ws.length /\ i = .int .i64 (k : Int) /\ Hid ((ws.take k).all smallB = true) /\ Hid (OI wr w.heap.size o (numsV (ws.take k))) /\ Hid (Below w.heap.size w wr)) (fun _ i _ => ws.length - (intOf i).toNat)
     case atStart => exact ⟨0, _, rfl, Nat.zero_le _, rfl, rfl, OI.nil_ _ _, hb.out⟩
     case round =>
       clear hb
       obtain ⟨k, vo, rfl, hk, rfl, hA, ho, hbk⟩ := hrel
       by_cases hlt : k < ws.length
       · obtain ⟨ad, rfl, hadb, hcl⟩ := HC.out k hlt
         have hc2 := (hbk.out.cell (p := ad.add k) (by rw [block_of_add]; exact hadb)).trans hcl
         have hx : ws[k]? = some (ws.getD k []) := by rw [List.getD_eq_getElem?_getD, List.getElem?_eq_getElem hlt]; rfl
         have HX := Hd hx
         generalize ws.getD k [] = s at *
         have hcan : canB s = true := List.all_eq_true.1 HAll.out s (List.mem_of_getElem? HX.out)
         have hsl := HS.out s (List.mem_of_getElem? HX.out)
         have HAt := Hd (zSmall_any s wr hsl)
         have hnl : (numsV (ws.take k)).length <= ws.length := by unfold numsV; rw [List.length_map, List.length_take]; omega
         have HTk : Hid (numsV (ws.take (k + 1)) = numsV (ws.take k) ++ [wv s]) := by
           show _ = _; unfold numsV; rw [List.take_add_one, HX.out, List.map_append]; rfl
         have HA2 : Hid (-1048576 <= wv s /\ wv s <= 1048576 -> (ws.take (k + 1)).all smallB = true) := fun h => all_take HX.out hA.out (by unfold smallB; simp; exact h)
         have HBad : Hid (smallB s = false -> numsE ws = 2) := fun h => by
           rw [HNs.out, all_not HX.out h]; rfl
         have HSn : Hid (smE s ≠ 0 -> smallB s = false) := sm_not hcan
         have HSw : Hid (¬ (-1048576 <= wv s /\ wv s <= 1048576) -> smallB s = false) := fun h => by unfold smallB; simp; omega
         have hcv : strV s = .string ⟨s.toArray⟩ := rfl
         rw [hcv] at HAt hc2
         clear hcv hcan hsl hcl hx
         generalize (⟨s.toArray⟩ : ByteArray) = S at *
         generalize wv s = z at *
         generalize smE s = se at *
         go_wp2_with fail
         refine HAt.out.mono ?_
         rintro e w2 ⟨zz, rfl, hzz, hb2⟩
         have HB2 := Hd (hbk.out.trans (hb2.mono hbk.out.size))
         have HO2 : Hid (OI w2 w.heap.size vo (numsV (ws.take k))) := ho.out.below hb2
         clear hb2 hc2
         by_cases hse : se ≠ 0
         · have HR : Hid (numsE ws = 2) := HBad.out (HSn.out hse)
           have t4 : (se != 0) = true := by simpa using hse
           clear HA2 HBad hse hzz HSn HSw
           go_wp2
           go_ret2
           exact ⟨.slice none 0 0, by rw [HR.out] <;> rfl, fun h => absurd (HR.out.symm.trans h) (by decide), HB2.out⟩
         · obtain rfl : se = 0 := by omega
           obtain rfl := hzz rfl
           clear hse hzz HSn
           by_cases hsm : -1048576 <= zz /\ zz <= 1048576
           · have HA3 := Hd (HA2.out hsm)
             clear HA2 HBad HSw
             obtain ⟨hov, hrv, hfin⟩ := OI.snoc HO2.out zz HB2.out
             have HOv := Hd hov
             have HRv := Hd hrv
             have HFin := Hd hfin
             have hszB := HB2.out.size
             clear hov hrv hfin
             generalize numsV (ws.take k) = os at *
             go_wp2_with (at_builtin; refine wpList_appendV _ rfl _ _ _ rfl 3 i0 _ 8 Tryz.underlying37 hi hz0 hz1 hz2 rfl w.heap.size _ _ rfl HOv.out _ _ rfl HRv.out (one_ones rfl) (by first | omega | (simp; omega)) (by first | omega | (simp; omega)) (by first | omega | (simp; omega)) ?_; intro v1 w3 hown hg hat; obtain ⟨hf1, hf2⟩ := HFin.out v1 w3 hown hg; have HF1 := Hd hf1; have HF2 := Hd hf2; clear hown hg hat hf1 hf2)
             go_wp2
             go_roundw
             case rel => exact ⟨k + 1, _, rfl, by omega, by go_num, HA3.out, by rw [HTk.out]; exact HF1.out, HF2.out⟩
             case measure => simp [intOf]; omega
           · have HR : Hid (numsE ws = 2) := HBad.out (HSw.out hsm)
             clear HA2 HBad HSw
             by_cases hlo : zz < -1048576
             · clear hsm
               go_wp2
               go_ret2
               exact ⟨.slice none 0 0, by rw [HR.out] <;> rfl, fun h => absurd (HR.out.symm.trans h) (by decide), HB2.out⟩
             · have hhi : 1048576 < zz := by omega
               clear hsm
               go_wp2
               go_ret2
               exact ⟨.slice none 0 0, by rw [HR.out] <;> rfl, fun h => absurd (HR.out.symm.trans h) (by decide), HB2.out⟩
       · have HAs : Hid (ws.all smallB = true) := by
           have := hA.out
           rwa [List.take_of_length_le (by omega)] at this
         have HR : Hid (numsE ws = 0) := by show _ = _; rw [HNs.out, HAs.out]; rfl
         have HO2 : Hid (RI wr vo (numsV ws)) := by
           have := ho.out
           rw [List.take_of_length_le (by omega)] at this
           exact this.ri
         clear hA ho
         go_wp2
         go_ret2
         exact ⟨vo, by rw [HR.out] <;> rfl, fun _ => HO2.out, hbk.out⟩

theorem rLines_any (s : List UInt8) (w : World) :
   Calls Tryz.prog 26 #[strV s] w fun e w' => ∃ v, e = .returned (.tuple #[v, .int .i64 (linesN s), .int .i64 (linesE s)]) /\ (linesE s = 0 -> RS w' v (linesV s)) /\ Below w.heap.size w w' := by
 by_cases hl : 65536 < s.length
 · have hsz : (⟨s.toArray⟩ : ByteArray).size = s.length := by simp [ByteArray.size]
   have e1 : linesE s = 19 := by unfold linesE; rw [if_pos hl]
   have e2 : linesN s = 0 := by unfold linesN; rw [if_pos hl]
   rw [e1, e2, show strV s = .string ⟨s.toArray⟩ from rfl]
   generalize (⟨s.toArray⟩ : ByteArray) = B at *
   clear e1 e2
   go_enter Tryz.func26, Tryz.ntmps26
   go_wp2
   go_ret3
   exact ⟨.slice none 0 0, rfl, fun h => absurd h (by decide), Below.refl _ _⟩
 · have hs1 : s.length <= 65536 := by omega
   have HSp : Hid (Calls Tryz.prog 50 #[strV s, .int .u8 10] w fun e w' => ∃ v, e = .returned v /\ RS w' v (splitL 10 s) /\ Below w.heap.size w w') := rSplit_any s 10 w (by omega)
   have hsz : (⟨s.toArray⟩ : ByteArray).size = s.length := by simp [ByteArray.size]
   have e1 : Hid (linesE s = if tornB s = true then 20 else 0) := by show _ = _; unfold linesE; rw [if_neg hl]
   have e2 : Hid (linesN s = if tornB s = true then (((splitL 10 s).length - 1 : Nat) : Int) else 0) := by show _ = _; unfold linesN; rw [if_neg hl]
   have e3 : Hid (linesV s = (splitL 10 s).take ((splitL 10 s).length - 1)) := rfl
   have e4 : Hid (tornB s = (decide ((splitL 10 s).length = 1) || decide ((splitL 10 s).getD ((splitL 10 s).length - 1) [] ≠ []))) := rfl
   generalize linesE s = E at *
   generalize linesN s = N at *
   generalize linesV s = V at *
   generalize tornB s = T at *
   have hne := splitL_ne 10 s
   have hsl := splitL_length 10 s
   generalize splitL 10 s = ws at *
   have hw0 : 0 < ws.length := List.length_pos_iff.2 hne
   rw [show strV s = .string ⟨s.toArray⟩ from rfl] at *
   generalize (⟨s.toArray⟩ : ByteArray) = B at *
   obtain ⟨n, hn⟩ : ∃ n, ws.length = n + 1 := ⟨ws.length - 1, by omega⟩
   rw [hn] at e2 e3 e4
   simp only [Nat.add_sub_cancel] at e2 e3 e4
   have HN := Hd hn
   have hB : B.size <= 65536 := by omega
   clear hne hl hs1 hsl hsz hn hw0
   go_enter Tryz.func26, Tryz.ntmps26
   go_upto_region 3 with fail
   go_wp2_with fail
   refine HSp.out.mono ?_
   rintro e w1 ⟨v, rfl, hr, hb1⟩
   obtain ⟨A, c, rfl, hlc, hcl⟩ := hr.open_
   have hn := HN.out
   obtain ⟨ad, rfl, had, hc00⟩ := hcl 0 (by omega)
   have HR1 := Hd hr
   have HB1 := Hd hb1
   rw [hn] at HR1 hlc
   rw [hn]
   by_cases h0 : n = 0
   · subst h0
     have hT : T = true := by rw [e4.out]; rfl
     have hE : Hid (E = 20) := by show _ = _; rw [e1.out, hT]; rfl
     have hN : Hid (N = 0) := by show _ = _; rw [e2.out, hT]; rfl
     clear e1 e2 e3 e4 HSp hcl hn
     clear hT
     rw [add_zero'] at hc00
     rw [show strV (ws.getD 0 []) = .string ⟨(ws.getD 0 []).toArray⟩ from rfl] at hc00
     generalize (⟨(ws.getD 0 []).toArray⟩ : ByteArray) = Z at *
     cases hz : Z.toList.isEmpty
     · go_wp2
       go_ret3
       exact ⟨.slice none 0 0, by rw [hE.out, hN.out]; rfl, fun h => absurd (hE.out.symm.trans h) (by decide), HB1.out⟩
     · go_wp2
       go_ret3
       exact ⟨.slice none 0 0, by rw [hE.out, hN.out]; rfl, fun h => absurd (hE.out.symm.trans h) (by decide), HB1.out⟩
   · obtain ⟨ad', e, hadb, hcn⟩ := hcl n (by omega)
     cases e
     have hx : T = decide (ws.getD n [] ≠ []) := by rw [e4.out, decide_eq_false (by omega), Bool.false_or]
     have hse := str_ne (ws.getD n [])
     rw [show strV (ws.getD n []) = .string ⟨(ws.getD n []).toArray⟩ from rfl] at hcn
     generalize (⟨(ws.getD n []).toArray⟩ : ByteArray) = Z at *
     have hTT : Z.toList.isEmpty = !T := by rw [hse, hx]
     have hls' : (n : Int) < 9223372036854775807 := by
       obtain ⟨_, _, _, _, hq, _⟩ := hr
       simp only [List.length_map] at hq
       omega
     have hls2 : n < 9223372036854775807 := by omega
     clear hls'
     have h0' : 0 < n := by omega
     have HV := Hd (hr.pre (j := n) (by omega))
     rw [<- e3.out] at HV
     clear hx hse e4 hcl HSp hr hb1 had hadb hn h0 hc00
     cases T
     · have hTT' : Z.toList.isEmpty = true := hTT
       clear hTT
       have hE : Hid (E = 0) := by show _ = _; rw [e1.out]; rfl
       have hN : Hid (N = 0) := by show _ = _; rw [e2.out]; rfl
       clear e1 e2
       go_wp2
       go_ret3
       exact ⟨_, by rw [hE.out, hN.out]; rfl, fun h => HV.out, HB1.out⟩
     · have hTT' : Z.toList.isEmpty = false := hTT
       clear hTT
       have hE : Hid (E = 20) := by show _ = _; rw [e1.out]; rfl
       have hN : Hid (N = n) := by show _ = _; rw [e2.out]; rfl
       clear e1 e2
       go_wp2
       go_ret3
       exact ⟨.slice none 0 0, by rw [hE.out, hN.out]; rfl, fun h => absurd (hE.out.symm.trans h) (by decide), HB1.out⟩
end Go.Proofs.YteamhbohgoclgaaGreatDoor
