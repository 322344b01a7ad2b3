/- Contract of the reference's Small.
   Contract of the reference's numbers.
   Contract of the reference's factors.
   Contract of the reference's Line (layer 58), from that of layer 57's.
   Contracts of the references' Debt and Paid.
   Contract of the reference's Accept (layer 58), from that of layer 57's Line.
   Plain laws between the references' certificates and the checker's; the reference's Applied with larger numbers. -/
import Derived.Test.YtgcnijmmjlfabaaGreatDoorH24
namespace Go.Proofs.YtgcnijmmjlfabaaGreatDoor
open Go.RowKit Go.Shelf

theorem dig_all {l : List Int} (h : ∀ d ∈ l, 0 ≤ d ∧ d ≤ 9) : Dig l := fun k => by
  by_cases hk : k < l.length
  · rw [List.getD_eq_getElem?_getD, List.getElem?_eq_getElem hk]; exact h _ (List.getElem_mem hk)
  · rw [List.getD_eq_getElem?_getD, List.getElem?_eq_none (by omega)]; simp
def maxD : List Int := [7, 0, 8, 5, 7, 7, 4, 5, 8, 6, 3, 0, 2, 7, 3, 3, 2, 2, 9]
def minD : List Int := [8, 0, 8, 5, 7, 7, 4, 5, 8, 6, 3, 0, 2, 7, 3, 3, 2, 2, 9]
theorem max_zs : ZS (.string ⟨#[57, 50, 50, 51, 51, 55, 50, 48, 51, 54, 56, 53, 52, 55, 55, 53, 56, 48, 55]⟩) 9223372036854775807 :=
  ⟨maxD, false, by kernel_rfl, dig_all (by decide), Or.inr (by decide), fun _ => rfl, by decide⟩
theorem min_zs : ZS (.string ⟨#[45, 57, 50, 50, 51, 51, 55, 50, 48, 51, 54, 56, 53, 52, 55, 55, 53, 56, 48, 56]⟩) (-9223372036854775808) :=
  ⟨minD, true, by kernel_rfl, dig_all (by decide), Or.inr (by decide), fun h => absurd h (by decide), by decide⟩
/-- What Small answers: the error. -/
def smE (s : List UInt8) : Int := if chkE s ≠ 0 then chkE s else if wv s < -9223372036854775808 ∨ 9223372036854775807 < wv s then 2 else 0
theorem p19 : (9223372036854775808 : Int) < p10 1024 := Int.lt_of_lt_of_le (by decide : (9223372036854775808 : Int) < p10 19) (p10_mono (by omega))
theorem dval_drop {l : List Int} (h : Dig l) (k : Nat) (hk : k ≤ l.length) : 0 ≤ dval (l.drop k) ∧ dval (l.drop k) ≤ dval l := by
  have h1 := (dval_bd (h.drop k)).1
  have h2 := (dval_bd (h.take k)).1
  have h3 := dval_split l hk
  have h4 := p10_pos k
  refine ⟨h1, ?_⟩
  have h5 : dval (l.drop k) * 1 ≤ dval (l.drop k) * p10 k := Int.mul_le_mul_of_nonneg_left h4 h1
  rw [Int.mul_comm (dval (l.drop k)) (p10 k)] at h5
  omega
theorem sg_drop {l : List Int} {k : Nat} {d : Int} (m : Bool) (hx : l[k]? = some d) : sgZ (l.drop k) m = if m then 10 * sgZ (l.drop (k + 1)) m - d else 10 * sgZ (l.drop (k + 1)) m + d := by
  have e : l.drop k = d :: l.drop (k + 1) := drop_at hx
  rw [e]
  cases m
  · simp only [sgZ, dval]; simp; omega
  · simp only [sgZ, dval]; simp; omega
set_option maxRecDepth 100000 in
set_option maxHeartbeats 16000000 in
theorem zSmall_any (s : List UInt8) (w : World) (hs : s.length ≤ 1000000) :
    Calls Tryz.prog 99 #[strV s] w fun e w' => ∃ z, e = .returned (.tuple #[.int .i64 z, .int .i64 (smE s)]) ∧ (smE s = 0 → z = wv s) ∧ Below w.heap.size w w' := by
  have HCk := Lib.hid (rChk_any s w hs)
  by_cases h1 : chkE s ≠ 0
  · have hR : Hid (smE s = chkE s) := by show _ = _; unfold smE; rw [if_pos h1]
    have t1 : (chkE s != 0) = true := by simpa using h1
    have hne : Hid (smE s ≠ 0) := by show _ ≠ _; rw [hR.out]; exact h1
    generalize chkE s = c at *
    generalize smE s = E at *
    clear h1
    go_enter Tryz.func99, Tryz.ntmps99
    go_wp2_with fail
    refine HCk.out.mono ?_
    rintro e w1 ⟨rfl, hb1⟩
    have HB1 := Lib.hid hb1
    clear hb1 HCk
    go_wp2
    go_ret2
    exact ⟨0, by rw [hR.out]; rfl, fun h => absurd h hne.out, HB1.out⟩
  have h10 : chkE s = 0 := by omega
  have hcan : canB s = true := by
    unfold chkE at h10
    by_cases h : canB s = false
    · rw [if_pos h] at h10; cases h10
    · simpa using h
  have hlong : (magW s).length ≤ 1024 := by
    unfold chkE at h10
    rw [if_neg (by rw [hcan]; simp)] at h10
    by_cases h : 1024 < (magW s).length
    · rw [if_pos h] at h10; cases h10
    · omega
  have hR : Hid (smE s = if wv s < -9223372036854775808 ∨ 9223372036854775807 < wv s then 2 else 0) := by show _ = _; unfold smE; rw [if_neg h1]
  obtain ⟨l, m, ht, hd, hc, hm, hw, hl, -⟩ := can_text hcan
  have hbw : BW 1024 (wv s) := by
    have h2 := dval_bd hd
    have h3 := p10_mono (show l.length ≤ 1024 by omega)
    rw [hw]
    unfold BW sgZ
    cases m <;> simp <;> omega
  have hzs : ZS (strV s) (wv s) := ⟨l, m, by rw [ht]; rfl, hd, hc, hm, hw⟩
  have h19 := p19
  have hb1 : BW 1024 9223372036854775807 := by unfold BW; omega
  have hb2 : BW 1024 (-9223372036854775808) := by unfold BW; omega
  have HO1 : Hid (∀ W, Calls Tryz.prog 136 #[strV s, .string ⟨#[57, 50, 50, 51, 51, 55, 50, 48, 51, 54, 56, 53, 52, 55, 55, 53, 56, 48, 55]⟩] W fun e w' => e = .returned (.int .i64 (cmpI (wv s) 9223372036854775807)) ∧ Below W.heap.size W w') := fun W => zOrderW_any 1024 (by omega) _ _ _ _ W hzs max_zs hbw hb1
  have HO2 : Hid (∀ W, Calls Tryz.prog 136 #[strV s, .string ⟨#[45, 57, 50, 50, 51, 51, 55, 50, 48, 51, 54, 56, 53, 52, 55, 55, 53, 56, 48, 56]⟩] W fun e w' => e = .returned (.int .i64 (cmpI (wv s) (-9223372036854775808))) ∧ Below W.heap.size W w') := fun W => zOrderW_any 1024 (by omega) _ _ _ _ W hzs min_zs hbw hb2
  have HDg : Hid (∀ W, Calls Tryz.prog 137 #[strV s] W fun e w' => ∃ v, e = .returned v ∧ RI w' v l ∧ Below W.heap.size W w') := fun W => by
    have h := dDigitsW_any l m W hd hc (by omega)
    rw [ht] at h
    exact h
  have HMi : Hid (∀ W, Calls Tryz.prog 138 #[strV s] W fun e w' => e = .returned (.bool m) ∧ W = w') := fun W => by
    have h := zMinus_any l m W hd hm
    rw [ht] at h
    exact h
  have HD := Lib.hid hd
  have HL1 : Hid (l.length ≤ 1024) := by show _ ≤ _; omega
  have HW := Lib.hid hw
  rw [h10] at HCk
  generalize smE s = E at *
  generalize wv s = z at *
  generalize strV s = sv at *
  clear h1 h10 hcan hlong ht hd hc hm hw hl hbw hzs h19 hb1 hb2
  by_cases hhi : 9223372036854775807 < z
  · have hE : Hid (E = 2) := by show _ = _; rw [hR.out, if_pos (.inr hhi)]
    have hc1 : cmpI z 9223372036854775807 = 1 := by unfold cmpI; rw [if_neg (by omega), if_pos hhi]
    rw [hc1] at HO1
    clear hc1 hhi hR
    go_enter Tryz.func99, Tryz.ntmps99
    go_wp2_with fail
    refine HCk.out.mono ?_
    rintro e w1 ⟨rfl, hb1⟩
    have HB1 := Lib.hid hb1
    clear hb1 HCk
    go_wp2_with fail
    refine (HO1.out _).mono ?_
    rintro e w2 ⟨rfl, hb2⟩
    have HB2 := Lib.hid (HB1.out.trans (hb2.mono HB1.out.size))
    clear hb2
    go_wp2
    go_ret2
    exact ⟨0, by rw [hE.out]; rfl, fun h => absurd (hE.out.symm.trans h) (by decide), HB2.out⟩
  by_cases hlo : z < -9223372036854775808
  · have hE : Hid (E = 2) := by show _ = _; rw [hR.out, if_pos (.inl hlo)]
    have hc1 : ∃ x, cmpI z 9223372036854775807 = x ∧ ¬ 0 < x := by unfold cmpI; exact ⟨_, rfl, by rw [if_pos (by omega)]; decide⟩
    have hc2 : cmpI z (-9223372036854775808) = -1 := by unfold cmpI; rw [if_pos hlo]
    obtain ⟨x, hx, hx0⟩ := hc1
    rw [hx] at HO1
    rw [hc2] at HO2
    clear hc2 hx hlo hhi hR
    go_enter Tryz.func99, Tryz.ntmps99
    go_wp2_with fail
    refine HCk.out.mono ?_
    rintro e w1 ⟨rfl, hb1⟩
    have HB1 := Lib.hid hb1
    clear hb1 HCk
    go_wp2_with fail
    refine (HO1.out _).mono ?_
    rintro e w2 ⟨rfl, hb2⟩
    have HB2 := Lib.hid (HB1.out.trans (hb2.mono HB1.out.size))
    clear hb2
    go_wp2_with fail
    refine (HO2.out _).mono ?_
    rintro e w3 ⟨rfl, hb3⟩
    have HB3 := Lib.hid (HB2.out.trans (hb3.mono HB2.out.size))
    clear hb3
    go_wp2
    go_ret2
    exact ⟨0, by rw [hE.out]; rfl, fun h => absurd (hE.out.symm.trans h) (by decide), HB3.out⟩
  have hE : Hid (E = 0) := by show _ = _; rw [hR.out, if_neg (by omega)]
  have hc1 : ∃ x, cmpI z 9223372036854775807 = x ∧ ¬ 0 < x := by
    unfold cmpI
    by_cases h : z < 9223372036854775807
    · exact ⟨_, rfl, by rw [if_pos h]; decide⟩
    · exact ⟨_, rfl, by rw [if_neg h, if_neg hhi]; decide⟩
  have hc2 : ∃ x, cmpI z (-9223372036854775808) = x ∧ ¬ x < 0 := by
    unfold cmpI
    refine ⟨_, rfl, ?_⟩
    rw [if_neg hlo]
    split <;> decide
  obtain ⟨x1, hx1, hx10⟩ := hc1
  obtain ⟨x2, hx2, hx20⟩ := hc2
  rw [hx1] at HO1
  rw [hx2] at HO2
  clear hx1 hx2 hR
  cases m
  · have HBn : Hid (∀ j, j ≤ l.length → 0 ≤ sgZ (l.drop j) false ∧ sgZ (l.drop j) false ≤ 9223372036854775807) := fun j hj => by
      have h := dval_drop HD.out j hj
      have hw := HW.out
      simp [sgZ] at hw ⊢
      omega
    have HSt : Hid (∀ (j : Nat) (d : Int), l[j]? = some d → sgZ (l.drop j) false = 10 * sgZ (l.drop (j + 1)) false + d) := fun j d h => by
      have h2 := sg_drop false h
      simpa using h2
    have HSz : Hid (sgZ (l.drop 0) false = z) := by show _ = _; rw [HW.out]; rfl
    have HS0 : Hid (sgZ (l.drop l.length) false = 0) := by show _ = _; rw [List.drop_length]; rfl
    clear HW
    go_enter Tryz.func99, Tryz.ntmps99
    go_wp2_with fail
    refine HCk.out.mono ?_
    rintro e w1 ⟨rfl, hb1⟩
    have HB1 := Lib.hid hb1
    clear hb1 HCk
    go_wp2_with fail
    refine (HO1.out _).mono ?_
    rintro e w2 ⟨rfl, hb2⟩
    have HB2 := Lib.hid (HB1.out.trans (hb2.mono HB1.out.size))
    clear hb2
    go_wp2_with fail
    refine (HO2.out _).mono ?_
    rintro e w3 ⟨rfl, hb3⟩
    have HB3 := Lib.hid (HB2.out.trans (hb3.mono HB2.out.size))
    clear hb3
    go_wp2_with fail
    refine (HDg.out _).mono ?_
    rintro e w4 ⟨v4, rfl, hr4, hb4⟩
    have HB4 := Lib.hid (HB3.out.trans (hb4.mono HB3.out.size))
    obtain ⟨A, c, rfl, -, -, hcell⟩ := hr4.open_
    have HC := Lib.hid hcell
    have hl4 : l.length < 5000 := by have := HL1.out; omega
    clear hb4 hr4 hcell HO1 HO2 HDg
    go_wp2_with fail
    go_loopw [5, 7] (fun n i wr => ∃ k : Nat, k ≤ l.length ∧ i = .int .i64 ((k : Int) - 1) ∧ n = .int .i64 (sgZ (l.drop k) false) ∧ Hid (Below w4.heap.size w4 wr)) (fun _ i _ => (intOf i + 1).toNat)
    case atStart => exact ⟨l.length, Nat.le_refl _, by go_num, by rw [HS0.out], Below.refl _ _⟩
    case round =>
      obtain ⟨k, hk, rfl, rfl, hb⟩ := hrel
      cases k with
      | zero =>
        have h0 := HSz.out
        have HB9 := Lib.hid (HB4.out.trans (hb.out.mono HB4.out.size))
        generalize sgZ (l.drop 0) false = q at *
        go_wp2
        go_ret2
        exact ⟨q, by rw [hE.out]; rfl, fun _ => h0, HB9.out⟩
      | succ j =>
        obtain ⟨ad, d, rfl, hab, hx, hcl⟩ := HC.out j (by omega)
        have hcw := (hb.out.cell (p := ad.add j) (by rw [block_of_add]; exact hab)).trans hcl
        have hst := HSt.out j d hx.out
        have hb0 := HBn.out j (by omega)
        have hb1 := HBn.out (j + 1) hk
        have hd9 := HD.out j
        rw [getD_of hx.out] at hd9
        have HM := Lib.hid (HMi.out wr)
        have hjl : j < l.length := by omega
        have ei : ((j + 1 : Nat) : Int) - 1 = (j : Int) := by omega
        rw [ei]
        have HSt2 := Lib.hid hst
        generalize sgZ (l.drop (j + 1)) false = p at *
        have w1e : IntKind.i64.wrap (10 * p) = 10 * p := by simp (disch := omega) only [IntWalk.i64_in]
        have w2e : IntKind.i64.wrap (10 * p + d) = 10 * p + d := by simp (disch := omega) only [IntWalk.i64_in]
        clear hx hcl hab hst hb0 hb1 hd9 ei
        go_wp2_with fail
        refine HM.out.mono ?_
        rintro e w5 ⟨rfl, rfl⟩
        go_wp2
        go_roundw
        case rel => exact ⟨j, by omega, by go_num, by rw [HSt2.out], hb.out⟩
        case measure => simp [intOf] <;> omega
  · have HBn : Hid (∀ j, j ≤ l.length → -9223372036854775808 ≤ sgZ (l.drop j) true ∧ sgZ (l.drop j) true ≤ 0) := fun j hj => by
      have h := dval_drop HD.out j hj
      have hw := HW.out
      simp [sgZ] at hw ⊢
      omega
    have HSt : Hid (∀ (j : Nat) (d : Int), l[j]? = some d → sgZ (l.drop j) true = 10 * sgZ (l.drop (j + 1)) true - d) := fun j d h => by
      have h2 := sg_drop true h
      simpa using h2
    have HSz : Hid (sgZ (l.drop 0) true = z) := by show _ = _; rw [HW.out]; rfl
    have HS0 : Hid (sgZ (l.drop l.length) true = 0) := by show _ = _; rw [List.drop_length]; rfl
    clear HW
    go_enter Tryz.func99, Tryz.ntmps99
    go_wp2_with fail
    refine HCk.out.mono ?_
    rintro e w1 ⟨rfl, hb1⟩
    have HB1 := Lib.hid hb1
    clear hb1 HCk
    go_wp2_with fail
    refine (HO1.out _).mono ?_
    rintro e w2 ⟨rfl, hb2⟩
    have HB2 := Lib.hid (HB1.out.trans (hb2.mono HB1.out.size))
    clear hb2
    go_wp2_with fail
    refine (HO2.out _).mono ?_
    rintro e w3 ⟨rfl, hb3⟩
    have HB3 := Lib.hid (HB2.out.trans (hb3.mono HB2.out.size))
    clear hb3
    go_wp2_with fail
    refine (HDg.out _).mono ?_
    rintro e w4 ⟨v4, rfl, hr4, hb4⟩
    have HB4 := Lib.hid (HB3.out.trans (hb4.mono HB3.out.size))
    obtain ⟨A, c, rfl, -, -, hcell⟩ := hr4.open_
    have HC := Lib.hid hcell
    have hl4 : l.length < 5000 := by have := HL1.out; omega
    clear hb4 hr4 hcell HO1 HO2 HDg
    go_wp2_with fail
    go_loopw [5, 7] (fun n i wr => ∃ k : Nat, k ≤ l.length ∧ i = .int .i64 ((k : Int) - 1) ∧ n = .int .i64 (sgZ (l.drop k) true) ∧ Hid (Below w4.heap.size w4 wr)) (fun _ i _ => (intOf i + 1).toNat)
    case atStart => exact ⟨l.length, Nat.le_refl _, by go_num, by rw [HS0.out], Below.refl _ _⟩
    case round =>
      obtain ⟨k, hk, rfl, rfl, hb⟩ := hrel
      cases k with
      | zero =>
        have h0 := HSz.out
        have HB9 := Lib.hid (HB4.out.trans (hb.out.mono HB4.out.size))
        generalize sgZ (l.drop 0) true = q at *
        go_wp2
        go_ret2
        exact ⟨q, by rw [hE.out]; rfl, fun _ => h0, HB9.out⟩
      | succ j =>
        obtain ⟨ad, d, rfl, hab, hx, hcl⟩ := HC.out j (by omega)
        have hcw := (hb.out.cell (p := ad.add j) (by rw [block_of_add]; exact hab)).trans hcl
        have hst := HSt.out j d hx.out
        have hb0 := HBn.out j (by omega)
        have hb1 := HBn.out (j + 1) hk
        have hd9 := HD.out j
        rw [getD_of hx.out] at hd9
        have HM := Lib.hid (HMi.out wr)
        have hjl : j < l.length := by omega
        have ei : ((j + 1 : Nat) : Int) - 1 = (j : Int) := by omega
        rw [ei]
        have HSt2 := Lib.hid hst
        generalize sgZ (l.drop (j + 1)) true = p at *
        have w1e : IntKind.i64.wrap (10 * p) = 10 * p := by simp (disch := omega) only [IntWalk.i64_in]
        have w2e : IntKind.i64.wrap (10 * p - d) = 10 * p - d := by simp (disch := omega) only [IntWalk.i64_in]
        clear hx hcl hab hst hb0 hb1 hd9 ei
        go_wp2_with fail
        refine HM.out.mono ?_
        rintro e w5 ⟨rfl, rfl⟩
        go_wp2
        go_roundw
        case rel => exact ⟨j, by omega, by go_num, by rw [HSt2.out], hb.out⟩
        case measure => simp [intOf] <;> omega
end Go.Proofs.YtgcnijmmjlfabaaGreatDoor

namespace Go.Proofs.YtgcnijmmjlfabaaGreatDoor
open Go.RowKit Go.Shelf

/-- A word of which Small has an error is no small number. -/
theorem sm_not {s : List UInt8} (hc : canB s = true) (h : smE s ≠ 0) : smallB s = false := by
  unfold smE chkE at h
  rw [if_neg (show ¬ (canB s = false) by rw [hc]; simp)] at h
  by_cases hl : 1024 < (magW s).length
  · have h1 := can_long hc hl (by omega)
    have h2 := p10_19
    unfold smallB
    simp
    omega
  · rw [if_neg hl, if_neg (by simp)] at h
    by_cases hw : wv s < -9223372036854775808 ∨ 9223372036854775807 < wv s
    · unfold smallB
      simp
      omega
    · rw [if_neg hw] at h
      exact absurd rfl h
theorem chk3 {s : List UInt8} : (chkE s == 3) = !canB s := by
  unfold chkE
  cases canB s
  · rfl
  · simp; split <;> decide
end Go.Proofs.YtgcnijmmjlfabaaGreatDoor

namespace Go.Proofs.YtgcnijmmjlfabaaGreatDoor
open Go.RowKit Go.Shelf

/-- What factors answers. -/
def facN (n : Nat) (fs : List Int) : Int := if (fs.length : Int) > n - 1 then 5 else facE 0 fs
set_option maxRecDepth 100000 in
set_option maxHeartbeats 16000000 in
theorem rFac_any (v : Value) (n : Nat) (fs : List Int) (w : World) (hv : RI w v fs) (hn : n ≤ 12) (hub : ∀ (k : Nat) (f : Int), fs[k]? = some f → -1048576 ≤ f ∧ f ≤ 1048576) :
    Calls Tryz.prog 124 #[.int .i64 (n : Int), v] w fun e w' => e = .returned (.int .i64 (facN n fs)) ∧ Below w.heap.size w w' := by
  obtain ⟨A, c, rfl, -, hl, hcell⟩ := hv.open_
  have HC := Lib.hid hcell
  have HU := Lib.hid hub
  clear hv hcell hub
  by_cases h5 : (fs.length : Int) > n - 1
  · have hR : Hid (facN n fs = 5) := by show _ = _; unfold facN; rw [if_pos h5]
    have h5' : (n : Int) - 1 < (fs.length : Int) := h5
    clear h5
    go_enter Tryz.func124, Tryz.ntmps124
    go_wp2
    go_ret
    exact ⟨ret_i hR.out.symm, Below.refl _ _⟩
  have hR : Hid (facN n fs = facE 0 fs) := by show _ = _; unfold facN; rw [if_neg h5]
  have h5' : ¬ (n : Int) - 1 < (fs.length : Int) := h5
  have h12 : fs.length ≤ 12 := by omega
  generalize facN n fs = E at *
  clear h5
  go_enter Tryz.func124, Tryz.ntmps124
  go_wp2_with fail
  go_loopw [5] (fun i wr => ∃ k : Nat, k ≤ fs.length ∧ i = .int .i64 (k : Int) ∧ Hid (facE 0 fs = facE (lastF fs k) (fs.drop k)) ∧ Hid (1 ≤ k → 2 ≤ lastF fs k) ∧ Hid (Below w.heap.size w wr)) (fun i _ => fs.length - (intOf i).toNat)
  case atStart => exact ⟨0, Nat.zero_le _, rfl, rfl, fun h => absurd h (by decide), Below.refl _ _⟩
  case round =>
    obtain ⟨k, hk, rfl, he, hp, hw⟩ := hrel
    by_cases hlt : k < fs.length
    · obtain ⟨ad, f, rfl, hab, hx, hcl⟩ := HC.out k hlt
      have hcw := (hw.out.cell (p := ad.add k) (by rw [block_of_add]; exact hab)).trans hcl
      have hu := HU.out k f hx.out
      have hdr : fs.drop k = f :: fs.drop (k + 1) := drop_at hx
      have hst : facE (lastF fs k) (f :: fs.drop (k + 1)) = if f < 2 then 2 else if lastF fs k ≠ 0 ∧ f % lastF fs k ≠ 0 then 9 else facE f (fs.drop (k + 1)) := rfl
      have HE : Hid (E = if f < 2 then 2 else if lastF fs k ≠ 0 ∧ f % lastF fs k ≠ 0 then 9 else facE f (fs.drop (k + 1))) := by show _ = _; rw [hR.out, he.out, hdr, hst]
      have HE0 : Hid (facE 0 fs = if f < 2 then 2 else if lastF fs k ≠ 0 ∧ f % lastF fs k ≠ 0 then 9 else facE f (fs.drop (k + 1))) := by show _ = _; rw [he.out, hdr, hst]
      have HLa : Hid (lastF fs (k + 1) = f) := by show fs.getD k 0 = f; exact getD_of hx.out
      clear hcl hdr hst he
      by_cases h2 : f < 2
      · have hE : Hid (E = 2) := by show _ = _; rw [HE.out, if_pos h2]
        clear HE HE0 hu
        go_wp2
        go_ret
        exact ⟨ret_i hE.out.symm, hw.out⟩
      · have hf2 : ¬ (1048576 : Int) < f := by omega
        cases k with
        | zero =>
          have HN : Hid (facE 0 fs = facE f (fs.drop 1)) := by show _ = _; rw [HE0.out, if_neg h2, if_neg (by show ¬ ((0 : Int) ≠ 0 ∧ _); simp)]
          have HF2 : Hid (2 ≤ f) := by show _ ≤ _; omega
          rw [add_zero'] at hcw
          clear HE HE0 hu hx
          go_wp2_with fail
          go_quiet (fail)
          have HBq := Lib.hid (below_drewN hw.out nq)
          go_wp2
          go_roundw
          case rel => exact ⟨1, by omega, by go_num, by rw [HLa.out]; exact HN.out, fun _ => by rw [HLa.out]; exact HF2.out, HBq.out⟩
          case measure => simp [intOf]; omega
        | succ j =>
          obtain ⟨_, y, e0, hyb, hy, hcy⟩ := HC.out j (by omega)
          cases e0
          have hcy2 := (hw.out.cell (p := ad.add j) (by rw [block_of_add]; exact hyb)).trans hcy
          have hy2 := hp.out (by omega)
          have hyu := HU.out j y hy.out
          have HLy : Hid (lastF fs (j + 1) = y) := by show fs.getD j 0 = y; exact getD_of hy.out
          rw [HLy.out] at hy2 HE HE0
          have hy0 : y ≠ 0 := by omega
          have hj1 : (j : Int) < (fs.length : Int) := by omega
          have hcz3 : wr.cell? ⟨ad.block, ad.off + (j + 1), none⟩ = some (.int .i64 f) := by simpa [Addr.add] using hcw
          clear hcy hy hx hp
          by_cases hr : f % y = 0
          · have HN : Hid (facE 0 fs = facE f (fs.drop (j + 1 + 1))) := by show _ = _; rw [HE0.out, if_neg h2, if_neg (fun h => h.2 hr)]
            have HF2 : Hid (2 ≤ f) := by show _ ≤ _; omega
            have t1 : (f % y != 0) = false := by simpa using hr
            clear HE HE0 hr
            go_wp2_with fail
            go_quiet (fail)
            have HBq := Lib.hid (below_drewN hw.out nq)
            go_wp2
            go_roundw
            case rel => exact ⟨j + 1 + 1, by omega, by go_num, by rw [HLa.out]; exact HN.out, fun _ => by rw [HLa.out]; exact HF2.out, HBq.out⟩
            case measure => simp [intOf]; omega
          · have hE : Hid (E = 9) := by show _ = _; rw [HE.out, if_neg h2, if_pos ⟨hy0, hr⟩]
            have t1 : (f % y != 0) = true := by simpa using hr
            clear HE HE0 hr
            go_wp2_with fail
            go_quiet (fail)
            have HBq := Lib.hid (below_drewN hw.out nq)
            go_wp2
            go_ret
            exact ⟨ret_i hE.out.symm, HBq.out⟩
    · have hE : Hid (E = 0) := by show _ = _; rw [hR.out, he.out, List.drop_of_length_le (by omega)]; rfl
      clear he hp
      go_wp2
      go_ret
      exact ⟨ret_i hE.out.symm, hw.out⟩
end Go.Proofs.YtgcnijmmjlfabaaGreatDoor

namespace Go.Proofs.YtgcnijmmjlfabaaGreatDoor
open Go.RowKit Go.Shelf

set_option maxRecDepth 100000 in
set_option maxHeartbeats 4000000 in
theorem r58Line_any (g : Value) (n : Int) (es : List Tri) (s : List UInt8) (w : World) (hg : GV w g n es)
    (hL : ∀ W : World, GV W g n es → ofE n es = 0 → s.length ≤ 65536 → Calls Tryz.prog 26 #[g, strV s] W fun e w' => e = .returned (.int .i64 (lineE n.toNat es s)) ∧ Below W.heap.size W w') :
    Calls Tryz.prog 11 #[g, strV s] w fun e w' => e = .returned (.int .i64 (LineE n es s)) ∧ Below w.heap.size w w' := by
  obtain ⟨A, c, rfl, -⟩ := hg.open_
  obtain ⟨W0, hW0⟩ : ∃ W0, W0 = w.alloc (.cells #[.int .i64 n, .slice A es.length c] 24) := ⟨_, rfl⟩
  have hb0 : Below w.heap.size w W0 := by rw [hW0]; exact below_alloc w _
  have hx0 : BL W0 w.heap.size 24 [.int .i64 n, .slice A es.length c] := by rw [hW0]; exact BL.new' w _ _
  have HB0 := Lib.hid hb0
  have HX0 := Lib.hid hx0
  have HG0 := Lib.hid (hg.below hb0)
  have c0 := hx0.cell 0
  have c1 := hx0.cell 1
  have HW0 := Lib.hid hW0
  have HOf : Hid (Calls Tryz.prog 20 #[.agg #[.int .i64 n, .slice A es.length c]] W0 fun e w' => e = .returned (.int .i64 (ofE n es)) ∧ Below W0.heap.size W0 w') := rJoined_any _ n es W0 (hg.below hb0)
  have HSp : Hid (LineE n es s = if ofE n es ≠ 0 then ofE n es else if 65536 < s.length then 19 else lineE n.toNat es s) := rfl
  have HL := Lib.hid hL
  have hsz : (⟨s.toArray⟩ : ByteArray).size = s.length := by simp [ByteArray.size]
  rw [show strV s = .string ⟨s.toArray⟩ from rfl] at *
  generalize (⟨s.toArray⟩ : ByteArray) = B at *
  generalize LineE n es s = R at *
  clear hg hb0 hx0 hW0 hL
  go_enter Tryz.func11, Tryz.ntmps11
  go_upto_region 1 with fail
  rw [← HW0.out]
  go_wp2_with fail
  refine HOf.out.mono ?_
  rintro e w1 ⟨rfl, hb1⟩
  have HB1 := Lib.hid (HB0.out.trans (hb1.mono HB0.out.size))
  have HG1 := Lib.hid (HG0.out.below hb1)
  have HX1 := Lib.hid (HX0.out.bel hb1)
  clear hb1 c0 c1 HOf
  by_cases h0 : ofE n es ≠ 0
  · have HR : Hid (R = ofE n es) := by show _ = _; rw [HSp.out, if_pos h0]
    have t1 : (ofE n es != 0) = true := by simpa using h0
    generalize ofE n es = o at *
    clear HSp h0 HL
    go_wp2
    go_ret
    exact ⟨ret_i HR.out.symm, HB1.out⟩
  · have h00 : ofE n es = 0 := by omega
    have HSp2 : Hid (R = if 65536 < s.length then 19 else lineE n.toNat es s) := by show _ = _; rw [HSp.out, if_neg h0]
    rw [h00]
    have hex : (65536 : Nat) < s.length ∨ s.length ≤ 65536 := by omega
    rcases hex with h1 | h1
    · have HR : Hid (R = 19) := by show _ = _; rw [HSp2.out, if_pos h1]
      clear HSp HSp2 h0 h00 HL
      go_wp2
      go_ret
      exact ⟨ret_i HR.out.symm, HB1.out⟩
    · have HR : Hid (R = lineE n.toNat es s) := by show _ = _; rw [HSp2.out, if_neg (by omega)]
      have HLi := Lib.hid (HL.out w1 HG1.out h00 h1)
      have d0 := HX1.out.cell 0
      have d1 := HX1.out.cell 1
      clear HSp HSp2 h0 h00 HL
      go_wp2_with fail
      refine HLi.out.mono ?_
      rintro e w2 ⟨rfl, hb2⟩
      have HB2 := Lib.hid (HB1.out.trans (hb2.mono HB1.out.size))
      clear hb2 d0 d1 HLi
      go_wp2
      go_ret
      exact ⟨ret_i HR.out.symm, HB2.out⟩
end Go.Proofs.YtgcnijmmjlfabaaGreatDoor

namespace Go.Proofs.YtgcnijmmjlfabaaGreatDoor
open Go.RowKit Go.Shelf

set_option maxRecDepth 100000 in
set_option maxHeartbeats 4000000 in
theorem rDebt_any (vd : Value) (d : List Int) (q : Int) (w : World) (hd : RI w vd d) (hlen : d.length ≤ 100000) :
    Calls Tryz.prog 95 #[vd, .int .i64 q] w fun e w' => e = .returned (.bool (debtB d q)) ∧ w = w' := by
  obtain ⟨A, c, rfl, -, -, hcell⟩ := hd.open_
  have HC := Lib.hid hcell
  clear hcell hd
  go_enter Tryz.func95, Tryz.ntmps95
  go_wp2_with fail
  go_loop [5] (fun i => ∃ k : Nat, k ≤ d.length ∧ i = .int .i64 (k : Int) ∧ Hid (((List.range k).any fun v => decide ((v : Int) ≠ q) && decide (d.getD v 0 < 0)) = false)) (fun i => d.length - (intOf i).toNat)
  case atStart => exact ⟨0, Nat.zero_le _, rfl, rfl⟩
  case round =>
    obtain ⟨k, hk, rfl, hA⟩ := hrel
    by_cases hlt : k < d.length
    · obtain ⟨ad, z, rfl, -, hz, hcl⟩ := HC.out k hlt
      have hzz := getD_of' hz.out
      have HStep : Hid (((List.range (k + 1)).any fun v => decide ((v : Int) ≠ q) && decide (d.getD v 0 < 0)) = (decide ((k : Int) ≠ q) && decide (z < 0))) := by
        show _ = _; rw [any_range_succ, hA.out, hzz]; rfl
      have HYes : Hid ((decide ((k : Int) ≠ q) && decide (z < 0)) = true → debtB d q = true) := fun h => any_range_true hlt (by rw [hzz]; exact h)
      clear HC hzz
      by_cases hq : (k : Int) = q
      · have t1 : ((k : Int) != q) = false := by simpa using hq
        have HS : Hid (((List.range (k + 1)).any fun v => decide ((v : Int) ≠ q) && decide (d.getD v 0 < 0)) = false) := by show _ = _; rw [HStep.out, decide_eq_false (by omega)]; rfl
        clear hq
        go_wp2
        go_round
        case rel => exact ⟨k + 1, by omega, by go_num, HS.out⟩
        case measure => simp [intOf]; omega
      · have t1 : ((k : Int) != q) = true := by simpa using hq
        by_cases hneg : z < 0
        · have HT : Hid (debtB d q = true) := HYes.out (by rw [decide_eq_true hq, decide_eq_true hneg]; rfl)
          clear hq
          go_wp2
          go_ret
          exact ⟨by rw [HT.out]; rfl, rfl⟩
        · have HS : Hid (((List.range (k + 1)).any fun v => decide ((v : Int) ≠ q) && decide (d.getD v 0 < 0)) = false) := by show _ = _; rw [HStep.out, decide_eq_false hneg, Bool.and_false]
          clear hq
          go_wp2
          go_round
          case rel => exact ⟨k + 1, by omega, by go_num, HS.out⟩
          case measure => simp [intOf]; omega
    · obtain rfl : k = d.length := by omega
      have HF : Hid (debtB d q = false) := hA.out
      go_wp2
      go_ret
      exact ⟨by rw [HF.out]; rfl, rfl⟩
set_option maxRecDepth 100000 in
set_option maxHeartbeats 4000000 in
theorem rPaid_any (vd : Value) (d : List Int) (w : World) (hd : RI w vd d) (hlen : d.length ≤ 100000) :
    Calls Tryz.prog 86 #[vd] w fun e w' => e = .returned (.bool (effB d)) ∧ w = w' := by
  obtain ⟨A, c, rfl, -, -, hcell⟩ := hd.open_
  have HC := Lib.hid hcell
  clear hcell hd
  go_enter Tryz.func86, Tryz.ntmps86
  go_wp2_with fail
  go_loop [3] (fun i => ∃ k : Nat, k ≤ d.length ∧ i = .int .i64 (k : Int) ∧ Hid ((d.take k).all (fun z => decide (0 ≤ z)) = true)) (fun i => d.length - (intOf i).toNat)
  case atStart => exact ⟨0, Nat.zero_le _, rfl, rfl⟩
  case round =>
    obtain ⟨k, hk, rfl, hA⟩ := hrel
    by_cases hlt : k < d.length
    · obtain ⟨ad, z, rfl, -, hz, hcl⟩ := HC.out k hlt
      have HYes : Hid (z < 0 → effB d = false) := fun h => by
        unfold effB
        rw [List.all_eq_false]
        exact ⟨z, List.mem_of_getElem? hz.out, by simp; omega⟩
      have HNo : Hid (¬ z < 0 → (d.take (k + 1)).all (fun z => decide (0 ≤ z)) = true) := fun h => by
        rw [List.take_add_one, hz.out, List.all_append, hA.out]
        simp
        omega
      clear hz hA
      by_cases hneg : z < 0
      · have HT := Lib.hid (HYes.out hneg)
        clear HYes HNo
        go_wp2
        go_ret
        exact ⟨by rw [HT.out]; rfl, rfl⟩
      · have HS := Lib.hid (HNo.out hneg)
        clear HYes HNo
        go_wp2
        go_round
        case rel => exact ⟨k + 1, by omega, by go_num, HS.out⟩
        case measure => simp [intOf]; omega
    · have HF : Hid (effB d = true) := by
        have h := hA.out
        rwa [List.take_of_length_le (by omega)] at h
      clear hA
      go_wp2
      go_ret
      exact ⟨by rw [HF.out]; rfl, rfl⟩
end Go.Proofs.YtgcnijmmjlfabaaGreatDoor

namespace Go.Proofs.YtgcnijmmjlfabaaGreatDoor
open Go.RowKit Go.Shelf

/-- What is asked of ref57.Line. -/
def LineOk : Prop := ∀ (g : Value) (n : Int) (es : List Tri) (s : List UInt8) (W : World), GV W g n es → ofE n es = 0 → fewB n es = true → s.length ≤ 65536 →
  Calls Tryz.prog 26 #[g, strV s] W fun e w' => e = .returned (.int .i64 (lineE n.toNat es s)) ∧ Below W.heap.size W w'
end Go.Proofs.YtgcnijmmjlfabaaGreatDoor

namespace Go.Proofs.YtgcnijmmjlfabaaGreatDoor
open Go.RowKit Go.Shelf

theorem lap_flip (f : Nat → Int) (m : Nat → Int) (x : Int) (k : Nat) : sumN k (fun u => m u * (x - f u)) = - sumN k (fun u => m u * (f u - x)) := by
  induction k with
  | zero => rfl
  | succ k ih =>
    show sumN k _ + m k * (x - f k) = -(sumN k _ + m k * (f k - x))
    have h : m k * (x - f k) = -(m k * (f k - x)) := by rw [← Int.mul_neg]; congr 1; omega
    rw [ih, h]; omega
theorem appL_eq {n : Nat} (es : List Tri) {d : List Int} (s : List Int) (hd : d.length = n) : appL n es d s = appLk n es d s := by
  refine list_eq' (appL_len es s hd) (appLk_len n es d s) fun v hv => ?_
  rw [appL_get es s hd hv]
  have h : (appLk n es d s).getD v 0 = appN es d s v n := by
    unfold appLk
    rw [List.getD_eq_getElem?_getD, List.getElem?_map, List.getElem?_range hv]; rfl
  rw [h]
  have h2 : sumN n (fun u => wgt es v u * (s.getD v 0 - s.getD u 0)) = - sumN n (fun u => wgt es v u * (s.getD u 0 - s.getD v 0)) := lap_flip (fun u => s.getD u 0) (fun u => wgt es v u) (s.getD v 0) n
  show d.getD v 0 - sumN n (fun u => wgt es v u * (s.getD v 0 - s.getD u 0)) = d.getD v 0 + sumN n (fun u => wgt es v u * (s.getD u 0 - s.getD v 0))
  rw [h2]; omega
theorem nums_bd20 {ws : List (List UInt8)} (h : numsE ws = 0) : Bd 1048576 (numsV ws) := by
  have h0 := nums_bd h
  unfold numsE at h
  by_cases h1 : ws.all canB = false
  · rw [if_pos h1] at h; cases h
  · rw [if_neg h1] at h
    by_cases h2 : ws.all (fun s => decide (-1048576 ≤ wv s) && decide (wv s ≤ 1048576)) = false
    · rw [if_pos h2] at h; cases h
    · intro k
      have h3 : ws.all (fun s => decide (-1048576 ≤ wv s) && decide (wv s ≤ 1048576)) = true := by simpa using h2
      rw [List.all_eq_true] at h3
      unfold numsV
      rw [List.getD_eq_getElem?_getD, List.getElem?_map]
      cases hx : ws[k]? with
      | none => simp
      | some x =>
        have := h3 x (List.mem_of_getElem? hx)
        simpa using this
set_option maxRecDepth 100000 in
set_option maxHeartbeats 4000000 in
theorem rAppW_any (g vd vs : Value) (n : Nat) (es : List Tri) (d s : List Int) (w : World) (hg : GV w g n es) (hd : RI w vd d) (hs : RI w vs s) (hE : Edges n es) (hn : n ≤ 12) (hdl : d.length = n) (hl : s.length = n) (hbd : Bd 20000000 d) (hb : Bd 1048576 s) :
    Calls Tryz.prog 87 #[g, vd, vs] w fun e w' => ∃ v, e = .returned v ∧ OI w' w.heap.size v (appLk n es d s) ∧ Below w.heap.size w w' := by
  rw [← appL_eq es s hdl]
  obtain ⟨A2, c2, rfl, -⟩ := hs.open_
  obtain ⟨A3, c3, rfl, -⟩ := hd.open_
  obtain ⟨A, c, rfl, -⟩ := hg.open_
  obtain ⟨W0, hW0⟩ : ∃ W0, W0 = w.alloc (.cells #[.int .i64 (n:Int), .slice A es.length c] 24) := ⟨_, rfl⟩
  have hb0 : Below w.heap.size w W0 := by rw [hW0]; exact below_alloc w _
  have hx0 : BL W0 w.heap.size 24 [.int .i64 (n:Int), .slice A es.length c] := by rw [hW0]; exact BL.new' w _ _
  have c0 := hx0.cell 0
  have c1 := hx0.cell 1
  have HX0 := Lib.hid hx0
  have HG0 := Lib.hid (hg.below hb0)
  have HB0 := Lib.hid hb0
  have HW0 := Lib.hid hW0
  rw [hW0] at c0 c1
  clear hg hx0 hW0
  have HM := Lib.hid (rMoved_any _ _ n es s W0 HG0.out (RI.below hs hb0) hE hn hl hb)
  have HD0 := Lib.hid (RI.below hd hb0)
  have HF : Hid (∀ (w1 : World) (v : Value), Below W0.heap.size W0 w1 → OI w1 W0.heap.size v (movL n es s) → Calls Tryz.prog 93 #[.slice A3 d.length c3, v, .int .i64 (-1)] w1 fun e w' => ∃ v, e = .returned v ∧ OI w' w1.heap.size v (appL n es d s) ∧ Below w1.heap.size w1 w') := fun w1 v h1 h2 =>
    rPlus_any _ _ d (movL n es s) (-1) w1 (RI.below HD0.out h1) h2.ri (by rw [movL_len]; exact hdl) (by omega) (fun j hj => by
      have q1 := hbd j
      have q2 := movK_le hE hn hb j n
      rw [movL_get es s (by omega)]
      omega)
  clear hs hd hE hdl hl hbd hb hb0
  go_enter Tryz.func87, Tryz.ntmps87
  go_wp2_with fail
  rw [← HW0.out]
  refine HM.out.mono ?_
  rintro e w1 ⟨v, rfl, ho, hb1⟩
  have HP := Lib.hid (HF.out w1 v hb1 ho)
  have HB1 := Lib.hid (HB0.out.trans (hb1.mono HB0.out.size))
  clear hb1
  clear ho c0 c1
  go_wp2_with fail
  refine HP.out.mono ?_
  rintro e w2 ⟨v2, rfl, ho2, hb2⟩
  have HO2 := Lib.hid ho2
  have HS1 := Lib.hid HB1.out.size
  have HB2 := Lib.hid (HB1.out.trans (hb2.mono HB1.out.size))
  clear hb2
  clear ho2
  go_wp2
  go_ret
  exact ⟨_, rfl, OV.mono HO2.out HS1.out, HB2.out⟩
end Go.Proofs.YtgcnijmmjlfabaaGreatDoor

