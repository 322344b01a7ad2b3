/- Contract of the reference's Classes, and that it answers as the function does.
   The function's Classes and the reference's answer alike. No program in sight.
   The law EquivalenceLists: what the function answers. -/
import Derived.Test.YtefggpdobjboeaaGreatG41
import Derived.Test.YtefggpdobjboeaaGreatG24
namespace Go.Proofs.YtefggpdobjboeaaGreat
open Go.RowKit Go.Shelf

/-- What the reference's Classes answers. -/
def RClsP (n : Int) (es : List Tri) (deg : Int) (u : List (List Int)) (er : Int) : Prop :=
  (eGiven n es [] ≠ 0 ∧ u = [] ∧ er = eGiven n es []) ∨ (eGiven n es [] = 0 ∧ InB deg = false ∧ u = [] ∧ er = 2) ∨
    (eGiven n es [] = 0 ∧ InB deg = true ∧ ∃ m : Nat, n = m ∧ Rt m es ∧ (((∃ d ∈ sortK (lstL m es deg) (lstL m es deg).length, InB (d.getD 0 0) = false) ∧ u = [] ∧ er = 11) ∨
      ((∀ d ∈ sortK (lstL m es deg) (lstL m es deg).length, InB (d.getD 0 0) = true) ∧ u = sortK (lstL m es deg) (lstL m es deg).length ∧ er = 0)))
theorem cmp_few {a : Int} (h : a ≤ 16384) : cmpI a 16384 ≤ 0 := by unfold cmpI; split <;> (try split) <;> omega
theorem add_zero' (ad : Addr) : ad.add 0 = ad := rfl
set_option maxRecDepth 100000 in
set_option maxHeartbeats 8000000 in
theorem rClasses_any (g : Value) (n : Int) (es : List Tri) (deg : Int) (w : World) (hg : GV w g n es) (hs : Sm n es) :
    Calls Tryz.prog 16 #[g, .int .i64 deg] w fun e w' => ∃ v er, e = .returned (.tuple #[v, .int .i64 er]) ∧ Below w.heap.size w w' ∧ ∃ u, RR w' v u ∧ RClsP n es deg u er := by
  obtain ⟨A, c, rfl, -⟩ := hg.open_
  obtain ⟨W0, hW0⟩ : ∃ W0, W0 = w.alloc (.cells #[.int .i64 n, .slice A es.length c] 24) := ⟨_, rfl⟩
  have hb0 : Below w.heap.size w W0 := by rw [hW0]; exact below_alloc w _
  have hx0 : BL W0 w.heap.size 24 [.int .i64 n, .slice A es.length c] := by rw [hW0]; exact BL.new' w _ _
  have c0 := hx0.cell 0
  have c1 := hx0.cell 1
  have HX0 := Lib.hid hx0
  have HG0 := Lib.hid (hg.below hb0)
  have HB0 := Lib.hid hb0
  have HW0 := Lib.hid hW0
  rw [hW0] at c0 c1
  clear hg hx0 hW0
  have HJ := Lib.hid (rJoined_any _ n es W0 HG0.out)
  by_cases h0 : eGiven n es [] = 0
  · have hj := HJ.out
    rw [h0] at hj
    have HJ0 := Lib.hid hj
    have H0 := Lib.hid h0
    have HIn : Hid (∀ W, Calls Tryz.prog 55 #[.int .i64 deg] W fun e w' => e = .returned (.bool (InB deg)) ∧ W = w') := fun W => In15_any deg W
    by_cases hd : InB deg = false
    · rw [hd] at HIn
      have HD := Lib.hid hd
      clear hb0 hj h0 hd HJ
      go_enter Tryz.func16, Tryz.ntmps16
      go_wp2_with fail
      rw [← HW0.out]
      refine HJ0.out.mono ?_
      rintro e w1 ⟨rfl, hb1⟩
      have HB1 := Lib.hid (HB0.out.trans (hb1.mono HB0.out.size))
      clear hb1
      clear c0 c1
      go_wp2_with fail
      refine (HIn.out _).mono ?_
      rintro e w2 ⟨rfl, rfl⟩
      go_wp2
      refine bodyPost_ret (results_tmp2 rfl _ _ _) rfl ?_
      exact ⟨_, _, rfl, HB1.out, [], RR.nilZ _, .inr (.inl ⟨H0.out, HD.out, rfl, rfl⟩)⟩
    · have hd : InB deg = true := by simpa using hd
      have hdb := (inB_iff deg).1 hd
      obtain ⟨hgc, hcb, -⟩ := eGiven_ok h0
      obtain ⟨m, rfl, hr⟩ := rt_of hs hgc hcb
      obtain ⟨p, hp⟩ : ∃ p, m = p + 1 := ⟨m - 1, by have := hr.n1; omega⟩
      have hn6 := hr.n6
      have HCo : Hid (∀ W, Below W0.heap.size W0 W → Calls Tryz.prog 57 #[.agg #[.int .i64 (m : Int), .slice A es.length c]] W fun e w' => ∃ v, e = .returned v ∧ Below W.heap.size W w' ∧ ∃ D : Int, ZS v D ∧ B15 D ∧ D ≤ 16384) := fun W hW => by
        subst hp
        have hf := trees_few hr
        refine (lCounted_any _ p es W (HG0.out.below hW) hr.ed (by omega) (red_small hr)).mono fun e w' h => ?_
        obtain ⟨v, h1, h2, h3⟩ := h
        exact ⟨v, h1, h2, _, h3, by unfold B15; omega, by omega⟩
      have HOf : Hid (∀ W, Calls Tryz.prog 58 #[.int .i64 16384] W fun e w' => ∃ v', e = .returned v' ∧ Below W.heap.size W w' ∧ ZS v' 16384) := fun W => zOf_any 16384 W (by unfold B15; omega)
      have HOr : Hid (∀ (va vb : Value) (D : Int) (W : World), ZS va D → ZS vb 16384 → B15 D → Calls Tryz.prog 56 #[va, vb] W fun e w' => e = .returned (.int .i64 (cmpI D 16384)) ∧ Below W.heap.size W w') := fun va vb D W h1 h2 h3 => zOrder_any va vb D 16384 W h1 h2 h3 (by unfold B15; omega)
      have HLi : Hid (∀ W, Below W0.heap.size W0 W → Calls Tryz.prog 59 #[.agg #[.int .i64 (m : Int), .slice A es.length c], .int .i64 deg] W fun e w' => ∃ v, e = .returned v ∧ Below W.heap.size W w' ∧ RR w' v (sortK (lstL m es deg) (lstL m es deg).length)) := fun W hW => rListed_any _ m es deg W (HG0.out.below hW) hr hdb
      have HRt := Lib.hid hr
      have HNe : Hid (∀ d ∈ sortK (lstL m es deg) (lstL m es deg).length, 1 ≤ d.length) := fun d hd' => by
        have h1 := (sortK_perm (lstL m es deg) _ (Nat.le_refl _)).subset hd'
        rw [List.take_of_length_le (Nat.le_refl _)] at h1
        obtain ⟨y, hy, rfl⟩ := List.mem_map.1 h1
        rw [nrm_len, (calm_bd hr hy).1]; exact hr.n1
      have HFin : Hid (∀ (u : List (List Int)) (er : Int), (((∃ d ∈ sortK (lstL m es deg) (lstL m es deg).length, InB (d.getD 0 0) = false) ∧ u = [] ∧ er = 11) ∨
        ((∀ d ∈ sortK (lstL m es deg) (lstL m es deg).length, InB (d.getD 0 0) = true) ∧ u = sortK (lstL m es deg) (lstL m es deg).length ∧ er = 0)) → RClsP m es deg u er) := fun u er h => .inr (.inr ⟨h0, hd, m, rfl, hr, h⟩)
      have hfew := calms_few hr
      have hLl : (sortK (lstL m es deg) (lstL m es deg).length).length ≤ 16384 := by
        rw [sortK_len _ _ (Nat.le_refl _)]; unfold lstL; rw [List.length_map]; exact hfew
      rw [hd] at HIn
      clear hb0 hj h0 hd HJ hdb hgc hcb hr hp hn6 hfew
      generalize sortK (lstL m es deg) (lstL m es deg).length = L at *
      go_enter Tryz.func16, Tryz.ntmps16
      go_wp2_with fail
      rw [← HW0.out]
      refine HJ0.out.mono ?_
      rintro e w1 ⟨rfl, hb1⟩
      have HB1 := Lib.hid hb1
      have d0 := (HX0.out.bel hb1).cell 0
      have d1 := (HX0.out.bel hb1).cell 1
      have HC1 := Lib.hid (HCo.out w1 hb1)
      clear hb1 c0 c1
      go_wp2_with fail
      refine (HIn.out _).mono ?_
      rintro e w2 ⟨rfl, rfl⟩
      go_wp2_with fail
      refine HC1.out.mono ?_
      rintro e w2 ⟨v2, rfl, hb2, D, hz2, hD, hDf⟩
      have HB2 := Lib.hid (HB1.out.trans (hb2.mono HB1.out.size))
      have HZ2 := Lib.hid hz2
      have HD := Lib.hid hD
      have hcf := cmp_few hDf
      clear hb2 hz2 hD hDf d0 d1
      go_wp2_with fail
      refine (HOf.out _).mono ?_
      rintro e w3 ⟨v3, rfl, hb3, hz3⟩
      have HB3 := Lib.hid (HB2.out.trans (hb3.mono HB2.out.size))
      have HO3 := Lib.hid (HOr.out v2 v3 D w3 HZ2.out hz3 HD.out)
      clear hb3 hz3
      generalize cmpI D 16384 = cm at *
      go_wp2_with fail
      refine HO3.out.mono ?_
      rintro e w4 ⟨rfl, hb4⟩
      have HB4 := Lib.hid (HB3.out.trans (hb4.mono HB3.out.size))
      have d0 := (HX0.out.bel HB4.out).cell 0
      have d1 := (HX0.out.bel HB4.out).cell 1
      have HL4 := Lib.hid (HLi.out w4 HB4.out)
      clear hb4
      go_wp2_with fail
      refine HL4.out.mono ?_
      rintro e w5 ⟨v5, rfl, hb5, hr5⟩
      have HB5 := Lib.hid (HB4.out.trans (hb5.mono HB4.out.size))
      have HR5 := Lib.hid hr5
      obtain ⟨Al, cl, rfl, -, -, hrows⟩ := hr5.open_
      have HRows := Lib.hid hrows
      have HBw := Lib.hid (HB0.out.trans (HB5.out.mono HB0.out.size))
      clear hb5 hr5 hrows d0 d1
      go_wp2_with fail
      go_loop [8] (fun ii => ∃ i : Nat, i ≤ L.length ∧ ii = .int .i64 (i : Int) ∧ Hid (∀ (j : Nat) (d : List Int), j < i → L[j]? = some d → InB (d.getD 0 0) = true)) (fun i => L.length - (intOf i).toNat)
      case atStart => exact ⟨0, Nat.zero_le _, rfl, fun j d hj => absurd hj (by omega)⟩
      case round =>
        obtain ⟨i, hi, rfl, hA⟩ := hrel
        by_cases hlt : i < L.length
        · obtain ⟨ad, x, A1, c1, hAl, hadb, hx, hcl, hxr⟩ := HRows.out i hlt
          subst hAl
          have hxm := List.mem_of_getElem? hx.out
          have hx1 := HNe.out x hxm
          obtain ⟨A9, c9, he9, -, -, hc9⟩ := hxr.open_
          simp only [Value.slice.injEq, true_and] at he9
          obtain ⟨rfl, rfl⟩ := he9
          obtain ⟨ad9, z, rfl, hb9, hz9, hcl9⟩ := hc9 0 hx1
          rw [add_zero'] at hcl9
          have HZ9 := Lib.hid (getD_of hz9.out)
          have HI9 := Lib.hid (In15_any z w5)
          have HX := Lib.hid hx
          have HXm := Lib.hid hxm
          clear hc9 hxr hadb hb9 hxm hx
          by_cases hz : InB z = true
          · have HA2 : Hid (∀ (j : Nat) (d : List Int), j < i + 1 → L[j]? = some d → InB (d.getD 0 0) = true) := fun j d hj hd' => by
              by_cases e : j = i
              · subst e; rw [HX.out.out] at hd'; cases hd'; rw [HZ9.out]; exact hz
              · exact hA.out j d (by omega) hd'
            have h9 := HI9.out
            rw [hz] at h9
            have HI9 := Lib.hid h9
            clear h9 hz
            go_wp2_with fail
            refine HI9.out.mono ?_
            rintro e w6 ⟨rfl, rfl⟩
            go_wp2
            go_round
            case rel => exact ⟨i + 1, by omega, by go_num, HA2.out⟩
            case measure => simp [intOf]; omega
          · have hz : InB z = false := by simpa using hz
            have HF := Lib.hid (HFin.out [] 11 (.inl ⟨⟨x, HXm.out, by rw [HZ9.out]; exact hz⟩, rfl, rfl⟩))
            have h9 := HI9.out
            rw [hz] at h9
            have HI9 := Lib.hid h9
            clear h9 hz
            go_wp2_with fail
            refine HI9.out.mono ?_
            rintro e w6 ⟨rfl, rfl⟩
            go_wp2
            refine bodyPost_ret (results_tmp2 rfl _ _ _) rfl ?_
            exact ⟨_, _, rfl, HBw.out, [], RR.nilZ _, HF.out⟩
        · obtain rfl : i = L.length := by omega
          have HF := Lib.hid (HFin.out L 0 (.inr ⟨fun d hd' => by
            obtain ⟨j, hj, e⟩ := List.mem_iff_getElem.1 hd'
            exact hA.out j d hj (by rw [List.getElem?_eq_getElem hj, e]), rfl, rfl⟩))
          go_wp2
          refine bodyPost_ret (results_tmp2 rfl _ _ _) rfl ?_
          exact ⟨_, _, rfl, HBw.out, L, HR5.out, HF.out⟩
  · obtain ⟨r, hr⟩ : ∃ r, r = eGiven n es [] := ⟨_, rfl⟩
    have HR := Lib.hid hr
    have HN0 := Lib.hid h0
    have hj := HJ.out
    rw [← hr] at hj h0
    have HJ := Lib.hid hj
    have t : (r != 0) = true := by simpa using h0
    clear hr hj h0 hb0
    go_enter Tryz.func16, Tryz.ntmps16
    go_wp2_with fail
    rw [← HW0.out]
    refine HJ.out.mono ?_
    rintro e w1 ⟨rfl, hb1⟩
    have HB1 := Lib.hid (HB0.out.trans (hb1.mono HB0.out.size))
    clear hb1
    clear c0 c1
    go_wp2
    refine bodyPost_ret (results_tmp2 rfl _ _ _) rfl ?_
    exact ⟨_, _, rfl, HB1.out, [], RR.nilZ _, .inl ⟨HN0.out, rfl, HR.out⟩⟩
end Go.Proofs.YtefggpdobjboeaaGreat

namespace Go.Proofs.YtefggpdobjboeaaGreat
open Go.RowKit Go.Shelf

theorem cmpI_neg (x y : Int) : cmpI y x = - cmpI x y := by unfold cmpI; (repeat' split) <;> omega
theorem cmpI_zero {x y : Int} (h : cmpI x y = 0) : x = y := by unfold cmpI at h; (repeat' split at h) <;> omega
theorem cmpL_neg (a b : List Int) : cmpL b a = - cmpL a b := by
  induction a generalizing b with
  | nil => cases b <;> rfl
  | cons x xs ih =>
    cases b with
    | nil => rfl
    | cons y ys =>
      rw [cmpL, cmpL, cmpI_neg x y, ih ys]
      by_cases h : cmpI x y = 0
      · rw [h]; simp
      · rw [if_pos (by omega), if_pos h]
theorem cmpL_zero {a b : List Int} (h : cmpL a b = 0) : a = b := by
  induction a generalizing b with
  | nil => cases b with
    | nil => rfl
    | cons y ys => rw [cmpL] at h; cases h
  | cons x xs ih =>
    cases b with
    | nil => rw [cmpL] at h; cases h
    | cons y ys =>
      rw [cmpL] at h
      by_cases e : cmpI x y = 0
      · rw [if_neg (by omega)] at h
        rw [cmpI_zero e, ih h]
      · rw [if_pos e] at h; exact absurd h e
/-- Not above. -/
def leL (a b : List Int) : Prop := ¬ cmpL b a < 0
theorem leL_iff (a b : List Int) : leL a b ↔ cmpL a b ≤ 0 := by unfold leL; rw [cmpL_neg a b]; omega
theorem leL_anti (a b : List Int) (h1 : leL a b) (h2 : leL b a) : a = b := by
  rw [leL_iff] at h1
  unfold leL at h2
  exact cmpL_zero (by omega)
theorem cmpI_le {x y : Int} (h : cmpI x y ≤ 0) : x ≤ y := by unfold cmpI at h; (repeat' split at h) <;> omega
theorem cmpI_neg_lt {x y : Int} (h : x < y) : cmpI x y = -1 := sgn_lt h
theorem leL_trans {a b c : List Int} (h1 : cmpL a b ≤ 0) (h2 : cmpL b c ≤ 0) : cmpL a c ≤ 0 := by
  induction a generalizing b c with
  | nil => cases c <;> simp [cmpL]
  | cons x xs ih =>
    cases b with
    | nil => rw [cmpL] at h1; omega
    | cons y ys =>
      cases c with
      | nil => rw [cmpL] at h2; omega
      | cons z zs =>
        rw [cmpL] at h1 h2 ⊢
        have k1 : x ≤ y := by
          by_cases e : cmpI x y = 0
          · rw [cmpI_zero e]; exact Int.le_refl _
          · rw [if_pos e] at h1; exact cmpI_le h1
        have k2 : y ≤ z := by
          by_cases e : cmpI y z = 0
          · rw [cmpI_zero e]; exact Int.le_refl _
          · rw [if_pos e] at h2; exact cmpI_le h2
        rcases Int.lt_or_eq_of_le (Int.le_trans k1 k2) with h | h
        · rw [cmpI_neg_lt h, if_pos (by decide)]; decide
        · have e1 : x = y := by omega
          have e2 : y = z := by omega
          subst e1 e2
          have e : cmpI x x = 0 := sgn_eq rfl
          rw [e, if_neg (by omega)] at h1 h2 ⊢
          exact ih h1 h2
theorem insL_sorted {x : List Int} {out : List (List Int)} (h : out.Pairwise leL) : (insL x out).Pairwise leL := by
  unfold insL
  have hlow : ∀ y ∈ out.take (posL x out), leL y x := fun y hy => by
    have e : out.take (posL x out) = out.takeWhile fun y => decide (cmpL y x < 0) := by
      unfold posL
      exact (List.prefix_iff_eq_take.1 (List.takeWhile_prefix _)).symm
    rw [e] at hy
    have hy2 : decide (cmpL y x < 0) = true := by
      have := List.all_takeWhile (p := fun y => decide (cmpL y x < 0)) (l := out)
      exact List.all_eq_true.1 this y hy
    rw [leL_iff]
    have := of_decide_eq_true hy2
    omega
  have hhigh : ∀ y ∈ out.drop (posL x out), leL x y := by
    have hd : (out.drop (posL x out)).Pairwise leL := h.sublist (List.drop_sublist _ _)
    have e : out.drop (posL x out) = out.dropWhile fun y => decide (cmpL y x < 0) := by
      unfold posL
      have h1 := List.takeWhile_append_dropWhile (p := fun y => decide (cmpL y x < 0)) (l := out)
      conv => lhs; rw [← h1]
      rw [List.drop_left' (by rw [h1])]
    intro y hy
    cases hc : out.drop (posL x out) with
    | nil => rw [hc] at hy; cases hy
    | cons z r =>
      have hz : ¬ cmpL z x < 0 := by
        rw [e] at hc
        have hne : (out.dropWhile fun y => decide (cmpL y x < 0)) ≠ [] := by rw [hc]; simp
        have h2 := List.head_dropWhile_not (fun y => decide (cmpL y x < 0)) hne
        have h3 : (out.dropWhile fun y => decide (cmpL y x < 0)).head hne = z := by simp [hc]
        rw [h3] at h2
        simpa using h2
      rw [hc] at hy hd
      rcases List.mem_cons.1 hy with rfl | hy
      · exact hz
      · have h4 := (List.pairwise_cons.1 hd).1 y hy
        rw [leL_iff] at h4 ⊢
        have h5 : cmpL x z ≤ 0 := (leL_iff x z).1 hz
        exact leL_trans h5 h4
  refine List.pairwise_append.2 ⟨List.pairwise_append.2 ⟨h.sublist (List.take_sublist _ _), by simp, fun a ha b hb => ?_⟩, h.sublist (List.drop_sublist _ _), fun a ha b hb => ?_⟩
  · rw [List.mem_singleton.1 hb]; exact hlow a ha
  · rcases List.mem_append.1 ha with ha | ha
    · have h1 := hlow a ha
      have h2 := hhigh b hb
      rw [leL_iff] at h1 h2 ⊢
      exact leL_trans h1 h2
    · rw [List.mem_singleton.1 ha]; exact hhigh b hb
theorem sortK_sorted (l : List (List Int)) (k : Nat) (hk : k ≤ l.length) : (sortK l k).Pairwise leL := by
  induction k with
  | zero => exact List.Pairwise.nil
  | succ k ih =>
    rw [sortK_succ (List.getElem?_eq_getElem (show k < l.length by omega))]
    exact insL_sorted (ih (by omega))
theorem nrm_perm {m : Nat} {es : List Tri} (hr : Rt m es) (deg : Int) : (nrmL m es deg).Perm (sortK (lstL m es deg) (lstL m es deg).length) := by
  have h1 := sortK_perm (lstL m es deg) _ (Nat.le_refl _)
  rw [List.take_of_length_le (Nat.le_refl _)] at h1
  exact (List.Perm.map _ (confs_perm hr)).trans h1.symm
theorem check_nrm {m : Nat} {es : List Tri} (hr : Rt m es) {deg : Int} {d : List Int} (hd : d ∈ nrmL m es deg) : checkE d m = 0 ↔ InB (d.getD 0 0) = true := by
  obtain ⟨c, hc, rfl⟩ := List.mem_map.1 hd
  obtain ⟨h1, h2, h3⟩ := calm_bd hr ((confs_iff hr).1 hc)
  have hn1 := hr.n1
  have hn6 := hr.n6
  cases c with
  | nil => simp at h1; omega
  | cons a t =>
    unfold checkE
    rw [if_neg (by omega), if_neg (by rw [nrm_len, h1]; simp)]
    have ht : t.all InB = true := List.all_eq_true.2 fun z hz => by
      obtain ⟨k, hk, rfl⟩ := List.mem_iff_getElem.1 hz
      have := h2 (k + 1)
      rw [List.getD_eq_getElem?_getD] at this
      simp only [List.getElem?_cons_succ, List.getElem?_eq_getElem hk, Option.getD_some] at this
      exact (inB_iff _).2 (by omega)
    have e : (nrm deg (a :: t)).all InB = InB ((nrm deg (a :: t)).getD 0 0) := by
      simp only [nrm, List.all_cons, ht, Bool.and_true, List.getD_cons_zero]
    rw [e]
    cases InB ((nrm deg (a :: t)).getD 0 0) <;> simp
theorem cls_same {n : Int} {es : List Tri} {deg : Int} {u u' : List (List Int)} {er er' : Int} (h : ClsP n es deg u er) (h' : RClsP n es deg u' er') : u = u' ∧ er = er' := by
  rcases h with ⟨h0, rfl, rfl⟩ | ⟨h0, hd, rfl, rfl⟩ | ⟨h0, hd, m, rfl, hr, hc⟩
  · rcases h' with ⟨_, rfl, rfl⟩ | ⟨h1, _⟩ | ⟨h1, _⟩
    · exact ⟨rfl, rfl⟩
    · exact absurd h1 h0
    · exact absurd h1 h0
  · have hdf : InB deg = false := by
      cases e : InB deg
      · rfl
      · exact absurd ((inB_iff deg).1 e) hd
    rcases h' with ⟨h1, _⟩ | ⟨_, _, rfl, rfl⟩ | ⟨_, h1, _⟩
    · exact absurd h0 h1
    · exact ⟨rfl, rfl⟩
    · rw [hdf] at h1; cases h1
  · have hdt : InB deg = true := (inB_iff deg).2 hd
    rcases h' with ⟨h1, _⟩ | ⟨_, h1, _⟩ | ⟨_, _, m', hm', hr', hc'⟩
    · exact absurd h0 h1
    · rw [hdt] at h1; cases h1
    · obtain rfl : m' = m := by omega
      have hp := nrm_perm hr deg
      rcases hc with ⟨⟨d, hd1, hd2⟩, rfl, rfl⟩ | ⟨hall, rfl, hpu, hsu⟩
      · rcases hc' with ⟨_, rfl, rfl⟩ | ⟨h2, _, _⟩
        · exact ⟨rfl, rfl⟩
        · exact absurd ((check_nrm hr hd1).2 (h2 d (hp.subset hd1))) hd2
      · rcases hc' with ⟨⟨d, hd1, hd2⟩, rfl, rfl⟩ | ⟨_, rfl, rfl⟩
        · have := (check_nrm hr (hp.symm.subset hd1)).1 (hall d (hp.symm.subset hd1))
          rw [hd2] at this; cases this
        · exact ⟨perm_sorted_eq leL_anti (hpu.trans hp) (pairwise_of_get fun i j a b hij ha hb => hsu i j a b hij ha hb) (sortK_sorted _ _ (Nat.le_refl _)), rfl⟩
end Go.Proofs.YtefggpdobjboeaaGreat

namespace Go.Proofs.YtefggpdobjboeaaGreat
open Go.RowKit Go.Shelf

set_option maxRecDepth 100000 in
set_option maxHeartbeats 4000000 in
theorem lisClo_any (va vb : Value) (x : List Int) (w : World) (ha : RI w va x) (hb : RI w vb x) :
    Calls Tryz.prog 18 #[va, vb] w fun e w' => e = .returned (.bool true) ∧ Below w.heap.size w w' := by
  have hq := EqualD_any va vb x x w ha hb
  rw [(eqL_iff _ _).2 rfl] at hq
  have HQ := Lib.hid hq
  clear hq ha hb
  go_enter Tryz.func18, Tryz.ntmps18
  go_wp2_with fail
  refine HQ.out.mono ?_
  rintro e w2 ⟨rfl, j, rfl⟩
  go_wp2
  go_ret
  exact ⟨rfl, below_drewN (Below.refl _ _) j⟩
set_option maxRecDepth 100000 in
set_option maxHeartbeats 4000000 in
theorem eqF_any (va vb : Value) (u : List (List Int)) (w : World) (ha : RR w va u) (hb : RR w vb u) :
    Calls Tryz.prog 17 #[va, vb, .func (.func 18) #[] #[]] w fun e w' => e = .returned (.bool true) ∧ Below w.heap.size w w' := by
  obtain ⟨A, c, rfl, -, hub, hra⟩ := ha.open_
  obtain ⟨A', c', rfl, -, -, hrb⟩ := hb.open_
  have HA := Lib.hid hra
  have HB := Lib.hid hrb
  have HCl : Hid (∀ (W : World) (va vb : Value) (x : List Int), RI W va x → RI W vb x → Calls Tryz.prog 18 #[va, vb] W fun e w' => e = .returned (.bool true) ∧ Below W.heap.size W w') := fun W va vb x h1 h2 => lisClo_any va vb x W h1 h2
  clear ha hb hra hrb
  go_enter Tryz.func17, Tryz.ntmps17
  go_wp2_with fail
  go_loopw [17] (fun ii wr => ∃ i : Nat, i ≤ u.length ∧ ii = .int .i64 (i : Int) ∧ Hid (Below w.heap.size w wr)) (fun i _ => u.length - (intOf i).toNat)
  case atStart => exact ⟨0, Nat.zero_le _, rfl, Below.refl _ _⟩
  case round =>
    obtain ⟨i, hi, rfl, hbw⟩ := hrel
    by_cases hlt : i < u.length
    · obtain ⟨ad, x, A1, c1, rfl, hadb, hx, hcl, hxr⟩ := HA.out i hlt
      obtain ⟨ad', x', A2, c2, rfl, hadb', hx', hcl', hxr'⟩ := HB.out i hlt
      obtain rfl : x' = x := by
        have h1 := hx.out
        rw [hx'.out] at h1
        cases h1; rfl
      have g1 := (hbw.out.cell (p := ad.add i) (by rw [block_of_add]; exact hadb)).trans hcl
      have g2 := (hbw.out.cell (p := ad'.add i) (by rw [block_of_add]; exact hadb')).trans hcl'
      have HC := Lib.hid (HCl.out wr _ _ _ (RI.below hxr hbw.out) (RI.below hxr' hbw.out))
      clear hx hx' hxr hxr' hcl hcl' hadb hadb' HA HB
      go_wp2_with fail
      refine HC.out.mono ?_
      rintro e w2 ⟨rfl, hb2⟩
      have HB2 := Lib.hid (hbw.out.trans (hb2.mono hbw.out.size))
      clear hb2
      go_wp2
      go_roundw
      case rel => exact ⟨i + 1, by omega, by go_num, HB2.out⟩
      case measure => simp [intOf]; omega
    · obtain rfl : i = u.length := by omega
      go_wp2
      go_ret
      exact ⟨rfl, hbw.out⟩
set_option maxRecDepth 100000 in
set_option maxHeartbeats 8000000 in
theorem lists_any (g : Value) (n : Int) (es : List Tri) (deg : Int) (w : World) (hg : GV w g n es) :
    Calls Tryz.prog 4 #[g, .int .i64 deg] w fun e w' => e = .returned (.bool true) ∧ Below w.heap.size w w' := by
  obtain ⟨A, c, rfl, -⟩ := hg.open_
  obtain ⟨W0, hW0⟩ : ∃ W0, W0 = w.alloc (.cells #[.int .i64 n, .slice A es.length c] 24) := ⟨_, rfl⟩
  have hb0 : Below w.heap.size w W0 := by rw [hW0]; exact below_alloc w _
  have hx0 : BL W0 w.heap.size 24 [.int .i64 n, .slice A es.length c] := by rw [hW0]; exact BL.new' w _ _
  have c0 := hx0.cell 0
  have c1 := hx0.cell 1
  have HX0 := Lib.hid hx0
  have HG0 := Lib.hid (hg.below hb0)
  have HB0 := Lib.hid hb0
  have HW0 := Lib.hid hW0
  rw [hW0] at c0 c1
  clear hg hx0 hW0
  have AW : Hid (∀ W, Calls Tryz.prog 10 #[] W fun e w' => e = .returned (.bool true) ∧ Below W.heap.size W w') := awake_any
  have hfe := rFew_any _ n es W0 HG0.out
  by_cases hl : fewB n es = false
  · rw [hl] at hfe
    have HF := Lib.hid hfe
    clear hb0 hfe hl
    go_enter Tryz.func4, Tryz.ntmps4
    go_wp2_with fail
    rw [← HW0.out]
    refine HF.out.mono ?_
    rintro e w1 ⟨rfl, hb1⟩
    have HB1 := Lib.hid (HB0.out.trans (hb1.mono HB0.out.size))
    clear hb1
    clear c0 c1
    go_wp2_with fail
    refine (AW.out _).mono ?_
    rintro e w2 ⟨rfl, hb2⟩
    have HB2 := Lib.hid (HB1.out.trans (hb2.mono HB1.out.size))
    clear hb2
    go_wp2
    go_ret
    exact ⟨rfl, HB2.out⟩
  · have hl : fewB n es = true := by simpa using hl
    have HSm := Lib.hid (fewB_sm hl)
    rw [hl] at hfe
    have HF := Lib.hid hfe
    clear hb0 hfe hl
    go_enter Tryz.func4, Tryz.ntmps4
    go_wp2_with fail
    rw [← HW0.out]
    refine HF.out.mono ?_
    rintro e w1 ⟨rfl, hb1⟩
    have HC := Lib.hid (Classes_any _ n es deg w1 (HG0.out.below hb1) HSm.out fun m _ hr => cf_ok hr)
    have d0 := (HX0.out.bel hb1).cell 0
    have d1 := (HX0.out.bel hb1).cell 1
    have HB01 := Lib.hid hb1
    clear hb1 c0 c1
    go_wp2_with fail
    refine HC.out.mono ?_
    rintro e w2 ⟨v2, u, er, rfl, hr2, hb2, hp2⟩
    have HB02 := Lib.hid (HB01.out.trans (hb2.mono HB01.out.size))
    have HR2 := Lib.hid hr2
    have HP2 := Lib.hid hp2
    have HRc := Lib.hid (rClasses_any _ n es deg w2 (HG0.out.below HB02.out) HSm.out)
    have e0 := (HX0.out.bel HB02.out).cell 0
    have e1 := (HX0.out.bel HB02.out).cell 1
    clear hb2 hr2 hp2 d0 d1
    go_wp2_with fail
    refine HRc.out.mono ?_
    rintro e w3 ⟨v3, er3, rfl, hb3, u3, hr3, hp3⟩
    obtain ⟨rfl, rfl⟩ := cls_same HP2.out hp3
    have HB03 := Lib.hid (HB02.out.trans (hb3.mono HB02.out.size))
    have HQ := Lib.hid (eqF_any v2 v3 u w3 (RR.below HR2.out hb3) hr3)
    clear hb3 hr3 hp3 e0 e1
    go_wp2_with fail
    refine HQ.out.mono ?_
    rintro e w4 ⟨rfl, hb4⟩
    have HB04 := Lib.hid (HB03.out.trans (hb4.mono HB03.out.size))
    clear hb4
    go_wp2_with fail
    refine (AW.out _).mono ?_
    rintro e w5 ⟨rfl, hb5⟩
    have HB05 := Lib.hid (HB0.out.trans ((HB04.out.trans (hb5.mono HB04.out.size)).mono HB0.out.size))
    clear hb5
    go_wp2
    go_ret
    exact ⟨rfl, HB05.out⟩
end Go.Proofs.YtefggpdobjboeaaGreat
