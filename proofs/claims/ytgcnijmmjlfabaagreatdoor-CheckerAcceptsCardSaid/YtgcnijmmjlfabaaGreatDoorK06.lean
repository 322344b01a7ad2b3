/- Contract of the checker's loses.
   Contract of the checker's fire.
   A list that is closed under neighbours, and grown from 0, has all vertices exactly if the graph is connected.
   Contracts of slices.Index, slices.Contains at ints, and of the checker's connected.
   Lists of decimal digits, the last digit first, and what they are worth. No program in sight.
   Contracts of the references' cut, digit, digits, order of decimal digits. -/
import Derived.Test.YtgcnijmmjlfabaaGreatDoorK05
set_option maxRecDepth 100000
set_option maxHeartbeats 16000000
namespace Go.Proofs.YtgcnijmmjlfabaaGreatDoor
open Go.RowKit Go.Shelf

theorem add_add' (a : Addr) (i j : Nat) : (a.add i).add j = a.add (i + j) := add_of_add a i j
/-- A part of a slice. -/
theorem RI.sub {w : World} {a : Addr} {n c : Nat} {l : List Int} (h : RI w (.slice (some a) n c) l) {i j : Nat} (hi : i ≤ j) (hj : j ≤ l.length) : RI w (.slice (some (a.add i)) (j - i) (c - i)) ((l.take j).drop i) := by
  obtain ⟨A, c', he, h2, h3, h4⟩ := RI.open_ h
  simp only [Value.slice.injEq] at he
  obtain ⟨rfl, rfl, rfl⟩ := he
  have e : ((l.take j).drop i).length = j - i := by simp; omega
  have key := RI.mk_ (w := w) (A := some (a.add i)) (c := c - i) (zs := (l.take j).drop i) (by omega) (by omega) fun k z hk => by
    have hk1 : k < j - i := by have := (List.getElem?_eq_some_iff.1 hk).1; omega
    obtain ⟨ad, y, hA, hadb, hy, hcl⟩ := h4 (i + k) (by omega)
    cases hA
    refine ⟨_, rfl, by rw [block_of_add]; exact hadb, ?_⟩
    rw [List.getElem?_drop, List.getElem?_take_of_lt (by omega), hy.out] at hk
    cases hk
    rw [add_add']; exact hcl
  rwa [e] at key
/-- What the checker answers to a proof that chips are not winnable. -/
def losesE (n : Nat) (es : List Tri) (d l : List Int) : Int :=
  if (l.length : Int) ≠ 2 * n then 8 else if (decide (0 ≤ l.getD 0 0) && decide (l.getD 0 0 < n)) = false then 2
  else if (decide ((appLk n es d ((l.take (1 + n)).drop 1)).getD (l.getD 0 0).toNat 0 < 0) && !debtB (appLk n es d ((l.take (1 + n)).drop 1)) (l.getD 0 0) && burnsB n es (l.getD 0 0).toNat (appLk n es d ((l.take (1 + n)).drop 1)) (l.drop (1 + n))) = true then 0 else 16
theorem RI.emp {W : World} {A : Option Addr} {k c m : Nat} {l : List Int} (h : l.length = m) (hm : m = 0) (hk : k = 0) : RI W (.slice A k c) l := by
  have : l = [] := List.eq_nil_of_length_eq_zero (by omega)
  subst this hk
  exact ⟨A, c, rfl, by simp, by simp, fun j hj => by simp at hj⟩
theorem appLk_len (n : Nat) (es : List Tri) (d s : List Int) : (appLk n es d s).length = n := by simp [appLk]
theorem Bd.sub {B : Int} {l : List Int} (h : Bd B l) (h0 : 0 ≤ B) (i j : Nat) : Bd B ((l.take j).drop i) := fun k => by
  rw [List.getD_eq_getElem?_getD, List.getElem?_drop]
  by_cases c : i + k < j
  · rw [List.getElem?_take_of_lt c, ← List.getD_eq_getElem?_getD]; exact h _
  · rw [List.getElem?_eq_none (by simp; omega)]; simp; omega
theorem kLoses_any (gv vd vl : Value) (n : Nat) (es : List Tri) (d l : List Int) (w : World) (hg : GX w gv n es) (hd : RI w vd d) (hl : RI w vl l) (hE : Edges n es) (hn1 : 1 ≤ n) (hn : n ≤ 12) (hdl : d.length = n) (hdb : Bd 20000000 d) (hlb : Bd 2000000 l) (hll : l.length ≤ 100000) :
    Calls Tryz.prog 70 #[gv, vd, vl] w fun e w' => e = .returned (.int .i64 (losesE n es d l)) ∧ Below w.heap.size w w' := by
  have HG := Lib.hid hg
  obtain ⟨b, vj, vv, rfl, hb, -, -⟩ := hg
  have c0 := hb.cell 0
  obtain ⟨A1, c1, rfl, -⟩ := hd.open_
  obtain ⟨A2, c2, rfl, hlc, -, hcl⟩ := hl.open_
  by_cases h2n : (l.length : Int) ≠ 2 * n
  · have HR : Hid (losesE n es d l = 8) := by show _ = _; unfold losesE; rw [if_pos h2n]
    have t : ((l.length : Int) != 2 * (n : Int)) = true := by simpa using h2n
    clear hd hl hb hcl hdb hlb hdl hE h2n
    go_enter Tryz.func70, Tryz.ntmps70
    go_wp2
    go_ret
    exact ⟨ret_i HR.out.symm, Below.refl _ _⟩
  · have h2n : l.length = 2 * n := by omega
    obtain ⟨adl, q, rfl, hqb, hq, hcq⟩ := hcl 0 (by omega)
    have hqq := getD_of' hq.out
    have hcq0 : w.cell? adl = some (.int .i64 q) := hcq
    have hV := kVertex_any (.pointer (some ⟨b, 0, none⟩)) n es q w HG.out
    have hs1 := RI.sub hl (i := 1) (j := 1 + n) (by omega) (by omega)
    have hs2 := RI.sub hl (i := 1 + n) (j := l.length) (by omega) (Nat.le_refl _)
    rw [List.take_of_length_le (Nat.le_refl _)] at hs2
    rw [show 1 + n - 1 = n by omega] at hs1
    rw [h2n] at hs2
    have hsl : ((l.take (1 + n)).drop 1).length = n := by simp; omega
    have hsb := hlb.sub (by decide) 1 (1 + n)
    have hApp := Lib.hid (kApp_any (.pointer (some ⟨b, 0, none⟩)) (.slice A1 d.length c1) (.slice (some (adl.add 1)) n (c2 - 1)) n es d _ w HG.out hd hs1 hE hn hdl hsl hdb hsb)
    rw [h2n] at hlc ⊢
    have hlen2 : (((2 * n : Nat) : Int) != 2 * (n : Int)) = false := by rw [bne_eq_false_iff_eq]; push_cast; rfl
    by_cases hvx : 0 ≤ q ∧ q < n
    · obtain ⟨qn, rfl⟩ : ∃ qn : Nat, q = qn := ⟨q.toNat, by omega⟩
      have hqn : qn < n := by omega
      rw [decide_eq_true hvx.1, decide_eq_true hvx.2] at hV
      have HV := Lib.hid hV
      have HSpec : Hid (losesE n es d l = if (decide ((appLk n es d ((l.take (1 + n)).drop 1)).getD qn 0 < 0) && !debtB (appLk n es d ((l.take (1 + n)).drop 1)) qn && burnsB n es qn (appLk n es d ((l.take (1 + n)).drop 1)) (l.drop (1 + n))) = true then 0 else 16) := by
        show _ = _
        unfold losesE
        rw [if_neg (by rw [h2n]; push_cast; omega), hqq, if_neg (by rw [decide_eq_true hvx.1, decide_eq_true hvx.2]; simp), Int.toNat_natCast]
      have hxl := appLk_len n es d ((l.take (1 + n)).drop 1)
      have hol : (l.drop (1 + n)).length = 2 * n - (1 + n) := by simp; omega
      have HOd := Lib.hid hol
      have HXl := Lib.hid hxl
      have HS2 := Lib.hid hs2
      have HPr : Hid (∀ (c : Bool) (W : World), Calls Tryz.prog 107 #[.bool c] W fun e w' => e = .returned (.int .i64 (if c then 0 else 16)) ∧ W = w') := fun c W => kProof_any c W
      have HBu : Hid (∀ (x : List Int) (vx vo : Value) (W : World), Below w.heap.size w W → RI W vx x → x.length = n → RI W vo (l.drop (1 + n)) → Calls Tryz.prog 111 #[.pointer (some ⟨b, 0, none⟩), .int .i64 (qn : Int), vx, vo] W fun e w' => e = .returned (.bool (burnsB n es qn x (l.drop (1 + n)))) ∧ Below W.heap.size W w') := fun x vx vo W h1 h2 h3 h4 =>
        kBurns_any _ vx vo n qn es x _ W (HG.out.below h1) h2 h4 hE hn hqn h3 (by omega)
      have HDe : Hid (∀ (x : List Int) (vx : Value) (W : World), RI W vx x → x.length = n → Calls Tryz.prog 110 #[vx, .int .i64 (qn : Int)] W fun e w' => e = .returned (.bool (debtB x qn)) ∧ W = w') := fun x vx W h1 h2 => kDebt_any vx x qn W h1 (by omega)
      have HBl := Lib.hid hb
      clear hd hl hcl hdb hlb hdl hE hV hvx hcq hs1 hs2 hsl hsb hqb hq hqq hb hol hll
      generalize appLk n es d ((l.take (1 + n)).drop 1) = x at *
      generalize l.drop (1 + n) = od at *
      go_enter Tryz.func70, Tryz.ntmps70
      go_wp2_with fail
      refine HV.out.mono ?_
      rintro e w1 ⟨rfl, rfl⟩
      go_wp2_with fail
      refine hApp.out.mono ?_
      rintro e w2 ⟨v2, rfl, hox, hb2⟩
      obtain ⟨gx, capx, rfl, hgB, x1, -, -⟩ := OI.at_ hox (k := qn) (by rw [hxl]; exact hqn)
      rw [hxl] at hox ⊢
      have HB2 := Lib.hid hb2
      have HRx : Hid (RI w2 (.slice (some ⟨gx, 0, none⟩) n capx) x) := hox.rv
      have HD2 := Lib.hid (HDe.out x _ w2 HRx.out hxl)
      have d0 := (HBl.out.bel hb2).cell 0
      clear hox hb2 hxl c0
      generalize x.getD qn 0 = z at *
      by_cases hz : z < 0
      · rw [decide_eq_true hz, Bool.true_and] at HSpec
        go_wp2_with fail
        refine HD2.out.mono ?_
        rintro e w3 ⟨rfl, rfl⟩
        generalize debtB x qn = db at *
        have HBx := Lib.hid (HBu.out x)
        cases db
        · have HSp : Hid (losesE n es d l = if burnsB n es qn x od = true then 0 else 16) := by show _ = _; rw [HSpec.out]; rfl
          clear HSpec
          generalize burnsB n es qn x od = bo at *
          go_wp2_with fail
          all_goals
            first
            | (with_reducible refine (HBx.out _ _ w2 HB2.out HRx.out HXl.out (RI.below HS2.out HB2.out)).mono ?_)
            | (with_reducible refine (HBx.out _ _ w2 HB2.out HRx.out HXl.out (RI.emp HOd.out (by omega) (by omega))).mono ?_)
            rintro e w4 ⟨rfl, hb4⟩
            have HB4 := Lib.hid (HB2.out.trans (hb4.mono HB2.out.size))
            clear hb4
            cases bo
            · go_wp2_with fail
              refine (HPr.out _ _).mono ?_
              rintro e w5 ⟨rfl, rfl⟩
              go_wp2
              go_ret
              exact ⟨ret_i (by rw [HSp.out] <;> rfl), HB4.out⟩
            · go_wp2_with fail
              refine (HPr.out _ _).mono ?_
              rintro e w5 ⟨rfl, rfl⟩
              go_wp2
              go_ret
              exact ⟨ret_i (by rw [HSp.out] <;> rfl), HB4.out⟩
        · have HSp : Hid (losesE n es d l = 16) := by show _ = _; rw [HSpec.out]; rfl
          clear HSpec
          go_wp2_with fail
          refine (HPr.out _ _).mono ?_
          rintro e w5 ⟨rfl, rfl⟩
          go_wp2
          go_ret
          exact ⟨ret_i (by rw [HSp.out] <;> rfl), HB2.out⟩
      · have HSp : Hid (losesE n es d l = 16) := by show _ = _; rw [HSpec.out, decide_eq_false hz]; rfl
        clear HSpec
        go_wp2_with fail
        refine (HPr.out _ _).mono ?_
        rintro e w5 ⟨rfl, rfl⟩
        go_wp2
        go_ret
        exact ⟨ret_i (by rw [HSp.out] <;> rfl), HB2.out⟩
    · have hvf : (decide (0 ≤ q) && decide (q < (n : Int))) = false := by
        by_cases h1 : 0 ≤ q
        · rw [decide_eq_false (show ¬ q < (n : Int) from fun h2 => hvx ⟨h1, h2⟩), Bool.and_false]
        · rw [decide_eq_false h1, Bool.false_and]
      have HR : Hid (losesE n es d l = 2) := by show _ = _; unfold losesE; rw [if_neg (by rw [h2n]; push_cast; omega), hqq, if_pos hvf]
      rw [hvf] at hV
      have HV := Lib.hid hV
      clear hd hl hcl hdb hlb hdl hE hV hvx hvf hcq hs1 hs2 hsl hsb hqb hq hqq hb h2n hll
      go_enter Tryz.func70, Tryz.ntmps70
      go_wp2_with fail
      refine HV.out.mono ?_
      rintro e w1 ⟨rfl, rfl⟩
      go_wp2
      go_ret
      exact ⟨ret_i HR.out.symm, Below.refl _ _⟩
end Go.Proofs.YtgcnijmmjlfabaaGreatDoor

namespace Go.Proofs.YtgcnijmmjlfabaaGreatDoor
open Go.RowKit Go.Shelf

/-- What the checker answers to a burning order for a claim. -/
def fireE (n : Nat) (es : List Tri) (q : Nat) (a d pf : List Int) : Int :=
  if (pf.length : Int) ≠ n - 1 then 8 else if (decide (a.getD q 0 = 0) && !debtB a q && !debtB d q && burnsB n es q d pf) = true then 0 else 16
theorem kFire_any (gv va vb vf vp vd : Value) (n q : Nat) (nn : Int) (es : List Tri) (a d pf : List Int) (w : World) (hg : GX w gv n es) (ha : RI w va a) (hp : RI w vp pf) (hd : RI w vd d) (hE : Edges n es) (hn : n ≤ 12) (hq : q < n) (hal : a.length = n) (hdl : d.length = n) (hpl : pf.length ≤ 100000) :
    Calls Tryz.prog 74 #[gv, .agg #[.int .i64 (q : Int), .int .i64 nn, va, vb, vf, vp], vd] w fun e w' => e = .returned (.int .i64 (fireE n es q a d pf)) ∧ Below w.heap.size w w' := by
  obtain ⟨Ap, cp, rfl, -⟩ := hp.open_
  obtain ⟨Aa, ca, rfl, -⟩ := ha.open_
  obtain ⟨Ad, cd, rfl, -⟩ := hd.open_
  rw [hal] at ha ⊢
  rw [hdl] at hd ⊢
  obtain ⟨W0, hW0⟩ : ∃ W0, W0 = w.alloc (.cells #[.int .i64 (q : Int), .int .i64 nn, .slice Aa n ca, vb, vf, .slice Ap pf.length cp] 87) := ⟨_, rfl⟩
  have hb0 : Below w.heap.size w W0 := by rw [hW0]; exact below_alloc w _
  have hbx : BL W0 w.heap.size 87 [.int .i64 (q : Int), .int .i64 nn, .slice Aa n ca, vb, vf, .slice Ap pf.length cp] := by rw [hW0]; exact BL.new' w _ _
  have HG := Lib.hid (hg.below hb0)
  have hgw := hg.below hb0
  obtain ⟨b, vj, vv, rfl, hb, -, -⟩ := hgw
  have g0 := hb.cell 0
  have x0 := hbx.cell 0
  have x2 := hbx.cell 2
  have x5 := hbx.cell 5
  have HA := Lib.hid (RI.below ha hb0)
  have HP := Lib.hid (RI.below hp hb0)
  have HD := Lib.hid (RI.below hd hb0)
  have HB0 := Lib.hid hb0
  have HW0 := Lib.hid hW0
  have HX := Lib.hid hbx
  obtain ⟨A9, c9, he9, -, -, hca⟩ := HA.out.open_
  simp only [Value.slice.injEq] at he9
  obtain ⟨rfl, -, rfl⟩ := he9
  obtain ⟨ad, z, rfl, -, hz, hcz⟩ := hca q (by omega)
  have hzz := getD_of' hz.out
  have HDa : Hid (∀ W : World, Below W0.heap.size W0 W → Calls Tryz.prog 110 #[.slice (some ad) n ca, .int .i64 (q : Int)] W fun e w' => e = .returned (.bool (debtB a q)) ∧ W = w') := fun W h => kDebt_any _ a q W (RI.below HA.out h) (by omega)
  have HDd : Hid (∀ W : World, Below W0.heap.size W0 W → Calls Tryz.prog 110 #[.slice Ad n cd, .int .i64 (q : Int)] W fun e w' => e = .returned (.bool (debtB d q)) ∧ W = w') := fun W h => kDebt_any _ d q W (RI.below HD.out h) (by omega)
  have HBu : Hid (∀ W : World, Below W0.heap.size W0 W → Calls Tryz.prog 111 #[.pointer (some ⟨b, 0, none⟩), .int .i64 (q : Int), .slice Ad n cd, .slice Ap pf.length cp] W fun e w' => e = .returned (.bool (burnsB n es q d pf)) ∧ Below W.heap.size W w') := fun W h => kBurns_any _ _ _ n q es d pf W (HG.out.below h) (RI.below HD.out h) (RI.below HP.out h) hE hn hq hdl hpl
  have HPr : Hid (∀ (c : Bool) (W : World), Calls Tryz.prog 107 #[.bool c] W fun e w' => e = .returned (.int .i64 (if c then 0 else 16)) ∧ W = w') := fun c W => kProof_any c W
  have HSpec : Hid (fireE n es q a d pf = if (pf.length : Int) ≠ n - 1 then 8 else if (decide (z = 0) && !debtB a q && !debtB d q && burnsB n es q d pf) = true then 0 else 16) := by show _ = _; unfold fireE; rw [hzz]
  clear ha hp hd hE hal hdl hb hbx hb0 hW0 hg hca hz hzz
  go_enter Tryz.func74, Tryz.ntmps74
  by_cases hpn : (pf.length : Int) = n - 1
  · have t : ((pf.length : Int) != (n : Int) - 1) = false := by simpa using hpn
    rw [if_neg (by omega)] at HSpec
    clear hpn
    go_wp2_with fail
    rw [← HW0.out]
    go_quiet (fail)
    have HBz := Lib.hid (below_drewN (Below.refl W0.heap.size W0) nq)
    have HBf := Lib.hid (HB0.out.trans (HBz.out.mono HB0.out.size))
    by_cases hz0 : z = 0
    · subst hz0
      rw [decide_eq_true rfl, Bool.true_and] at HSpec
      go_wp2_with fail
      refine (HDa.out _ HBz.out).mono ?_
      rintro e w3 ⟨rfl, rfl⟩
      generalize debtB a q = da at *
      cases da
      · simp only [Bool.not_false, Bool.true_and] at HSpec
        go_wp2_with fail
        refine (HDd.out _ HBz.out).mono ?_
        rintro e w3 ⟨rfl, rfl⟩
        generalize debtB d q = dd at *
        cases dd
        · simp only [Bool.not_false, Bool.true_and] at HSpec
          go_wp2_with fail
          refine (HBu.out _ HBz.out).mono ?_
          rintro e w3 ⟨rfl, hb3⟩
          have HBf := Lib.hid (HB0.out.trans ((HBz.out.trans (hb3.mono HBz.out.size)).mono HB0.out.size))
          clear hb3
          generalize burnsB n es q d pf = bo at *
          cases bo
          · go_wp2_with fail
            refine (HPr.out _ _).mono ?_
            rintro e w5 ⟨rfl, rfl⟩
            go_wp2
            go_ret
            exact ⟨ret_i (by rw [HSpec.out] <;> rfl), HBf.out⟩
          · go_wp2_with fail
            refine (HPr.out _ _).mono ?_
            rintro e w5 ⟨rfl, rfl⟩
            go_wp2
            go_ret
            exact ⟨ret_i (by rw [HSpec.out] <;> rfl), HBf.out⟩
        · simp only [Bool.not_true, Bool.false_and] at HSpec
          go_wp2_with fail
          refine (HPr.out _ _).mono ?_
          rintro e w5 ⟨rfl, rfl⟩
          go_wp2
          go_ret
          exact ⟨ret_i (by rw [HSpec.out] <;> rfl), HBf.out⟩
      · simp only [Bool.not_true, Bool.false_and] at HSpec
        go_wp2_with fail
        refine (HPr.out _ _).mono ?_
        rintro e w5 ⟨rfl, rfl⟩
        go_wp2
        go_ret
        exact ⟨ret_i (by rw [HSpec.out] <;> rfl), HBf.out⟩
    · rw [decide_eq_false hz0] at HSpec
      simp only [Bool.false_and] at HSpec
      go_wp2_with fail
      refine (HPr.out _ _).mono ?_
      rintro e w5 ⟨rfl, rfl⟩
      go_wp2
      go_ret
      exact ⟨ret_i (by rw [HSpec.out] <;> rfl), HBf.out⟩
  · have t : ((pf.length : Int) != (n : Int) - 1) = true := by simpa using hpn
    have HR : Hid (fireE n es q a d pf = 8) := by show _ = _; rw [HSpec.out, if_pos hpn]
    clear hpn
    go_wp2_with fail
    rw [← HW0.out]
    go_quiet (fail)
    go_wp2
    go_ret
    exact ⟨ret_i HR.out.symm, below_drewN HB0.out _⟩
end Go.Proofs.YtgcnijmmjlfabaaGreatDoor

namespace Go.Proofs.YtgcnijmmjlfabaaGreatDoor

/-- What holds of the list of vertices that were seen, the first i of which were looked at. -/
def SeenI (n : Nat) (w : Nat → Nat → Int) (i : Nat) (l : List Nat) : Prop :=
  l.Nodup ∧ (∀ x ∈ l, x < n) ∧ 0 ∈ l ∧ (∀ P : Nat → Bool, P 0 = true → (∀ u v, u < n → v < n → P u = true → 0 < w u v → P v = true) → ∀ x ∈ l, P x = true) ∧ ∀ j, j < i → ∀ v, v < n → 0 < w (l.getD j 0) v → v ∈ l
/-- The same, and of the next one the first k neighbours were looked at. -/
def SeenP (n : Nat) (w : Nat → Nat → Int) (i k : Nat) (l : List Nat) : Prop :=
  SeenI n w i l ∧ ∀ v, v < k → 0 < w (l.getD i 0) v → v ∈ l
theorem SeenI.start {n : Nat} {w : Nat → Nat → Int} (hn : 1 ≤ n) : SeenI n w 0 [0] :=
  ⟨by simp, by intro x hx; simp at hx; omega, by simp, fun P h0 _ x hx => by simp at hx; rw [hx]; exact h0, fun j hj => absurd hj (Nat.not_lt_zero j)⟩
theorem SeenI.begin {n : Nat} {w : Nat → Nat → Int} {i : Nat} {l : List Nat} (h : SeenI n w i l) : SeenP n w i 0 l := ⟨h, fun v hv => absurd hv (Nat.not_lt_zero v)⟩
theorem SeenP.done {n : Nat} {w : Nat → Nat → Int} {i : Nat} {l : List Nat} (h : SeenP n w i n l) : SeenI n w (i + 1) l := by
  obtain ⟨⟨h1, h2, h3, h4, h5⟩, h6⟩ := h
  refine ⟨h1, h2, h3, h4, fun j hj v hv hp => ?_⟩
  by_cases he : j = i
  · rw [he] at hp; exact h6 v hv hp
  · exact h5 j (by omega) v hv hp
theorem SeenP.keep {n : Nat} {w : Nat → Nat → Int} {i k : Nat} {l : List Nat} (h : SeenP n w i k l) (hk : 0 < w (l.getD i 0) k → k ∈ l) : SeenP n w i (k + 1) l := by
  refine ⟨h.1, fun v hv hp => ?_⟩
  by_cases he : v = k
  · rw [he] at hp ⊢; exact hk hp
  · exact h.2 v (by omega) hp
theorem getD_app {l : List Nat} {i : Nat} (h : i < l.length) (r : List Nat) : (l ++ r).getD i 0 = l.getD i 0 := by
  rw [List.getD_eq_getElem?_getD, List.getD_eq_getElem?_getD, List.getElem?_append_left h]
theorem SeenP.more {n : Nat} {w : Nat → Nat → Int} {i k : Nat} {l : List Nat} (h : SeenP n w i k l) (hi : i < l.length) (hkn : k < n) (hk : 0 < w (l.getD i 0) k) (hm : ¬ k ∈ l) : SeenP n w i (k + 1) (l ++ [k]) := by
  obtain ⟨⟨h1, h2, h3, h4, h5⟩, h6⟩ := h
  have hil : l.getD i 0 ∈ l := by
    rw [List.getD_eq_getElem?_getD, List.getElem?_eq_getElem hi]; exact List.getElem_mem hi
  refine ⟨⟨?_, ?_, by simp [h3], ?_, ?_⟩, ?_⟩
  · rw [List.nodup_append]
    refine ⟨h1, by simp, ?_⟩
    intro a ha b hb
    simp at hb
    rintro rfl
    exact hm (hb ▸ ha)
  · intro x hx
    rcases List.mem_append.1 hx with hx | hx
    · exact h2 x hx
    · simp at hx; omega
  · intro P h0 hP x hx
    rcases List.mem_append.1 hx with hx | hx
    · exact h4 P h0 hP x hx
    · simp at hx
      rw [hx]
      exact hP _ _ (h2 _ hil) hkn (h4 P h0 hP _ hil) hk
  · intro j hj v hv hp
    rw [getD_app (by omega)] at hp
    exact List.mem_append_left _ (h5 j hj v hv hp)
  · intro v hv hp
    rw [getD_app hi] at hp
    by_cases he : v = k
    · rw [he]; simp
    · exact List.mem_append_left _ (h6 v (by omega) hp)
theorem SeenI.le {n : Nat} {w : Nat → Nat → Int} {i : Nat} {l : List Nat} (h : SeenI n w i l) : l.length ≤ n := by
  have := List.Nodup.length_le_of_subset h.1 (l₂ := List.range n) (fun x hx => List.mem_range.2 (h.2.1 x hx))
  simpa using this
theorem SeenI.conn {n : Nat} {w : Nat → Nat → Int} {l : List Nat} (hs : ∀ v u, w v u = w u v) (h : SeenI n w l.length l) : l.length = n ↔ Conn n w := by
  have hle := h.le
  obtain ⟨h1, h2, h3, h4, h5⟩ := h
  constructor
  · intro hl A hA hB
    have hall : ∀ v, v < n → v ∈ l := by
      intro v hv
      apply Classical.byContradiction
      intro hc
      have := List.Nodup.length_le_of_subset (l₁ := v :: l) (l₂ := List.range n) (by rw [List.nodup_cons]; exact ⟨hc, h1⟩) (fun x hx => by
        rcases List.mem_cons.1 hx with rfl | hx
        · exact List.mem_range.2 hv
        · exact List.mem_range.2 (h2 x hx))
      simp at this
      omega
    obtain ⟨a, ha, hAa⟩ := hA
    obtain ⟨b, hb, hAb⟩ := hB
    apply Classical.byContradiction
    intro hno
    cases h0 : A 0
    · have := h4 (fun x => !A x) (by simp [h0]) (fun u v hu hv hu2 hp => by
        cases hv2 : A v
        · rfl
        · exfalso
          refine hno ⟨v, u, hv, hu, hv2, by simpa using hu2, ?_⟩
          rw [hs v u]; exact hp) a (hall a ha)
      simp [hAa] at this
    · have := h4 A h0 (fun u v hu hv hu2 hp => by
        cases hv2 : A v
        · exfalso
          exact hno ⟨u, v, hu, hv, hu2, hv2, hp⟩
        · rfl) b (hall b hb)
      simp [hAb] at this
  · intro hc
    refine Nat.le_antisymm hle ?_
    have hsub : ∀ v, v < n → v ∈ l := by
      intro v hv
      apply Classical.byContradiction
      intro hno
      obtain ⟨x, y, hx, hy, hAx, hAy, hp⟩ := hc (fun v => decide (v ∈ l)) ⟨0, by have := h2 0 h3; omega, by simpa using h3⟩ ⟨v, hv, by simpa using hno⟩
      simp only [decide_eq_true_eq, decide_eq_false_iff_not] at hAx hAy
      obtain ⟨j, hj, hje⟩ := List.mem_iff_getElem.1 hAx
      refine hAy (h5 j hj y hy ?_)
      rw [List.getD_eq_getElem?_getD, List.getElem?_eq_getElem hj, Option.getD_some, hje]
      exact hp
    have := List.Nodup.length_le_of_subset (l₁ := List.range n) (l₂ := l) List.nodup_range (fun x hx => hsub x (List.mem_range.1 hx))
    simpa using this
end Go.Proofs.YtgcnijmmjlfabaaGreatDoor

namespace Go.Proofs.YtgcnijmmjlfabaaGreatDoor
open Go.RowKit Go.Shelf

/-- The first place of a number. -/
def idxI (v : Int) : List Int → Int
  | [] => -1
  | z :: r => if v = z then 0 else if idxI v r < 0 then -1 else idxI v r + 1
theorem idxI_any (v : Int) (l : List Int) : decide (0 ≤ idxI v l) = decide (v ∈ l) := by
  induction l with
  | nil => simp [idxI]
  | cons z r ih =>
    rw [decide_eq_decide] at ih
    rw [decide_eq_decide, List.mem_cons, idxI]
    by_cases hp : v = z
    · simp [hp]
    · rw [if_neg hp]
      simp only [hp, false_or, ← ih]
      split <;> omega
theorem idxI_lo (v : Int) (l : List Int) : -1 ≤ idxI v l := by
  induction l with
  | nil => exact Int.le_refl _
  | cons z r ih => simp only [idxI]; split <;> (try split) <;> omega
theorem IndexI_any (va : Value) (xs : List Int) (v : Int) (w : World) (ha : RI w va xs) (hl : xs.length ≤ 100000) :
    Calls Tryz.prog 103 #[va, .int .i64 v] w fun e w' => e = .returned (.int .i64 (idxI v xs)) ∧ w = w' := by
  obtain ⟨A, c, rfl, hlc, hc, hcell⟩ := ha.open_
  have HA := Lib.hid hcell
  clear hcell ha
  go_enter Tryz.func103, Tryz.ntmps103
  go_wp2
  go_loop [8] (fun i => ∃ k : Nat, k ≤ xs.length ∧ i = .int .i64 k ∧ Hid (idxI v xs = if idxI v (xs.drop k) < 0 then -1 else idxI v (xs.drop k) + k)) (fun i => xs.length - (intOf i).toNat)
  case atStart => exact ⟨0, Nat.zero_le _, rfl, by show _ = _; have := idxI_lo v xs; simp only [List.drop_zero]; split <;> omega⟩
  case round =>
    obtain ⟨k, hk, rfl, he⟩ := hrel
    by_cases hlt : k < xs.length
    · obtain ⟨ad, z, rfl, _, hz, hcl⟩ := HA.out k hlt
      have HDr := Lib.hid (drop_at hz)
      have h := he.out
      rw [HDr.out] at h
      clear HA
      by_cases hb : v = z
      · simp only [idxI, hb, if_true] at h
        have HR : Hid ((k : Int) = idxI v xs) := by show _ = _; rw [hb, h]; simp
        subst hb
        clear h
        go_wp2
        go_ret
        exact ⟨ret_i HR.out, rfl⟩
      · simp only [idxI, hb, if_false] at h
        have hlo := idxI_lo v (xs.drop (k + 1))
        have HN : Hid (idxI v xs = if idxI v (xs.drop (k + 1)) < 0 then -1 else idxI v (xs.drop (k + 1)) + (k + 1 : Nat)) := by
          show _ = _
          rw [h]
          by_cases c1 : idxI v (xs.drop (k + 1)) < 0
          · simp [c1]
          · rw [if_neg c1, if_neg c1, if_neg (by omega)]; push_cast; omega
        clear h hlo
        go_wp2
        go_round
        case rel => exact ⟨k + 1, by omega, by go_num, HN.out⟩
        case measure => simp [intOf]; omega
    · have h := he.out
      rw [List.drop_of_length_le (by omega)] at h
      have HR : Hid ((-1 : Int) = idxI v xs) := by show _ = _; rw [h]; simp [idxI]
      clear h
      go_wp2
      go_ret
      exact ⟨ret_i HR.out, rfl⟩
theorem ContainsI_any (va : Value) (xs : List Int) (v : Int) (w : World) (ha : RI w va xs) (hl : xs.length ≤ 100000) :
    Calls Tryz.prog 61 #[va, .int .i64 v] w fun e w' => e = .returned (.bool (decide (v ∈ xs))) ∧ w = w' := by
  have HI := Lib.hid (IndexI_any va xs v w ha hl)
  have HE := Lib.hid (idxI_any v xs)
  obtain ⟨A, c, rfl, hlc, hc, -⟩ := ha.open_
  clear ha
  go_enter Tryz.func61, Tryz.ntmps61
  go_wp2_with (refine HI.out.mono ?_; rintro e w' ⟨rfl, rfl⟩)
  go_ret
  exact ⟨ret_b HE.out, rfl⟩
end Go.Proofs.YtgcnijmmjlfabaaGreatDoor

namespace Go.Proofs.YtgcnijmmjlfabaaGreatDoor
open Go.RowKit Go.Shelf

def p10 : Nat → Int
  | 0 => 1
  | k + 1 => 10 * p10 k
theorem p10_pos (k : Nat) : 1 ≤ p10 k := by
  induction k with
  | zero => simp [p10]
  | succ k ih => rw [p10]; omega
theorem p10_mono {a b : Nat} (h : a ≤ b) : p10 a ≤ p10 b := by
  induction b with
  | zero => rw [show a = 0 by omega]; exact Int.le_refl _
  | succ b ih =>
    by_cases e : a = b + 1
    · rw [e]; exact Int.le_refl _
    · have := ih (by omega)
      have := p10_pos b
      rw [p10]; omega
def dval : List Int → Int
  | [] => 0
  | d :: r => d + 10 * dval r
def Dig (l : List Int) : Prop := ∀ k, 0 ≤ l.getD k 0 ∧ l.getD k 0 ≤ 9
def Can (l : List Int) : Prop := l = [] ∨ l.getD (l.length - 1) 0 ≠ 0
theorem Dig.tail {d : Int} {r : List Int} (h : Dig (d :: r)) : (0 ≤ d ∧ d ≤ 9) ∧ Dig r := ⟨by simpa using h 0, fun k => by simpa using h (k + 1)⟩
theorem dig_nil : Dig [] := fun k => by simp
theorem Dig.snoc {l : List Int} {d : Int} (h : Dig l) (h0 : 0 ≤ d) (h9 : d ≤ 9) : Dig (l ++ [d]) := fun k => by
  rcases Nat.lt_trichotomy k l.length with c | c | c
  · rw [List.getD_eq_getElem?_getD, List.getElem?_append_left c, ← List.getD_eq_getElem?_getD]; exact h k
  · rw [List.getD_eq_getElem?_getD, List.getElem?_append_right (by omega), c]; simp; omega
  · rw [List.getD_eq_getElem?_getD, List.getElem?_append_right (by omega), List.getElem?_eq_none (by simp; omega)]; simp
theorem Dig.take {l : List Int} (h : Dig l) (n : Nat) : Dig (l.take n) := fun k => by
  by_cases c : k < n
  · rw [List.getD_eq_getElem?_getD, List.getElem?_take_of_lt c, ← List.getD_eq_getElem?_getD]; exact h k
  · rw [List.getD_eq_getElem?_getD, List.getElem?_eq_none (by simp; omega)]; simp
theorem Dig.drop {l : List Int} (h : Dig l) (n : Nat) : Dig (l.drop n) := fun k => by
  rw [List.getD_eq_getElem?_getD, List.getElem?_drop, ← List.getD_eq_getElem?_getD]; exact h _
theorem dval_bd {l : List Int} (h : Dig l) : 0 ≤ dval l ∧ dval l < p10 l.length := by
  induction l with
  | nil => simp [dval, p10]
  | cons d r ih =>
    obtain ⟨h1, h2⟩ := h.tail
    have := ih h2
    simp only [dval, List.length_cons, p10]
    omega
theorem dval_append (a b : List Int) : dval (a ++ b) = dval a + p10 a.length * dval b := by
  induction a with
  | nil => simp [dval, p10]
  | cons d r ih => simp only [List.cons_append, dval, ih, List.length_cons, p10]; grind
theorem dval_snoc (l : List Int) (d : Int) : dval (l ++ [d]) = dval l + p10 l.length * d := by rw [dval_append]; simp [dval]
theorem dval_split (l : List Int) {k : Nat} (hk : k ≤ l.length) : dval l = dval (l.take k) + p10 k * dval (l.drop k) := by
  have := dval_append (l.take k) (l.drop k)
  rw [List.take_append_drop, List.length_take, Nat.min_eq_left hk] at this
  exact this
theorem dval_take_succ (l : List Int) (k : Nat) : dval (l.take (k + 1)) = dval (l.take k) + p10 k * l.getD k 0 := by
  by_cases c : k < l.length
  · rw [List.take_add_one, List.getElem?_eq_getElem c, List.getD_eq_getElem?_getD, List.getElem?_eq_getElem c]
    show dval (l.take k ++ [l[k]]) = _
    rw [dval_snoc, List.length_take, Nat.min_eq_left (by omega)]; rfl
  · rw [List.take_of_length_le (by omega), List.take_of_length_le (by omega), List.getD_eq_getElem?_getD, List.getElem?_eq_none (by omega)]; simp
theorem dval_zeros (n : Nat) : dval (List.replicate n 0) = 0 := by
  induction n with
  | zero => rfl
  | succ n ih => rw [List.replicate_succ, dval, ih]; rfl
theorem can_ge {l : List Int} (h : Dig l) (hc : Can l) (hl : l ≠ []) : p10 (l.length - 1) ≤ dval l := by
  have hlen : 0 < l.length := List.length_pos_iff.2 hl
  have h1 := dval_split l (k := l.length - 1) (by omega)
  have h2 := (dval_bd (h.take (l.length - 1))).1
  have h3 : l.drop (l.length - 1) = [l.getD (l.length - 1) 0] := by
    rw [List.drop_eq_getElem_cons (by omega), List.drop_eq_nil_of_le (by omega), List.getD_eq_getElem?_getD, List.getElem?_eq_getElem (by omega)]; rfl
  have h4 := h (l.length - 1)
  have h5 : l.getD (l.length - 1) 0 ≠ 0 := by
    rcases hc with hc | hc
    · exact absurd hc hl
    · exact hc
  rw [h3] at h1
  simp only [dval] at h1
  generalize l.getD (l.length - 1) 0 = z at *
  have h6 := Int.mul_le_mul_of_nonneg_left (show (1 : Int) ≤ z + 10 * 0 by omega) (show 0 ≤ p10 (l.length - 1) by have := p10_pos (l.length - 1); omega)
  omega
theorem can_len {l : List Int} (h : Dig l) (hc : Can l) {k : Nat} (hk : dval l < p10 k) : l.length ≤ k := by
  by_cases e : l = []
  · rw [e]; simp
  · have h1 := can_ge h hc e
    apply Classical.byContradiction
    intro hn
    have := p10_mono (a := k) (b := l.length - 1) (by omega)
    omega
theorem can_nil {l : List Int} (h : Dig l) (hc : Can l) (h0 : dval l = 0) : l = [] := by
  have := can_len h hc (k := 0) (by rw [h0]; decide)
  exact List.eq_nil_of_length_eq_zero (by omega)
theorem can_of_ge {l : List Int} (h : Dig l) (hl : l ≠ []) (hv : p10 (l.length - 1) ≤ dval l) : Can l := by
  refine .inr fun h0 => ?_
  have hlen : 0 < l.length := List.length_pos_iff.2 hl
  have h1 := dval_take_succ l (l.length - 1)
  rw [show l.length - 1 + 1 = l.length by omega, List.take_of_length_le (Nat.le_refl _), h0] at h1
  have h2 := (dval_bd (h.take (l.length - 1))).2
  rw [List.length_take, Nat.min_eq_left (by omega)] at h2
  simp at h1
  omega
/-- What cut leaves: zeros at the end left out. -/
theorem cut_ok {l : List Int} (h : Dig l) {n : Nat} (hn : n ≤ l.length) (hz : ∀ i, n ≤ i → l.getD i 0 = 0) (hl : n = 0 ∨ l.getD (n - 1) 0 ≠ 0) : Dig (l.take n) ∧ Can (l.take n) ∧ dval (l.take n) = dval l ∧ (l.take n).length = n := by
  have hlen : (l.take n).length = n := by rw [List.length_take, Nat.min_eq_left hn]
  refine ⟨h.take n, ?_, ?_, hlen⟩
  · rcases hl with rfl | hl
    · exact .inl (by simp)
    · by_cases c : n = 0
      · exact .inl (by rw [c]; simp)
      · refine .inr ?_
        rw [hlen, List.getD_eq_getElem?_getD, List.getElem?_take_of_lt (by omega), ← List.getD_eq_getElem?_getD]; exact hl
  · have h1 := dval_split l hn
    have h2 : dval (l.drop n) = 0 := by
      have e : l.drop n = List.replicate (l.length - n) 0 := by
        refine List.eq_replicate_iff.2 ⟨by simp, fun b hb => ?_⟩
        obtain ⟨k, hk, rfl⟩ := List.mem_iff_getElem.1 hb
        have h3 := hz (n + k) (by omega)
        simp only [List.length_drop] at hk
        rw [List.getD_eq_getElem?_getD, List.getElem?_eq_getElem (by omega)] at h3
        rw [List.getElem_drop]; exact h3
      rw [e, dval_zeros]
    rw [h2, Int.mul_zero] at h1
    omega
theorem cut_same {l : List Int} (hc : Can l) {n : Nat} (hn : n ≤ l.length) (hz : ∀ i, n ≤ i → l.getD i 0 = 0) : n = l.length := by
  rcases hc with rfl | hc
  · simp at hn ⊢; exact hn
  · apply Classical.byContradiction
    intro h
    exact hc (hz _ (by omega))
theorem ord_lt {a b : List Int} (ha : Dig a) (hb : Dig b) {i : Nat} (hl : a.length = b.length) (hi : i < a.length) (hd : a.drop (i + 1) = b.drop (i + 1)) (h : a.getD i 0 < b.getD i 0) : dval a < dval b := by
  have h1 := dval_split a (k := i + 1) (by omega)
  have h2 := dval_split b (k := i + 1) (by omega)
  rw [dval_take_succ] at h1 h2
  rw [← hd] at h2
  have h3 := dval_bd (ha.take i)
  have h4 := dval_bd (hb.take i)
  rw [List.length_take, Nat.min_eq_left (by omega)] at h3 h4
  have h5 := Int.mul_le_mul_of_nonneg_left (show a.getD i 0 + 1 ≤ b.getD i 0 by omega) (show 0 ≤ p10 i by have := p10_pos i; omega)
  rw [Int.mul_add] at h5
  omega
theorem len_lt {a b : List Int} (ha : Dig a) (hb : Dig b) (hc : Can b) (h : a.length < b.length) : dval a < dval b := by
  have h1 := (dval_bd ha).2
  have h2 := can_ge hb hc (by intro e; rw [e] at h; simp at h)
  have h3 := p10_mono (a := a.length) (b := b.length - 1) (by omega)
  omega
/-- Text of digits. -/
def chrs (l : List Int) : List UInt8 := l.reverse.map fun d => UInt8.ofNat (48 + d).toNat
def textL (l : List Int) (m : Bool) : List UInt8 := if l = [] then [48] else if m then 45 :: chrs l else chrs l
def sgZ (l : List Int) (m : Bool) : Int := if m then - dval l else dval l
/-- A value that is the text of a canonical integer. -/
def ZS (v : Value) (z : Int) : Prop := ∃ (l : List Int) (m : Bool), v = .string ⟨(textL l m).toArray⟩ ∧ Dig l ∧ Can l ∧ (l = [] → m = false) ∧ z = sgZ l m
/-- The digits in a text, as they are read. -/
def digR (bs : List UInt8) : List Int := (bs.reverse.filter fun b => b != 45).map fun b => (b.toNat : Int) - 48
theorem digR_cons (b : UInt8) (bs : List UInt8) : digR (b :: bs) = if b = 45 then digR bs else digR bs ++ [(b.toNat : Int) - 48] := by
  unfold digR
  rw [List.reverse_cons, List.filter_append]
  by_cases c : b = 45
  · rw [if_pos c]; simp [c]
  · rw [if_neg c]; simp [c]
theorem chr_nat {d : Int} (h0 : 0 ≤ d) (h9 : d ≤ 9) : (UInt8.ofNat (48 + d).toNat).toNat = (48 + d).toNat := by
  rw [UInt8.toNat_ofNat']; exact Nat.mod_eq_of_lt (by omega)
theorem chr_ne {d : Int} (h0 : 0 ≤ d) (h9 : d ≤ 9) : UInt8.ofNat (48 + d).toNat ≠ 45 := fun e => by
  have := congrArg UInt8.toNat e
  rw [chr_nat h0 h9] at this
  have h45 : (45 : UInt8).toNat = 45 := rfl
  omega
theorem Dig.mem {l : List Int} (h : Dig l) {d : Int} (hd : d ∈ l) : 0 ≤ d ∧ d ≤ 9 := by
  obtain ⟨k, hk, rfl⟩ := List.mem_iff_getElem.1 hd
  have := h k
  rw [List.getD_eq_getElem?_getD, List.getElem?_eq_getElem hk] at this
  exact this
theorem digR_chrs {l : List Int} (h : Dig l) : digR (chrs l) = l := by
  unfold digR chrs
  rw [← List.map_reverse, List.reverse_reverse, List.filter_eq_self.2 fun b hb => by
    obtain ⟨d, hd, rfl⟩ := List.mem_map.1 hb
    have := h.mem hd
    simpa using chr_ne this.1 this.2, List.map_map]
  conv => rhs; rw [← List.map_id l]
  refine List.map_congr_left fun d hd => ?_
  have := h.mem hd
  show ((UInt8.ofNat (48 + d).toNat).toNat : Int) - 48 = d
  rw [chr_nat this.1 this.2]; omega
theorem digR_text {l : List Int} (h : Dig l) (m : Bool) : digR (textL l m) = if l = [] then [0] else l := by
  unfold textL
  by_cases e : l = []
  · rw [if_pos e, if_pos e]; decide
  · rw [if_neg e, if_neg e]
    cases m
    · exact digR_chrs h
    · rw [if_pos rfl, digR_cons, if_pos rfl]; exact digR_chrs h
theorem text_len (l : List Int) (m : Bool) : (textL l m).length ≤ l.length + 1 := by
  unfold textL
  split
  · simp
  · split
    · simp [chrs]
    · simp [chrs]
theorem text_pos (l : List Int) (m : Bool) : 0 < (textL l m).length := by
  unfold textL
  split
  · simp
  · rename_i h
    have := List.length_pos_iff.2 h
    split
    · simp
    · simpa [chrs] using this
theorem text_bytes {l : List Int} (h : Dig l) (m : Bool) : ∀ b ∈ textL l m, b = 45 ∨ (48 ≤ b.toNat ∧ b.toNat ≤ 57) := by
  have hc : ∀ b ∈ chrs l, b = 45 ∨ (48 ≤ b.toNat ∧ b.toNat ≤ 57) := fun b hb => by
    unfold chrs at hb
    obtain ⟨d, hd, rfl⟩ := List.mem_map.1 hb
    have := h.mem (List.mem_reverse.1 hd)
    rw [chr_nat this.1 this.2]
    exact .inr (by omega)
  intro b hb
  unfold textL at hb
  split at hb
  · simp only [List.mem_singleton] at hb; subst hb; exact .inr (by decide)
  · split at hb
    · rcases List.mem_cons.1 hb with hb | hb
      · exact .inl hb
      · exact hc b hb
    · exact hc b hb
/-- Whether a text begins with a minus. -/
theorem text_minus {l : List Int} (h : Dig l) (m : Bool) (hm : l = [] → m = false) : ((textL l m).getD 0 0 == 45) = m := by
  unfold textL
  by_cases e : l = []
  · rw [if_pos e, hm e]; decide
  · rw [if_neg e]
    cases m
    · rw [if_neg (by simp)]
      have hp := List.length_pos_iff.2 e
      have hq : 0 < (chrs l).length := by simpa [chrs] using hp
      have hb : (chrs l).getD 0 0 ∈ chrs l := by
        rw [List.getD_eq_getElem?_getD, List.getElem?_eq_getElem hq]; exact List.getElem_mem hq
      have : (chrs l).getD 0 0 ≠ 45 := by
        generalize (chrs l).getD 0 0 = b at *
        unfold chrs at hb
        obtain ⟨d, hd, rfl⟩ := List.mem_map.1 hb
        have := h.mem (List.mem_reverse.1 hd)
        exact chr_ne this.1 this.2
      simpa using this
    · rw [if_pos rfl]; rfl
/-- Whether a text is that of 0. -/
theorem text_zero {l : List Int} (h : Dig l) (hc : Can l) (m : Bool) (hm : l = [] → m = false) : (textL l m = [48]) ↔ sgZ l m = 0 := by
  have h0 : sgZ l m = 0 ↔ l = [] := by
    constructor
    · intro e
      refine can_nil h hc ?_
      unfold sgZ at e
      cases m <;> simp at e <;> omega
    · intro e; rw [e, hm e]; rfl
  rw [h0]
  constructor
  · intro e
    apply Classical.byContradiction
    intro hl
    have h2 := digR_text h m
    rw [e, if_neg hl] at h2
    have h3 : l = [0] := by rw [← h2]; decide
    rcases hc with hc | hc
    · exact hl hc
    · rw [h3] at hc; simp at hc
  · intro e; unfold textL; rw [if_pos e]
end Go.Proofs.YtgcnijmmjlfabaaGreatDoor

namespace Go.Proofs.YtgcnijmmjlfabaaGreatDoor
open Go.RowKit Go.Shelf

theorem dDigit_any (va : Value) (l : List Int) (k : Nat) (w : World) (ha : RI w va l) :
    Calls Tryz.prog 186 #[va, .int .i64 (k : Int)] w fun e w' => e = .returned (.int .i64 (l.getD k 0)) ∧ w = w' := by
  obtain ⟨A, c, rfl, hlc, hb, hcell⟩ := ha.open_
  have HC := Lib.hid hcell
  clear hcell ha
  by_cases hk : k < l.length
  · obtain ⟨ad, z, rfl, hadb, hz, hcl⟩ := HC.out k hk
    have HZ : Hid (z = l.getD k 0) := by show _ = _; rw [List.getD_eq_getElem?_getD, hz.out]; rfl
    go_enter Tryz.func186, Tryz.ntmps186
    go_wp2
    go_ret
    exact ⟨ret_i HZ.out, rfl⟩
  · have HZ : Hid (0 = l.getD k 0) := by show _ = _; rw [List.getD_eq_getElem?_getD, List.getElem?_eq_none (by omega)]; rfl
    go_enter Tryz.func186, Tryz.ntmps186
    go_wp2
    go_ret
    exact ⟨ret_i HZ.out, rfl⟩
theorem digR_drop {bs : List UInt8} {k : Nat} {b : UInt8} (h : bs[k]? = some b) : digR (bs.drop k) = if b = 45 then digR (bs.drop (k + 1)) else digR (bs.drop (k + 1)) ++ [(b.toNat : Int) - 48] := by
  obtain ⟨hk, rfl⟩ := List.getElem?_eq_some_iff.1 h
  rw [List.drop_eq_getElem_cons hk, digR_cons]
theorem digR_len (bs : List UInt8) : (digR bs).length ≤ bs.length := by
  unfold digR
  rw [List.length_map]
  exact Nat.le_trans (List.length_filter_le _ _) (by simp)
theorem OI.snoc {w W : World} {o : Value} {out : List Int} (h : OI W w.heap.size o out) (z : Int) (hb : Below w.heap.size w W) :
    OV (W.alloc (.cells #[.int .i64 z] 3)) w.heap.size 3 o (out.map (Value.int .i64)) ∧ RV (W.alloc (.cells #[.int .i64 z] 3)) (.slice (some ⟨W.heap.size, 0, none⟩) 1 1) [.int .i64 z] ∧
      ∀ v1 w3, OV w3 w.heap.size 3 v1 (out.map (Value.int .i64) ++ [.int .i64 z]) → (W.alloc (.cells #[.int .i64 z] 3)).grownBy w3 o.ownBlock → OI w3 w.heap.size v1 (out ++ [z]) ∧ Below w.heap.size w w3 := by
  have hba := below_alloc W (.cells #[.int .i64 z] 3)
  have hov := OV.below h hba
  refine ⟨hov, RV.ones W _ _, fun v1 w3 hown hg => ⟨?_, ?_⟩⟩
  · show OV _ _ _ _ _
    simpa using hown
  · exact below_own (hb.trans (hba.mono hb.size)) (by have := hb.size; have := hba.size; omega) hov hg
end Go.Proofs.YtgcnijmmjlfabaaGreatDoor

