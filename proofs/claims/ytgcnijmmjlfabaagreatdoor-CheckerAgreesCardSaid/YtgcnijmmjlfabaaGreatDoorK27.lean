/- Plain laws between the references' certificates and the checker's; the reference's Applied with larger numbers.
   Contract of the reference's loses.
   The list of all effective divisors of a degree, as the reference makes it (plain).
   Contract of the reference's Listed. -/
import Derived.Test.YtgcnijmmjlfabaaGreatDoorK26
set_option maxRecDepth 100000
set_option maxHeartbeats 16000000
namespace Go.Proofs.YtgcnijmmjlfabaaGreatDoor
open Go.RowKit Go.Shelf

theorem lap_flip (f : Nat → Int) (m : Nat → Int) (x : Int) (k : Nat) : sumN k (fun u => m u * (x - f u)) = - sumN k (fun u => m u * (f u - x)) := by
  induction k with
  | zero => rfl
  | succ k ih =>
    show sumN k _ + m k * (x - f k) = -(sumN k _ + m k * (f k - x))
    have h : m k * (x - f k) = -(m k * (f k - x)) := by rw [← Int.mul_neg]; congr 1; omega
    rw [ih, h]; omega
theorem appL_eq {n : Nat} (es : List Tri) {d : List Int} (s : List Int) (hd : d.length = n) : appL n es d s = appLk n es d s := by
  refine list_eq' (appL_len es s hd) (appLk_len n es d s) fun v hv => ?_
  rw [appL_get es s hd hv]
  have h : (appLk n es d s).getD v 0 = appN es d s v n := by
    unfold appLk
    rw [List.getD_eq_getElem?_getD, List.getElem?_map, List.getElem?_range hv]; rfl
  rw [h]
  have h2 : sumN n (fun u => wgt es v u * (s.getD v 0 - s.getD u 0)) = - sumN n (fun u => wgt es v u * (s.getD u 0 - s.getD v 0)) := lap_flip (fun u => s.getD u 0) (fun u => wgt es v u) (s.getD v 0) n
  show d.getD v 0 - sumN n (fun u => wgt es v u * (s.getD v 0 - s.getD u 0)) = d.getD v 0 + sumN n (fun u => wgt es v u * (s.getD u 0 - s.getD v 0))
  rw [h2]; omega
theorem nums_bd20 {ws : List (List UInt8)} (h : numsE ws = 0) : Bd 1048576 (numsV ws) := by
  have h0 := nums_bd h
  unfold numsE at h
  by_cases h1 : ws.all canB = false
  · rw [if_pos h1] at h; cases h
  · rw [if_neg h1] at h
    by_cases h2 : ws.all (fun s => decide (-1048576 ≤ wv s) && decide (wv s ≤ 1048576)) = false
    · rw [if_pos h2] at h; cases h
    · intro k
      have h3 : ws.all (fun s => decide (-1048576 ≤ wv s) && decide (wv s ≤ 1048576)) = true := by simpa using h2
      rw [List.all_eq_true] at h3
      unfold numsV
      rw [List.getD_eq_getElem?_getD, List.getElem?_map]
      cases hx : ws[k]? with
      | none => simp
      | some x =>
        have := h3 x (List.mem_of_getElem? hx)
        simpa using this
theorem rAppW_any (g vd vs : Value) (n : Nat) (es : List Tri) (d s : List Int) (w : World) (hg : GV w g n es) (hd : RI w vd d) (hs : RI w vs s) (hE : Edges n es) (hn : n ≤ 12) (hdl : d.length = n) (hl : s.length = n) (hbd : Bd 20000000 d) (hb : Bd 1048576 s) :
    Calls Tryz.prog 87 #[g, vd, vs] w fun e w' => ∃ v, e = .returned v ∧ OI w' w.heap.size v (appLk n es d s) ∧ Below w.heap.size w w' := by
  rw [← appL_eq es s hdl]
  obtain ⟨A2, c2, rfl, -⟩ := hs.open_
  obtain ⟨A3, c3, rfl, -⟩ := hd.open_
  obtain ⟨A, c, rfl, -⟩ := hg.open_
  obtain ⟨W0, hW0⟩ : ∃ W0, W0 = w.alloc (.cells #[.int .i64 (n:Int), .slice A es.length c] 24) := ⟨_, rfl⟩
  have hb0 : Below w.heap.size w W0 := by rw [hW0]; exact below_alloc w _
  have hx0 : BL W0 w.heap.size 24 [.int .i64 (n:Int), .slice A es.length c] := by rw [hW0]; exact BL.new' w _ _
  have c0 := hx0.cell 0
  have c1 := hx0.cell 1
  have HX0 := Lib.hid hx0
  have HG0 := Lib.hid (hg.below hb0)
  have HB0 := Lib.hid hb0
  have HW0 := Lib.hid hW0
  rw [hW0] at c0 c1
  clear hg hx0 hW0
  have HM := Lib.hid (rMoved_any _ _ n es s W0 HG0.out (RI.below hs hb0) hE hn hl hb)
  have HD0 := Lib.hid (RI.below hd hb0)
  have HF : Hid (∀ (w1 : World) (v : Value), Below W0.heap.size W0 w1 → OI w1 W0.heap.size v (movL n es s) → Calls Tryz.prog 93 #[.slice A3 d.length c3, v, .int .i64 (-1)] w1 fun e w' => ∃ v, e = .returned v ∧ OI w' w1.heap.size v (appL n es d s) ∧ Below w1.heap.size w1 w') := fun w1 v h1 h2 =>
    rPlus_any _ _ d (movL n es s) (-1) w1 (RI.below HD0.out h1) h2.ri (by rw [movL_len]; exact hdl) (by omega) (fun j hj => by
      have q1 := hbd j
      have q2 := movK_le hE hn hb j n
      rw [movL_get es s (by omega)]
      omega)
  clear hs hd hE hdl hl hbd hb hb0
  go_enter Tryz.func87, Tryz.ntmps87
  go_wp2_with fail
  rw [← HW0.out]
  refine HM.out.mono ?_
  rintro e w1 ⟨v, rfl, ho, hb1⟩
  have HP := Lib.hid (HF.out w1 v hb1 ho)
  have HB1 := Lib.hid (HB0.out.trans (hb1.mono HB0.out.size))
  clear hb1
  clear ho c0 c1
  go_wp2_with fail
  refine HP.out.mono ?_
  rintro e w2 ⟨v2, rfl, ho2, hb2⟩
  have HO2 := Lib.hid ho2
  have HS1 := Lib.hid HB1.out.size
  have HB2 := Lib.hid (HB1.out.trans (hb2.mono HB1.out.size))
  clear hb2
  clear ho2
  go_wp2
  go_ret
  exact ⟨_, rfl, OV.mono HO2.out HS1.out, HB2.out⟩
end Go.Proofs.YtgcnijmmjlfabaaGreatDoor

namespace Go.Proofs.YtgcnijmmjlfabaaGreatDoor
open Go.RowKit Go.Shelf

theorem rLoses_any (g vd vl : Value) (n : Nat) (es : List Tri) (d l : List Int) (w : World) (hg : GV w g n es) (hd : RI w vd d) (hl : RI w vl l) (hE : Edges n es) (hn1 : 1 ≤ n) (hn : n ≤ 12) (hdl : d.length = n) (hdb : Bd 20000000 d) (hlb : Bd 1048576 l) (h2n : l.length = 2 * n) :
    Calls Tryz.prog 88 #[g, vd, vl] w fun e w' => e = .returned (.int .i64 (losesE n es d l)) ∧ Below w.heap.size w w' := by
  obtain ⟨A, c, rfl, -⟩ := hg.open_
  obtain ⟨W0, hW0⟩ : ∃ W0, W0 = w.alloc (.cells #[.int .i64 (n:Int), .slice A es.length c] 24) := ⟨_, rfl⟩
  have hb0 : Below w.heap.size w W0 := by rw [hW0]; exact below_alloc w _
  have hx0 : BL W0 w.heap.size 24 [.int .i64 (n:Int), .slice A es.length c] := by rw [hW0]; exact BL.new' w _ _
  have c0 := hx0.cell 0
  have c1 := hx0.cell 1
  have HX0 := Lib.hid hx0
  have HG0 := Lib.hid (hg.below hb0)
  have HB0 := Lib.hid hb0
  have HW0 := Lib.hid hW0
  rw [hW0] at c0 c1
  clear hg hx0 hW0
  have hd0 := RI.below hd hb0
  have hl0 := RI.below hl hb0
  obtain ⟨A1, e1, rfl, -, -, -⟩ := hd0.open_
  obtain ⟨A2, e2, rfl, hlc, -, hcl⟩ := hl0.open_
  obtain ⟨adl, q, rfl, hqb, hq, hcq⟩ := hcl 0 (by omega)
  rw [add_zero'] at hcq
  have hqq := getD_of' hq.out
  have hs1 := RI.sub hl0 (i := 1) (j := 1 + n) (by omega) (by omega)
  have hs2 := RI.sub hl0 (i := 1 + n) (j := l.length) (by omega) (Nat.le_refl _)
  rw [List.take_of_length_le (Nat.le_refl _)] at hs2
  rw [show 1 + n - 1 = n by omega] at hs1
  have hsl : ((l.take (1 + n)).drop 1).length = n := by simp; omega
  have hsb := hlb.sub (by decide) 1 (1 + n)
  have HS0 : Hid (∀ W : World, Below W0.heap.size W0 W → (fun W : World => W.cell? ⟨w.heap.size, 0, none⟩ = some (.int .i64 (n : Int)) ∧ W.cell? ⟨w.heap.size, 1, none⟩ = some (.slice A es.length c) ∧ W.cell? adl = some (.int .i64 q)) W) := fun W hW =>
    ⟨(HX0.out.bel hW).cell 0, (HX0.out.bel hW).cell 1, (hW.cell (p := adl) hqb).trans hcq⟩
  have HSa := Lib.hid (HS0.out W0.drew (Below.refl _ _).drew)
  have HV : Hid (∀ (v : Int) (W : World), Below W0.heap.size W0 W → Calls Tryz.prog 101 #[.agg #[.int .i64 (n : Int), .slice A es.length c], .int .i64 v] W fun e w' => e = .returned (.bool (vtxB n v)) ∧ Below W.heap.size W w') := fun v W h => rVertex_any _ n es v W (HG0.out.below h)
  have HV1 := Lib.hid (HV.out q W0.drew (Below.refl _ _).drew)
  have he2 : 1 + n ≤ e2 := by omega
  have he3 : l.length ≤ e2 := by omega
  have k1 : (0 : Int) < (n : Int) := by omega
  have k2 : (1 : Int) ≤ 1 + (n : Int) := by omega
  have k3 : (1 : Int) + (n : Int) ≤ (e2 : Int) := by omega
  have k4 : (1 : Int) + (n : Int) ≤ (l.length : Int) := by omega
  have k8 : (0 : Int) < (l.length : Int) := by omega
  have k9 : 0 < l.length := by omega
  have k5 : IntKind.i64.wrap (1 + (n : Int)) = 1 + (n : Int) := by simp (disch := omega) only [IntWalk.i64_in]
  have k6 : e2 ≠ 1 := by omega
  have k7 : 0 < n := by omega
  have HAp : Hid (∀ W : World, Below W0.heap.size W0 W → Calls Tryz.prog 87 #[.agg #[.int .i64 (n : Int), .slice A es.length c], .slice A1 d.length e1, .slice (some ⟨adl.block, adl.off + 1, none⟩) ((1 + (n : Int)).toNat - 1) (e2 - 1)] W fun e w' => ∃ v, e = .returned v ∧ OI w' W.heap.size v (appLk n es d ((l.take (1 + n)).drop 1)) ∧ Below W.heap.size W w') := fun W hW => by
    rw [show (1 + (n : Int)).toNat - 1 = n by omega]
    exact rAppW_any _ _ _ n es d _ W (HG0.out.below hW) (RI.below hd0 hW) (RI.below hs1 hW) hE hn hdl hsl hdb hsb
  have HHq := Lib.hid hqb
  have HHc := Lib.hid hcq
  have HXl := Lib.hid (appLk_len n es d ((l.take (1 + n)).drop 1))
  have HOd : Hid ((l.drop (1 + n)).length = l.length - (1 + n)) := by show _ = _; simp
  have hpt : ∃ Pt : Option Addr, RI W0 (.slice Pt (l.length - (1 + n)) (e2 - (1 + n))) (l.drop (1 + n)) ∧ ∀ W : World, (Instr.slice 42 (.slice (some adl) l.length e2) (some (.int .i64 (1 + (n : Int)))) none none).run Tryz.prog W = .ok (.slice Pt (l.length - (1 + n)) (e2 - (1 + n))) W := by
    have ht : (1 + (n : Int)).toNat = 1 + n := by omega
    refine ⟨if e2 = 1 + n then some adl else some (adl.add (1 + n)), ?_, fun W => ?_⟩
    · by_cases h : e2 = 1 + n
      · rw [if_pos h]; exact RI.emp (m := l.length - (1 + n)) (by simp) (by omega) (by omega)
      · rw [if_neg h]; exact hs2
    · rw [run_slice_l W 42 (some adl) l.length e2 Tryz.underlying42 .i64 (1 + (n : Int)) (by omega) (by omega)]
      simp [go_sem, ht]
  obtain ⟨Pt, hs2', hslice⟩ := hpt
  have HS2 := Lib.hid hs2'
  by_cases hvx : 0 ≤ q ∧ q < n
  · obtain ⟨qn, rfl⟩ : ∃ qn : Nat, q = qn := ⟨q.toNat, by omega⟩
    have hqn : qn < n := by omega
    have hvt : vtxB n (qn : Int) = true := by unfold vtxB; rw [decide_eq_true hvx.1, decide_eq_true hvx.2]; rfl
    rw [hvt] at HV1
    have HSpec : Hid (losesE n es d l = if (decide ((appLk n es d ((l.take (1 + n)).drop 1)).getD qn 0 < 0) && !debtB (appLk n es d ((l.take (1 + n)).drop 1)) qn && burnsB n es qn (appLk n es d ((l.take (1 + n)).drop 1)) (l.drop (1 + n))) = true then 0 else 16) := by
      show _ = _
      unfold losesE
      rw [if_neg (by rw [h2n]; push_cast; omega), hqq, if_neg (by rw [decide_eq_true hvx.1, decide_eq_true hvx.2]; simp), Int.toNat_natCast]
    have HBu : Hid (∀ (x : List Int) (vx vo : Value) (W : World), Below W0.heap.size W0 W → RI W vx x → x.length = n → RI W vo (l.drop (1 + n)) → Calls Tryz.prog 96 #[.agg #[.int .i64 (n : Int), .slice A es.length c], .int .i64 (qn : Int), vx, vo] W fun e w' => e = .returned (.bool (burnsB n es qn x (l.drop (1 + n)))) ∧ Below W.heap.size W w') := fun x vx vo W h1 h2 h3 h4 =>
      r57Burns_any _ vx vo n qn es x _ W (HG0.out.below h1) h2 h4 hE hn hqn h3 (by rw [HOd.out]; omega)
    have HDe : Hid (∀ (x : List Int) (vx : Value) (W : World), RI W vx x → x.length = n → Calls Tryz.prog 95 #[vx, .int .i64 (qn : Int)] W fun e w' => e = .returned (.bool (debtB x qn)) ∧ W = w') := fun x vx W h1 h2 => rDebt_any vx x qn W h1 (by omega)
    clear hd hl hcl hdb hlb hdl hE hvx hcq hs1 hs2 hs2' hsl hsb hqb hq hqq hd0 hl0 hb0 hvt h2n
    generalize appLk n es d ((l.take (1 + n)).drop 1) = x at *
    generalize l.drop (1 + n) = od at *
    generalize losesE n es d l = LE at *
    generalize l.length = L at *
    go_enter Tryz.func88, Tryz.ntmps88
    go_upto_region 1 with fail
    rw [← HW0.out]
    clear c0 c1
    go_region_held3 (fun W : World => W.cell? ⟨w.heap.size, 0, none⟩ = some (.int .i64 (n : Int)) ∧ W.cell? ⟨w.heap.size, 1, none⟩ = some (.slice A es.length c) ∧ W.cell? adl = some (.int .i64 (qn : Int))) (first | exact HSa.out | exact HSb.out)
      (first | (go_at_call 101; refine HV1.out.mono ?_; rintro e w1 ⟨rfl, hb1⟩; have HB1 := Lib.hid ((Below.refl W0.heap.size W0).drew.trans hb1); have HSb := Lib.hid (HS0.out w1 HB1.out); clear hb1))
    have HA1 := Lib.hid (HAp.out w1.drew HB1.out.drew)
    have HSc := Lib.hid (HS0.out w1.drew HB1.out.drew)
    clear HV1 HSa
    go_wp2_with fail
    go_region_held3 (fun W : World => W.cell? ⟨w.heap.size, 0, none⟩ = some (.int .i64 (n : Int)) ∧ W.cell? ⟨w.heap.size, 1, none⟩ = some (.slice A es.length c) ∧ W.cell? adl = some (.int .i64 (qn : Int))) (first | exact HSb.out | exact HSc.out | exact HSd.out)
      (first | (go_at_call 87; refine HA1.out.mono ?_; rintro e w2 ⟨v2, rfl, ho2, hb2⟩; have HO2 := Lib.hid ho2; have HB2 := Lib.hid (HB1.out.drew.trans (hb2.mono HB1.out.drew.size)); have HSd := Lib.hid (HS0.out w2 HB2.out); clear ho2 hb2))
    clear HSb HSc HA1 HAp
    obtain ⟨Ax, cx, rfl, -, -, hcx⟩ := HO2.out.ri.open_
    obtain ⟨adx, z, rfl, hxb, hz, hcz⟩ := hcx qn (by rw [HXl.out]; exact hqn)
    have hzz := getD_of' hz.out
    rw [hzz] at HSpec
    have hxr := HO2.out.ri
    rw [HXl.out] at hxr ⊢
    have HRx := Lib.hid hxr
    have HS4 : Hid (∀ W : World, Below w2.heap.size w2 W → (fun W : World => W.cell? ⟨w.heap.size, 0, none⟩ = some (.int .i64 (n : Int)) ∧ W.cell? ⟨w.heap.size, 1, none⟩ = some (.slice A es.length c) ∧ W.cell? adl = some (.int .i64 (qn : Int)) ∧ W.cell? (adx.add qn) = some (.int .i64 z)) W) := fun W hW =>
      ⟨(HX0.out.bel (HB2.out.trans (hW.mono HB2.out.size))).cell 0, (HX0.out.bel (HB2.out.trans (hW.mono HB2.out.size))).cell 1, (((HB2.out.trans (hW.mono HB2.out.size))).cell (p := adl) HHq.out).trans HHc.out, (hW.cell (p := adx.add qn) (by rw [block_of_add]; exact hxb)).trans hcz⟩
    have HSe := Lib.hid (HS4.out w2.drew (Below.refl _ _).drew)
    have HBwd := Lib.hid (HB0.out.trans (HB2.out.mono HB0.out.size)).drew
    clear hcx hxb hz hcz hzz hxr HO2 HSd
    by_cases hneg : z < 0
    · rw [decide_eq_true hneg, Bool.true_and] at HSpec
      have hd1 : decide (0 ≤ z) = false := decide_eq_false (by omega)
      have HD2 := Lib.hid (HDe.out x _ w2.drew (RI.below HRx.out (Below.refl _ _).drew) HXl.out)
      have HBx := Lib.hid (HBu.out x)
      obtain ⟨db, hdb⟩ : ∃ db, debtB x qn = db := ⟨_, rfl⟩
      have HDb := Lib.hid hdb
      rw [hdb] at HSpec HD2
      clear hdb
      cases db
      · have HSp : Hid (LE = if burnsB n es qn x od = true then 0 else 16) := by show _ = _; rw [HSpec.out]; rfl
        clear HSpec
        generalize burnsB n es qn x od = bo at *
        go_wp2_with fail
        go_region_held3 (fun W : World => W.cell? ⟨w.heap.size, 0, none⟩ = some (.int .i64 (n : Int)) ∧ W.cell? ⟨w.heap.size, 1, none⟩ = some (.slice A es.length c) ∧ W.cell? adl = some (.int .i64 (qn : Int)) ∧ W.cell? (adx.add qn) = some (.int .i64 z)) (first | exact HSe.out | exact HSf.out)
          (first
            | (go_at_call 95; refine HD2.out.mono ?_; rintro e w3 ⟨rfl, rfl⟩)
            | (go_at_call 96; (with_reducible refine (HBx.out _ _ _ HB2.out.drew (RI.below HRx.out (Below.refl _ _).drew) HXl.out (RI.below (RI.below HS2.out HB2.out) (Below.refl _ _).drew)).mono ?_); rintro e w4 ⟨rfl, hb4⟩; have HB4 := Lib.hid (HBwd.out.trans (hb4.mono HBwd.out.size)); have HSf := Lib.hid (HS4.out w4 ((Below.refl w2.heap.size w2).drew.trans hb4)); clear hb4))
        all_goals
          cases bo
          · go_wp2
            go_ret
            exact ⟨ret_i (by rw [HSp.out] <;> rfl), HB4.out⟩
          · go_wp2
            go_ret
            exact ⟨ret_i (by rw [HSp.out] <;> rfl), HB4.out⟩
      · have HSp : Hid (LE = 16) := by show _ = _; rw [HSpec.out]; rfl
        have HDn : Hid (∀ m, Calls Tryz.prog 95 #[.slice (some adx) n cx, .int .i64 (qn : Int)] (w2.drewN m) fun e w' => e = .returned (.bool true) ∧ w' = w2.drewN m) := fun m => by
          rw [← HDb.out]
          exact (HDe.out x _ (w2.drewN m) (RI.below HRx.out (below_drewN (Below.refl _ _) m)) HXl.out).mono fun e w' ⟨h1, h2⟩ => ⟨h1, h2.symm⟩
        obtain ⟨y0, y1, y2, y3⟩ := HS4.out w2 (Below.refl _ _)
        have HBm : Hid (∀ m, Below w.heap.size w (w2.drewN m)) := fun m => below_drewN (HB0.out.trans (HB2.out.mono HB0.out.size)) m
        clear HSpec HD2 HBwd HSe HS4 HBu HBx
        go_wp2_with fail
        go_quiet (first | (go_at_call 95; exact Calls.quiet_of_same (HDn.out _)))
        go_wp2
        go_ret
        exact ⟨ret_i (by rw [HSp.out] <;> rfl), HBm.out _⟩
    · have hd1 : decide (0 ≤ z) = true := decide_eq_true (by omega)
      have hd2 : 0 ≤ z := by omega
      have HSp : Hid (LE = 16) := by show _ = _; rw [HSpec.out, decide_eq_false hneg]; rfl
      obtain ⟨y0, y1, y2, y3⟩ := HS4.out w2 (Below.refl _ _)
      have HBm : Hid (∀ m, Below w.heap.size w (w2.drewN m)) := fun m => below_drewN (HB0.out.trans (HB2.out.mono HB0.out.size)) m
      clear HSpec hneg HBwd HSe HS4 HBu
      go_wp2_with fail
      go_quiet (fail)
      go_wp2
      go_ret
      exact ⟨ret_i (by rw [HSp.out] <;> rfl), HBm.out _⟩
  · have hvt : vtxB n q = false := by
      unfold vtxB
      by_cases h1 : 0 ≤ q
      · rw [decide_eq_false (show ¬ q < (n : Int) from fun h2 => hvx ⟨h1, h2⟩), Bool.and_false]
      · rw [decide_eq_false h1, Bool.false_and]
    have HSp : Hid (losesE n es d l = 2) := by
      show _ = _
      unfold losesE
      rw [if_neg (by rw [h2n]; push_cast; omega), hqq]
      exact if_pos hvt
    rw [hvt] at HV1
    clear hd hl hcl hdb hlb hdl hE hvx hcq hs1 hs2 hsl hsb hqb hq hqq hd0 hl0 hb0 hvt h2n HAp HXl HOd HS2
    generalize losesE n es d l = LE at *
    generalize l.length = L at *
    go_enter Tryz.func88, Tryz.ntmps88
    go_upto_region 1 with fail
    rw [← HW0.out]
    clear c0 c1
    go_region_held3 (fun W : World => W.cell? ⟨w.heap.size, 0, none⟩ = some (.int .i64 (n : Int)) ∧ W.cell? ⟨w.heap.size, 1, none⟩ = some (.slice A es.length c) ∧ W.cell? adl = some (.int .i64 q)) (first | exact HSa.out | exact HSb.out)
      (first | (go_at_call 101; refine HV1.out.mono ?_; rintro e w1 ⟨rfl, hb1⟩; have HB1 := Lib.hid ((Below.refl W0.heap.size W0).drew.trans hb1); have HSb := Lib.hid (HS0.out w1 HB1.out); clear hb1))
    go_wp2
    go_ret
    exact ⟨ret_i (by rw [HSp.out] <;> rfl), HB0.out.trans (HB1.out.mono HB0.out.size)⟩
end Go.Proofs.YtgcnijmmjlfabaaGreatDoor

namespace Go.Proofs.YtgcnijmmjlfabaaGreatDoor
open Go.RowKit Go.Shelf

/-- The effective divisors of degree d on m + 1 vertices. -/
def eflL : Nat → Nat → List (List Int)
  | 0, d => [[(d : Int)]]
  | m + 1, d => (List.range (d + 1)).flatMap fun k => (eflL m (d - k)).map fun r => (k : Int) :: r
theorem fill_lst : ∀ (m v left : Nat) (cs : List Int), cs.length = v + m + 1 → fillF m v left cs = (eflL m left).map fun r => cs.take v ++ r
  | 0, v, left, cs, h => by
    simp only [fillF, eflL, List.map_cons, List.map_nil]
    congr 1
    apply List.ext_getElem?
    intro i
    rw [List.getElem?_set]
    by_cases h1 : i < v
    · rw [if_neg (by omega), List.getElem?_append_left (by simp; omega), List.getElem?_take_of_lt h1]
    · rw [List.getElem?_append_right (by simp; omega)]
      have : (cs.take v).length = v := by simp; omega
      rw [this]
      by_cases h2 : v = i
      · subst h2; rw [if_pos rfl, if_pos (by omega)]; simp
      · rw [if_neg h2, List.getElem?_eq_none (by omega), List.getElem?_eq_none (by simp; omega)]
  | m + 1, v, left, cs, h => by
    rw [fillF, eflL, List.map_flatMap]
    congr 1
    funext k
    rw [fill_lst m (v + 1) (left - k) (cs.set v k) (by simp; omega), List.map_map]
    congr 1
    funext r
    have : (cs.set v (k : Int)).take (v + 1) = cs.take v ++ [(k : Int)] := by
      rw [List.take_add_one, List.take_set_of_le (Nat.le_refl _)]
      congr 1
      rw [List.getElem?_set_self (by omega)]
      rfl
    show _ = cs.take v ++ ((k : Int) :: r)
    rw [this, List.append_assoc]; rfl
theorem dvs_lst {n : Nat} (deg : Nat) (hn : 1 ≤ n) : dvsL n deg = eflL (n - 1) deg := by
  unfold dvsL
  rw [fill_lst (n - 1) 0 deg _ (by simp; omega)]
  simp
theorem lst_len : ∀ (m d : Nat) (x : List Int), x ∈ eflL m d → x.length = m + 1
  | 0, d, x, h => by simp [eflL] at h; subst h; rfl
  | m + 1, d, x, h => by
    rw [eflL, List.mem_flatMap] at h
    obtain ⟨k, -, h⟩ := h
    rw [List.mem_map] at h
    obtain ⟨r, hr, rfl⟩ := h
    simp [lst_len m _ r hr]
theorem lst_count : ∀ (m d : Nat), (eflL m d).length = chF m d
  | 0, d => rfl
  | m + 1, d => by
    rw [eflL, chF, List.length_flatMap]
    congr 1
    apply List.map_congr_left
    intro k _
    rw [List.length_map, lst_count m]
/-- The lists behind the first k first numbers. -/
def lstP (m d k : Nat) : List (List Int) := (List.range k).flatMap fun j => (eflL m (d - j)).map fun r => (j : Int) :: r
theorem lstP_succ (m d k : Nat) : lstP m d (k + 1) = lstP m d k ++ (eflL m (d - k)).map fun r => (k : Int) :: r := by
  unfold lstP; rw [List.range_succ, List.flatMap_append]; simp
theorem lstP_len_le {m d k : Nat} (hm : m ≤ 5) (hd : d ≤ 12) : (lstP m d k).length ≤ 6188 * k := by
  induction k with
  | zero => simp [lstP]
  | succ k ih =>
    rw [lstP_succ, List.length_append, List.length_map, lst_count]
    have := cnt_le m (by omega) (d - k) (by omega)
    rw [← chF_cnt m (by omega) (d - k) (by omega)] at this
    omega
end Go.Proofs.YtgcnijmmjlfabaaGreatDoor

namespace Go.Proofs.YtgcnijmmjlfabaaGreatDoor
open Go.RowKit Go.Shelf

theorem own_lit1 (w : World) (T : TypeId) (v : Value) : OV (w.alloc (.cells #[v] T)) w.heap.size T (.slice (some ⟨w.heap.size, 0, none⟩) 1 1) [v] :=
  ⟨⟨by simp, .inr ⟨w.heap.size, 1, #[v], by simp, Nat.le_refl _, heap_alloc_new w _, by simp, by unfold maxLen; omega, by simp, by simp⟩⟩, by simp⟩
theorem own_one (w : World) (x : Int) : OV (w.alloc (.cells #[.int .i64 x] 3)) w.heap.size 3 (.slice (some ⟨w.heap.size, 0, none⟩) 1 1) [.int .i64 x] := own_lit1 w _ _
theorem OL.keptL {B B2 : Nat} {w w' : World} {o r : Value} {us : List Value} {rest : List (List Int)} (h2 : OL B2 w r rest) (hov : OV w B 42 o us) (hne : r.ownBlock = none ∨ r.ownBlock ≠ o.ownBlock) (hg : w.grownBy w' o.ownBlock) : OL B2 w' r rest := by
  obtain ⟨items, h1, h3, h4⟩ := h2
  exact ⟨items, ⟨h1.1.kept hg hne, h1.2⟩, h3, fun x hx => OV.keptOwn (h4 x hx) hov (by decide) hg⟩
theorem OL.lt {B : Nat} {w : World} {r : Value} {rest : List (List Int)} (h : OL B w r rest) : ∀ k, r.ownBlock = some k → B ≤ k ∧ k < w.heap.size := by
  obtain ⟨items, h1, -, -⟩ := h
  exact h1.1.lt
theorem own_ne {r v v' : Value} {S : Nat} (h : v'.ownBlock = v.ownBlock ∨ v'.ownBlock = some S) (hne : r.ownBlock = none ∨ r.ownBlock ≠ v.ownBlock) (hlt : ∀ k, r.ownBlock = some k → k < S) : r.ownBlock = none ∨ r.ownBlock ≠ v'.ownBlock := by
  rcases h with h | h
  · rw [h]; exact hne
  · cases hr : r.ownBlock with
    | none => exact .inl rfl
    | some k =>
      right
      rw [h]
      intro e
      have := hlt k hr
      injection e with e
      omega
theorem rListed0 (d : Nat) (w : World) :
    Calls Tryz.prog 126 #[.int .i64 1, .int .i64 (d : Int)] w fun e w' => ∃ v, e = .returned v ∧ OL w.heap.size w' v (eflL 0 d) ∧ Below w.heap.size w w' := by
  have hd0 : ¬ (d : Int) < 0 := by omega
  have h1 := own_lit1 w 3 (.int .i64 (d : Int))
  have hba := below_alloc (w.alloc (.cells #[.int .i64 (d : Int)] 3)) (.cells #[.slice (some ⟨w.heap.size, 0, none⟩) 1 1] 42)
  have h2 := own_lit1 (w.alloc (.cells #[.int .i64 (d : Int)] 3)) 42 (.slice (some ⟨w.heap.size, 0, none⟩) 1 1)
  rw [World.size_alloc] at h2
  have HR := Lib.hid (show OL w.heap.size _ _ (eflL 0 d) from ⟨[(.slice (some ⟨w.heap.size, 0, none⟩) 1 1, [(d : Int)])], h2.mono (by omega), rfl, fun x hx => by rw [List.mem_singleton.1 hx]; exact OV.below h1 hba⟩)
  have HB := Lib.hid ((below_alloc w (.cells #[.int .i64 (d : Int)] 3)).alloc (by simp) (.cells #[.slice (some ⟨w.heap.size, 0, none⟩) 1 1] 42))
  clear h1 h2 hba
  go_enter Tryz.func126, Tryz.ntmps126
  go_wp2
  go_ret
  exact ⟨_, rfl, HR.out, HB.out⟩
theorem rListedS (m n d : Nat) (w : World) (hn : n = m + 2) (hm : m ≤ 4) (hd : d ≤ 12)
    (ih : ∀ (k : Nat) (W : World), k ≤ d → Calls Tryz.prog 126 #[.int .i64 ((m + 1 : Nat) : Int), .int .i64 ((d - k : Nat) : Int)] W fun e w' => ∃ v, e = .returned v ∧ OL W.heap.size w' v (eflL m (d - k)) ∧ Below W.heap.size W w') :
    Calls Tryz.prog 126 #[.int .i64 (n : Int), .int .i64 (d : Int)] w fun e w' => ∃ v, e = .returned v ∧ OL w.heap.size w' v (eflL (m + 1) d) ∧ Below w.heap.size w w' := by
  obtain ⟨i0, hi, hz0, hz1, hz2⟩ := info_parts int_info
  obtain ⟨j0, hj, hj0, hj1, hj2⟩ := info_parts ints_info
  have hd0 : ¬ (d : Int) < 0 := by omega
  have t1 : ((n : Int) == 1) = false := by rw [beq_eq_false_iff_ne]; omega
  have HIH : Hid (∀ (k : Nat) (W : World), k ≤ d → Calls Tryz.prog 126 #[.int .i64 ((n : Int) - 1), .int .i64 ((d : Int) - (k : Int))] W fun e w' => ∃ v, e = .returned v ∧ OL W.heap.size w' v (eflL m (d - k)) ∧ Below W.heap.size W w') := fun k W hk => by
    have h := ih k W hk
    rw [show ((m + 1 : Nat) : Int) = (n : Int) - 1 by omega, show ((d - k : Nat) : Int) = (d : Int) - (k : Int) by omega] at h
    exact h
  have HSuc : Hid (∀ k, lstP m d (k + 1) = lstP m d k ++ (eflL m (d - k)).map fun r => (k : Int) :: r) := fun k => lstP_succ m d k
  have HFull : Hid (eflL (m + 1) d = lstP m d (d + 1)) := rfl
  have HRl : Hid (∀ k, ∀ x ∈ eflL m (d - k), x.length = m + 1) := fun k x hx => lst_len m (d - k) x hx
  have HCnt : Hid (∀ k, (eflL m (d - k)).length ≤ 6188) := fun k => by
    rw [lst_count, chF_cnt m (by omega) (d - k) (by omega)]; exact cnt_le m (by omega) (d - k) (by omega)
  have HPl : Hid (∀ k, (lstP m d k).length ≤ 6188 * k) := fun k => lstP_len_le (by omega) hd
  have HP0 : Hid (lstP m d 0 = []) := rfl
  have hn6 : (n : Int) ≤ 6 := by omega
  clear ih hn
  go_enter Tryz.func126, Tryz.ntmps126
  go_wp2_with fail
  go_loopw [5, 6] (fun o kk wr => ∃ (k : Nat) (vo : Value), vo = o ∧ k ≤ d + 1 ∧ kk = .int .i64 (k : Int) ∧ Hid (OL w.heap.size wr o (lstP m d k)) ∧ Hid (Below w.heap.size w wr)) (fun _ kk _ => d + 1 - (intOf kk).toNat)
  case atStart => exact ⟨0, _, rfl, Nat.zero_le _, rfl, by rw [HP0.out]; exact OL.nil_ _ _, Below.refl _ _⟩
  case round =>
    obtain ⟨wo, rfl⟩ : ∃ wo, wo = wr := ⟨_, rfl⟩
    obtain ⟨k, vo, rfl, hk, rfl, hol, hb⟩ := hrel
    by_cases hlt : k ≤ d
    · have hkz : (k : Int) ≤ (d : Int) := by omega
      have HIk := Lib.hid (HIH.out k wo hlt)
      have HSk := Lib.hid (HSuc.out k)
      have HRk := Lib.hid (HRl.out k)
      have hck := HCnt.out k
      have hpk := HPl.out k
      clear HSuc HRl HCnt HPl HIH
      generalize eflL m (d - k) = rest at *
      generalize lstP m d k = acc at *
      go_wp2_with fail
      refine HIk.out.mono ?_
      rintro e w1 ⟨v1, rfl, hr1, hb1⟩
      obtain ⟨A1, c1, rfl, -, -, -⟩ := hr1.rr.open_
      have HNe : Hid ((Value.slice A1 rest.length c1).ownBlock = none ∨ (Value.slice A1 rest.length c1).ownBlock ≠ vo.ownBlock) := by
        cases hv : (Value.slice A1 rest.length c1).ownBlock with
        | none => exact .inl rfl
        | some j =>
          right; intro e
          have q1 := (hr1.lt j hv).1
          have q2 := (hol.out.lt j e.symm).2
          omega
      have HR1 := Lib.hid hr1
      have HOl := Lib.hid (OL.below hol.out hb1)
      have HB1 := Lib.hid (hb.out.trans (hb1.mono hb.out.size))
      clear hr1 hb1 hol HIk
      go_wp2_with fail
      go_loopw [5, 8] (fun o ii wr2 => ∃ (i : Nat) (vo : Value), vo = o ∧ i ≤ rest.length ∧ ii = .int .i64 (i : Int) ∧ Hid (OL w.heap.size wr2 o (acc ++ (rest.take i).map fun r => (k : Int) :: r)) ∧ Hid (OL wo.heap.size wr2 (.slice A1 rest.length c1) rest) ∧ Hid ((Value.slice A1 rest.length c1).ownBlock = none ∨ (Value.slice A1 rest.length c1).ownBlock ≠ o.ownBlock) ∧ Hid (Below w.heap.size w wr2)) (fun _ ii _ => rest.length - (intOf ii).toNat)
      case atStart => exact ⟨0, _, rfl, Nat.zero_le _, rfl, by rw [List.take_zero, List.map_nil, List.append_nil]; exact HOl.out, HR1.out, HNe.out, HB1.out⟩
      case round =>
        obtain ⟨i, vo, rfl, hir, rfl, hol, hrest, hne, hbw⟩ := hrel
        by_cases hit : i < rest.length
        · obtain ⟨A1', c1', he, -, -, hrows⟩ := hrest.out.rr.open_
          simp only [Value.slice.injEq, true_and] at he
          obtain ⟨rfl, rfl⟩ := he
          obtain ⟨ad, x, A2, c2, hA, hadb, hx, hcl, hxr⟩ := hrows i hit
          subst hA
          have hxl : x.length = m + 1 := HRk.out x (List.mem_of_getElem? hx.out)
          have hxv : x.length ≤ 6 := by omega
          have g2 := hcl
          have g2a : ∀ o : Obj, (wr.alloc o).cell? (ad.add i) = some (.slice A2 x.length c2) := fun o => ((below_alloc wr o).cell (block_lt_of_cell g2)).trans g2
          have hsz := hbw.out.size
          have ho0 := Lib.hid (own_one wr (k : Int))
          have hx0 := Lib.hid (RI.below hxr (below_alloc wr (.cells #[.int .i64 (k : Int)] 3)))
          have HI1 := Lib.hid (ints_one x)
          have HNx : Hid (acc ++ (rest.take (i + 1)).map (fun r => (k : Int) :: r) = (acc ++ (rest.take i).map fun r => (k : Int) :: r) ++ [(k : Int) :: x]) := by
            show _ = _
            rw [List.take_add_one, hx.out, List.map_append, List.append_assoc]; rfl
          have hlen : (acc ++ (rest.take i).map fun r => (k : Int) :: r).length + 1 ≤ 6188 * 14 := by
            rw [List.length_append, List.length_map, List.length_take]; omega
          have HOk := Lib.hid hol.out
          have HRs := Lib.hid hrest.out
          clear hxl hx hcl hxr hol hrows hrest
          generalize (acc ++ (rest.take i).map fun r => (k : Int) :: r) = nx at *
          go_wp2_with (first
            | (at_builtin; refine wpList_appendV _ rfl _ _ _ rfl 3 i0 _ 8 Tryz.underlying42 hi hz0 hz1 hz2 rfl wr.heap.size _ [Value.int .i64 (k : Int)] rfl ho0.out _ _ rfl hx0.out HI1.out (by first | omega | (simp; done) | (simp; omega)) (by first | omega | (simp; done) | (simp; omega)) (by first | omega | (simp; done) | (simp; omega)) ?_; intro v1 w2 hown1 hg1 hat1; have HB2 := Lib.hid (below_own (below_alloc wr _) (by simp) ho0.out hg1); have hsz2 := HB2.out.size; obtain ⟨g2', cap2, ev, -, -⟩ := OV.shape hown1 (by simp); rw [show ([Value.int .i64 (k : Int)] ++ x.map (Value.int .i64)).length = 1 + x.length by simp; omega] at ev; subst ev; have HRw := Lib.hid (show OI w2 wr.heap.size (.slice (some ⟨g2', 0, none⟩) (1 + x.length) cap2) ((k : Int) :: x) from (by show OV _ _ _ _ _; simpa using hown1)); obtain ⟨us, hul, hov, hrv, hfin⟩ := OL.snoc (OL.below HOk.out HB2.out) (OV.mono HRw.out hsz); have HOv := Lib.hid hov; have HRv := Lib.hid hrv; have HFin := Lib.hid hfin; have hus : us.length + 1 ≤ 6188 * 14 := (by rw [hul]; exact hlen); clear hown1 hg1 hat1 hul hov hrv hfin)
            | (at_builtin; refine wpList_appendV _ rfl _ _ _ rfl 42 j0 _ 24 Tryz.underlying70 hj hj0 hj1 hj2 rfl w.heap.size _ _ rfl HOv.out _ _ rfl HRv.out (one_ones rfl) (by first | omega | (simp; done) | (simp; omega)) (by first | omega | (simp; done) | (simp; omega)) (by first | omega | (simp; done) | (simp; omega)) ?_; intro v3 w4 hown3 hg3 hat3; obtain ⟨hf1, hf2⟩ := HFin.out v3 w4 hown3 hg3; have HF1 := Lib.hid hf1; have HRz := Lib.hid (OL.keptL (OL.below (OL.below HRs.out HB2.out) (below_alloc w2 _)) HOv.out hne.out hg3); have HNz := Lib.hid (own_ne hat3 hne.out (fun j hj => (by have q := (HRs.out.lt j hj).2; simp; omega))); have HF3 := Lib.hid (hf2 w.heap.size w (hbw.out.trans (HB2.out.mono hsz)) (Nat.le_refl _) (by omega) (by omega)); clear hown3 hg3 hat3 hf1 hf2))
          go_wp2
          go_roundw
          case rel => exact ⟨i + 1, _, rfl, by omega, by go_num, by rw [HNx.out]; exact HF1.out, HRz.out, HNz.out, HF3.out⟩
          case measure => simp [intOf]; omega
        · obtain rfl : i = rest.length := by omega
          have HO2 : Hid (OL w.heap.size wr vo (lstP m d (k + 1))) := by
            rw [HSk.out]
            have h := hol.out
            rwa [List.take_of_length_le (Nat.le_refl _)] at h
          clear hol
          go_wp2
          go_roundw
          case rel => exact ⟨k + 1, _, rfl, by omega, by go_num, HO2.out, hbw.out⟩
          case measure => simp [intOf]; omega
    · obtain rfl : k = d + 1 := by omega
      have hkz : ¬ (((d + 1 : Nat) : Int) ≤ (d : Int)) := by omega
      have HRr := Lib.hid (show OL w.heap.size wo vo (eflL (m + 1) d) from by rw [HFull.out]; exact hol.out)
      clear hol
      go_wp2
      go_ret
      exact ⟨_, rfl, HRr.out, hb.out⟩
theorem rListed_any : ∀ (m d : Nat) (w : World), m ≤ 5 → d ≤ 12 →
    Calls Tryz.prog 126 #[.int .i64 ((m + 1 : Nat) : Int), .int .i64 (d : Int)] w fun e w' => ∃ v, e = .returned v ∧ OL w.heap.size w' v (eflL m d) ∧ Below w.heap.size w w'
  | 0, d, w, _, _ => rListed0 d w
  | m + 1, d, w, hm, hd => rListedS m (m + 1 + 1) d w rfl (by omega) hd fun k W hk => rListed_any m (d - k) W (by omega) (by omega)
end Go.Proofs.YtgcnijmmjlfabaaGreatDoor

