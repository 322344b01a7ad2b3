/- Contract of the checker's grouped. -/
import Derived.Test.YtgcnijmmjlfabaaGreatDoorK09
import Derived.Test.YtgcnijmmjlfabaaGreatDoorK00
set_option maxRecDepth 100000
set_option maxHeartbeats 16000000
namespace Go.Proofs.YtgcnijmmjlfabaaGreatDoor
open Go.RowKit Go.Shelf

/-- The array of four matrices, the first k of which are there. -/
def ArrR (n : Nat) (pf : List Int) (W : World) (bm k : Nat) (w : World) : Prop := ∃ us : List Value, us.length = 8 ∧ BL w bm 154 us ∧ ∀ j, j < k → ∃ sl, us[j * 2]? = some (.int .i64 (n : Int)) ∧ us[j * 2 + 1]? = some sl ∧ RI W sl (sqP n pf j)
theorem getElem?_set2 {us : List Value} {a : Nat} {x : Value} {b : Nat} (ha : a < us.length) : (us.set a x)[b]? = if b = a then some x else us[b]? := by
  rw [List.getElem?_set]
  by_cases e : b = a
  · rw [if_pos e.symm, if_pos e, if_pos (by omega)]
  · rw [if_neg (fun h => e h.symm), if_neg e]
theorem arr_step {n : Nat} {pf : List Int} {bm k : Nat} {W w : World} {us : List Value} {sl : Value} (hb : BL w bm 154 us) (hul : us.length = 8) (hk : k < 4) (hus : ∀ j, j < k → ∃ sl, us[j * 2]? = some (.int .i64 (n : Int)) ∧ us[j * 2 + 1]? = some sl ∧ RI W sl (sqP n pf j)) (hr : RI W sl (sqP n pf k)) :
    ArrR n pf W bm (k + 1) ((w.setCell ⟨bm, k * 2, none⟩ (.int .i64 (n : Int))).setCell ⟨bm, k * 2 + 1, none⟩ sl) := by
  have h1 := hb.set (k * 2) (.int .i64 (n : Int))
  have h2 := h1.set (k * 2 + 1) sl
  have hl1 : (us.set (k * 2) (.int .i64 (n : Int))).length = 8 := by rw [List.length_set]; exact hul
  refine ⟨_, by rw [List.length_set]; exact hl1, h2, fun j hj => ?_⟩
  rw [getElem?_set2 (by omega), getElem?_set2 (by omega), getElem?_set2 (by omega), getElem?_set2 (by omega)]
  by_cases e : j = k
  · subst e
    exact ⟨sl, by rw [if_neg (by omega), if_pos rfl], by rw [if_pos rfl], hr⟩
  · obtain ⟨s, a, b, c⟩ := hus j (by omega)
    exact ⟨s, by rw [if_neg (by omega), if_neg (by omega)]; exact a, by rw [if_neg (by omega), if_neg (by omega)]; exact b, c⟩
theorem joins_open {w : World} {vj : Value} {n : Nat} {es : List Tri} (h : RR w vj (joinsL (n + 1) es)) : ∃ adj cj, vj = .slice (some adj) (n + 1) cj ∧ ∀ v, v < n + 1 → ∃ ad1 c1, adj.block < w.heap.size ∧ w.cell? (adj.add v) = some (.slice (some ad1) (n + 1) c1) ∧ ∀ u, u < n + 1 → ad1.block < w.heap.size ∧ w.cell? (ad1.add u) = some (.int .i64 (wgt es v u)) := by
  obtain ⟨Aj, cj, rfl, -, -, hrows⟩ := h.open_
  have hjl : (joinsL (n + 1) es).length = n + 1 := by simp [joinsL]
  rw [hjl] at hrows ⊢
  obtain ⟨adj, -, -, -, rfl, -⟩ := hrows 0 (by omega)
  refine ⟨adj, cj, rfl, fun v hv => ?_⟩
  obtain ⟨ad, row, A1, c1, he, hb, hrow, hcl, hrr⟩ := hrows v hv
  cases he
  obtain rfl : (List.range (n + 1)).map (fun u => wgt es v u) = row := by
    have := hrow.out
    rw [joins_row hv] at this
    cases this; rfl
  have hrl : ((List.range (n + 1)).map fun u => wgt es v u).length = n + 1 := by simp
  obtain ⟨A9, c9, he9, -, -, hc9⟩ := hrr.open_
  rw [hrl] at hcl hc9 he9
  simp only [Value.slice.injEq, true_and] at he9
  obtain ⟨rfl, rfl⟩ := he9
  obtain ⟨ad1, -, rfl, -⟩ := hc9 0 (by omega)
  refine ⟨ad1, c1, hb, hcl, fun u hu => ?_⟩
  obtain ⟨ad2, z, he2, hb2, hz, hcz⟩ := hc9 u hu
  cases he2
  have hz' := hz.out
  simp [hu] at hz'
  rw [← hz'] at hcz
  exact ⟨hb2, hcz⟩
theorem kGrouped_any (gv va vb vf vp : Value) (n : Nat) (q nn : Int) (es : List Tri) (l pf : List Int) (w : World) (hg : GX w gv (n + 1) es) (hl : RI w vf l) (hp : RI w vp pf) (hE : Edges (n + 1) es) (hn : n ≤ 11) (hll : l.length ≤ 100000) (hpb : Bd 2000000 pf) (hpl : pf.length ≤ 100000) :
    Calls Tryz.prog 78 #[gv, .agg #[.int .i64 q, .int .i64 nn, va, vb, vf, vp]] w fun e w' => e = .returned (.int .i64 (groupedE n es l pf)) ∧ Below w.heap.size w w' := by
  obtain ⟨Al, cl, rfl, -⟩ := hl.open_
  obtain ⟨Ap, cp, rfl, hlc, -, hcp⟩ := hp.open_
  obtain ⟨W0, hW0⟩ : ∃ W0, W0 = w.alloc (.cells #[.int .i64 q, .int .i64 nn, va, vb, .slice Al l.length cl, .slice Ap pf.length cp] 87) := ⟨_, rfl⟩
  have hb0 : Below w.heap.size w W0 := by rw [hW0]; exact below_alloc w _
  have hbx : BL W0 w.heap.size 87 [.int .i64 q, .int .i64 nn, va, vb, .slice Al l.length cl, .slice Ap pf.length cp] := by rw [hW0]; exact BL.new' w _ _
  have HG := Lib.hid (hg.below hb0)
  have hgw := hg.below hb0
  obtain ⟨bg, vj, vv, rfl, hb, hvj, hvv⟩ := hgw
  obtain ⟨adj, cj, rfl, hjo⟩ := joins_open hvj
  obtain ⟨Av, cv, rfl, -⟩ := hvv.open_
  rw [valsL_len] at hb hvv
  obtain ⟨Av', cv', hev, -, -, hcv⟩ := hvv.open_
  simp only [Value.slice.injEq] at hev
  obtain ⟨rfl, -, rfl⟩ := hev
  rw [valsL_len] at hcv
  obtain ⟨adv, -, rfl, -⟩ := hcv 0 (by omega)
  have HJo := Lib.hid hjo
  have HCv : Hid (∀ v, v < n + 1 → adv.block < W0.heap.size ∧ W0.cell? (adv.add v) = some (.int .i64 (valK es v (n + 1)))) := fun v hv => by
    obtain ⟨ad', z, he, h1, h2, h3⟩ := hcv v hv
    cases he
    have := getD_of' h2.out
    rw [valsL_at hv] at this
    rw [this]
    exact ⟨h1, h3⟩
  clear hjo hcv hvj hvv
  have g0 := hb.cell 0
  have x5 := hbx.cell 5
  have HX := Lib.hid hbx
  have HBg := Lib.hid hb
  have HL := Lib.hid (RI.below hl hb0)
  have HP := Lib.hid (RI.below hp hb0)
  have HB0 := Lib.hid hb0
  have HW0 := Lib.hid hW0
  have g0' := g0
  have x5' := x5
  rw [hW0] at g0 x5
  have hnn : (4 : Int) * (n : Int) * (n : Int) = ((4 * n * n : Nat) : Int) := by push_cast; rfl
  have h121 : n * n ≤ 121 := Nat.le_trans (Nat.mul_le_mul hn hn) (by decide)
  have h484 : 4 * n * n ≤ 484 := by rw [Nat.mul_assoc]; omega
  have e0 : IntKind.i64.wrap ((4 : Int) * (n : Int)) = 4 * (n : Int) := by simp (disch := omega) only [IntWalk.i64_in]
  have e1 : IntKind.i64.wrap ((4 : Int) * (n : Int) * (n : Int)) = 4 * (n : Int) * (n : Int) := by rw [hnn]; simp (disch := omega) only [IntWalk.i64_in]
  by_cases hpn : pf.length = 4 * n * n
  · have t : ((pf.length : Int) != 4 * (n : Int) * (n : Int)) = false := by rw [hnn, bne_eq_false_iff_eq]; omega
    have HSpec : Hid (groupedE n es l pf = if (diaB n (tmsL n (sqP n pf 0) (sqP n pf 1)) [] && diaB n (tmsL n (sqP n pf 2) (sqP n pf 3)) [] && diaB n (tmsL n (tmsL n (sqP n pf 0) (redL n es)) (sqP n pf 2)) l) = true then 0 else 16) := by
      show _ = _; unfold groupedE; rw [if_neg (by simpa using hpn)]
    have HPn := Lib.hid hpn
    clear hnn hpn
    obtain ⟨W1, hW1⟩ : ∃ W1, W1 = W0.alloc (.cells #[.int .i64 0, .slice none 0 0, .int .i64 0, .slice none 0 0, .int .i64 0, .slice none 0 0, .int .i64 0, .slice none 0 0] 154) := ⟨_, rfl⟩
    have hb1 : Below W0.heap.size W0 W1 := by rw [hW1]; exact below_alloc W0 _
    have hz0 : W0.heap.size = w.heap.size + 1 := by rw [hW0]; simp
    have hm1 : BL W1 (w.heap.size + 1) 154 [.int .i64 0, .slice none 0 0, .int .i64 0, .slice none 0 0, .int .i64 0, .slice none 0 0, .int .i64 0, .slice none 0 0] := by rw [hW1, ← hz0]; exact BL.new' W0 _ _
    have HZ0 := Lib.hid hz0
    have HCp := Lib.hid hcp
    have HAr : Hid (ArrR n pf W0 (w.heap.size + 1) 0 W1) := ⟨_, rfl, hm1, fun j hj => by omega⟩
    have HB1 := Lib.hid hb1
    have HW1 := Lib.hid hW1
    clear hg hl hp hb hbx hb0 hW0 hW1 hb1 hm1 hcp hz0
    go_enter Tryz.func78, Tryz.ntmps78
    go_wp2_with fail
    rw [← HW0.out, ← HW1.out]
    clear g0 x5
    go_loopw [24] (fun ii wr => ∃ k : Nat, k ≤ 4 ∧ ii = .int .i64 (k : Int) ∧ Hid (ArrR n pf W0 (w.heap.size + 1) k wr) ∧ Hid (Below W0.heap.size W0 wr)) (fun i _ => 4 - (intOf i).toNat)
    case atStart => exact ⟨0, by omega, rfl, HAr.out, HB1.out⟩
    case round =>
      obtain ⟨k, hk, rfl, hA, hB⟩ := hrel
      by_cases hlt : k < 4
      · have c5 := (HX.out.bel hB.out).cell 5
        obtain ⟨us, hul, hbl, hus⟩ := hA.out
        have m0 := hbl.cell (k * 2)
        have m1 := hbl.cell (k * 2 + 1)
        rw [List.getElem?_eq_getElem (by omega)] at m0 m1
        have m2 := hbl.frozen (k * 2)
        have m3 := hbl.frozen (k * 2 + 1)
        have HU := Lib.hid hus
        have HBl := Lib.hid hbl
        have hRP := HP
        have hq1 : k * (n * n) ≤ (k + 1) * (n * n) := Nat.mul_le_mul_right _ (by omega)
        have hq2 : (k + 1) * (n * n) ≤ 4 * (n * n) := Nat.mul_le_mul_right _ (by omega)
        have hq3 : (k + 1) * (n * n) ≤ pf.length := by rw [HPn.out, Nat.mul_assoc]; exact hq2
        obtain ⟨r1, hr1⟩ : ∃ r : Int, r = (k : Int) * (n : Int) := ⟨_, rfl⟩
        obtain ⟨r2, hr2⟩ : ∃ r : Int, r = ((k : Int) + 1) * (n : Int) := ⟨_, rfl⟩
        have hr1' : 0 ≤ r1 ∧ r1 ≤ 100 := by
          have : k * n ≤ 3 * 11 := Nat.mul_le_mul (by omega) hn
          rw [hr1, ← Int.natCast_mul]; omega
        have hr2' : 0 ≤ r2 ∧ r2 ≤ 100 := by
          have : (k + 1) * n ≤ 4 * 11 := Nat.mul_le_mul (by omega) hn
          rw [hr2, show (k : Int) + 1 = ((k + 1 : Nat) : Int) by push_cast; rfl, ← Int.natCast_mul]; omega
        have w1 : r1 * (n : Int) = ((k * (n * n) : Nat) : Int) := by rw [hr1]; push_cast; rw [Int.mul_assoc]
        have w2 : r2 * (n : Int) = (((k + 1) * (n * n) : Nat) : Int) := by rw [hr2]; push_cast; rw [Int.mul_assoc]
        have f1 : IntKind.i64.wrap ((k : Int) * (n : Int)) = r1 := by rw [← hr1]; simp (disch := omega) only [IntWalk.i64_in]
        have f2 : IntKind.i64.wrap (((k : Int) + 1) * (n : Int)) = r2 := by rw [← hr2]; simp (disch := omega) only [IntWalk.i64_in]
        obtain ⟨q1, hq1'⟩ : ∃ q, q = k * (n * n) := ⟨_, rfl⟩
        obtain ⟨q2, hq2'⟩ : ∃ q, q = (k + 1) * (n * n) := ⟨_, rfl⟩
        have HQ1 := Lib.hid hq1'
        have HQ2 := Lib.hid hq2'
        rw [← hq1', ← hq2'] at hq1
        rw [← hq2'] at hq2 hq3 w2
        rw [← hq1'] at w1
        have hq4 : q2 ≤ 500 := by rw [HPn.out] at hq3; omega
        have f3 : IntKind.i64.wrap (r1 * (n : Int)) = (q1 : Int) := by rw [w1]; simp (disch := omega) only [IntWalk.i64_in]
        have f4 : IntKind.i64.wrap (r2 * (n : Int)) = (q2 : Int) := by rw [w2]; simp (disch := omega) only [IntWalk.i64_in]
        clear hr1 hr2 w1 w2 hq1' hq2' hus hbl hA
        cases Ap
        · have hri : RI W0 (.slice none (q2 - q1) (cp - q1)) (sqP n pf k) := by
            have h0 : pf.length = 0 := by
              by_cases h : pf.length = 0
              · exact h
              · obtain ⟨_, _, he, _⟩ := HCp.out 0 (by omega)
                cases he
            exact RI.emp (m := 0) (by unfold sqP; simp; omega) rfl (by omega)
          have HAn : Hid (ArrR n pf W0 (w.heap.size + 1) (k + 1) ((wr.setCell ⟨w.heap.size + 1, k * 2, none⟩ (.int .i64 (n : Int))).setCell ⟨w.heap.size + 1, k * 2 + 1, none⟩ (.slice none (q2 - q1) (cp - q1)))) := arr_step HBl.out hul hlt HU.out hri
          have HBn := Lib.hid ((hB.out.setCell (p := ⟨w.heap.size + 1, k * 2, none⟩) (by rw [HZ0.out]; exact Nat.le_refl _) (.int .i64 (n : Int))).setCell (p := ⟨w.heap.size + 1, k * 2 + 1, none⟩) (by rw [HZ0.out]; exact Nat.le_refl _) (.slice none (q2 - q1) (cp - q1)))
          clear hri HBl HU
          go_wp2
          go_roundw
          case rel => exact ⟨k + 1, by omega, by go_num, HAn.out, HBn.out⟩
          case measure => simp [intOf]; omega
        · rename_i ad
          have hri : RI W0 (.slice (if cp = q1 then some ad else some (ad.add q1)) (q2 - q1) (cp - q1)) (sqP n pf k) := by
            have h := RI.sub hRP.out (i := q1) (j := q2) hq1 hq3
            rw [HQ1.out, HQ2.out] at h
            rw [HQ1.out, HQ2.out]
            split
            · have hq3' := hq3
              rw [HQ2.out] at hq3'
              have hq1' := hq1
              rw [HQ1.out, HQ2.out] at hq1'
              exact RI.emp (m := 0) (by unfold sqP; simp; omega) rfl (by omega)
            · exact h
          have HAn : Hid (ArrR n pf W0 (w.heap.size + 1) (k + 1) ((wr.setCell ⟨w.heap.size + 1, k * 2, none⟩ (.int .i64 (n : Int))).setCell ⟨w.heap.size + 1, k * 2 + 1, none⟩ (.slice (if cp = q1 then some ad else some (ad.add q1)) (q2 - q1) (cp - q1)))) := arr_step HBl.out hul hlt HU.out hri
          have HBn := Lib.hid ((hB.out.setCell (p := ⟨w.heap.size + 1, k * 2, none⟩) (by rw [HZ0.out]; exact Nat.le_refl _) (.int .i64 (n : Int))).setCell (p := ⟨w.heap.size + 1, k * 2 + 1, none⟩) (by rw [HZ0.out]; exact Nat.le_refl _) (.slice (if cp = q1 then some ad else some (ad.add q1)) (q2 - q1) (cp - q1)))
          clear hri HBl HU
          go_wp2
          go_roundw
          case rel => exact ⟨k + 1, by omega, by go_num, HAn.out, HBn.out⟩
          case measure => simp [intOf]; omega
      · obtain ⟨us, hul, hbl, hus⟩ := hA.out
        rw [show k = 4 by omega] at hus
        clear hk
        obtain ⟨s0, a0, b0, r0⟩ := hus 0 (by omega)
        obtain ⟨s1, a1, b1, r1⟩ := hus 1 (by omega)
        obtain ⟨s2, a2, b2, r2⟩ := hus 2 (by omega)
        obtain ⟨s3, a3, b3, r3⟩ := hus 3 (by omega)
        have HM1 : Hid (BL wr (w.heap.size + 1) 154 [.int .i64 (n : Int), s0, .int .i64 (n : Int), s1, .int .i64 (n : Int), s2, .int .i64 (n : Int), s3]) := by
          obtain rfl : us = [.int .i64 (n : Int), s0, .int .i64 (n : Int), s1, .int .i64 (n : Int), s2, .int .i64 (n : Int), s3] := by
            match us, hul with
            | [x0, x1, x2, x3, x4, x5, x6, x7], _ =>
              simp at a0 b0 a1 b1 a2 b2 a3 b3
              rw [a0, b0, a1, b1, a2, b2, a3, b3]
          exact hbl
        have HR0 := Lib.hid r0
        have HR1 := Lib.hid r1
        have HR2 := Lib.hid r2
        have HR3 := Lib.hid r3
        have HBa := Lib.hid hB.out
        clear hus hul hbl a0 b0 r0 a1 b1 r1 a2 b2 r2 a3 b3 r3 hA hB us
        obtain ⟨wa, rfl⟩ : ∃ wa, wa = wr := ⟨_, rfl⟩
        obtain ⟨m, hm⟩ : ∃ m, m = n * n := ⟨_, rfl⟩
        have HM := Lib.hid hm
        have hmi : (n : Int) * (n : Int) = (m : Int) := by rw [hm]; push_cast; rfl
        rw [← hm] at h121
        have en : IntKind.i64.wrap ((n : Int) * (n : Int)) = (m : Int) := by rw [hmi]; simp (disch := omega) only [IntWalk.i64_in]
        have hmk := run_make_row' (P := Tryz.prog) 42 3 (.int .i64 0) 8 Tryz.underlying42 int_info rfl .i64 .i64 m (by omega) (by omega)
        obtain ⟨W2, hW2⟩ : ∃ W2, W2 = (wa.alloc (.cells (madeCells #[.int .i64 0] m) 3)).alloc (.cells #[.int .i64 (n : Int), .slice (some ⟨wa.heap.size, 0, none⟩) m m] 153) := ⟨_, rfl⟩
        have HB2 : Hid (Below wa.heap.size wa W2) := by show Below _ _ _; rw [hW2]; exact (below_alloc wa _).alloc (by simp) _
        have HX2 : Hid (BL W2 (wa.heap.size + 1) 153 [.int .i64 (n : Int), .slice (some ⟨wa.heap.size, 0, none⟩) m m]) := by
          show BL _ _ _ _
          rw [hW2]
          have := BL.new' (wa.alloc (.cells (madeCells #[Value.int .i64 0] m) 3)) #[.int .i64 (n : Int), .slice (some ⟨wa.heap.size, 0, none⟩) m m] 153
          rwa [World.size_alloc] at this
        have HO2 : Hid (OI W2 wa.heap.size (.slice (some ⟨wa.heap.size, 0, none⟩) m m) (List.replicate m 0)) := by
          show OI _ _ _ _
          rw [hW2]
          exact OI.below (own_zeros wa m (by omega)) (below_alloc _ _)
        have HSt : Hid (RdR n es 0 0 (List.replicate m 0)) := by rw [hm]; exact RdR.start n es
        have HW2 := Lib.hid hW2
        clear hm hmi hW2
        go_wp2_with fail
        rw [← HW2.out]
        clear hmk en
        have HXs : Hid (∀ (W : World) (p : Nat) (v : Value), BL W (wa.heap.size + 1) 153 [.int .i64 (n : Int), .slice (some ⟨wa.heap.size, 0, none⟩) m m] → BL (W.setCell ⟨wa.heap.size, p, none⟩ v) (wa.heap.size + 1) 153 [.int .i64 (n : Int), .slice (some ⟨wa.heap.size, 0, none⟩) m m]) := fun W p v h => h.set_other (by show wa.heap.size + 1 ≠ wa.heap.size; omega) v
        have HPl : Hid (∀ i k, i < n → k < n → i * n + k < m) := fun i k h1 h2 => by rw [HM.out]; exact pos_lt h1 h2
        have HBx : Hid (∀ W, Below wa.heap.size wa W → Below W0.heap.size W0 W) := fun W h => HBa.out.trans (h.mono HBa.out.size)
        have HW50 : Hid (∀ u v, 0 ≤ wgt es u v ∧ wgt es u v ≤ 50) := wgt50' hE
        go_loopw [53] (fun ii wr => ∃ (i : Nat) (os : List Int), i ≤ n ∧ ii = .int .i64 (i : Int) ∧ Hid (RdR n es i 0 os) ∧ Hid (OI wr wa.heap.size (.slice (some ⟨wa.heap.size, 0, none⟩) m m) os) ∧ Hid (BL wr (wa.heap.size + 1) 153 [.int .i64 (n : Int), .slice (some ⟨wa.heap.size, 0, none⟩) m m]) ∧ Hid (Below wa.heap.size wa wr)) (fun i _ => n - (intOf i).toNat)
        case atStart => exact ⟨0, _, Nat.zero_le _, rfl, HSt.out, HO2.out, HX2.out, HB2.out⟩
        case round =>
          obtain ⟨i, os, hi, rfl, hT, hO, hX, hB⟩ := hrel
          clear HO2 HX2 HB2 HSt
          by_cases hin : i < n
          · go_wp2_with fail
            go_loopw [57] (fun kk wr => ∃ (k : Nat) (os : List Int), k ≤ n ∧ kk = .int .i64 (k : Int) ∧ Hid (RdR n es i k os) ∧ Hid (OI wr wa.heap.size (.slice (some ⟨wa.heap.size, 0, none⟩) m m) os) ∧ Hid (BL wr (wa.heap.size + 1) 153 [.int .i64 (n : Int), .slice (some ⟨wa.heap.size, 0, none⟩) m m]) ∧ Hid (Below wa.heap.size wa wr)) (fun k _ => n - (intOf k).toNat)
            case atStart => exact ⟨0, _, Nat.zero_le _, rfl, hT.out, hO.out, hX.out, hB.out⟩
            case round =>
              obtain ⟨k, os, hk, rfl, hT, hO, hX, hB⟩ := hrel
              have hBw := HBx.out _ hB.out
              have q1 := hX.out.cell 1
              obtain ⟨r, hr⟩ : ∃ r : Int, r = (i : Int) * (n : Int) := ⟨_, rfl⟩
              have hr0 : 0 ≤ r ∧ r ≤ 121 := by
                have : i * n ≤ 11 * 11 := Nat.mul_le_mul (by omega) hn
                rw [hr, ← Int.natCast_mul]; omega
              have e0' : IntKind.i64.wrap ((i : Int) * (n : Int)) = r := by rw [← hr]; simp (disch := omega) only [IntWalk.i64_in]
              have hl : os.length = m := by rw [hT.out.1, HM.out]
              by_cases hkn : k < n
              · have l0 := HPl.out i k hin hkn
                have w0 : r + (k : Int) = ((i * n + k : Nat) : Int) := by rw [hr]; push_cast; rfl
                have hst := hT.out.step hin hkn
                obtain ⟨p0, hp0⟩ : ∃ p0, p0 = i * n + k := ⟨_, rfl⟩
                rw [← hp0] at l0 w0 hst
                obtain ⟨-, -, s1, s2, s3⟩ := hO.out.at' (k := p0) (by rw [hl]; exact l0)
                have j1 := (HBg.out.bel hBw).cell 1
                obtain ⟨ad1, c1, hjb, hjc, hju⟩ := HJo.out (i + 1) (by omega)
                obtain ⟨hub, huc⟩ := hju (k + 1) (by omega)
                obtain ⟨i1, hi1⟩ : ∃ i1, i1 = i + 1 := ⟨_, rfl⟩
                obtain ⟨k1, hk1⟩ : ∃ k1, k1 = k + 1 := ⟨_, rfl⟩
                have v1 : (i : Int) + 1 = (i1 : Int) := by omega
                have v2 : (k : Int) + 1 = (k1 : Int) := by omega
                have j2 : wr.cell? (adj.add i1) = some (.slice (some ad1) (n + 1) c1) := by rw [hi1]; exact (hBw.cell (p := adj.add (i + 1)) (by rw [block_of_add]; exact hjb)).trans hjc
                have j3 : wr.cell? (ad1.add k1) = some (.int .i64 (wgt es (i + 1) (k + 1))) := by rw [hk1]; exact (hBw.cell (p := ad1.add (k + 1)) (by rw [block_of_add]; exact hub)).trans huc
                have hw5 := HW50.out (i + 1) (k + 1)
                have HS := Lib.hid (s3 (-wgt es (i + 1) (k + 1))).1
                have HX2 := Lib.hid (HXs.out wr p0 (.int .i64 (-wgt es (i + 1) (k + 1))) hX.out)
                have HB2 := Lib.hid (hB.out.setCell (p := ⟨wa.heap.size, p0, none⟩) (Nat.le_refl _) (.int .i64 (-wgt es (i + 1) (k + 1))))
                have HT2 := Lib.hid hst
                clear hst s3 hjc hju huc hjb hub hl hT hr hp0 hBw
                generalize wgt es (i + 1) (k + 1) = z at *
                generalize os.getD p0 0 = o at *
                have e1' : IntKind.i64.wrap (r + (k : Int)) = (p0 : Int) := by rw [w0]; simp (disch := omega) only [IntWalk.i64_in]
                have e2' : IntKind.i64.wrap ((i : Int) + 1) = (i1 : Int) := by rw [v1]; simp (disch := omega) only [IntWalk.i64_in]
                have e3' : IntKind.i64.wrap ((k : Int) + 1) = (k1 : Int) := by rw [v2]; simp (disch := omega) only [IntWalk.i64_in]
                have e4' : IntKind.i64.wrap (-z) = -z := by simp (disch := omega) only [IntWalk.i64_in]
                have b0 : (p0 : Int) < m := by omega
                have b1 : (i1 : Int) < (n : Int) + 1 := by omega
                have b2 : (k1 : Int) < (n : Int) + 1 := by omega
                have b3 : i1 < n + 1 := by omega
                have b4 : k1 < n + 1 := by omega
                clear hi1 hk1 v1 v2
                clear w0
                go_wp2_with fail
                refine wp_region_still_tail 21 (by kernel_rfl) (by kernel_rfl) ?_
                change wpStill _ _ wr.drew _ _ _
                simp only [List.take_succ_cons, List.take_zero, List.drop_succ_cons, List.drop_zero]
                repeat still_step
                refine wpStill_nil ?_
                change wpList _ _ _ _ _ wr.drew
                clear e2' e3'
                go_wp2
                go_roundw
                case rel => exact ⟨k + 1, _, by omega, by go_num, HT2.out, OI.below HS.out (Below.refl _ _).drew, HX2.out.drew, HB2.out.drew⟩
                case measure => simp [intOf]; omega
              · obtain rfl : n = k := by omega
                have l0 := HPl.out i i hin hin
                have w0 : r + (i : Int) = ((i * n + i : Nat) : Int) := by rw [hr]; push_cast; rfl
                have hst := hT.out.row hin
                obtain ⟨p0, hp0⟩ : ∃ p0, p0 = i * n + i := ⟨_, rfl⟩
                rw [← hp0] at l0 w0 hst
                obtain ⟨-, -, s1, s2, s3⟩ := hO.out.at' (k := p0) (by rw [hl]; exact l0)
                have j1 := (HBg.out.bel hBw).cell 2
                obtain ⟨hvb, hvc⟩ := HCv.out (i + 1) (by omega)
                obtain ⟨i1, hi1⟩ : ∃ i1, i1 = i + 1 := ⟨_, rfl⟩
                have v1 : (i : Int) + 1 = (i1 : Int) := by omega
                have j2 : wr.cell? (adv.add i1) = some (.int .i64 (valK es (i + 1) (n + 1))) := by rw [hi1]; exact (hBw.cell (p := adv.add (i + 1)) (by rw [block_of_add]; exact hvb)).trans hvc
                have HS := Lib.hid (s3 (valK es (i + 1) (n + 1))).1
                have HX2 := Lib.hid (HXs.out wr p0 (.int .i64 (valK es (i + 1) (n + 1))) hX.out)
                have HB2 := Lib.hid (hB.out.setCell (p := ⟨wa.heap.size, p0, none⟩) (Nat.le_refl _) (.int .i64 (valK es (i + 1) (n + 1))))
                have HT2 := Lib.hid hst
                clear hst s3 hvc hvb hl hT hr hp0 hBw
                generalize valK es (i + 1) (n + 1) = z at *
                generalize os.getD p0 0 = o at *
                have e1' : IntKind.i64.wrap (r + (i : Int)) = (p0 : Int) := by rw [w0]; simp (disch := omega) only [IntWalk.i64_in]
                have e2' : IntKind.i64.wrap ((i : Int) + 1) = (i1 : Int) := by rw [v1]; simp (disch := omega) only [IntWalk.i64_in]
                have b0 : (p0 : Int) < m := by omega
                have b1 : (i1 : Int) < (n : Int) + 1 := by omega
                have b3 : i1 < n + 1 := by omega
                clear hi1 v1
                clear w0
                go_wp2_with fail
                refine wp_region_still_tail 16 (by kernel_rfl) (by kernel_rfl) ?_
                change wpStill _ _ wr.drew _ _ _
                simp only [List.take_succ_cons, List.take_zero, List.drop_succ_cons, List.drop_zero]
                repeat still_step
                refine wpStill_nil ?_
                change wpList _ _ _ _ _ wr.drew
                clear e2'
                go_wp2
                go_roundw
                case rel => exact ⟨i + 1, _, by omega, by go_num, HT2.out, OI.below HS.out (Below.refl _ _).drew, HX2.out.drew, HB2.out.drew⟩
                case measure => simp [intOf]; omega
          · obtain rfl : n = i := by omega
            obtain rfl := hT.out.end_
            have hBw := HBx.out _ hB.out
            have HBf := Lib.hid (HB0.out.trans (hBw.mono HB0.out.size))
            have HK : Hid (∀ W : World, Below wr.heap.size wr W → W.cell? ⟨w.heap.size + 1, 0, none⟩ = some (.int .i64 (n : Int)) ∧ W.cell? ⟨w.heap.size + 1, 1, none⟩ = some s0 ∧ W.cell? ⟨w.heap.size + 1, 2, none⟩ = some (.int .i64 (n : Int)) ∧ W.cell? ⟨w.heap.size + 1, 3, none⟩ = some s1 ∧ W.cell? ⟨w.heap.size + 1, 4, none⟩ = some (.int .i64 (n : Int)) ∧ W.cell? ⟨w.heap.size + 1, 5, none⟩ = some s2 ∧ W.cell? ⟨w.heap.size + 1, 6, none⟩ = some (.int .i64 (n : Int)) ∧ W.cell? ⟨w.heap.size + 1, 7, none⟩ = some s3 ∧ W.cell? ⟨wa.heap.size + 1, 0, none⟩ = some (.int .i64 (n : Int)) ∧ W.cell? ⟨wa.heap.size + 1, 1, none⟩ = some (.slice (some ⟨wa.heap.size, 0, none⟩) m m) ∧ W.cell? ⟨w.heap.size, 4, none⟩ = some (.slice Al l.length cl)) := fun W hW =>
              have hM := (HM1.out.bel hB.out).bel hW
              have hR := hX.out.bel hW
              ⟨hM.cell 0, hM.cell 1, hM.cell 2, hM.cell 3, hM.cell 4, hM.cell 5, hM.cell 6, hM.cell 7, hR.cell 0, hR.cell 1, ((HX.out.bel hBw).bel hW).cell 4⟩
            have hbs := fun j => sqP_bd (n := n) hpb (by decide) j
            have hls := fun j (hj : j < 4) => sqP_len (n := n) (j := j) HPn.out hj
            have hw0 : ∀ W : World, Below wr.heap.size wr W → Below W0.heap.size W0 W := fun W h => hBw.trans (h.mono hBw.size)
            have HT01 : Hid (∀ W : World, Below wr.heap.size wr W → Calls Tryz.prog 115 #[.agg #[.int .i64 (n : Int), s0], .agg #[.int .i64 (n : Int), s1]] W fun e w' => ∃ v, e = .returned v ∧ SQ w' v n (tmsL n (sqP n pf 0) (sqP n pf 1)) ∧ Below W.heap.size W w') := fun W h =>
              kTimes_any _ _ n _ _ 2000000 2000000 W ⟨s0, rfl, RI.below HR0.out (hw0 W h)⟩ ⟨s1, rfl, RI.below HR1.out (hw0 W h)⟩ hn (hls 0 (by decide)) (hls 1 (by decide)) (hbs 0) (hbs 1) (by decide) (by decide)
            have HT23 : Hid (∀ W : World, Below wr.heap.size wr W → Calls Tryz.prog 115 #[.agg #[.int .i64 (n : Int), s2], .agg #[.int .i64 (n : Int), s3]] W fun e w' => ∃ v, e = .returned v ∧ SQ w' v n (tmsL n (sqP n pf 2) (sqP n pf 3)) ∧ Below W.heap.size W w') := fun W h =>
              kTimes_any _ _ n _ _ 2000000 2000000 W ⟨s2, rfl, RI.below HR2.out (hw0 W h)⟩ ⟨s3, rfl, RI.below HR3.out (hw0 W h)⟩ hn (hls 2 (by decide)) (hls 3 (by decide)) (hbs 2) (hbs 3) (by decide) (by decide)
            have HT0r : Hid (∀ W : World, Below wr.heap.size wr W → Calls Tryz.prog 115 #[.agg #[.int .i64 (n : Int), s0], .agg #[.int .i64 (n : Int), .slice (some ⟨wa.heap.size, 0, none⟩) m m]] W fun e w' => ∃ v, e = .returned v ∧ SQ w' v n (tmsL n (sqP n pf 0) (redL n es)) ∧ Below W.heap.size W w') := fun W h =>
              kTimes_any _ _ n _ _ 2000000 600 W ⟨s0, rfl, RI.below HR0.out (hw0 W h)⟩ ⟨_, rfl, RI.below (OI.ri hO.out) h⟩ hn (hls 0 (by decide)) (redL_len n es) (hbs 0) (redL_bd hE hn) (by decide) (by decide)
            have hb3 : Bd (1200000000 * 11) (tmsL n (sqP n pf 0) (redL n es)) := tmsL_bd (hbs 0) (redL_bd hE hn) (by decide) (by decide) (by decide) hn
            have HTx2 : Hid (∀ (v : Value) (W : World), Below wr.heap.size wr W → SQ W v n (tmsL n (sqP n pf 0) (redL n es)) → Calls Tryz.prog 115 #[v, .agg #[.int .i64 (n : Int), s2]] W fun e w' => ∃ v, e = .returned v ∧ SQ w' v n (tmsL n (tmsL n (sqP n pf 0) (redL n es)) (sqP n pf 2)) ∧ Below W.heap.size W w') := fun v W h hv =>
              kTimes_any _ _ n _ _ (1200000000 * 11) 2000000 W hv ⟨s2, rfl, RI.below HR2.out (hw0 W h)⟩ hn (tmsL_len n _ _) (hls 2 (by decide)) hb3 (hbs 2) (by decide) (by decide)
            have HDn : Hid (∀ (v : Value) (x : List Int) (W : World), SQ W v n x → x.length = n * n → Calls Tryz.prog 116 #[v, .slice none 0 0] W fun e w' => e = .returned (.bool (diaB n x [])) ∧ Below W.heap.size W w') := fun v x W hv hx =>
              kDiag_any v _ n x [] W hv (RI.emp (m := 0) rfl rfl rfl) hn hx (by simp)
            have HDl : Hid (∀ (v : Value) (W : World), Below wr.heap.size wr W → SQ W v n (tmsL n (tmsL n (sqP n pf 0) (redL n es)) (sqP n pf 2)) → Calls Tryz.prog 116 #[v, .slice Al l.length cl] W fun e w' => e = .returned (.bool (diaB n (tmsL n (tmsL n (sqP n pf 0) (redL n es)) (sqP n pf 2)) l)) ∧ Below W.heap.size W w') := fun v W h hv =>
              kDiag_any v _ n _ l W hv (RI.below HL.out (hw0 W h)) hn (tmsL_len n _ _) hll
            have HPr : Hid (∀ (c : Bool) (W : World), Calls Tryz.prog 107 #[.bool c] W fun e w' => e = .returned (.int .i64 (if c then 0 else 16)) ∧ W = w') := fun c W => kProof_any c W
            have HX1 := Lib.hid (tmsL_len n (sqP n pf 0) (sqP n pf 1))
            have HX2 := Lib.hid (tmsL_len n (sqP n pf 2) (sqP n pf 3))
            have hB0r : Below wr.heap.size wr wr.drew := (Below.refl _ _).drew
            have HB0r := Lib.hid hB0r
            have HS0 := Lib.hid (HK.out wr.drew hB0r)
            have HT0 := Lib.hid (HT01.out wr.drew hB0r)
            have HSp := HSpec
            clear HSpec hBw hw0 hbs hls hb3 hB0r hT hO hX hB hE hpb HT01 HR0 HR1 HR2 HR3 HM1 HXs HBx HPl HW50 HJo HCv HX HL HP HBg HG g0' x5' HBa HCp HAr HB1 HW1
            generalize tmsL n (tmsL n (sqP n pf 0) (redL n es)) (sqP n pf 2) = x3 at *
            generalize tmsL n (sqP n pf 0) (redL n es) = xr at *
            generalize tmsL n (sqP n pf 0) (sqP n pf 1) = x1 at *
            generalize tmsL n (sqP n pf 2) (sqP n pf 3) = x2 at *
            have HDn1 := Lib.hid (fun v W => HDn.out v x1 W)
            have HDn2 := Lib.hid (fun v W => HDn.out v x2 W)
            clear HDn
            generalize diaB n x1 [] = d1 at *
            generalize diaB n x2 [] = d2 at *
            generalize diaB n x3 l = d3 at *
            cases d1
            · go_wp2_with fail
              refine wp_region_held_drew (S := (fun W' : World => W'.cell? ⟨w.heap.size + 1, 0, none⟩ = some (.int .i64 (n : Int)) ∧ W'.cell? ⟨w.heap.size + 1, 1, none⟩ = some s0 ∧ W'.cell? ⟨w.heap.size + 1, 2, none⟩ = some (.int .i64 (n : Int)) ∧ W'.cell? ⟨w.heap.size + 1, 3, none⟩ = some s1 ∧ W'.cell? ⟨w.heap.size + 1, 4, none⟩ = some (.int .i64 (n : Int)) ∧ W'.cell? ⟨w.heap.size + 1, 5, none⟩ = some s2 ∧ W'.cell? ⟨w.heap.size + 1, 6, none⟩ = some (.int .i64 (n : Int)) ∧ W'.cell? ⟨w.heap.size + 1, 7, none⟩ = some s3 ∧ W'.cell? ⟨wa.heap.size + 1, 0, none⟩ = some (.int .i64 (n : Int)) ∧ W'.cell? ⟨wa.heap.size + 1, 1, none⟩ = some (.slice (some ⟨wa.heap.size, 0, none⟩) m m) ∧ W'.cell? ⟨w.heap.size, 4, none⟩ = some (.slice Al l.length cl))) (by kernel_rfl) HS0.out (fun hHeld => ?_)
              refine tkY (v := ?_) 0 (some 99) rfl (.inl ⟨by rfl, ?_⟩) ?_
              rotate_left
              · (intro w hSw; (try dsimp only at hSw); go_simp; try with_reducible rfl)
              try simp only [Act.put, tk1, tk2, tk3]
              refine tkY (v := ?_) 1 (some 100) rfl (.inl ⟨by rfl, ?_⟩) ?_
              rotate_left
              · (intro w hSw; (try dsimp only at hSw); go_simp; try with_reducible rfl)
              try simp only [Act.put, tk1, tk2, tk3]
              refine tkY (v := ?_) 2 (some 101) rfl (.inl ⟨by rfl, ?_⟩) ?_
              rotate_left
              · (intro w hSw; (try dsimp only at hSw); go_simp; try with_reducible rfl)
              try simp only [Act.put, tk1, tk2, tk3]
              refine tkY (v := ?_) 3 (some 102) rfl (.inl ⟨by rfl, ?_⟩) ?_
              rotate_left
              · (intro w hSw; (try dsimp only at hSw); go_simp; try with_reducible rfl)
              try simp only [Act.put, tk1, tk2, tk3]
              refine wpAnyH_ready (rs := [4]) (by kernel_rfl) (by simp) ?_
              refine AllReadyH.cons (o := { dst := some 103, op := _, type := _, pos := _, after := _, guard := _ }) rfl (fun K hK => ?_) AllReadyH.nil
              go_simp
              (with_reducible refine HT0.out.mono ?_); rintro e w1 ⟨_, rfl, ⟨sl1, rfl, hr1⟩, hb1⟩; have HB1 := Lib.hid (HB0r.out.trans (hb1.mono HB0r.out.size)); have HS1 := Lib.hid (HK.out w1 HB1.out); have HD1 := Lib.hid (HDn1.out (.agg #[.int .i64 (n : Int), sl1]) w1 ⟨sl1, rfl, hr1⟩ HX1.out); clear hb1 hr1
              clear hHeld
              refine hK.out _ _ HS1.out (fun hHeld => ?_)
              clear hK K
              try simp only [Act.put, tk1, tk2, tk3]
              refine wpAnyH_ready (rs := [5]) (by kernel_rfl) (by simp) ?_
              refine AllReadyH.cons (o := { dst := some 104, op := _, type := _, pos := _, after := _, guard := _ }) rfl (fun K hK => ?_) AllReadyH.nil
              go_simp
              (with_reducible refine HD1.out.mono ?_); rintro e w2 ⟨rfl, hb2⟩; have HB2 := Lib.hid (HB1.out.trans (hb2.mono HB1.out.size)); have HS2 := Lib.hid (HK.out w2 HB2.out); have HT2' := Lib.hid (HT23.out w2 HB2.out); clear hb2
              clear hHeld
              refine hK.out _ _ HS2.out (fun hHeld => ?_)
              clear hK K
              try simp only [Act.put, tk1, tk2, tk3]
              refine tkY (v := ?_) 6 (some 105) rfl (.inl ⟨by rfl, ?_⟩) ?_
              rotate_left
              · (intro w hSw; (try dsimp only at hSw); go_simp; try with_reducible rfl)
              try simp only [Act.put, tk1, tk2, tk3]
              refine tkY (v := undef) 7 (some 106) rfl (.inr ⟨by rfl, rfl⟩) ?_
              try simp only [Act.put, tk1, tk2, tk3]
              refine tkY (v := undef) 8 (some 107) rfl (.inr ⟨by rfl, rfl⟩) ?_
              try simp only [Act.put, tk1, tk2, tk3]
              refine tkY (v := undef) 9 (some 108) rfl (.inr ⟨by rfl, rfl⟩) ?_
              try simp only [Act.put, tk1, tk2, tk3]
              refine tkY (v := undef) 10 (some 109) rfl (.inr ⟨by rfl, rfl⟩) ?_
              try simp only [Act.put, tk1, tk2, tk3]
              refine tkY (v := undef) 11 (some 110) rfl (.inr ⟨by rfl, rfl⟩) ?_
              try simp only [Act.put, tk1, tk2, tk3]
              refine tkY (v := undef) 12 (some 111) rfl (.inr ⟨by rfl, rfl⟩) ?_
              try simp only [Act.put, tk1, tk2, tk3]
              refine tkY (v := ?_) 13 (some 112) rfl (.inl ⟨by rfl, ?_⟩) ?_
              rotate_left
              · (intro w hSw; (try dsimp only at hSw); go_simp; try with_reducible rfl)
              try simp only [Act.put, tk1, tk2, tk3]
              refine tkY (v := ?_) 14 (some 113) rfl (.inl ⟨by rfl, ?_⟩) ?_
              rotate_left
              · (intro w hSw; (try dsimp only at hSw); go_simp; try with_reducible rfl)
              try simp only [Act.put, tk1, tk2, tk3]
              refine tkY (v := undef) 15 (some 114) rfl (.inr ⟨by rfl, rfl⟩) ?_
              try simp only [Act.put, tk1, tk2, tk3]
              refine tkY (v := undef) 16 (some 115) rfl (.inr ⟨by rfl, rfl⟩) ?_
              try simp only [Act.put, tk1, tk2, tk3]
              refine tkY (v := undef) 17 (some 116) rfl (.inr ⟨by rfl, rfl⟩) ?_
              try simp only [Act.put, tk1, tk2, tk3]
              refine tkY (v := undef) 18 (some 117) rfl (.inr ⟨by rfl, rfl⟩) ?_
              try simp only [Act.put, tk1, tk2, tk3]
              refine tkY (v := undef) 19 (some 118) rfl (.inr ⟨by rfl, rfl⟩) ?_
              try simp only [Act.put, tk1, tk2, tk3]
              refine tkY (v := undef) 20 (some 119) rfl (.inr ⟨by rfl, rfl⟩) ?_
              try simp only [Act.put, tk1, tk2, tk3]
              refine tkY (v := undef) 21 (some 120) rfl (.inr ⟨by rfl, rfl⟩) ?_
              try simp only [Act.put, tk1, tk2, tk3]
              refine tkY (v := undef) 22 (some 121) rfl (.inr ⟨by rfl, rfl⟩) ?_
              try simp only [Act.put, tk1, tk2, tk3]
              refine tkY (v := undef) 23 (some 122) rfl (.inr ⟨by rfl, rfl⟩) ?_
              try simp only [Act.put, tk1, tk2, tk3]
              refine tkY (v := undef) 24 (some 123) rfl (.inr ⟨by rfl, rfl⟩) ?_
              try simp only [Act.put, tk1, tk2, tk3]
              refine tkY (v := ?_) 25 (some 124) rfl (.inl ⟨by rfl, ?_⟩) ?_
              rotate_left
              · (intro w hSw; (try dsimp only at hSw); go_simp; try with_reducible rfl)
              try simp only [Act.put, tk1, tk2, tk3]
              refine wpAnyH_ready (rs := [26]) (by kernel_rfl) (by simp) ?_
              refine AllReadyH.cons (o := { dst := some 125, op := _, type := _, pos := _, after := _, guard := _ }) rfl (fun K hK => ?_) AllReadyH.nil
              go_simp
              (with_reducible refine (HPr.out _ _).mono ?_); rintro e wz ⟨rfl, rfl⟩
              clear hHeld
              refine hK.out _ _ HS2.out (fun hHeld => ?_)
              clear hK K
              try simp only [Act.put, tk1, tk2, tk3]
              refine tkY (v := ?_) 27 (some 4) rfl (.inl ⟨by rfl, ?_⟩) ?_
              rotate_left
              · (intro w hSw; (try dsimp only at hSw); go_simp; try with_reducible rfl)
              try simp only [Act.put, tk1, tk2, tk3]
              refine wpAnyH_done (by kernel_rfl) ?_ _
              go_wp2
              go_ret
              exact ⟨ret_i (by rw [HSp.out] <;> rfl), HBf.out.trans (HB2.out.mono HBf.out.size)⟩
            · cases d2
              · go_wp2_with fail
                refine wp_region_held_drew (S := (fun W' : World => W'.cell? ⟨w.heap.size + 1, 0, none⟩ = some (.int .i64 (n : Int)) ∧ W'.cell? ⟨w.heap.size + 1, 1, none⟩ = some s0 ∧ W'.cell? ⟨w.heap.size + 1, 2, none⟩ = some (.int .i64 (n : Int)) ∧ W'.cell? ⟨w.heap.size + 1, 3, none⟩ = some s1 ∧ W'.cell? ⟨w.heap.size + 1, 4, none⟩ = some (.int .i64 (n : Int)) ∧ W'.cell? ⟨w.heap.size + 1, 5, none⟩ = some s2 ∧ W'.cell? ⟨w.heap.size + 1, 6, none⟩ = some (.int .i64 (n : Int)) ∧ W'.cell? ⟨w.heap.size + 1, 7, none⟩ = some s3 ∧ W'.cell? ⟨wa.heap.size + 1, 0, none⟩ = some (.int .i64 (n : Int)) ∧ W'.cell? ⟨wa.heap.size + 1, 1, none⟩ = some (.slice (some ⟨wa.heap.size, 0, none⟩) m m) ∧ W'.cell? ⟨w.heap.size, 4, none⟩ = some (.slice Al l.length cl))) (by kernel_rfl) HS0.out (fun hHeld => ?_)
                refine tkY (v := ?_) 0 (some 99) rfl (.inl ⟨by rfl, ?_⟩) ?_
                rotate_left
                · (intro w hSw; (try dsimp only at hSw); go_simp; try with_reducible rfl)
                try simp only [Act.put, tk1, tk2, tk3]
                refine tkY (v := ?_) 1 (some 100) rfl (.inl ⟨by rfl, ?_⟩) ?_
                rotate_left
                · (intro w hSw; (try dsimp only at hSw); go_simp; try with_reducible rfl)
                try simp only [Act.put, tk1, tk2, tk3]
                refine tkY (v := ?_) 2 (some 101) rfl (.inl ⟨by rfl, ?_⟩) ?_
                rotate_left
                · (intro w hSw; (try dsimp only at hSw); go_simp; try with_reducible rfl)
                try simp only [Act.put, tk1, tk2, tk3]
                refine tkY (v := ?_) 3 (some 102) rfl (.inl ⟨by rfl, ?_⟩) ?_
                rotate_left
                · (intro w hSw; (try dsimp only at hSw); go_simp; try with_reducible rfl)
                try simp only [Act.put, tk1, tk2, tk3]
                refine wpAnyH_ready (rs := [4]) (by kernel_rfl) (by simp) ?_
                refine AllReadyH.cons (o := { dst := some 103, op := _, type := _, pos := _, after := _, guard := _ }) rfl (fun K hK => ?_) AllReadyH.nil
                go_simp
                (with_reducible refine HT0.out.mono ?_); rintro e w1 ⟨_, rfl, ⟨sl1, rfl, hr1⟩, hb1⟩; have HB1 := Lib.hid (HB0r.out.trans (hb1.mono HB0r.out.size)); have HS1 := Lib.hid (HK.out w1 HB1.out); have HD1 := Lib.hid (HDn1.out (.agg #[.int .i64 (n : Int), sl1]) w1 ⟨sl1, rfl, hr1⟩ HX1.out); clear hb1 hr1
                clear hHeld
                refine hK.out _ _ HS1.out (fun hHeld => ?_)
                clear hK K
                try simp only [Act.put, tk1, tk2, tk3]
                refine wpAnyH_ready (rs := [5]) (by kernel_rfl) (by simp) ?_
                refine AllReadyH.cons (o := { dst := some 104, op := _, type := _, pos := _, after := _, guard := _ }) rfl (fun K hK => ?_) AllReadyH.nil
                go_simp
                (with_reducible refine HD1.out.mono ?_); rintro e w2 ⟨rfl, hb2⟩; have HB2 := Lib.hid (HB1.out.trans (hb2.mono HB1.out.size)); have HS2 := Lib.hid (HK.out w2 HB2.out); have HT2' := Lib.hid (HT23.out w2 HB2.out); clear hb2
                clear hHeld
                refine hK.out _ _ HS2.out (fun hHeld => ?_)
                clear hK K
                try simp only [Act.put, tk1, tk2, tk3]
                refine tkY (v := ?_) 6 (some 105) rfl (.inl ⟨by rfl, ?_⟩) ?_
                rotate_left
                · (intro w hSw; (try dsimp only at hSw); go_simp; try with_reducible rfl)
                try simp only [Act.put, tk1, tk2, tk3]
                refine tkY (v := ?_) 7 (some 106) rfl (.inl ⟨by rfl, ?_⟩) ?_
                rotate_left
                · (intro w hSw; (try dsimp only at hSw); go_simp; try with_reducible rfl)
                try simp only [Act.put, tk1, tk2, tk3]
                refine tkY (v := ?_) 8 (some 107) rfl (.inl ⟨by rfl, ?_⟩) ?_
                rotate_left
                · (intro w hSw; (try dsimp only at hSw); go_simp; try with_reducible rfl)
                try simp only [Act.put, tk1, tk2, tk3]
                refine tkY (v := ?_) 9 (some 108) rfl (.inl ⟨by rfl, ?_⟩) ?_
                rotate_left
                · (intro w hSw; (try dsimp only at hSw); go_simp; try with_reducible rfl)
                try simp only [Act.put, tk1, tk2, tk3]
                refine tkY (v := ?_) 10 (some 109) rfl (.inl ⟨by rfl, ?_⟩) ?_
                rotate_left
                · (intro w hSw; (try dsimp only at hSw); go_simp; try with_reducible rfl)
                try simp only [Act.put, tk1, tk2, tk3]
                refine wpAnyH_ready (rs := [11]) (by kernel_rfl) (by simp) ?_
                refine AllReadyH.cons (o := { dst := some 110, op := _, type := _, pos := _, after := _, guard := _ }) rfl (fun K hK => ?_) AllReadyH.nil
                go_simp
                (with_reducible refine HT2'.out.mono ?_); rintro e w3 ⟨_, rfl, ⟨sl3, rfl, hr3⟩, hb3⟩; have HB3 := Lib.hid (HB2.out.trans (hb3.mono HB2.out.size)); have HS3 := Lib.hid (HK.out w3 HB3.out); have HD3 := Lib.hid (HDn2.out (.agg #[.int .i64 (n : Int), sl3]) w3 ⟨sl3, rfl, hr3⟩ HX2.out); clear hb3 hr3
                clear hHeld
                refine hK.out _ _ HS3.out (fun hHeld => ?_)
                clear hK K
                try simp only [Act.put, tk1, tk2, tk3]
                refine wpAnyH_ready (rs := [12]) (by kernel_rfl) (by simp) ?_
                refine AllReadyH.cons (o := { dst := some 111, op := _, type := _, pos := _, after := _, guard := _ }) rfl (fun K hK => ?_) AllReadyH.nil
                go_simp
                (with_reducible refine HD3.out.mono ?_); rintro e w4 ⟨rfl, hb4⟩; have HB4 := Lib.hid (HB3.out.trans (hb4.mono HB3.out.size)); have HS4 := Lib.hid (HK.out w4 HB4.out); have HT4 := Lib.hid (HT0r.out w4 HB4.out); clear hb4
                clear hHeld
                refine hK.out _ _ HS4.out (fun hHeld => ?_)
                clear hK K
                try simp only [Act.put, tk1, tk2, tk3]
                refine tkY (v := ?_) 13 (some 112) rfl (.inl ⟨by rfl, ?_⟩) ?_
                rotate_left
                · (intro w hSw; (try dsimp only at hSw); go_simp; try with_reducible rfl)
                try simp only [Act.put, tk1, tk2, tk3]
                refine tkY (v := ?_) 14 (some 113) rfl (.inl ⟨by rfl, ?_⟩) ?_
                rotate_left
                · (intro w hSw; (try dsimp only at hSw); go_simp; try with_reducible rfl)
                try simp only [Act.put, tk1, tk2, tk3]
                refine tkY (v := undef) 15 (some 114) rfl (.inr ⟨by rfl, rfl⟩) ?_
                try simp only [Act.put, tk1, tk2, tk3]
                refine tkY (v := undef) 16 (some 115) rfl (.inr ⟨by rfl, rfl⟩) ?_
                try simp only [Act.put, tk1, tk2, tk3]
                refine tkY (v := undef) 17 (some 116) rfl (.inr ⟨by rfl, rfl⟩) ?_
                try simp only [Act.put, tk1, tk2, tk3]
                refine tkY (v := undef) 18 (some 117) rfl (.inr ⟨by rfl, rfl⟩) ?_
                try simp only [Act.put, tk1, tk2, tk3]
                refine tkY (v := undef) 19 (some 118) rfl (.inr ⟨by rfl, rfl⟩) ?_
                try simp only [Act.put, tk1, tk2, tk3]
                refine tkY (v := undef) 20 (some 119) rfl (.inr ⟨by rfl, rfl⟩) ?_
                try simp only [Act.put, tk1, tk2, tk3]
                refine tkY (v := undef) 21 (some 120) rfl (.inr ⟨by rfl, rfl⟩) ?_
                try simp only [Act.put, tk1, tk2, tk3]
                refine tkY (v := undef) 22 (some 121) rfl (.inr ⟨by rfl, rfl⟩) ?_
                try simp only [Act.put, tk1, tk2, tk3]
                refine tkY (v := undef) 23 (some 122) rfl (.inr ⟨by rfl, rfl⟩) ?_
                try simp only [Act.put, tk1, tk2, tk3]
                refine tkY (v := undef) 24 (some 123) rfl (.inr ⟨by rfl, rfl⟩) ?_
                try simp only [Act.put, tk1, tk2, tk3]
                refine tkY (v := ?_) 25 (some 124) rfl (.inl ⟨by rfl, ?_⟩) ?_
                rotate_left
                · (intro w hSw; (try dsimp only at hSw); go_simp; try with_reducible rfl)
                try simp only [Act.put, tk1, tk2, tk3]
                refine wpAnyH_ready (rs := [26]) (by kernel_rfl) (by simp) ?_
                refine AllReadyH.cons (o := { dst := some 125, op := _, type := _, pos := _, after := _, guard := _ }) rfl (fun K hK => ?_) AllReadyH.nil
                go_simp
                (with_reducible refine (HPr.out _ _).mono ?_); rintro e wz ⟨rfl, rfl⟩
                clear hHeld
                refine hK.out _ _ HS4.out (fun hHeld => ?_)
                clear hK K
                try simp only [Act.put, tk1, tk2, tk3]
                refine tkY (v := ?_) 27 (some 4) rfl (.inl ⟨by rfl, ?_⟩) ?_
                rotate_left
                · (intro w hSw; (try dsimp only at hSw); go_simp; try with_reducible rfl)
                try simp only [Act.put, tk1, tk2, tk3]
                refine wpAnyH_done (by kernel_rfl) ?_ _
                go_wp2
                go_ret
                exact ⟨ret_i (by rw [HSp.out] <;> rfl), HBf.out.trans (HB4.out.mono HBf.out.size)⟩
              · cases d3
                all_goals
                  go_wp2_with fail
                  go_region_held3 (fun W' : World => W'.cell? ⟨w.heap.size + 1, 0, none⟩ = some (.int .i64 (n : Int)) ∧ W'.cell? ⟨w.heap.size + 1, 1, none⟩ = some s0 ∧ W'.cell? ⟨w.heap.size + 1, 2, none⟩ = some (.int .i64 (n : Int)) ∧ W'.cell? ⟨w.heap.size + 1, 3, none⟩ = some s1 ∧ W'.cell? ⟨w.heap.size + 1, 4, none⟩ = some (.int .i64 (n : Int)) ∧ W'.cell? ⟨w.heap.size + 1, 5, none⟩ = some s2 ∧ W'.cell? ⟨w.heap.size + 1, 6, none⟩ = some (.int .i64 (n : Int)) ∧ W'.cell? ⟨w.heap.size + 1, 7, none⟩ = some s3 ∧ W'.cell? ⟨wa.heap.size + 1, 0, none⟩ = some (.int .i64 (n : Int)) ∧ W'.cell? ⟨wa.heap.size + 1, 1, none⟩ = some (.slice (some ⟨wa.heap.size, 0, none⟩) m m) ∧ W'.cell? ⟨w.heap.size, 4, none⟩ = some (.slice Al l.length cl)) (first | exact HS0.out | exact HS1.out | exact HS2.out | exact HS3.out | exact HS4.out | exact HS5.out | exact HS6.out | exact HS7.out)
                    (first
                      | (go_at_call 115; (with_reducible refine HT0.out.mono ?_); rintro e w1 ⟨_, rfl, ⟨sl1, rfl, hr1⟩, hb1⟩; have HB1 := Lib.hid (HB0r.out.trans (hb1.mono HB0r.out.size)); have HS1 := Lib.hid (HK.out w1 HB1.out); have HD1 := Lib.hid (HDn1.out (.agg #[.int .i64 (n : Int), sl1]) w1 ⟨sl1, rfl, hr1⟩ HX1.out); clear hb1 hr1)
                      | (go_at_call 116; (with_reducible refine HD1.out.mono ?_); rintro e w2 ⟨rfl, hb2⟩; have HB2 := Lib.hid (HB1.out.trans (hb2.mono HB1.out.size)); have HS2 := Lib.hid (HK.out w2 HB2.out); have HT2' := Lib.hid (HT23.out w2 HB2.out); clear hb2)
                      | (go_at_call 115; (with_reducible refine HT2'.out.mono ?_); rintro e w3 ⟨_, rfl, ⟨sl3, rfl, hr3⟩, hb3⟩; have HB3 := Lib.hid (HB2.out.trans (hb3.mono HB2.out.size)); have HS3 := Lib.hid (HK.out w3 HB3.out); have HD3 := Lib.hid (HDn2.out (.agg #[.int .i64 (n : Int), sl3]) w3 ⟨sl3, rfl, hr3⟩ HX2.out); clear hb3 hr3)
                      | (go_at_call 116; (with_reducible refine HD3.out.mono ?_); rintro e w4 ⟨rfl, hb4⟩; have HB4 := Lib.hid (HB3.out.trans (hb4.mono HB3.out.size)); have HS4 := Lib.hid (HK.out w4 HB4.out); have HT4 := Lib.hid (HT0r.out w4 HB4.out); clear hb4)
                      | (go_at_call 115; (with_reducible refine HT4.out.mono ?_); rintro e w5 ⟨_, rfl, ⟨sl5, rfl, hr5⟩, hb5⟩; have HB5 := Lib.hid (HB4.out.trans (hb5.mono HB4.out.size)); have HS5 := Lib.hid (HK.out w5 HB5.out); have HT5 := Lib.hid (HTx2.out (.agg #[.int .i64 (n : Int), sl5]) w5 HB5.out ⟨sl5, rfl, hr5⟩); clear hb5 hr5)
                      | (go_at_call 115; (with_reducible refine HT5.out.mono ?_); rintro e w6 ⟨_, rfl, ⟨sl6, rfl, hr6⟩, hb6⟩; have HB6 := Lib.hid (HB5.out.trans (hb6.mono HB5.out.size)); have HS6 := Lib.hid (HK.out w6 HB6.out); have HD6 := Lib.hid (HDl.out (.agg #[.int .i64 (n : Int), sl6]) w6 HB6.out ⟨sl6, rfl, hr6⟩); clear hb6 hr6)
                      | (go_at_call 116; (with_reducible refine HD6.out.mono ?_); rintro e w7 ⟨rfl, hb7⟩; have HB7 := Lib.hid (HB6.out.trans (hb7.mono HB6.out.size)); have HS7 := Lib.hid (HK.out w7 HB7.out); clear hb7)
                      | (go_at_call 107; (with_reducible refine (HPr.out _ _).mono ?_); rintro e wz ⟨rfl, rfl⟩))
                  all_goals
                    go_wp2
                    go_ret
                    exact ⟨ret_i (by rw [HSp.out] <;> rfl), HBf.out.trans (HB7.out.mono HBf.out.size)⟩
  · have t : ((pf.length : Int) != 4 * (n : Int) * (n : Int)) = true := by rw [hnn, bne_iff_ne]; omega
    have HR : Hid (groupedE n es l pf = 8) := by show _ = _; unfold groupedE; rw [if_pos hpn]
    clear hg hl hp hb hbx hb0 hW0 hcp hnn
    go_enter Tryz.func78, Tryz.ntmps78
    clear g0' x5'
    go_wp2_with fail
    rw [← HW0.out]
    go_ret
    exact ⟨ret_i HR.out.symm, HB0.out⟩
end Go.Proofs.YtgcnijmmjlfabaaGreatDoor

