/- Contracts of the references' Whole, At and Counted of layer 15.
   Contracts of the references' At and Counted of layer 15.
   The number of spanning trees of a small connected graph, as a determinant, is at most 16384. No program in sight. -/
import Derived.Test.YtefggpdobjboeaaGreatG39
namespace Go.Proofs.YtefggpdobjboeaaGreat
open Go.RowKit Go.Shelf

/-- The first entries of the Laplacian, row by row. -/
def enK (n : Nat) (es : List Tri) (i k : Nat) : List Int := matL i n (entE n es) ++ (List.range k).map (entE n es i)
theorem enK_zero (n : Nat) (es : List Tri) (i : Nat) : enK n es i 0 = matL i n (entE n es) := by simp [enK]
theorem enK_all (n : Nat) (es : List Tri) (i : Nat) : enK n es i n = matL (i + 1) n (entE n es) := by
  unfold enK matL; rw [List.range_succ, List.flatMap_append]; simp
theorem enK_succ (n : Nat) (es : List Tri) (i k : Nat) : enK n es i (k + 1) = enK n es i k ++ [entE n es i k] := by
  unfold enK; rw [List.range_succ, List.map_append, List.append_assoc]; rfl
theorem enK_len (n : Nat) (es : List Tri) (i k : Nat) : (enK n es i k).length = i * n + k := by unfold enK; simp [matL_len]
theorem entE_bd {n : Nat} {es : List Tri} (hE : Edges n es) (hn : n ≤ 12) (i k : Nat) : B15 (entE n es i k) := by
  have := entE_le hE hn i k
  unfold B15; omega
theorem mat_bd {n : Nat} {es : List Tri} (hE : Edges n es) (hn : n ≤ 12) (r : Nat) (k : Nat) : B15 ((matL r n (entE n es)).getD k 0) := by
  by_cases h : k < (matL r n (entE n es)).length
  · rw [List.getD_eq_getElem?_getD, List.getElem?_eq_getElem h]
    have hm := List.getElem_mem h
    generalize (matL r n (entE n es))[k] = z at *
    unfold matL at hm
    obtain ⟨i, -, hm⟩ := List.mem_flatMap.1 hm
    obtain ⟨j, -, rfl⟩ := List.mem_map.1 hm
    exact entE_bd hE hn i j
  · rw [List.getD_eq_getElem?_getD, List.getElem?_eq_none (by omega)]
    unfold B15; simp
set_option maxRecDepth 100000 in
set_option maxHeartbeats 8000000 in
theorem lWhole_any (g : Value) (n : Nat) (es : List Tri) (w : World) (hg : GV w g n es) (hE : Edges n es) (hn : n ≤ 6) :
    Calls Tryz.prog 144 #[g] w fun e w' => ∃ v, e = .returned v ∧ Below w.heap.size w w' ∧ MO w' w.heap.size v n n (matL n n (entE n es)) := by
  obtain ⟨i0, hi, hz0, hz1, hz2⟩ := info_parts int_info
  obtain ⟨A, c, rfl, -⟩ := hg.open_
  obtain ⟨W0, hW0⟩ : ∃ W0, W0 = w.alloc (.cells #[.int .i64 (n:Int), .slice A es.length c] 24) := ⟨_, rfl⟩
  have hb0 : Below w.heap.size w W0 := by rw [hW0]; exact below_alloc w _
  have hx0 : BL W0 w.heap.size 24 [.int .i64 (n:Int), .slice A es.length c] := by rw [hW0]; exact BL.new' w _ _
  have c0 := hx0.cell 0
  have c1 := hx0.cell 1
  have HX0 := Lib.hid hx0
  have HG0 := Lib.hid (hg.below hb0)
  have HB0 := Lib.hid hb0
  have HW0 := Lib.hid hW0
  rw [hW0] at c0 c1
  clear hg hx0 hW0
  have hz1' : W0.heap.size = w.heap.size + 1 := by rw [HW0.out]; simp
  obtain ⟨W2, hW2⟩ : ∃ W2, W2 = W0.alloc (.cells #[.int .i64 0, .int .i64 0, .slice none 0 0] 132) := ⟨_, rfl⟩
  have hb1 : Below W0.heap.size W0 W2 := by rw [hW2]; exact below_alloc W0 _
  have hx1 : BL W2 (w.heap.size + 1) 132 [.int .i64 0, .int .i64 0, .slice none 0 0] := by rw [hW2, ← hz1']; exact BL.new' W0 _ _
  have HX1 := Lib.hid hx1
  have HX02 := Lib.hid (HX0.out.bel hb1)
  have HB2 := Lib.hid (hb0.trans (hb1.mono hb0.size))
  have HW2 := Lib.hid hW2
  have hz2' : W2.heap.size = w.heap.size + 2 := by rw [hW2]; simp; omega
  have HZ2 := Lib.hid hz2'
  have hn12 : n ≤ 12 := by omega
  have HEn : Hid (∀ (W : World) (i k : Nat), Below W2.heap.size W2 W → i < n → k < n → Calls Tryz.prog 173 #[.agg #[.int .i64 (n : Int), .slice A es.length c], .int .i64 (i : Int), .int .i64 (k : Int)] W fun e w' => e = .returned (.int .i64 (entE n es i k)) ∧ Below W.heap.size W w') := fun W i k hW h1 h2 =>
    rEnt_any _ n i k es W (HG0.out.below (hb1.trans (hW.mono hb1.size))) hE hn12
  have HOf : Hid (∀ (W : World) (v : Value), RI W v (matL n n (entE n es)) → Calls Tryz.prog 174 #[.int .i64 (n : Int), .int .i64 (n : Int), v] W fun e w' => ∃ v, e = .returned v ∧ Below W.heap.size W w' ∧ MO w' W.heap.size v n n (matL n n (entE n es))) := fun W v h =>
    mOf_any v n n _ W h (by rw [matL_len]; have : n * n ≤ 36 := Nat.mul_le_mul hn hn; omega) (mat_bd hE (by omega) n)
  have HLen : Hid (∀ i k, i < n → k < n → (enK n es i k).length ≤ 100) := fun i k h1 h2 => by
    rw [enK_len]
    have := mat_idx h1 h2
    have : n * n ≤ 36 := Nat.mul_le_mul hn hn
    omega
  have HEb : Hid (∀ i k, -1000 ≤ entE n es i k ∧ entE n es i k ≤ 1000) := fun i k => by have := entE_le hE hn12 i k; omega
  clear hn12 hb0 hz1' hb1 hx1 hW2 hz2' hE
  go_enter Tryz.func144, Tryz.ntmps144
  go_wp2_with fail
  rw [← HW0.out, ← HW2.out]
  clear c0 c1
  go_loopw [3, 4] (fun o ii wr => ∃ (i : Nat) (vo : Value), vo = o ∧ i ≤ n ∧ ii = .int .i64 (i : Int) ∧ Hid (OI wr W2.heap.size o (matL i n (entE n es))) ∧ Hid (Below W2.heap.size W2 wr)) (fun _ i _ => n - (intOf i).toNat)
  case atStart => exact ⟨0, _, rfl, Nat.zero_le _, rfl, OI.nil_ _ _, Below.refl _ _⟩
  case round =>
    obtain ⟨i, vo, rfl, hi', rfl, ho, hb⟩ := hrel
    have d0 := (HX02.out.bel hb.out).cell 0
    by_cases hlt : i < n
    · go_wp2_with fail
      clear d0
      go_loopw [3, 5] (fun o kk wr => ∃ (k : Nat) (vo : Value), vo = o ∧ k ≤ n ∧ kk = .int .i64 (k : Int) ∧ Hid (OI wr W2.heap.size o (enK n es i k)) ∧ Hid (Below W2.heap.size W2 wr)) (fun _ k _ => n - (intOf k).toNat)
      case atStart => exact ⟨0, _, rfl, Nat.zero_le _, rfl, by rw [enK_zero]; exact ho.out, hb.out⟩
      case round =>
        obtain ⟨k, vk, rfl, hk, rfl, hok, hbk⟩ := hrel
        have d0 := (HX02.out.bel hbk.out).cell 0
        have d1 := (HX02.out.bel hbk.out).cell 1
        by_cases hkt : k < n
        · have HE1 := Lib.hid (HEn.out wr i k hbk.out hlt hkt)
          have hl100 := HLen.out i k hlt hkt
          have HSu := Lib.hid (enK_succ n es i k)
          have hzb := HEb.out i k
          generalize enK n es i k = L at *
          generalize entE n es i k = z at *
          go_wp2_with fail
          refine HE1.out.mono ?_
          rintro e w4 ⟨rfl, hb4⟩
          have HO4 := Lib.hid (OI.below hok.out hb4)
          have HB4 := Lib.hid (hbk.out.trans (hb4.mono hbk.out.size))
          clear hb4 d0 d1
          obtain ⟨hov, hrv, hfin⟩ := OI.snoc HO4.out z HB4.out
          have HOv := Lib.hid hov
          have HRv := Lib.hid hrv
          have HFin := Lib.hid hfin
          have hszB := HB4.out.size
          clear hov hrv hfin
          go_wp2_with (at_builtin; refine wpList_appendV _ rfl _ _ _ rfl 3 i0 _ 8 Tryz.underlying25 hi hz0 hz1 hz2 rfl W2.heap.size _ _ rfl HOv.out _ _ rfl HRv.out (one_ones rfl) (by first | omega | (simp; omega)) (by first | omega | (simp; omega)) (by first | omega | (simp; omega)) ?_; intro v1 w5 hown hg hat; obtain ⟨hf1, hf2⟩ := HFin.out v1 w5 hown hg; have HF1 := Lib.hid hf1; have HF2 := Lib.hid hf2; clear hown hg hat hf1 hf2)
          go_wp2
          go_roundw
          case rel => exact ⟨k + 1, _, rfl, by omega, by go_num, by rw [HSu.out]; exact HF1.out, HF2.out⟩
          case measure => simp [intOf]; omega
        · obtain rfl : k = n := by omega
          have HN : Hid (OI wr W2.heap.size vk (matL (i + 1) k (entE k es))) := by show OI _ _ _ _; rw [← enK_all]; exact hok.out
          go_wp2
          go_roundw
          case rel => exact ⟨i + 1, _, rfl, by omega, by go_num, HN.out, hbk.out⟩
          case measure => simp [intOf]; omega
    · obtain rfl : i = n := by omega
      have HO1 := Lib.hid (HOf.out wr vo ho.out.rv)
      have HY := Lib.hid (HX1.out.bel hb.out)
      go_wp2_with fail
      refine HO1.out.mono ?_
      rintro e w4 ⟨v4, rfl, hb4, hm4⟩
      obtain ⟨vc, rfl, hz⟩ := hm4
      obtain ⟨A9, cap, rfl, -⟩ := hz.rz.open_
      have hy := HY.out.bel hb4
      have y0 := hy.cell 0
      have y1 := hy.cell 1
      have y2 := hy.cell 2
      have z0 := hy.frozen 0
      have z1 := hy.frozen 1
      have z2 := hy.frozen 2
      have HY4 := Lib.hid hy
      have HZ4 := Lib.hid hz
      have HB4 := Lib.hid (hb.out.trans (hb4.mono hb.out.size))
      have HB5 := Lib.hid hb4
      clear hy hz hb4 d0
      go_wp2
      refine bodyPost_ret (results_cell_row rfl _ _ (w.heap.size + 1) 132 #[.int .i64 (i : Int), .int .i64 (i : Int), .slice A9 (matL i i (entE i es)).length cap] (0, 0) _ rfl (((HY4.out.set 0 _).set 1 _).set 2 _) Tryz.underlying132 rfl mat_size) rfl ?_
      have hs2 : w.heap.size + 2 ≤ wr.heap.size := by rw [← HZ2.out]; exact hb.out.size
      have hb3 := ((((HB2.out.trans (HB4.out.mono HB2.out.size)).setCell (p := ⟨w.heap.size + 1, 0, none⟩) (by simp) (.int .i64 (i : Int))).setCell (p := ⟨w.heap.size + 1, 1, none⟩) (by simp) (.int .i64 (i : Int))).setCell (p := ⟨w.heap.size + 1, 2, none⟩) (by simp) (.slice A9 (matL i i (entE i es)).length cap))
      refine ⟨_, rfl, hb3, .slice A9 (matL i i (entE i es)).length cap, rfl, ?_⟩
      exact (OZ.keepG HZ4.out fun g hg => by
        rw [heap_setCell_other _ _ g _ (by show g ≠ w.heap.size + 1; omega), heap_setCell_other _ _ g _ (by show g ≠ w.heap.size + 1; omega), heap_setCell_other _ _ g _ (by show g ≠ w.heap.size + 1; omega)]).mono (by omega)
end Go.Proofs.YtefggpdobjboeaaGreat

namespace Go.Proofs.YtefggpdobjboeaaGreat
open Go.RowKit Go.Shelf

/-- The reduced Laplacian at 0. -/
def redM (m : Nat) (es : List Tri) (i j : Nat) : Int := entE (m + 1) es (skip 0 i) (skip 0 j)
set_option maxRecDepth 100000 in
set_option maxHeartbeats 4000000 in
theorem lAt_any (g : Value) (m : Nat) (es : List Tri) (w : World) (hg : GV w g ((m + 1 : Nat) : Int) es) (hE : Edges (m + 1) es) (hn : m ≤ 5) :
    Calls Tryz.prog 100 #[g, .int .i64 0] w fun e w' => ∃ v, e = .returned v ∧ Below w.heap.size w w' ∧ MV w' v m m (matL m m (redM m es)) := by
  have hWh := fun W (h : GV W g ((m + 1 : Nat) : Int) es) => lWhole_any g (m + 1) es W h hE (by omega)
  obtain ⟨n, hn'⟩ : ∃ n, n = m + 1 := ⟨_, rfl⟩
  rw [← hn'] at hg hWh
  obtain ⟨A, c, rfl, -⟩ := hg.open_
  obtain ⟨W0, hW0⟩ : ∃ W0, W0 = w.alloc (.cells #[.int .i64 (n:Int), .slice A es.length c] 24) := ⟨_, rfl⟩
  have hb0 : Below w.heap.size w W0 := by rw [hW0]; exact below_alloc w _
  have hx0 : BL W0 w.heap.size 24 [.int .i64 (n:Int), .slice A es.length c] := by rw [hW0]; exact BL.new' w _ _
  have c0 := hx0.cell 0
  have c1 := hx0.cell 1
  have HX0 := Lib.hid hx0
  have HG0 := Lib.hid (hg.below hb0)
  have HB0 := Lib.hid hb0
  have HW0 := Lib.hid hW0
  rw [hW0] at c0 c1
  clear hg hx0 hW0
  have hz1' : W0.heap.size = w.heap.size + 1 := by rw [HW0.out]; simp
  obtain ⟨W2, hW2⟩ : ∃ W2, W2 = W0.alloc (.cells #[.int .i64 0, .int .i64 0, .slice none 0 0] 132) := ⟨_, rfl⟩
  have hb1 : Below W0.heap.size W0 W2 := by rw [hW2]; exact below_alloc W0 _
  have hx1 : BL W2 (w.heap.size + 1) 132 [.int .i64 0, .int .i64 0, .slice none 0 0] := by rw [hW2, ← hz1']; exact BL.new' W0 _ _
  have HX1 := Lib.hid hx1
  have hx2 := HX0.out.bel hb1
  have e0 := hx2.cell 0
  have e1 := hx2.cell 1
  have HB2 := Lib.hid (hb0.trans (hb1.mono hb0.size))
  have HZ2 : Hid (w.heap.size + 2 ≤ W2.heap.size) := by show _ ≤ _; rw [hW2]; simp; omega
  have HWh := Lib.hid (hWh W2 (HG0.out.below hb1))
  have HWo : Hid (∀ (W : World) (v : Value), MV W v n n (matL n n (entE n es)) → Calls Tryz.prog 143 #[v, .int .i64 0, .int .i64 0] W fun e w' => ∃ v, e = .returned v ∧ Below W.heap.size W w' ∧ MO w' W.heap.size v m m (matL m m (redM m es))) := fun W v hv => by
    subst hn'
    exact mWithout_any v m m 0 0 (entE (m + 1) es) W hv (by omega) (by omega) (by omega) (by omega)
  have HW2 := Lib.hid hW2

  rw [hW2] at e0 e1
  clear hb0 hz1' hb1 hx1 hW2 hE hn' hx2 hWh
  go_enter Tryz.func100, Tryz.ntmps100
  go_wp2_with fail
  rw [← HW0.out, ← HW2.out]
  refine HWh.out.mono ?_
  rintro e w3 ⟨v3, rfl, hb3, hm3⟩
  have HB3 := Lib.hid hb3
  have HWo3 := Lib.hid (HWo.out w3 v3 hm3.mv)
  obtain ⟨vc3, rfl, -⟩ := hm3
  have HY3 := Lib.hid (HX1.out.bel hb3)
  clear hb3 c0 c1 e0 e1
  go_wp2_with fail
  refine HWo3.out.mono ?_
  rintro e w4 ⟨v4, rfl, hb4, hm4⟩
  obtain ⟨vc, rfl, hz⟩ := hm4
  obtain ⟨A9, cap, rfl, -⟩ := hz.rz.open_
  have hy := HY3.out.bel hb4
  have y0 := hy.cell 0
  have y1 := hy.cell 1
  have y2 := hy.cell 2
  have z0 := hy.frozen 0
  have z1 := hy.frozen 1
  have z2 := hy.frozen 2
  have HY4 := Lib.hid hy
  have HZ4 := Lib.hid hz
  have HB4 := Lib.hid (HB3.out.trans (hb4.mono HB3.out.size))
  clear hy hz hb4
  go_wp2
  refine bodyPost_ret (results_cell_row rfl _ _ (w.heap.size + 1) 132 #[.int .i64 (m : Int), .int .i64 (m : Int), .slice A9 (matL m m (redM m es)).length cap] (0, 0) _ rfl (((HY4.out.set 0 _).set 1 _).set 2 _) Tryz.underlying132 rfl mat_size) rfl ?_
  have hs2 : w.heap.size + 2 ≤ w3.heap.size := Nat.le_trans HZ2.out HB3.out.size
  have hb3 := ((((HB2.out.trans (HB4.out.mono HB2.out.size)).setCell (p := ⟨w.heap.size + 1, 0, none⟩) (by simp) (.int .i64 (m : Int))).setCell (p := ⟨w.heap.size + 1, 1, none⟩) (by simp) (.int .i64 (m : Int))).setCell (p := ⟨w.heap.size + 1, 2, none⟩) (by simp) (.slice A9 (matL m m (redM m es)).length cap))
  refine ⟨_, rfl, hb3, .slice A9 (matL m m (redM m es)).length cap, rfl, ?_⟩
  exact (OZ.keepG HZ4.out fun g hg => by
    rw [heap_setCell_other _ _ g _ (by show g ≠ w.heap.size + 1; omega), heap_setCell_other _ _ g _ (by show g ≠ w.heap.size + 1; omega), heap_setCell_other _ _ g _ (by show g ≠ w.heap.size + 1; omega)]).rz
set_option maxRecDepth 100000 in
set_option maxHeartbeats 4000000 in
theorem lCounted_any (g : Value) (m : Nat) (es : List Tri) (w : World) (hg : GV w g ((m + 1 : Nat) : Int) es) (hE : Edges (m + 1) es) (hn : m ≤ 5) (hb : ∀ i j, i < m → j < m → (redM m es i j).natAbs ≤ 100) :
    Calls Tryz.prog 57 #[g] w fun e w' => ∃ v, e = .returned v ∧ Below w.heap.size w w' ∧ ZS v (detN m (redM m es)) := by
  have hAt := fun W (h : GV W g ((m + 1 : Nat) : Int) es) => lAt_any g m es W h hE hn
  have HDet : Hid (∀ (W : World) (v : Value), MV W v m m (matL m m (redM m es)) → Calls Tryz.prog 99 #[v] W fun e w' => ∃ v, e = .returned v ∧ Below W.heap.size W w' ∧ ZS v (detN m (redM m es))) := fun W v h => mDet_any m hn (redM m es) v W h hb
  obtain ⟨n, hn'⟩ : ∃ n, n = m + 1 := ⟨_, rfl⟩
  rw [← hn'] at hg hAt
  obtain ⟨A, c, rfl, -⟩ := hg.open_
  obtain ⟨W0, hW0⟩ : ∃ W0, W0 = w.alloc (.cells #[.int .i64 (n:Int), .slice A es.length c] 24) := ⟨_, rfl⟩
  have hb0 : Below w.heap.size w W0 := by rw [hW0]; exact below_alloc w _
  have hx0 : BL W0 w.heap.size 24 [.int .i64 (n:Int), .slice A es.length c] := by rw [hW0]; exact BL.new' w _ _
  have c0 := hx0.cell 0
  have c1 := hx0.cell 1
  have HX0 := Lib.hid hx0
  have HG0 := Lib.hid (hg.below hb0)
  have HB0 := Lib.hid hb0
  have HW0 := Lib.hid hW0
  rw [hW0] at c0 c1
  clear hg hx0 hW0
  have HA := Lib.hid (hAt W0 HG0.out)
  clear hb0 hE hn' hAt hb hn
  go_enter Tryz.func57, Tryz.ntmps57
  go_wp2_with fail
  rw [← HW0.out]
  refine HA.out.mono ?_
  rintro e w1 ⟨v1, rfl, hb1, hm1⟩
  have HD := Lib.hid (HDet.out w1 v1 hm1)
  obtain ⟨vc, rfl, -⟩ := hm1
  have HB1 := Lib.hid (HB0.out.trans (hb1.mono HB0.out.size))
  clear hb1
  clear c0 c1
  go_wp2_with fail
  refine HD.out.mono ?_
  rintro e w2 ⟨v2, rfl, hb2, hz2⟩
  have HZ := Lib.hid hz2
  have HB2 := Lib.hid (HB1.out.trans (hb2.mono HB1.out.size))
  clear hb2
  clear hz2
  go_wp2
  go_ret
  exact ⟨_, rfl, HB2.out, HZ.out⟩
end Go.Proofs.YtefggpdobjboeaaGreat

namespace Go.Proofs.YtefggpdobjboeaaGreat
open Go.RowKit Go.Shelf

theorem sumN_le_mul {n : Nat} {f g : Nat → Int} {P : Int} (hP : 0 ≤ P) (h : ∀ i, i < n → f i ≤ g i * P) (_hg : ∀ i, i < n → 0 ≤ g i) : sumN n f ≤ sumN n g * P := by
  have _ := hP
  induction n with
  | zero => simp [sumN]
  | succ n ih =>
    have h1 := ih (fun i hi => h i (by omega)) fun i hi => _hg i (by omega)
    have h2 := h n (by omega)
    simp only [sumN]
    rw [Int.add_mul]
    omega
theorem natAbs_sum (n : Nat) (f : Nat → Int) : ((sumN n f).natAbs : Int) ≤ sumN n fun i => ((f i).natAbs : Int) := by
  induction n with
  | zero => simp [sumN]
  | succ n ih =>
    have := Int.natAbs_add_le (sumN n f) (f n)
    simp only [sumN]
    omega
/-- A determinant is at most the product of the sums of its rows. -/
theorem detN_prod (n : Nat) (M : Nat → Nat → Int) (r : Nat → Nat) (h : ∀ i, i < n → (sumN n fun j => ((M i j).natAbs : Int)) ≤ (r i : Int)) : (detN n M).natAbs ≤ prodN n r := by
  induction n generalizing M r with
  | zero => simp [detN, prodN]
  | succ n ih =>
    rw [prodN_shift]
    have hm : ∀ k, k < n + 1 → (detN n fun i j => M (i + 1) (skip k j)).natAbs ≤ prodN n fun v => r (v + 1) := fun k hk => by
      refine ih _ _ fun i hi => ?_
      have h1 := h (i + 1) (by omega)
      rw [sumN_skip n k hk] at h1
      have : (0 : Int) ≤ ((M (i + 1) k).natAbs : Int) := by omega
      omega
    have h0 := h 0 (by omega)
    have hs := natAbs_sum (n + 1) fun k => sgn k * M 0 k * detN n fun i j => M (i + 1) (skip k j)
    have hb := sumN_le_mul (n := n + 1) (f := fun k => ((sgn k * M 0 k * detN n fun i j => M (i + 1) (skip k j)).natAbs : Int)) (g := fun k => ((M 0 k).natAbs : Int)) (P := ((prodN n fun v => r (v + 1) : Nat) : Int)) (by omega) (fun k hk => by
      have h2 : (sgn k * M 0 k * detN n fun i j => M (i + 1) (skip k j)).natAbs ≤ (M 0 k).natAbs * prodN n fun v => r (v + 1) := by
        rw [Int.natAbs_mul, Int.natAbs_mul, sgn_abs, Nat.one_mul]
        exact Nat.mul_le_mul (Nat.le_refl _) (hm k hk)
      have h3 : (((M 0 k).natAbs * prodN n fun v => r (v + 1) : Nat) : Int) = ((M 0 k).natAbs : Int) * ((prodN n fun v => r (v + 1) : Nat) : Int) := Int.natCast_mul _ _
      omega) (fun k _ => by omega)
    have hf := Int.mul_le_mul_of_nonneg_right h0 (show (0 : Int) ≤ ((prodN n fun v => r (v + 1) : Nat) : Int) by omega)
    have e : ((r 0 * prodN n fun v => r (v + 1) : Nat) : Int) = (r 0 : Int) * ((prodN n fun v => r (v + 1) : Nat) : Int) := Int.natCast_mul _ _
    show (sumN (n + 1) fun k => sgn k * M 0 k * detN n fun i j => M (i + 1) (skip k j)).natAbs ≤ _
    omega
theorem wgt_val {n : Nat} {es : List Tri} (hr : Rt n es) {u v : Nat} (hu : u < n) (hne : u ≠ v) : wgt es v u ≤ valK es v n := by
  have h := sumN_ge (n := n) (c := u) (f := fun u => if u = v then 0 else wgt es u v) (fun i _ => by split; exact Int.le_refl _; exact hr.nn i v) hu
  simp only [if_neg hne] at h
  unfold valK
  rw [wgt_sym es v u]; exact h
theorem val_one {n : Nat} {es : List Tri} (hr : Rt n es) {v : Nat} (hv : v < n) : 0 ≤ valK es v n ∧ valK es v n ≤ 18 := by
  have h1 := (valK_le hr.ed v n).1
  have h2 := sumN_ge (n := n) (c := v) (f := fun v => valK es v n) (fun i _ => (valK_le hr.ed i n).1) hv
  have := val_sum hr
  exact ⟨h1, by omega⟩
theorem skip0 (j : Nat) : skip 0 j = j + 1 := by unfold skip; simp
theorem red_abs {m : Nat} {es : List Tri} (hr : Rt (m + 1) es) (i j : Nat) : ((redM m es i j).natAbs : Int) = if j + 1 = i + 1 then valK es (i + 1) (m + 1) else wgt es (i + 1) (j + 1) := by
  unfold redM entE
  rw [skip0, skip0]
  by_cases e : j = i
  · rw [if_pos (by omega), if_pos (by omega)]
    have := (valK_le hr.ed (i + 1) (m + 1)).1
    omega
  · rw [if_neg (by omega), if_neg (by omega)]
    have := hr.nn (i + 1) (j + 1)
    omega
theorem red_small {m : Nat} {es : List Tri} (hr : Rt (m + 1) es) (i j : Nat) (hi : i < m) (hj : j < m) : (redM m es i j).natAbs ≤ 100 := by
  have h := red_abs hr i j
  have h1 := val_one hr (v := i + 1) (by omega)
  by_cases e : j + 1 = i + 1
  · rw [if_pos e] at h; omega
  · rw [if_neg e] at h
    have := wgt_val hr (u := j + 1) (v := i + 1) (by omega) e
    omega
theorem red_row {m : Nat} {es : List Tri} (hr : Rt (m + 1) es) (i : Nat) (hi : i < m) : (sumN m fun j => ((redM m es i j).natAbs : Int)) = 2 * valK es (i + 1) (m + 1) - wgt es (i + 1) 0 := by
  rw [sumN_congr fun j _ => red_abs hr i j]
  have h1 := sumN_shift m fun u => if u = i + 1 then valK es (i + 1) (m + 1) else wgt es (i + 1) u
  have h2 : (sumN (m + 1) fun u => if u = i + 1 then valK es (i + 1) (m + 1) else wgt es (i + 1) u) = 2 * valK es (i + 1) (m + 1) := by
    have e1 : (sumN (m + 1) fun u => if u = i + 1 then valK es (i + 1) (m + 1) else wgt es (i + 1) u) = (sumN (m + 1) fun u => if u = i + 1 then valK es (i + 1) (m + 1) else 0) + sumN (m + 1) fun u => if u = i + 1 then 0 else wgt es u (i + 1) := by
      rw [← sumN_add]
      exact sumN_congr fun u _ => by
        by_cases c : u = i + 1
        · simp [c]
        · simp [c, wgt_sym es (i + 1) u]
    rw [e1, ind_sum (m + 1) _ (by omega)]
    show _ + valK es (i + 1) (m + 1) = _
    omega
  simp only [if_neg (show ¬ (0 : Nat) = i + 1 by omega)] at h1
  omega
theorem trees_few {m : Nat} {es : List Tri} (hr : Rt (m + 1) es) : (detN m (redM m es)).natAbs ≤ 16384 := by
  have h6 := hr.n6
  by_cases hm : m = 0
  · subst hm; show (1 : Int).natAbs ≤ 16384; decide
  have hd0 : 0 < valK es 0 (m + 1) := by
    obtain ⟨v, hv, hA, hlt⟩ := some_out hr.nn hr.cn (A := fun x => decide (x = 0)) (q := 1) (by omega) (by decide) ⟨0, by omega, by decide⟩
    simp only [decide_eq_true_eq] at hA
    subst hA
    rwa [outw_self] at hlt
  have hnn : ∀ i, i < m → 0 ≤ 2 * valK es (i + 1) (m + 1) - wgt es (i + 1) 0 := fun i hi => by
    have a := wgt_val hr (u := 0) (v := i + 1) (by omega) (by omega)
    have b := (valK_le hr.ed (i + 1) (m + 1)).1
    omega
  refine Nat.le_trans (detN_prod m _ (fun i => (2 * valK es (i + 1) (m + 1) - wgt es (i + 1) 0).toNat) fun i hi => ?_) ?_
  · rw [red_row hr i hi]
    have := hnn i hi
    omega
  · refine prod_le (by omega) _ ?_
    rw [sumN_congr (g := fun i => (valK es (i + 1) (m + 1) + valK es (i + 1) (m + 1)) + - wgt es (i + 1) 0) fun i hi => by have := hnn i hi; omega, sumN_add, sumN_add, sumN_neg]
    have h1 := val_sum hr
    rw [sumN_shift] at h1
    have h2 : valK es 0 (m + 1) = sumN m fun i => wgt es (i + 1) 0 := by
      unfold valK
      rw [sumN_shift, if_pos rfl, Int.zero_add]
      exact sumN_congr fun u _ => if_neg (by omega)
    omega
end Go.Proofs.YtefggpdobjboeaaGreat
