/- Contract of the reference's Without: a matrix without a row and a column.
   Contract of the reference's Of for matrices.
   Contract of the reference's Det on small matrices of decimal texts. -/
import Derived.Test.YtefggpdobjboeaaGreatG38
namespace Go.Proofs.YtefggpdobjboeaaGreat
open Go.RowKit Go.Shelf

def matL (r c : Nat) (f : Nat → Nat → Int) : List Int := (List.range r).flatMap fun i => (List.range c).map (f i)
def wL (f : Nat → Nat → Int) (p q c n : Nat) : List Int := (offQ p n).flatMap fun i => (offQ q c).map (f i)
def wK (f : Nat → Nat → Int) (p q c i k : Nat) : List Int := wL f p q c i ++ if i = p then [] else (offQ q k).map (f i)
theorem offQ_zero (q : Nat) : offQ q 0 = [] := rfl
theorem wK_zero (f : Nat → Nat → Int) (p q c i : Nat) : wK f p q c i 0 = wL f p q c i := by unfold wK; rw [offQ_zero]; split <;> simp
theorem wK_all (f : Nat → Nat → Int) (p q c i : Nat) : wK f p q c i c = wL f p q c (i + 1) := by
  unfold wK wL
  rw [offQ_succ]
  split
  · simp
  · rw [List.flatMap_append]; simp
theorem wK_skip {f : Nat → Nat → Int} {p q c i k : Nat} (h : i = p ∨ k = q) : wK f p q c i (k + 1) = wK f p q c i k := by
  unfold wK
  by_cases e : i = p
  · rw [if_pos e, if_pos e]
  · rw [if_neg e, if_neg e, offQ_succ, if_pos (by omega)]
theorem wK_add {f : Nat → Nat → Int} {p q c i k : Nat} (h1 : i ≠ p) (h2 : k ≠ q) : wK f p q c i (k + 1) = wK f p q c i k ++ [f i k] := by
  unfold wK
  rw [if_neg h1, if_neg h1, offQ_succ, if_neg h2, List.map_append, List.append_assoc]; rfl
theorem matL_len (r c : Nat) (f : Nat → Nat → Int) : (matL r c f).length = r * c := by
  unfold matL
  induction r with
  | zero => simp
  | succ r ih => rw [List.range_succ, List.flatMap_append, List.length_append, ih, Nat.succ_mul]; simp
theorem flat_len (f : Nat → Nat → Int) (L : List Nat) (M : List Nat) : (L.flatMap fun i => M.map (f i)).length = L.length * M.length := by
  induction L with
  | nil => simp
  | cons a L ih => rw [List.flatMap_cons, List.length_append, ih, List.length_map, List.length_cons, Nat.succ_mul]; omega
theorem wL_len (f : Nat → Nat → Int) (p q c n : Nat) : (wL f p q c n).length ≤ n * c := by
  unfold wL
  rw [flat_len f]
  exact Nat.mul_le_mul (offQ_len_le _ _) (offQ_len_le _ _)
theorem wK_len (f : Nat → Nat → Int) (p q c i k : Nat) : (wK f p q c i k).length ≤ i * c + k := by
  unfold wK
  have := wL_len f p q c i
  have h2 := offQ_len_le q k
  rw [List.length_append]
  split
  · simp; omega
  · rw [List.length_map]; omega
theorem matL_get {r c : Nat} (f : Nat → Nat → Int) {i j : Nat} (hi : i < r) (hj : j < c) : (matL r c f).getD (i * c + j) 0 = f i j := by
  induction r with
  | zero => omega
  | succ r ih =>
    have hl := matL_len r c f
    have e : matL (r + 1) c f = matL r c f ++ (List.range c).map (f r) := by unfold matL; rw [List.range_succ, List.flatMap_append]; simp
    rw [e, List.getD_eq_getElem?_getD]
    by_cases h : i = r
    · subst h
      rw [List.getElem?_append_right (by omega), hl, show i * c + j - i * c = j by omega]
      simp [hj]
    · have : i * c + c ≤ r * c := by
        have := Nat.mul_le_mul_right c (show i + 1 ≤ r by omega)
        rwa [Nat.succ_mul] at this
      rw [List.getElem?_append_left (by omega), ← List.getD_eq_getElem?_getD]
      exact ih (by omega)
theorem mat_idx {r c i j : Nat} (hi : i < r) (hj : j < c) : i * c + j < r * c := by
  have := Nat.mul_le_mul_right c (show i + 1 ≤ r by omega)
  rw [Nat.succ_mul] at this
  omega
theorem without_eq {f : Nat → Nat → Int} {p q r c : Nat} (hp : p < r + 1) (hq : q < c + 1) : wL f p q (c + 1) (r + 1) = matL r c fun i j => f (skip p i) (skip q j) := by
  unfold wL matL
  rw [offQ_skip hp, offQ_skip hq, List.flatMap_map]
  simp [List.map_map, Function.comp_def]
theorem ZS.one {v : Value} {z : Int} (h : ZS v z) : v.oneCell' = true := by obtain ⟨l, m, rfl, -⟩ := h; rfl
theorem OZ.keepG {w w' : World} {B : Nat} {v : Value} {zs : List Int} (h : OZ w B v zs) (hk : ∀ g, B ≤ g → w'.heap[g]? = w.heap[g]?) : OZ w' B v zs := by
  obtain ⟨us, h1, h2, h3⟩ := h
  exact ⟨us, OV.keepG h1 fun g hg => hk g (h1.1.lt g hg).1, h2, h3⟩
theorem mat_size : (Tryz.prog.info? 132).map (·.size) = some 3 := by kernel_rfl
/-- A matrix that is being made: its block, the texts so far. -/
def WI (M : Nat) (wS : World) (r c : Int) (W : World) (out : List Int) : Prop :=
  ∃ vo, BL W M 132 [.int .i64 r, .int .i64 c, vo] ∧ OZ W (M + 1) vo out ∧ Below M wS W ∧ M + 1 ≤ W.heap.size
theorem WI.ready {M : Nat} {wS W : World} {r c : Int} {out : List Int} (h : WI M wS r c W out) : ∃ vo, (∀ W', Below W.heap.size W W' → W'.cell? ⟨M, 2, none⟩ = some vo) ∧
    ∀ (W1 : World) (u : Value) (z : Int), Below W.heap.size W W1 → ZS u z → ∃ us : List Value, us.length = out.length ∧ OV (W1.alloc (.cells #[u] 96)) (M + 1) 96 vo us ∧
      RV (W1.alloc (.cells #[u] 96)) (.slice (some ⟨W1.heap.size, 0, none⟩) 1 1) [u] ∧ M + 1 ≤ (W1.alloc (.cells #[u] 96)).heap.size ∧
      ∀ v3 w3, OV w3 (M + 1) 96 v3 (us ++ [u]) → (W1.alloc (.cells #[u] 96)).grownBy w3 vo.ownBlock →
        w3.cell? ⟨M, 2, none⟩ = some vo ∧ w3.frozen? ⟨M, 2, none⟩ = false ∧ WI M wS r c (w3.setCell ⟨M, 2, none⟩ v3) (out ++ [z]) := by
  obtain ⟨vo, h1, h2, h3, h4⟩ := h
  refine ⟨vo, fun W' hW => (h1.bel hW).cell 2, fun W1 u z hW hz => ?_⟩
  obtain ⟨us, k1, k2, k3, k4⟩ := (h2.below hW).snoc hz
  have hba := below_alloc W1 (.cells #[u] 96)
  have hs1 := hW.size
  have hs2 := hba.size
  refine ⟨us, k1, k2, k3, by omega, fun v3 w3 hown hg => ?_⟩
  have hnr : vo.ownBlock ≠ some M := fun e => by
    have := (k2.1.lt _ e).1
    omega
  have hb1 : BL w3 M 132 [.int .i64 r, .int .i64 c, vo] := ((h1.bel hW).bel hba).grown hg hnr
  have hsz : (W1.alloc (.cells #[u] 96)).heap.size ≤ w3.heap.size := hg.size
  refine ⟨hb1.cell 2, hb1.frozen 2, v3, hb1.set 2 v3, ?_, ?_, by simp; omega⟩
  · obtain ⟨ws, q1, q2, q3⟩ := k4 v3 w3 hown
    exact ⟨ws, OV.keepG q1 fun g hg' => heap_setCell_other _ _ g _ (by have := (q1.1.lt g hg').1; show g ≠ M; omega), q2, q3⟩
  · have hb2 : Below M wS (W1.alloc (.cells #[u] 96)) := (h3.trans (hW.mono (by omega))).trans (hba.mono (by omega))
    have hb3 := below_own hb2 (by omega) (OV.mono k2 (by omega)) hg
    exact hb3.setCell (p := ⟨M, 2, none⟩) (Nat.le_refl _) _
set_option maxRecDepth 100000 in
set_option maxHeartbeats 8000000 in
theorem mWithout_any (vm : Value) (r c p q : Nat) (f : Nat → Nat → Int) (w : World) (hm : MV w vm (r + 1) (c + 1) (matL (r + 1) (c + 1) f)) (hp : p < r + 1) (hq : q < c + 1) (hr : r ≤ 6) (hc : c ≤ 6) :
    Calls Tryz.prog 143 #[vm, .int .i64 (p : Int), .int .i64 (q : Int)] w fun e w' => ∃ v, e = .returned v ∧ Below w.heap.size w w' ∧ MO w' w.heap.size v r c (matL r c fun i j => f (skip p i) (skip q j)) := by
  obtain ⟨ji, jh, jz0, jz1, jz2⟩ := info_parts str_info
  obtain ⟨vc, rfl, hz⟩ := hm
  have hb0 := below_alloc w (.cells #[.int .i64 ((r + 1 : Nat) : Int), .int .i64 ((c + 1 : Nat) : Int), vc] 132)
  have hx0 := BL.new' w #[.int .i64 ((r + 1 : Nat) : Int), .int .i64 ((c + 1 : Nat) : Int), vc] 132
  have c0 := hx0.cell 0
  have c1 := hx0.cell 1
  have c2 := hx0.cell 2
  have hw1 : ((r + 1 : Nat) : Int) - 1 = (r : Int) := by omega
  have hw2 : ((c + 1 : Nat) : Int) - 1 = (c : Int) := by omega
  have HEnd : Hid (wL f p q (c + 1) (r + 1) = matL r c fun i j => f (skip p i) (skip q j)) := without_eq hp hq
  generalize hR : r + 1 = R at *
  generalize hC : c + 1 = C at *
  have hR7 : R ≤ 7 := by omega
  have hC7 : C ≤ 7 := by omega
  clear hR hC hr hc
  obtain ⟨W1, hW1⟩ : ∃ W1, W1 = w.alloc (.cells #[.int .i64 (R : Int), .int .i64 (C : Int), vc] 132) := ⟨_, rfl⟩
  rw [← hW1] at hb0 hx0
  have hz1' : W1.heap.size = w.heap.size + 1 := by rw [hW1]; simp
  obtain ⟨W2, hW2⟩ : ∃ W2, W2 = W1.alloc (.cells #[.int .i64 0, .int .i64 0, .slice none 0 0] 132) := ⟨_, rfl⟩
  have hb1 : Below W1.heap.size W1 W2 := by rw [hW2]; exact below_alloc W1 _
  have hx1 : BL W2 (w.heap.size + 1) 132 [.int .i64 0, .int .i64 0, .slice none 0 0] := by rw [hW2, ← hz1']; exact BL.new' W1 _ _
  have hz2' : W2.heap.size = w.heap.size + 2 := by rw [hW2]; simp; omega
  obtain ⟨W3, hW3⟩ : ∃ W3, W3 = W2.alloc (.cells #[.int .i64 (r : Int), .int .i64 (c : Int), .slice none 0 0] 132) := ⟨_, rfl⟩
  have hb2 : Below W2.heap.size W2 W3 := by rw [hW3]; exact below_alloc W2 _
  have hx2 : BL W3 (w.heap.size + 2) 132 [.int .i64 (r : Int), .int .i64 (c : Int), .slice none 0 0] := by rw [hW3, ← hz2']; exact BL.new' W2 _ _
  have hz3' : W3.heap.size = w.heap.size + 3 := by rw [hW3]; simp; omega
  have hbw3 : Below w.heap.size w W3 := (hb0.trans (hb1.mono hb0.size)).trans (hb2.mono (by omega))
  have HX0 : Hid (BL W3 w.heap.size 132 [.int .i64 (R : Int), .int .i64 (C : Int), vc]) := (hx0.bel hb1).bel hb2
  have HX1 : Hid (BL W3 (w.heap.size + 1) 132 [.int .i64 0, .int .i64 0, .slice none 0 0]) := hx1.bel hb2
  have HWI : Hid (WI (w.heap.size + 2) W3 r c W3 []) := ⟨_, hx2, OZ.nil_ _ _, Below.refl _ _, by omega⟩
  have HAt : Hid (∀ (W : World) (i j : Nat), Below w.heap.size w W → i < R → j < C → Calls Tryz.prog 141 #[.agg #[.int .i64 (R : Int), .int .i64 (C : Int), vc], .int .i64 (i : Int), .int .i64 (j : Int)] W fun e w' => ∃ v, e = .returned v ∧ (Below W.heap.size W w' ∧ ZS v (f i j))) := fun W i j hW h1 h2 => by
    have hl := matL_len R C f
    have hRC : R * C ≤ 49 := Nat.mul_le_mul hR7 hC7
    have := mAt_any (.agg #[.int .i64 (R : Int), .int .i64 (C : Int), vc]) R C (matL R C f) i j W ⟨vc, rfl, hz.below hW⟩ (by rw [hl]; exact mat_idx h1 h2) (by omega)
    rw [matL_get f h1 h2] at this
    exact this
  have HLw : Hid (∀ i k, i < R → k < C → (wK f p q C i k).length ≤ 100) := fun i k h1 h2 => by
    have a := wK_len f p q C i k
    have b := mat_idx h1 h2
    have hRC : R * C ≤ 49 := Nat.mul_le_mul hR7 hC7
    omega
  have HBw := Lib.hid hbw3
  have HZ3 := Lib.hid hz3'
  have HW1 := Lib.hid hW1
  have HW2 := Lib.hid hW2
  have HW3 := Lib.hid hW3
  clear hz hb0 hx0 hb1 hx1 hb2 hx2 hbw3 hz1' hz2' hz3' hW1 hW2 hW3 hp hq
  go_enter Tryz.func143, Tryz.ntmps143
  go_wp2_with fail
  rw [← HW1.out, ← HW2.out, ← HW3.out]
  clear c0 c1 c2 hw1 hw2
  go_loopw [8] (fun ii wr => ∃ i : Nat, i ≤ R ∧ ii = .int .i64 (i : Int) ∧ Hid (WI (w.heap.size + 2) W3 r c wr (wL f p q C i))) (fun i _ => R - (intOf i).toNat)
  case atStart => exact ⟨0, Nat.zero_le _, rfl, HWI.out⟩
  case round =>
    obtain ⟨i, hi, rfl, hwi⟩ := hrel
    have hbi : Below (w.heap.size + 2) W3 wr := by obtain ⟨_, _, _, h, _⟩ := hwi.out; exact h
    have d0 := (HX0.out.below hbi (by omega)).cell 0
    have HWl : Hid (WI (w.heap.size + 2) W3 r c wr (wK f p q C i 0)) := by show WI _ _ _ _ _ _; rw [wK_zero]; exact hwi.out
    clear hbi
    by_cases hlt : i < R
    · go_wp2_with fail
      clear d0
      go_loopw [9] (fun kk wr => ∃ k : Nat, k ≤ C ∧ kk = .int .i64 (k : Int) ∧ Hid (WI (w.heap.size + 2) W3 r c wr (wK f p q C i k))) (fun k _ => C - (intOf k).toNat)
      case atStart => exact ⟨0, Nat.zero_le _, rfl, HWl.out⟩
      case round =>
        obtain ⟨k, hk, rfl, hwk⟩ := hrel
        have hbk : Below (w.heap.size + 2) W3 wr := by obtain ⟨_, _, _, h, _⟩ := hwk.out; exact h
        have e1 := (HX0.out.below hbk (by omega)).cell 1
        by_cases hkt : k < C
        · by_cases hip : i = p
          · have t1 : ((i : Int) != (p : Int)) = false := by simp; omega
            have HWn : Hid (WI (w.heap.size + 2) W3 r c wr (wK f p q C i (k + 1))) := by show WI _ _ _ _ _ _; rw [wK_skip (.inl hip)]; exact hwk.out
            clear hip
            go_wp2
            go_roundw
            case rel => exact ⟨k + 1, by omega, by go_num, HWn.out⟩
            case measure => simp [intOf]; omega
          · have t1 : ((i : Int) != (p : Int)) = true := by simp; omega
            by_cases hkq : k = q
            · have t2 : ((k : Int) != (q : Int)) = false := by simp; omega
              have HWn : Hid (WI (w.heap.size + 2) W3 r c wr (wK f p q C i (k + 1))) := by show WI _ _ _ _ _ _; rw [wK_skip (.inr hkq)]; exact hwk.out
              clear hip hkq
              go_wp2
              go_roundw
              case rel => exact ⟨k + 1, by omega, by go_num, HWn.out⟩
              case measure => simp [intOf]; omega
            · have t2 : ((k : Int) != (q : Int)) = true := by simp; omega
              have hadd := wK_add (f := f) (c := C) hip hkq
              have HAdd := Lib.hid hadd
              have hl100 := HLw.out i k hlt hkt
              obtain ⟨vo, hvo, hrdy⟩ := hwk.out.ready
              have m0 := (HX0.out.below hbk (by omega)).cell 0
              have m2 := (HX0.out.below hbk (by omega)).cell 2
              have v0 := hvo wr (Below.refl _ _)
              have HVo := Lib.hid hvo
              have HRdy := Lib.hid hrdy
              have hbw := HBw.out.trans (hbk.mono (by omega))
              have HBk := Lib.hid hbk
              have HA := Lib.hid (HAt.out wr.drew i k hbw.drew hlt hkt)
              have HG : Hid (∀ W, Below wr.heap.size wr W → W.cell? ⟨w.heap.size, 0, none⟩ = some (.int .i64 (R : Int)) ∧ W.cell? ⟨w.heap.size, 1, none⟩ = some (.int .i64 (C : Int)) ∧ W.cell? ⟨w.heap.size, 2, none⟩ = some vc) := fun W hW =>
                ⟨(hW.cell (block_lt_of_cell m0)).trans m0, (hW.cell (block_lt_of_cell e1)).trans e1, (hW.cell (block_lt_of_cell m2)).trans m2⟩
              clear hip hkq hadd hvo hrdy hbw hbk
              go_wp2_with fail
              go_region_law (first
                | (refine step_appendV _ rfl (.tmp 38) (.tmp 43) 130 rfl 96 ji _ 16 Tryz.underlying130 jh jz0 jz1 jz2 rfl (w.heap.size + 3) vo us (by simp [Act.eval]) HOv.out (.slice (some ⟨w4.heap.size, 0, none⟩) 1 1) [.string S4] (by simp [Act.eval]) HRv.out (by simp) HU1.out (by simp; omega) (by simp; omega) HSz.out ?_; intro g3 cap3 w5 hown hg hat; obtain ⟨r1, r2, r3⟩ := HFin.out _ w5 hown hg; have R3 := Lib.hid r3; clear hown hg hat r3)
                | (refine step_callZ rfl rfl Tryz.func141 (by kernel_rfl) (by kernel_rfl) _ (by simp [Act.eval]) _ HA.out ?_; rintro u4 w4 ⟨hb4, hz40⟩; obtain ⟨S4, rfl, hz4, -⟩ := zs_str hz40; have hb4' := (Below.refl wr.heap.size wr).drew.trans (hb4.mono (Nat.le_refl _)); obtain ⟨n0, n1, n2⟩ := HG.out w4 hb4'; have v1 := HVo.out w4 hb4'; have v2 := fun o => HVo.out _ (hb4'.trans ((below_alloc w4 o).mono hb4'.size)); obtain ⟨us, hul, hov, hrv, hsz, hfin⟩ := HRdy.out w4 (.string S4) _ hb4' hz4; have HOv := Lib.hid hov; have HRv := Lib.hid hrv; have HSz := Lib.hid hsz; have HFin := Lib.hid hfin; have HU1 := Lib.hid (one_ones hz4.one); have hul2 : us.length ≤ 100 := (by rw [hul]; exact hl100); clear hb4 hz4 hz40 hb4' hul hov hrv hsz hfin))
              all_goals
                go_wp2
                go_roundw
                case rel => exact ⟨k + 1, by omega, by go_num, by rw [HAdd.out]; exact R3.out⟩
                case measure => simp [intOf]; omega
        · obtain rfl : k = C := by omega
          have HWn : Hid (WI (w.heap.size + 2) W3 r c wr (wL f p q k (i + 1))) := by show WI _ _ _ _ _ _; rw [← wK_all]; exact hwk.out
          go_wp2
          go_roundw
          case rel => exact ⟨i + 1, by omega, by go_num, HWn.out⟩
          case measure => simp [intOf]; omega
    · obtain rfl : i = R := by omega
      obtain ⟨vo, q1, q2, q3, q4⟩ := hwi.out
      obtain ⟨A, cap, rfl, -⟩ := q2.rz.open_
      have HO := Lib.hid q2
      have a0 := q1.cell 0
      have a1 := q1.cell 1
      have a2 := q1.cell 2
      have hy1 := HX1.out.below q3 (by omega)
      have y0 := hy1.cell 0
      have y1 := hy1.cell 1
      have y2 := hy1.cell 2
      have z0 := hy1.frozen 0
      have z1 := hy1.frozen 1
      have z2 := hy1.frozen 2
      have HB3 := Lib.hid q3
      have HY := Lib.hid hy1
      clear q1 q2 q3 q4 hy1
      go_wp2
      refine bodyPost_ret (results_cell_row rfl _ _ (w.heap.size + 1) 132 #[.int .i64 (r : Int), .int .i64 (c : Int), .slice A (wL f p q C i).length cap] (0, 0) _ rfl (((HY.out.set 0 _).set 1 _).set 2 _) Tryz.underlying132 rfl mat_size) rfl ?_
      have hb3 := ((((HBw.out.trans (HB3.out.mono (by omega))).setCell (p := ⟨w.heap.size + 1, 0, none⟩) (by simp) (.int .i64 (r : Int))).setCell (p := ⟨w.heap.size + 1, 1, none⟩) (by simp) (.int .i64 (c : Int))).setCell (p := ⟨w.heap.size + 1, 2, none⟩) (by simp) (.slice A (wL f p q C i).length cap))
      refine ⟨_, rfl, hb3, .slice A (wL f p q C i).length cap, rfl, ?_⟩
      rw [← HEnd.out]
      exact (OZ.keepG HO.out fun g hg => by
        rw [heap_setCell_other _ _ g _ (by show g ≠ w.heap.size + 1; omega), heap_setCell_other _ _ g _ (by show g ≠ w.heap.size + 1; omega), heap_setCell_other _ _ g _ (by show g ≠ w.heap.size + 1; omega)]).mono (by omega)
end Go.Proofs.YtefggpdobjboeaaGreat

namespace Go.Proofs.YtefggpdobjboeaaGreat
open Go.RowKit Go.Shelf

set_option maxRecDepth 100000 in
set_option maxHeartbeats 8000000 in
theorem mOf_any (va : Value) (r c : Nat) (l : List Int) (w : World) (ha : RI w va l) (hl : l.length ≤ 100) (hB : ∀ k, B15 (l.getD k 0)) :
    Calls Tryz.prog 174 #[.int .i64 (r : Int), .int .i64 (c : Int), va] w fun e w' => ∃ v, e = .returned v ∧ Below w.heap.size w w' ∧ MO w' w.heap.size v r c l := by
  obtain ⟨ji, jh, jz0, jz1, jz2⟩ := info_parts str_info
  obtain ⟨A, ca, rfl, -, -, hcell⟩ := ha.open_
  have HC := Lib.hid hcell
  obtain ⟨W2, hW2⟩ : ∃ W2, W2 = w.alloc (.cells #[.int .i64 0, .int .i64 0, .slice none 0 0] 132) := ⟨_, rfl⟩
  have hb1 : Below w.heap.size w W2 := by rw [hW2]; exact below_alloc w _
  have hx1 : BL W2 w.heap.size 132 [.int .i64 0, .int .i64 0, .slice none 0 0] := by rw [hW2]; exact BL.new' w _ _
  have hz2' : W2.heap.size = w.heap.size + 1 := by rw [hW2]; simp
  obtain ⟨W3, hW3⟩ : ∃ W3, W3 = W2.alloc (.cells #[.int .i64 (r : Int), .int .i64 (c : Int), .slice none 0 0] 132) := ⟨_, rfl⟩
  have hb2 : Below W2.heap.size W2 W3 := by rw [hW3]; exact below_alloc W2 _
  have hx2 : BL W3 (w.heap.size + 1) 132 [.int .i64 (r : Int), .int .i64 (c : Int), .slice none 0 0] := by rw [hW3, ← hz2']; exact BL.new' W2 _ _
  have hz3' : W3.heap.size = w.heap.size + 2 := by rw [hW3]; simp; omega
  have hbw3 : Below w.heap.size w W3 := hb1.trans (hb2.mono (by omega))
  have HX1 : Hid (BL W3 w.heap.size 132 [.int .i64 0, .int .i64 0, .slice none 0 0]) := hx1.bel hb2
  have HWI : Hid (WI (w.heap.size + 1) W3 r c W3 []) := ⟨_, hx2, OZ.nil_ _ _, Below.refl _ _, by omega⟩
  have HOf : Hid (∀ (W : World) (k : Nat), Calls Tryz.prog 58 #[.int .i64 (l.getD k 0)] W fun e w' => ∃ v, e = .returned v ∧ (Below W.heap.size W w' ∧ ZS v (l.getD k 0))) := fun W k => zOf_any _ W (hB k)
  have HTk : Hid (∀ (k : Nat), k < l.length → l.take (k + 1) = l.take k ++ [l.getD k 0]) := fun k hk => by
    rw [List.take_add_one, List.getElem?_eq_getElem hk, List.getD_eq_getElem?_getD, List.getElem?_eq_getElem hk]; rfl
  have HBw := Lib.hid hbw3
  have HZ3 := Lib.hid hz3'
  have HW2 := Lib.hid hW2
  have HW3 := Lib.hid hW3
  clear ha hcell hb1 hx1 hb2 hx2 hbw3 hz2' hz3' hW2 hW3 hB
  go_enter Tryz.func174, Tryz.ntmps174
  go_wp2_with fail
  rw [← HW2.out, ← HW3.out]
  go_loopw [8] (fun ii wr => ∃ i : Nat, i ≤ l.length ∧ ii = .int .i64 (i : Int) ∧ Hid (WI (w.heap.size + 1) W3 r c wr (l.take i))) (fun i _ => l.length - (intOf i).toNat)
  case atStart => exact ⟨0, Nat.zero_le _, rfl, HWI.out⟩
  case round =>
    obtain ⟨k, hk, rfl, hwk⟩ := hrel
    have hbk : Below (w.heap.size + 1) W3 wr := by obtain ⟨_, _, _, h, _⟩ := hwk.out; exact h
    by_cases hlt : k < l.length
    · obtain ⟨ad, z, rfl, hadb, hz, hcl⟩ := HC.out k hlt
      have hzz := getD_of hz.out
      have hadd := HTk.out k hlt
      have HA := Lib.hid (HOf.out wr.drew k)
      rw [hzz] at hadd HA
      have HAdd := Lib.hid hadd
      obtain ⟨vo, hvo, hrdy⟩ := hwk.out.ready
      have v0 := hvo wr (Below.refl _ _)
      have HVo := Lib.hid hvo
      have HRdy := Lib.hid hrdy
      have hbw := HBw.out.trans (hbk.mono (by omega))
      have g0 : wr.cell? (ad.add k) = some (.int .i64 z) := (hbw.cell (by rw [block_of_add]; exact hadb)).trans hcl
      have HG : Hid (∀ W, Below wr.heap.size wr W → W.cell? (ad.add k) = some (.int .i64 z)) := fun W hW => (hW.cell (block_lt_of_cell g0)).trans g0
      clear hadd hvo hrdy hbw hbk hcl hzz
      go_wp2_with fail
      go_region_law (first
        | (refine step_appendV _ rfl (.tmp 19) (.tmp 25) 130 rfl 96 ji _ 16 Tryz.underlying130 jh jz0 jz1 jz2 rfl (w.heap.size + 2) vo us (by simp [Act.eval]) HOv.out (.slice (some ⟨w4.heap.size, 0, none⟩) 1 1) [.string S4] (by simp [Act.eval]) HRv.out (by simp) HU1.out (by simp; omega) (by simp; omega) HSz.out ?_; intro g3 cap3 w5 hown hg hat; obtain ⟨r1, r2, r3⟩ := HFin.out _ w5 hown hg; have R3 := Lib.hid r3; clear hown hg hat r3)
        | (refine step_callZ rfl rfl Tryz.func58 (by kernel_rfl) (by kernel_rfl) _ (by simp [Act.eval]) _ HA.out ?_; rintro u4 w4 ⟨hb4, hz40⟩; obtain ⟨S4, rfl, hz4, -⟩ := zs_str hz40; have hb4' := (Below.refl wr.heap.size wr).drew.trans (hb4.mono (Nat.le_refl _)); have v1 := HVo.out w4 hb4'; have v2 := fun o => HVo.out _ (hb4'.trans ((below_alloc w4 o).mono hb4'.size)); obtain ⟨us, hul, hov, hrv, hsz, hfin⟩ := HRdy.out w4 (.string S4) _ hb4' hz4; have HOv := Lib.hid hov; have HRv := Lib.hid hrv; have HSz := Lib.hid hsz; have HFin := Lib.hid hfin; have HU1 := Lib.hid (one_ones hz4.one); have hul2 : us.length ≤ 100 := (by rw [hul, List.length_take]; omega); clear hb4 hz4 hz40 hb4' hul hov hrv hsz hfin))
      all_goals
        go_wp2
        go_roundw
        case rel => exact ⟨k + 1, by omega, by go_num, by rw [HAdd.out]; exact R3.out⟩
        case measure => simp [intOf]; omega
    · obtain rfl : k = l.length := by omega
      rw [List.take_of_length_le (Nat.le_refl _)] at hwk
      obtain ⟨vo, q1, q2, q3, q4⟩ := hwk.out
      obtain ⟨A9, cap, rfl, -⟩ := q2.rz.open_
      have HO := Lib.hid q2
      have a0 := q1.cell 0
      have a1 := q1.cell 1
      have a2 := q1.cell 2
      have hy1 := HX1.out.below q3 (by omega)
      have y0 := hy1.cell 0
      have y1 := hy1.cell 1
      have y2 := hy1.cell 2
      have z0 := hy1.frozen 0
      have z1 := hy1.frozen 1
      have z2 := hy1.frozen 2
      have HB3 := Lib.hid q3
      have HY := Lib.hid hy1
      clear q1 q2 q3 q4 hy1 hbk
      go_wp2
      refine bodyPost_ret (results_cell_row rfl _ _ w.heap.size 132 #[.int .i64 (r : Int), .int .i64 (c : Int), .slice A9 l.length cap] (0, 0) _ rfl (((HY.out.set 0 _).set 1 _).set 2 _) Tryz.underlying132 rfl mat_size) rfl ?_
      have hb3 := ((((HBw.out.trans (HB3.out.mono (by omega))).setCell (p := ⟨w.heap.size, 0, none⟩) (Nat.le_refl _) (.int .i64 (r : Int))).setCell (p := ⟨w.heap.size, 1, none⟩) (Nat.le_refl _) (.int .i64 (c : Int))).setCell (p := ⟨w.heap.size, 2, none⟩) (Nat.le_refl _) (.slice A9 l.length cap))
      refine ⟨_, rfl, hb3, .slice A9 l.length cap, rfl, ?_⟩
      exact (OZ.keepG HO.out fun g hg => by
        rw [heap_setCell_other _ _ g _ (by show g ≠ w.heap.size; omega), heap_setCell_other _ _ g _ (by show g ≠ w.heap.size; omega), heap_setCell_other _ _ g _ (by show g ≠ w.heap.size; omega)]).mono (by omega)
end Go.Proofs.YtefggpdobjboeaaGreat

namespace Go.Proofs.YtefggpdobjboeaaGreat
open Go.RowKit Go.Shelf

/-- A term of the expansion, and the sum of the first k of them. -/
def dtT (n : Nat) (f : Nat → Nat → Int) (k : Nat) : Int := sgn k * f 0 k * detN n fun i j => f (i + 1) (skip k j)
theorem dtT_sum (n : Nat) (f : Nat → Nat → Int) : sumN (n + 1) (dtT n f) = detN (n + 1) f := rfl
theorem bdN_le {n : Nat} (h : n ≤ 5) : bdN n 100 ≤ 1200000000000 := by
  match n, h with
  | 0, _ => decide
  | 1, _ => decide
  | 2, _ => decide
  | 3, _ => decide
  | 4, _ => decide
  | 5, _ => decide
theorem minor_bd {n k : Nat} {f : Nat → Nat → Int} (hf : ∀ i j, i < n + 1 → j < n + 1 → (f i j).natAbs ≤ 100) : ∀ i j, i < n → j < n → (f (i + 1) (skip k j)).natAbs ≤ 100 := fun i j hi hj => hf _ _ (by omega) (by unfold skip; split <;> omega)
theorem dtT_bd {n k : Nat} {f : Nat → Nat → Int} (hf : ∀ i j, i < n + 1 → j < n + 1 → (f i j).natAbs ≤ 100) (hk : k < n + 1) : (dtT n f k).natAbs ≤ 100 * bdN n 100 := by
  unfold dtT
  rw [Int.natAbs_mul, Int.natAbs_mul, sgn_abs, Nat.one_mul]
  exact Nat.mul_le_mul (hf 0 k (by omega) hk) (detN_bd (minor_bd hf))
theorem part_bd {n k : Nat} {f : Nat → Nat → Int} (hn : n + 1 ≤ 5) (hf : ∀ i j, i < n + 1 → j < n + 1 → (f i j).natAbs ≤ 100) (hk : k ≤ n + 1) : B15 (sumN k (dtT n f)) := by
  have h1 := sumN_abs (n := k) (f := dtT n f) fun i hi => dtT_bd hf (by omega)
  have h2 := Nat.mul_le_mul_right (100 * bdN n 100) hk
  have h3 := bdN_le hn
  rw [bdN] at h3
  unfold B15
  omega
theorem prod_bd {n k : Nat} {f : Nat → Nat → Int} (hn : n + 1 ≤ 5) (hf : ∀ i j, i < n + 1 → j < n + 1 → (f i j).natAbs ≤ 100) (hk : k < n + 1) : B15 (f 0 k) ∧ B15 (detN n fun i j => f (i + 1) (skip k j)) ∧ B15 (f 0 k * detN n fun i j => f (i + 1) (skip k j)) := by
  have h1 := hf 0 k (by omega) hk
  have h2 := detN_bd (minor_bd (k := k) hf)
  have h3 := bdN_le (n := n) (by omega)
  have h4 : (f 0 k * detN n fun i j => f (i + 1) (skip k j)).natAbs ≤ 100 * bdN n 100 := by
    rw [Int.natAbs_mul]; exact Nat.mul_le_mul h1 h2
  generalize (detN n fun i j => f (i + 1) (skip k j)) = D at *
  generalize f 0 k * D = P at *
  generalize f 0 k = x at *
  unfold B15
  omega
theorem B15.add_neg {a b : Int} (h : B15 b) (e : a = -b) : B15 a := by rw [e]; exact h.neg
def DetZ (n : Nat) : Prop := ∀ (f : Nat → Nat → Int) (vm : Value) (w : World), MV w vm n n (matL n n f) → (∀ i j, i < n → j < n → (f i j).natAbs ≤ 100) →
  Calls Tryz.prog 99 #[vm] w fun e w' => ∃ v, e = .returned v ∧ Below w.heap.size w w' ∧ ZS v (detN n f)
theorem zs_one : ZS (.string ⟨#[49]⟩) 1 := ⟨[1], false, rfl, fun k => by cases k <;> simp, .inr (by decide), fun _ => rfl, by decide⟩
theorem zs_nul : ZS (.string ⟨#[48]⟩) 0 := ⟨[], false, rfl, dig_nil, .inl rfl, fun _ => rfl, by decide⟩
set_option maxRecDepth 100000 in
set_option maxHeartbeats 4000000 in
theorem mDet_zero : DetZ 0 := by
  intro f vm w hm _
  obtain ⟨vc, rfl, hz⟩ := hm
  have hb0 := below_alloc w (.cells #[.int .i64 ((0 : Nat) : Int), .int .i64 ((0 : Nat) : Int), vc] 132)
  have c0 := (BL.new' w #[.int .i64 ((0 : Nat) : Int), .int .i64 ((0 : Nat) : Int), vc] 132).cell 0
  have HB := Lib.hid hb0
  clear hz hb0
  go_enter Tryz.func99, Tryz.ntmps99
  go_wp2
  go_ret
  exact ⟨_, rfl, HB.out, zs_one⟩
set_option maxRecDepth 100000 in
set_option maxHeartbeats 8000000 in
theorem mDet_succ (n : Nat) (hn : n + 1 ≤ 5) (ih : DetZ n) : DetZ (n + 1) := by
  intro f vm w hm hf
  obtain ⟨vc, rfl, hz⟩ := hm
  have HSuc : Hid (∀ k, sumN (k + 1) (dtT n f) = sumN k (dtT n f) + dtT n f k) := fun k => rfl
  have HPart : Hid (∀ k, k ≤ n + 1 → B15 (sumN k (dtT n f))) := fun k hk => part_bd hn hf hk
  have HProd : Hid (∀ k, k < n + 1 → B15 (f 0 k) ∧ B15 (detN n fun i j => f (i + 1) (skip k j)) ∧ B15 (f 0 k * detN n fun i j => f (i + 1) (skip k j))) := fun k hk => prod_bd hn hf hk
  have HDet : Hid (∀ (W : World) (v : Value) (k : Nat), k < n + 1 → MV W v n n (matL n n fun i j => f (skip 0 i) (skip k j)) → Calls Tryz.prog 99 #[v] W fun e w' => ∃ v, e = .returned v ∧ Below W.heap.size W w' ∧ ZS v (detN n fun i j => f (i + 1) (skip k j))) := fun W v k hk hv =>
    ih (fun i j => f (skip 0 i) (skip k j)) v W hv (minor_bd hf)
  obtain ⟨N, hN⟩ : ∃ N, N = n + 1 := ⟨_, rfl⟩
  have HSum : Hid (sumN N (dtT n f) = detN N f) := by subst hN; rfl
  rw [← hN]
  have HWo : Hid (∀ (W : World) (k : Nat), Below w.heap.size w W → k < n + 1 → Calls Tryz.prog 143 #[.agg #[.int .i64 (N : Int), .int .i64 (N : Int), vc], .int .i64 0, .int .i64 (k : Int)] W fun e w' => ∃ v, e = .returned v ∧ Below W.heap.size W w' ∧ MV w' v n n (matL n n fun i j => f (skip 0 i) (skip k j))) := fun W k hW hk => by
    subst hN
    exact (mWithout_any _ n n 0 k f W ⟨vc, rfl, hz.below hW⟩ (by omega) hk (by omega) (by omega)).mono fun e w' ⟨v, h1, h2, h3⟩ => ⟨v, h1, h2, h3.mv⟩
  have HAt : Hid (∀ (W : World) (k : Nat), Below w.heap.size w W → k < n + 1 → Calls Tryz.prog 141 #[.agg #[.int .i64 (N : Int), .int .i64 (N : Int), vc], .int .i64 0, .int .i64 (k : Int)] W fun e w' => ∃ v, e = .returned v ∧ Below W.heap.size W w' ∧ ZS v (f 0 k)) := fun W k hW hk => by
    have hl := matL_len (n + 1) (n + 1) f
    have hRC : (n + 1) * (n + 1) ≤ 25 := Nat.mul_le_mul hn hn
    have := mAt_any (.agg #[.int .i64 (N : Int), .int .i64 (N : Int), vc]) N N (matL (n + 1) (n + 1) f) 0 k W ⟨vc, rfl, hz.below hW⟩ (by rw [hl]; subst hN; exact mat_idx (by omega) hk) (by omega)
    subst hN
    rw [matL_get f (by omega) hk] at this
    exact this
  have hb0 := below_alloc w (.cells #[.int .i64 (N : Int), .int .i64 (N : Int), vc] 132)
  have hx0 := BL.new' w #[.int .i64 (N : Int), .int .i64 (N : Int), vc] 132
  have c0 := hx0.cell 0
  obtain ⟨W1, hW1⟩ : ∃ W1, W1 = w.alloc (.cells #[.int .i64 (N : Int), .int .i64 (N : Int), vc] 132) := ⟨_, rfl⟩
  rw [← hW1] at hb0 hx0
  have HB0 := Lib.hid hb0
  have HX0 := Lib.hid hx0
  have HW1 := Lib.hid hW1
  have HNn := Lib.hid hN
  have hN1 : 1 ≤ N := by omega
  have hN5 : N ≤ 5 := by omega
  clear hz hb0 hx0 hW1 hN hf ih hn
  go_enter Tryz.func99, Tryz.ntmps99
  go_wp2_with fail
  rw [← HW1.out]
  clear c0
  go_loopw [3, 4] (fun ss kk wr => ∃ (k : Nat) (S : ByteArray), ss = .string S ∧ kk = .int .i64 (k : Int) ∧ k ≤ N ∧ Hid (ZS (.string S) (sumN k (dtT n f))) ∧ Hid (Below W1.heap.size W1 wr)) (fun _ k _ => N - (intOf k).toNat)
  case atStart => exact ⟨0, _, rfl, rfl, Nat.zero_le _, zs_nul, Below.refl _ _⟩
  case round =>
    obtain ⟨k, S, rfl, rfl, hk, hzs, hb⟩ := hrel
    have hxw := HX0.out.bel hb.out
    have d0 := hxw.cell 0
    have d1 := hxw.cell 1
    have d2 := hxw.cell 2
    have HXw := Lib.hid hxw
    have HBw := Lib.hid (HB0.out.trans (hb.out.mono HB0.out.size))
    clear hxw
    by_cases hlt : k < N
    · have hkn : k < n + 1 := by have := HNn.out; omega
      have HKn := Lib.hid hkn
      obtain ⟨p1, p2, p3⟩ := HProd.out k hkn
      have P1 := Lib.hid p1
      have P2 := Lib.hid p2
      have P3 := Lib.hid p3
      have HA1 := Lib.hid (HAt.out wr k HBw.out hkn)
      have HSk := Lib.hid (HSuc.out k)
      have HPk := Lib.hid (HPart.out k (by omega))
      have HPk1 := Lib.hid (HPart.out (k + 1) (by omega))
      have hdt : dtT n f k = sgn k * f 0 k * detN n fun i j => f (i + 1) (skip k j) := rfl
      have HDt := Lib.hid hdt
      have HAt2 : Hid (∀ (W : World), Below w.heap.size w W → Calls Tryz.prog 141 #[.agg #[.int .i64 (N : Int), .int .i64 (N : Int), vc], .int .i64 0, .int .i64 (k : Int)] W fun e w' => ∃ v, e = .returned v ∧ Below W.heap.size W w' ∧ ZS v (f 0 k)) := fun W h => HAt.out W k h hkn
      have HWo2 : Hid (∀ (W : World), Below w.heap.size w W → Calls Tryz.prog 143 #[.agg #[.int .i64 (N : Int), .int .i64 (N : Int), vc], .int .i64 0, .int .i64 (k : Int)] W fun e w' => ∃ v, e = .returned v ∧ Below W.heap.size W w' ∧ MV w' v n n (matL n n fun i j => f (skip 0 i) (skip k j))) := fun W h => HWo.out W k h hkn
      have HDet2 : Hid (∀ (W : World) (v : Value), MV W v n n (matL n n fun i j => f (skip 0 i) (skip k j)) → Calls Tryz.prog 99 #[v] W fun e w' => ∃ v, e = .returned v ∧ Below W.heap.size W w' ∧ ZS v (detN n fun i j => f (i + 1) (skip k j))) := fun W v h => HDet.out W v k hkn h
      clear hkn p1 p2 p3 hdt
      generalize (detN n fun i j => f (i + 1) (skip k j)) = D at *
      generalize f 0 k = x at *
      generalize dtT n f k = T at *
      generalize sumN k (dtT n f) = s0 at *
      generalize hs1 : sumN (k + 1) (dtT n f) = s1 at *
      have HS1 := Lib.hid hs1
      clear hs1
      go_wp2_with fail
      refine HA1.out.mono ?_
      rintro e w2 ⟨v2, rfl, hb2, hz2⟩
      obtain ⟨S2, rfl, hz2', h0⟩ := zs_str hz2
      have h48 : (ByteArray.mk #[48]).toList = [48] := ByteArray.toList_mk [48]
      have HB2 := Lib.hid (hb.out.trans (hb2.mono hb.out.size))
      have hx2 := HXw.out.bel hb2
      have HX2 := Lib.hid hx2
      clear hb2 hz2 hz2' d0 d1 d2 hx2
      by_cases hx0 : x = 0
      · rw [decide_eq_true hx0] at h0
        have HZ1 : Hid (ZS (.string S) s1) := by
          have e : s1 = s0 := by rw [HSk.out, HDt.out, hx0]; simp
          rw [e]; exact hzs.out
        clear hx0
        go_wp2
        go_roundw
        case rel => exact ⟨k + 1, S, rfl, by go_num, by omega, by rw [HS1.out]; exact HZ1.out, HB2.out⟩
        case measure => simp [intOf]; omega
      · rw [decide_eq_false hx0] at h0
        have e0 := HX2.out.cell 0
        have e1 := HX2.out.cell 1
        have e2 := HX2.out.cell 2
        have HK : Hid (∀ W, Below w2.heap.size w2 W → W.cell? ⟨w.heap.size, 0, none⟩ = some (.int .i64 (N : Int)) ∧ W.cell? ⟨w.heap.size, 1, none⟩ = some (.int .i64 (N : Int)) ∧ W.cell? ⟨w.heap.size, 2, none⟩ = some vc) := fun W hW => ⟨(HX2.out.bel hW).cell 0, (HX2.out.bel hW).cell 1, (HX2.out.bel hW).cell 2⟩
        have HBase : Hid (∀ W, Below w2.heap.size w2 W → Below w.heap.size w W) := fun W hW => (HB0.out.trans (HB2.out.mono HB0.out.size)).trans (hW.mono (HB0.out.trans (HB2.out.mono HB0.out.size)).size)
        have HBc : Hid (Below w2.heap.size w2 w2.drew) := (Below.refl _ _).drew
        have HSc := Lib.hid (HK.out w2.drew HBc.out)
        clear hx0
        go_wp2_with fail
        go_region_held3 (fun W' : World => W'.cell? ⟨w.heap.size, 0, none⟩ = some (.int .i64 (N : Int)) ∧ W'.cell? ⟨w.heap.size, 1, none⟩ = some (.int .i64 (N : Int)) ∧ W'.cell? ⟨w.heap.size, 2, none⟩ = some vc) (first | exact HSc.out)
          (first
            | (go_at_call 142; refine (zTimes_any _ _ x D _ HZa.out HZd.out P1.out P2.out).mono ?_; rintro e w8 ⟨v8, rfl, hb8, hz8⟩; have HZt := Lib.hid hz8; have HBd := Lib.hid (HBc.out.trans (hb8.mono HBc.out.size)); have HSc := Lib.hid (HK.out w8 HBd.out); clear hb8 hz8)
            | (go_at_call 99; refine (HDet2.out _ _ HMc.out).mono ?_; rintro e w7 ⟨v7, rfl, hb7, hz7⟩; have HZd := Lib.hid hz7; have HBc := Lib.hid (HBc.out.trans (hb7.mono HBc.out.size)); have HSc := Lib.hid (HK.out w7 HBc.out); clear hb7 hz7)
            | (go_at_call 143; refine (HWo2.out _ (HBase.out _ HBc.out)).mono ?_; rintro e w6 ⟨v6, rfl, hb6, hm6⟩; have HMc := Lib.hid hm6; have HBc := Lib.hid (HBc.out.trans (hb6.mono HBc.out.size)); have HSc := Lib.hid (HK.out w6 HBc.out); obtain ⟨vc6, rfl, -⟩ := hm6; clear hb6)
            | (go_at_call 141; refine (HAt2.out _ (HBase.out _ HBc.out)).mono ?_; rintro e w5 ⟨v5, rfl, hb5, hz5⟩; have HZa := Lib.hid hz5; (try (have HMc := Lib.hid (HMc.out.below hb5))); have HBc := Lib.hid (HBc.out.trans (hb5.mono HBc.out.size)); have HSc := Lib.hid (HK.out w5 HBc.out); clear hb5 hz5))
        all_goals
          have HB8 := Lib.hid (HB2.out.trans (HBd.out.mono HB2.out.size))
          by_cases hk2 : k % 2 = 1
          · have hrm : (k : Int).tmod 2 = 1 := by rw [Int.tmod_eq_emod_of_nonneg (by omega)]; omega
            have HTu := Lib.hid (zTurned_any v8 _ w8 HZt.out P3.out)
            have HE : Hid (s0 + -(x * D) = s1) := by
              show _ = _
              rw [HSk.out, HDt.out, show sgn k = -1 by unfold sgn; rw [if_neg (by omega)]]; grind
            have HPl : Hid (∀ (v : Value) (W : World), ZS v (-(x * D)) → Calls Tryz.prog 139 #[.string S, v] W fun e w' => ∃ v', e = .returned v' ∧ Below W.heap.size W w' ∧ ZS v' s1) := fun v W h => by
              have := zPlus_any (.string S) v s0 (-(x * D)) W hzs.out h HPk.out P3.out.neg
              rwa [HE.out] at this
            clear hk2 e0 e1 e2
            go_wp2_with fail
            refine HTu.out.mono ?_
            rintro e w9 ⟨v9, rfl, hb9, hz9⟩
            have HPv := Lib.hid (HPl.out v9 w9 hz9)
            have HB9 := Lib.hid (HB8.out.trans (hb9.mono HB8.out.size))
            clear hb9
            clear hz9
            go_wp2_with fail
            refine HPv.out.mono ?_
            rintro e w10 ⟨v10, rfl, hb10, hz10⟩
            obtain ⟨S3, rfl, hz11, -⟩ := zs_str hz10
            have HZ11 := Lib.hid hz11
            have HB10 := Lib.hid (HB9.out.trans (hb10.mono HB9.out.size))
            clear hb10
            clear hz10 hz11
            go_wp2
            go_roundw
            case rel => exact ⟨k + 1, S3, rfl, by go_num, by omega, by rw [HS1.out]; exact HZ11.out, HB10.out⟩
            case measure => simp [intOf]; omega
          · have hrm : (k : Int).tmod 2 = 0 := by rw [Int.tmod_eq_emod_of_nonneg (by omega)]; omega
            have HE : Hid (s0 + x * D = s1) := by
              show _ = _
              rw [HSk.out, HDt.out, show sgn k = 1 by unfold sgn; rw [if_pos (by omega)]]; grind
            have hpl := zPlus_any (.string S) v8 s0 (x * D) w8 hzs.out HZt.out HPk.out P3.out
            rw [HE.out] at hpl
            have HPv := Lib.hid hpl
            clear hk2 e0 e1 e2 hpl
            go_wp2_with fail
            refine HPv.out.mono ?_
            rintro e w10 ⟨v10, rfl, hb10, hz10⟩
            obtain ⟨S3, rfl, hz11, -⟩ := zs_str hz10
            have HZ11 := Lib.hid hz11
            have HB10 := Lib.hid (HB8.out.trans (hb10.mono HB8.out.size))
            clear hb10
            clear hz10 hz11
            go_wp2
            go_roundw
            case rel => exact ⟨k + 1, S3, rfl, by go_num, by omega, by rw [HS1.out]; exact HZ11.out, HB10.out⟩
            case measure => simp [intOf]; omega
    · obtain rfl : k = N := by omega
      go_wp2
      go_ret
      exact ⟨_, rfl, HBw.out, by rw [← HSum.out]; exact hzs.out⟩
theorem mDet_any (n : Nat) (hn : n ≤ 5) : DetZ n := by
  induction n with
  | zero => exact mDet_zero
  | succ n ih => exact mDet_succ n (by omega) (ih (by omega))
end Go.Proofs.YtefggpdobjboeaaGreat
