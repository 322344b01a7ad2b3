/- Contract of the checker's of. -/
import Derived.Test.YtgcnijmmjlfabaaGreatDoorK12
set_option maxRecDepth 100000
set_option maxHeartbeats 16000000
namespace Go.Proofs.YtgcnijmmjlfabaaGreatDoor
open Go.RowKit Go.Shelf

def OfCut (n : Nat) (W : World) (a : Value) (wx : World) : Prop := ∃ bx bj bv, a = .pointer (some ⟨bx, 0, none⟩) ∧ OM wx W.heap.size n bx bj bv [] (fun _ _ => 0) (fun _ => 0) ∧ Below W.heap.size W wx
/-- What the checker's of answers. -/
def ofE (n : Int) (es : List Tri) : Int := if gcheckE n es ≠ 0 then gcheckE n es else if connB n es = false then 13 else 0
theorem gcheckL_snoc {n : Int} {last : Int × Int} {l : List Tri} {t : Tri} (h : gcheckL n last l = 0) (h2 : okE n (l.foldl (fun _ s => (s.1, s.2.1)) last) t = 0) : gcheckL n last (l ++ [t]) = 0 := by
  induction l generalizing last with
  | nil =>
    rw [List.nil_append, gcheckL]
    rw [List.foldl_nil] at h2
    rw [h2]; rfl
  | cons s r ih =>
    rw [List.cons_append]
    unfold gcheckL at h ⊢
    by_cases e : okE n last s = 0
    · rw [e] at h ⊢
      exact ih h h2
    · rw [if_pos e] at h; exact absurd h e
theorem foldl_last {es : List Tri} {k : Nat} (hk : k ≤ es.length) : (es.take k).foldl (fun _ s => (s.1, s.2.1)) ((-1 : Int), (-1 : Int)) = lastE es k := by
  cases k with
  | zero => rfl
  | succ j =>
    rw [List.take_add_one, List.getElem?_eq_getElem (by omega), Option.toList_some, List.foldl_append]
    show _ = ((es.getD j (0, 0, 0)).1, (es.getD j (0, 0, 0)).2.1)
    rw [List.getD_eq_getElem?_getD, List.getElem?_eq_getElem (by omega)]
    rfl
theorem OM.startJV (W : World) (n : Nat) : OM (((W.alloc (.cells (madeCells #[Value.slice none 0 0] n) 42)).alloc (.cells (madeCells #[Value.int .i64 0] n) 3)).alloc (.cells #[.int .i64 (n : Int), .slice (some ⟨W.heap.size, 0, none⟩) n n, .slice (some ⟨W.heap.size + 1, 0, none⟩) n n] 72)) W.heap.size n (W.heap.size + 1 + 1) W.heap.size (W.heap.size + 1) [] (fun _ _ => 0) fun _ => 0 := by
  have h1 := BL.new' W (madeCells #[Value.slice none 0 0] n) 42
  have h2 := BL.new' (W.alloc (.cells (madeCells #[Value.slice none 0 0] n) 42)) (madeCells #[Value.int .i64 0] n) 3
  have h3 := BL.new' ((W.alloc (.cells (madeCells #[Value.slice none 0 0] n) 42)).alloc (.cells (madeCells #[Value.int .i64 0] n) 3)) #[.int .i64 (n : Int), .slice (some ⟨W.heap.size, 0, none⟩) n n, .slice (some ⟨W.heap.size + 1, 0, none⟩) n n] 72
  rw [World.size_alloc] at h2
  rw [World.size_alloc, World.size_alloc] at h3
  rw [show (madeCells #[Value.slice none 0 0] n).toList = List.replicate n (Value.slice none 0 0) by rw [madeCells_one]] at h1
  rw [show (madeCells #[Value.int .i64 0] n).toList = (List.range n).map fun _ => Value.int .i64 0 by rw [madeCells_one, List.map_const', List.length_range]] at h2
  exact ⟨h3, by simpa using (h1.alloc _).alloc _, h2.alloc _, fun i b hi => by simp at hi, by simp, by omega, by omega, fun b hb => by simp at hb; omega⟩
theorem OM.startVJ (W : World) (n : Nat) : OM (((W.alloc (.cells (madeCells #[Value.int .i64 0] n) 3)).alloc (.cells (madeCells #[Value.slice none 0 0] n) 42)).alloc (.cells #[.int .i64 (n : Int), .slice (some ⟨W.heap.size + 1, 0, none⟩) n n, .slice (some ⟨W.heap.size, 0, none⟩) n n] 72)) W.heap.size n (W.heap.size + 1 + 1) (W.heap.size + 1) W.heap.size [] (fun _ _ => 0) fun _ => 0 := by
  have h1 := BL.new' W (madeCells #[Value.int .i64 0] n) 3
  have h2 := BL.new' (W.alloc (.cells (madeCells #[Value.int .i64 0] n) 3)) (madeCells #[Value.slice none 0 0] n) 42
  have h3 := BL.new' ((W.alloc (.cells (madeCells #[Value.int .i64 0] n) 3)).alloc (.cells (madeCells #[Value.slice none 0 0] n) 42)) #[.int .i64 (n : Int), .slice (some ⟨W.heap.size + 1, 0, none⟩) n n, .slice (some ⟨W.heap.size, 0, none⟩) n n] 72
  rw [World.size_alloc] at h2
  rw [World.size_alloc, World.size_alloc] at h3
  rw [show (madeCells #[Value.slice none 0 0] n).toList = List.replicate n (Value.slice none 0 0) by rw [madeCells_one]] at h2
  rw [show (madeCells #[Value.int .i64 0] n).toList = (List.range n).map fun _ => Value.int .i64 0 by rw [madeCells_one, List.map_const', List.length_range]] at h1
  exact ⟨h3, by simpa using h2.alloc _, (h1.alloc _).alloc _, fun i b hi => by simp at hi, by simp, by omega, by omega, fun b hb => by simp at hb; omega⟩
theorem kVertexB_any (b n : Nat) (vj vv : Value) (v : Int) (w : World) (hb : BL w b 72 [.int .i64 (n : Int), vj, vv]) :
    Calls Tryz.prog 40 #[.pointer (some ⟨b, 0, none⟩), .int .i64 v] w fun e w' => e = .returned (.bool (decide (0 ≤ v) && decide (v < n))) ∧ w = w' := by
  have c0 := hb.cell 0
  clear hb
  by_cases h0 : 0 ≤ v
  · have e : decide (0 ≤ v) = true := decide_eq_true h0
    rw [e, Bool.true_and]
    clear e
    go_enter Tryz.func40, Tryz.ntmps40
    go_wp2
    go_ret
    exact ⟨rfl, rfl⟩
  · have e : decide (0 ≤ v) = false := decide_eq_false h0
    rw [e, Bool.false_and]
    clear e
    go_enter Tryz.func40, Tryz.ntmps40
    go_wp2
    go_ret
    exact ⟨rfl, rfl⟩
theorem kOf_any (g : Value) (n : Int) (es : List Tri) (w : World) (hg : GV w g n es) :
    Calls Tryz.prog 24 #[g] w fun e w' => ∃ v, e = .returned (.tuple #[v, .int .i64 (ofE n es)]) ∧ (ofE n es = 0 → GX w' v n.toNat es) ∧ Below w.heap.size w w' := by
  obtain ⟨A, c, rfl, hlc, hc, hcell⟩ := hg.open_
  obtain ⟨W0, hW0⟩ : ∃ W0, W0 = w.alloc (.cells #[.int .i64 n, .slice A es.length c] 24) := ⟨_, rfl⟩
  have hb0 : Below w.heap.size w W0 := by rw [hW0]; exact below_alloc w _
  have hx0 : BL W0 w.heap.size 24 [.int .i64 n, .slice A es.length c] := by rw [hW0]; exact BL.new' w _ _
  have hz0 : W0.heap.size = w.heap.size + 1 := by rw [hW0]; simp
  have HX0 := Lib.hid hx0
  have HB0 := Lib.hid hb0
  have HG := Lib.hid hg
  have HW0 := Lib.hid hW0
  have HCe := Lib.hid hcell
  have HZ0 := Lib.hid hz0
  have x0 := hx0.cell 0
  have x1 := hx0.cell 1
  clear hg hcell hb0 hW0 hz0
  by_cases h1 : n < 1
  · have HR : Hid (ofE n es = 2) := by
      have e : gcheckE n es = 2 := by unfold gcheckE; rw [if_pos (.inl h1)]
      show _ = _; unfold ofE; rw [e]; rfl
    go_enter Tryz.func24, Tryz.ntmps24
    go_wp2_with fail
    rw [← HW0.out]
    go_wp2
    go_ret2
    exact ⟨.pointer none, by rw [HR.out] <;> rfl, fun h => absurd (HR.out.symm.trans h) (by decide), HB0.out⟩
  by_cases h2 : 12 < n
  · have HR : Hid (ofE n es = 2) := by
      have e : gcheckE n es = 2 := by unfold gcheckE; rw [if_pos (.inr h2)]
      show _ = _; unfold ofE; rw [e]; rfl
    go_enter Tryz.func24, Tryz.ntmps24
    go_wp2_with fail
    rw [← HW0.out]
    go_wp2
    go_ret2
    exact ⟨.pointer none, by rw [HR.out] <;> rfl, fun h => absurd (HR.out.symm.trans h) (by decide), HB0.out⟩
  obtain ⟨m, rfl⟩ : ∃ m : Nat, n = (m : Int) := ⟨n.toNat, by omega⟩
  have HE := Lib.hid (show gcheckE m es = gcheckL m (-1, -1) es by unfold gcheckE; rw [if_neg (by omega)])
  have hmJ := run_make_row' (P := Tryz.prog) 70 42 (.slice none 0 0) 24 Tryz.underlying70 ints_info rfl .i64 .i64 m (by omega) (by omega)
  have hmV := run_make_row' (P := Tryz.prog) 42 3 (.int .i64 0) 8 Tryz.underlying42 int_info rfl .i64 .i64 m (by omega) (by omega)
  have xJ : (W0.alloc (.cells (madeCells #[Value.slice none 0 0] m) 42)).cell? ⟨w.heap.size, 0, none⟩ = some (.int .i64 (m : Int)) := (hx0.alloc _).cell 0
  have xV : (W0.alloc (.cells (madeCells #[Value.int .i64 0] m) 3)).cell? ⟨w.heap.size, 0, none⟩ = some (.int .i64 (m : Int)) := (hx0.alloc _).cell 0
  have xJV : ((W0.alloc (.cells (madeCells #[Value.slice none 0 0] m) 42)).alloc (.cells (madeCells #[Value.int .i64 0] m) 3)).cell? ⟨w.heap.size, 0, none⟩ = some (.int .i64 (m : Int)) := ((hx0.alloc _).alloc _).cell 0
  have xVJ : ((W0.alloc (.cells (madeCells #[Value.int .i64 0] m) 3)).alloc (.cells (madeCells #[Value.slice none 0 0] m) 42)).cell? ⟨w.heap.size, 0, none⟩ = some (.int .i64 (m : Int)) := ((hx0.alloc _).alloc _).cell 0
  clear hx0
  go_enter Tryz.func24, Tryz.ntmps24
  go_wp2_with fail
  rw [← HW0.out]
  go_wp2_with fail
  go_cut [4] (fun a wx => OfCut m W0 a wx)
  case first =>
    go_region
    · have HC : Hid (OfCut m W0 _ _) := ⟨_, _, _, rfl, (OM.startJV W0 m).bel ((Below.refl _ _).drew), (((below_alloc W0 _).alloc (by simp) _).alloc (by simp; omega) _).drew⟩
      go_wp2_with fail
      go_meet
      exact HC.out
    · have HC : Hid (OfCut m W0 _ _) := ⟨_, _, _, rfl, (OM.startVJ W0 m).bel ((Below.refl _ _).drew), (((below_alloc W0 _).alloc (by simp) _).alloc (by simp; omega) _).drew⟩
      go_wp2_with fail
      go_meet
      exact HC.out
  case rest =>
    obtain ⟨bx, bj, bv, rfl, hom, hbw⟩ := hcut
    clear hmJ xJ xV xJV xVJ x0 x1
    have k1 := hom.x.cell 1
    have HOm := Lib.hid hom
    have HBw := Lib.hid hbw
    clear hom hbw
    go_wp2_with fail
    clear k1
    go_loopw [31] (fun i wr => ∃ rb : List Nat, rb.length ≤ m ∧ i = .int .i64 (rb.length : Int) ∧ Hid (OM wr W0.heap.size m bx bj bv rb (fun _ _ => 0) (fun _ => 0)) ∧ Hid (Below W0.heap.size W0 wr)) (fun i _ => m - (intOf i).toNat)
    case atStart => exact ⟨[], Nat.zero_le _, rfl, HOm.out, HBw.out⟩
    case round =>
      obtain ⟨rb, hrb, rfl, hom, hbw⟩ := hrel
      by_cases hlt : rb.length < m
      · have k1 := hom.out.x.cell 1
        have k0 := (HX0.out.bel hbw.out).cell 0
        have k1a := (hom.out.x.alloc (.cells (madeCells #[Value.int .i64 0] m) 3)).cell 1
        have k0a := ((HX0.out.bel hbw.out).alloc (.cells (madeCells #[Value.int .i64 0] m) 3)).cell 0
        have j0 := (hom.out.j.alloc (.cells (madeCells #[Value.int .i64 0] m) 3)).frozen rb.length
        have j1 := (hom.out.j.alloc (.cells (madeCells #[Value.int .i64 0] m) 3)).cell rb.length
        rw [List.getElem?_append_right (by simp), List.length_map, Nat.sub_self, List.getElem?_replicate, if_pos (by omega)] at j1
        have HOP := Lib.hid (hom.out.push hlt hbw.out.size)
        have HBP : Hid (Below W0.heap.size W0 ((wr.alloc (.cells (madeCells #[.int .i64 0] m) 3)).setCell ⟨bj, rb.length, none⟩ (.slice (some ⟨wr.heap.size, 0, none⟩) m m))) :=
          (hbw.out.trans ((below_alloc wr _).mono hbw.out.size)).setCell (p := ⟨bj, rb.length, none⟩) hom.out.lj _
        go_wp2_with fail
        go_region
        go_wp2_with fail
        go_roundw
        case rel => exact ⟨rb ++ [wr.heap.size], by simp; omega, by simp, HOP.out.bel (Below.refl _ _).drew, HBP.out.drew⟩
        case measure => simp [intOf]; omega
      · have HRl : Hid (rb.length = m) := by show _ = _; omega
        have k1 := (HX0.out.bel hbw.out).cell 1
        have HOm1 : Hid (OM wr W0.heap.size m bx bj bv rb (fun v u => wgt (es.take 0) v u) (fun v => valK (es.take 0) v m)) := by
          have e1 : (fun v u => wgt (es.take 0) v u) = fun _ _ => 0 := rfl
          have e2 : (fun v => valK (es.take 0) v m) = fun _ => (0 : Int) := by
            funext v
            unfold valK
            exact sumN_zero fun u _ => by split <;> rfl
          show OM _ _ _ _ _ _ _ _ _
          rw [e1, e2]; exact hom.out
        clear hmV HOm HBw hom
        go_wp2_with fail
        clear k1
        obtain ⟨wo, rfl⟩ : ∃ wo, wo = wr := ⟨_, rfl⟩
        go_loopw [47] (fun i wr => ∃ k : Nat, k ≤ es.length ∧ i = .int .i64 (k : Int) ∧ Hid (gcheckL m (-1, -1) (es.take k) = 0) ∧ Hid (gcheckL m (lastE es k) (es.drop k) = gcheckL m (-1, -1) es) ∧ Hid (OM wr W0.heap.size m bx bj bv rb (fun v u => wgt (es.take k) v u) (fun v => valK (es.take k) v m)) ∧ Hid (Below W0.heap.size W0 wr)) (fun i _ => es.length - (intOf i).toNat)
        case atStart => exact ⟨0, Nat.zero_le _, rfl, rfl, rfl, HOm1.out, hbw.out⟩
        case round =>
          obtain ⟨k, hk, rfl, hgc, hgd, hom, hbk⟩ := hrel
          have HBk := Lib.hid (HB0.out.trans (hbk.out.mono HB0.out.size))
          by_cases hkt : k < es.length
          · obtain ⟨ad, a, b, mu, rfl, hab, ht, c1, c2, c3⟩ := HCe.out k hkt
            obtain ⟨d1, d2, d3⟩ := tri_cells HBk.out hab c1 c2 c3
            have hd : es.drop k = (a, b, mu) :: es.drop (k + 1) := by
              obtain ⟨h, e⟩ := List.getElem?_eq_some_iff.1 ht.out
              rw [List.drop_eq_getElem_cons h, e]
            obtain ⟨W1, hW1⟩ : ∃ W1, W1 = wr.alloc (.cells #[.int .i64 a, .int .i64 b, .int .i64 mu] 52) := ⟨_, rfl⟩
            have hb1 : Below wr.heap.size wr W1 := by rw [hW1]; exact below_alloc wr _
            have hx1 : BL W1 wr.heap.size 52 [.int .i64 a, .int .i64 b, .int .i64 mu] := by rw [hW1]; exact BL.new' wr _ _
            have HOm2 := Lib.hid (hom.out.bel hb1)
            have HBw2 := Lib.hid (hbk.out.trans (hb1.mono hbk.out.size))
            have HX1 := Lib.hid hx1
            have HW1 := Lib.hid hW1
            have HVx : Hid (∀ v : Int, Calls Tryz.prog 40 #[.pointer (some ⟨bx, 0, none⟩), .int .i64 v] W1 fun e w' => e = .returned (.bool (vtxB m v)) ∧ W1 = w') := fun v => by
              have := kVertexB_any bx m _ _ v W1 HOm2.out.x
              exact this
            have e0 := hx1.cell 0
            have e1 := hx1.cell 1
            have e2 := hx1.cell 2
            clear hb1 hx1 hW1 c1 c2 c3
            have HHd := Lib.hid hd
            have HT := Lib.hid ht.out
            clear hd ht
            have HVa := Lib.hid (HVx.out a)
            have HVb := Lib.hid (HVx.out b)
            have HErr : Hid (∀ r : Int, r ≠ 0 → okE m (lastE es k) (a, b, mu) = r → ofE m es = r) := fun r hr h => by
              have e : gcheckE m es = r := by
                rw [HE.out, ← hgd.out, HHd.out, gcheckL, h, if_pos hr]
              unfold ofE; rw [e, if_pos hr]
            go_wp2_with fail
            rw [← HW1.out]
            refine HVa.out.mono ?_
            rintro e w3 ⟨rfl, rfl⟩
            cases hA : vtxB m a
            · have HR : Hid (ofE m es = 2) := HErr.out 2 (by decide) (okE_bad (.inl hA))
              clear hA
              go_wp2
              go_ret2
              exact ⟨.pointer none, by rw [HR.out] <;> rfl, fun h => absurd (HR.out.symm.trans h) (by decide), HB0.out.trans (HBw2.out.mono HB0.out.size)⟩
            have HA := Lib.hid hA
            clear hA
            go_wp2_with fail
            refine HVb.out.mono ?_
            rintro e w3 ⟨rfl, rfl⟩
            cases hB : vtxB m b
            · have HR : Hid (ofE m es = 2) := HErr.out 2 (by decide) (okE_bad (.inr (.inl hB)))
              clear hB
              go_wp2
              go_ret2
              exact ⟨.pointer none, by rw [HR.out] <;> rfl, fun h => absurd (HR.out.symm.trans h) (by decide), HB0.out.trans (HBw2.out.mono HB0.out.size)⟩
            have HBv := Lib.hid hB
            clear hB
            by_cases h1 : mu < 1
            · have HR : Hid (ofE m es = 2) := HErr.out 2 (by decide) (okE_bad (.inr (.inr (.inl h1))))
              go_wp2
              go_ret2
              exact ⟨.pointer none, by rw [HR.out] <;> rfl, fun h => absurd (HR.out.symm.trans h) (by decide), HB0.out.trans (HBw2.out.mono HB0.out.size)⟩
            by_cases h2 : 50 < mu
            · have HR : Hid (ofE m es = 2) := HErr.out 2 (by decide) (okE_bad (.inr (.inr (.inr h2))))
              go_wp2
              go_ret2
              exact ⟨.pointer none, by rw [HR.out] <;> rfl, fun h => absurd (HR.out.symm.trans h) (by decide), HB0.out.trans (HBw2.out.mono HB0.out.size)⟩
            by_cases h3 : b < a
            · have HR : Hid (ofE m es = 9) := HErr.out 9 (by decide) (okE_cross HA.out HBv.out h1 h2 h3)
              go_wp2_with fail
              go_quiet (fail)
              have HBq := Lib.hid (below_drewN HBw2.out nq)
              go_wp2
              go_ret2
              exact ⟨.pointer none, by rw [HR.out] <;> rfl, fun h => absurd (HR.out.symm.trans h) (by decide), HB0.out.trans (HBq.out.mono HB0.out.size)⟩
            have HOk : Hid (∀ la lb, okE m (la, lb) (a, b, mu) = if a < la ∨ (a = la ∧ b ≤ lb) then 9 else 0) := fun la lb => okE_back HA.out HBv.out h1 h2 (by omega)
            have HXg := Lib.hid (HX0.out.bel HBw2.out)
            have g1 := HXg.out.cell 1
            have HPr : Hid (∀ j, k = j + 1 → ∃ la lb, lastE es k = (la, lb) ∧ W1.cell? (ad.add (j * 3)) = some (.int .i64 la) ∧ W1.cell? ⟨(ad.add (j * 3)).block, (ad.add (j * 3)).off + 1, none⟩ = some (.int .i64 lb)) := fun j hj => by
              obtain ⟨ad', la, lb, lm, he, -, ht', e1, e2, e3⟩ := HCe.out j (by omega)
              obtain rfl : ad = ad' := by simpa using he
              obtain ⟨f1, f2, -⟩ := tri_cells (HB0.out.trans (HBw2.out.mono HB0.out.size)) hab e1 e2 e3
              refine ⟨la, lb, ?_, f1, f2⟩
              rw [hj]
              show ((es.getD j (0, 0, 0)).1, (es.getD j (0, 0, 0)).2.1) = (la, lb)
              rw [List.getD_eq_getElem?_getD, ht'.out]; rfl
            by_cases ho : okE m (lastE es k) (a, b, mu) = 0
            · go_wp2_with fail
              go_cut [75] from 76 to 120 (fun c wx => c = .bool false ∧ ∃ j, wx = W1.drewN j)
              case first =>
                by_cases hk0 : k = 0
                · have t1 : ¬ (0 : Int) < (k : Int) := by omega
                  clear hk0 HPr HErr hgd ho HOk HCe HE
                  refine wp_region_quiet_lit (by kernel_rfl) (by kernel_rfl) ?_
                  repeat (first | go_big_quiet_step (fail) | quiet_step (fail) | (refine wpQuiet_step (fun K hK => ?_); go_simp; rw [if_neg (by omega)]; refine hK _ ?_; clear hK K))
                  refine wpQuiet_nil ?_
                  rintro _ ⟨nq, rfl⟩
                  go_wp2_with fail
                  go_meet
                  exact ⟨by first | rfl | (simp; done) | (simp; omega), nq, rfl⟩
                · obtain ⟨j, rfl⟩ : ∃ j, k = j + 1 := ⟨k - 1, by omega⟩
                  obtain ⟨la, lb, hla, f1, f2⟩ := HPr.out j rfl
                  rw [hla, HOk.out] at ho
                  have hnb : ¬ (a < la ∨ (a = la ∧ b ≤ lb)) := fun h => by rw [if_pos h] at ho; cases ho
                  have hlt0 : j < es.length := by omega
                  clear hk0 HPr HErr hgd ho HOk HCe HE hla
                  by_cases hae : a = la
                  · have hlb : lb < b := by
                      apply Classical.byContradiction
                      intro h
                      exact hnb (.inr ⟨hae, by omega⟩)
                    clear hnb
                    subst hae
                    have t116 : decide (b ≤ lb) = false := decide_eq_false (by omega)
                    refine wp_region_quiet_lit (by kernel_rfl) (by kernel_rfl) ?_
                    repeat (first | go_big_quiet_step (fail) | quiet_step (fail) | (refine wpQuiet_step (fun K hK => ?_); go_simp; first | (rw [if_neg (by omega)]; refine hK _ ?_; clear hK K) | (rw [if_pos (by omega)]; go_simp; refine hK _ ?_; clear hK K)))
                    refine wpQuiet_nil ?_
                    rintro _ ⟨nq, rfl⟩
                    go_wp2_with fail
                    go_meet
                    exact ⟨by first | rfl | (simp; done) | (simp; omega), nq, rfl⟩
                  · have t95 : decide (a < la) = false := by simp; omega
                    have t105 : (la == a) = false := by simp; omega
                    have hj1 : (j : Int) < (es.length : Int) := by omega
                    refine wp_region_quiet_lit (by kernel_rfl) (by kernel_rfl) ?_
                    repeat (first | go_big_quiet_step (fail) | quiet_step (fail) | (refine wpQuiet_step (fun K hK => ?_); go_simp; first | (rw [if_neg (by omega)]; refine hK _ ?_; clear hK K) | (rw [if_pos (by omega)]; go_simp; refine hK _ ?_; clear hK K)))
                    refine wpQuiet_nil ?_
                    rintro _ ⟨nq, rfl⟩
                    go_wp2_with fail
                    go_meet
                    exact ⟨by first | rfl | (simp; done) | (simp; omega), nq, rfl⟩
              case rest =>
                obtain ⟨rfl, jq, rfl⟩ := hcut
                have HBq := Lib.hid (below_drewN (Below.refl W1.heap.size W1) jq)
                have HOm3 := Lib.hid (HOm2.out.bel HBq.out)
                have HBw3 := Lib.hid (HBw2.out.trans (HBq.out.mono HBw2.out.size))
                have HX3 := Lib.hid (HX1.out.bel HBq.out)
                clear e0 e1 e2 d1 d2 d3 g1 HPr HErr HXg
                generalize W1.drewN jq = Wc at *
                have e0 := HX3.out.cell 0
                have e1 := HX3.out.cell 1
                have e2 := HX3.out.cell 2
                have HTk : Hid (es.take (k + 1) = es.take k ++ [(a, b, mu)]) := by
                  show _ = _
                  rw [List.take_add_one, HT.out]; rfl
                have HGc : Hid (gcheckL m (-1, -1) (es.take (k + 1)) = 0) := by
                  show _ = _
                  rw [HTk.out]
                  refine gcheckL_snoc hgc.out ?_
                  rw [foldl_last (by omega)]
                  exact ho
                have HGd : Hid (gcheckL m (lastE es (k + 1)) (es.drop (k + 1)) = gcheckL m (-1, -1) es) := by
                  show _ = _
                  rw [← hgd.out, HHd.out, lastE_succ HT.out]
                  conv => rhs; unfold gcheckL
                  rw [if_neg (by simpa using ho)]
                have hE1 : Edges m (es.take k ++ [(a, b, mu)]) := by rw [← HTk.out]; exact (gcheckL_zero HGc.out).1
                have HE1 := Lib.hid hE1
                have hlo := hE1.lo (a, b, mu) (by simp)
                simp only at hlo
                clear ho hgc hgd hE1
                by_cases hab2 : a = b
                · have HOm4 : Hid (OM Wc W0.heap.size m bx bj bv rb (fun v u => wgt (es.take (k + 1)) v u) (fun v => valK (es.take (k + 1)) v m)) := by
                    have q1 : (fun v u => wgt (es.take (k + 1)) v u) = fun v u => wgt (es.take k) v u := by
                      funext v u
                      rw [HTk.out, wgt_snoc]
                      unfold ew
                      rw [if_neg (fun h => h.1 hab2)]; omega
                    have q2 : (fun v => valK (es.take (k + 1)) v m) = fun v => valK (es.take k) v m := by
                      funext v
                      rw [HTk.out, valK_snoc (by simp only; omega), if_pos hab2]; omega
                    show OM _ _ _ _ _ _ _ _ _
                    rw [q1, q2]; exact HOm3.out
                  subst hab2
                  go_wp2_with fail
                  go_roundw
                  case rel => exact ⟨k + 1, by omega, by go_num, HGc.out, HGd.out, HOm4.out, HBw3.out⟩
                  case measure => simp [intOf]; omega
                · obtain ⟨na, rfl⟩ := Int.eq_ofNat_of_zero_le (show 0 ≤ a by omega)
                  obtain ⟨nb, rfl⟩ := Int.eq_ofNat_of_zero_le (show 0 ≤ b by omega)
                  have hna : na < m := by omega
                  have hnb : nb < m := by omega
                  have hra : rb[na]? = some (rb.getD na 0) := by rw [List.getD_eq_getElem?_getD, List.getElem?_eq_getElem (by rw [HRl.out]; exact hna)]; rfl
                  have hrb : rb[nb]? = some (rb.getD nb 0) := by rw [List.getD_eq_getElem?_getD, List.getElem?_eq_getElem (by rw [HRl.out]; exact hnb)]; rfl
                  generalize rb.getD na 0 = ra at *
                  generalize rb.getD nb 0 = rc at *
                  have k1 := HOm3.out.x.cell 1
                  have k2 := HOm3.out.x.cell 2
                  have ja : Wc.cell? ⟨bj, na, none⟩ = some (.slice (some ⟨ra, 0, none⟩) m m) := by
                    rw [HOm3.out.j.cell na, List.getElem?_append_left (by rw [List.length_map, HRl.out]; exact hna), List.getElem?_map, hra]; rfl
                  have jb : Wc.cell? ⟨bj, nb, none⟩ = some (.slice (some ⟨rc, 0, none⟩) m m) := by
                    rw [HOm3.out.j.cell nb, List.getElem?_append_left (by rw [List.length_map, HRl.out]; exact hnb), List.getElem?_map, hrb]; rfl
                  have s0 : Wc.cell? ⟨ra, nb, none⟩ = some (.int .i64 (wgt (es.take k) na nb)) := by
                    rw [(HOm3.out.r na ra hra).cell nb, List.getElem?_map, List.getElem?_range hnb]; rfl
                  have s1 := (HOm3.out.r na ra hra).frozen nb
                  have hom5 := HOm3.out.setM hra (u := nb) mu
                  obtain ⟨z2, s2⟩ : ∃ z2, (Wc.setCell ⟨ra, nb, none⟩ (.int .i64 mu)).cell? ⟨rc, na, none⟩ = some (.int .i64 z2) := by
                    refine ⟨if nb = na ∧ na = nb then mu else wgt (es.take k) nb na, ?_⟩
                    rw [(hom5.r nb rc hrb).cell na, List.getElem?_map, List.getElem?_range hna]; rfl
                  have s3 := (hom5.r nb rc hrb).frozen na
                  have hom6 := hom5.setM hrb (u := na) mu
                  have hM : (fun i k' => if i = nb ∧ k' = na then mu else if i = na ∧ k' = nb then mu else wgt (es.take k) i k') = fun v u => wgt (es.take (k + 1)) v u := by
                    funext v u
                    rw [HTk.out, wgt_put HE1.out (by simpa using hab2) v u]
                    simp
                  rw [hM] at hom6
                  have hbl : Below W0.heap.size W0 ((Wc.setCell ⟨ra, nb, none⟩ (.int .i64 mu)).setCell ⟨rc, na, none⟩ (.int .i64 mu)) :=
                    (HBw3.out.setCell (p := ⟨ra, nb, none⟩) (HOm3.out.lr ra (by simp [List.mem_of_getElem? hra])) _).setCell (p := ⟨rc, na, none⟩) (HOm3.out.lr rc (by simp [List.mem_of_getElem? hrb])) _
                  have hxe : BL ((Wc.setCell ⟨ra, nb, none⟩ (.int .i64 mu)).setCell ⟨rc, na, none⟩ (.int .i64 mu)) wr.heap.size 52 [.int .i64 (na : Int), .int .i64 (nb : Int), .int .i64 mu] :=
                    (HX3.out.set_other (HX3.out.ne_type (HOm3.out.r na ra hra) (by decide)) _).set_other (HX3.out.ne_type (HOm3.out.r nb rc hrb) (by decide)) _
                  have hEk : Edges m (es.take k) := ⟨fun t ht => HE1.out.lo t (by simp [ht]), fun t ht => HE1.out.mult t (by simp [ht]), (List.pairwise_append.1 HE1.out.ord).1⟩
                  have hvA := valK_le hEk na m
                  have hvB := valK_le hEk nb m
                  have HVf : Hid (∀ v, valK (es.take (k + 1)) v m = if v = nb then valK (es.take k) nb m + mu else if v = na then valK (es.take k) na m + mu else valK (es.take k) v m) := fun v => by
                    rw [HTk.out, valK_snoc (by simp only; omega), if_neg hab2]
                    by_cases e1 : v = nb
                    · rw [if_pos e1, if_pos (by simp only; omega), e1]
                    · rw [if_neg e1]
                      by_cases e2 : v = na
                      · rw [if_pos e2, if_pos (by simp only; omega), e2]
                      · rw [if_neg e2, if_neg (by simp only; omega)]; omega
                  have hmu := HE1.out.mult ((na : Int), (nb : Int), mu) (by simp)
                  simp only at hmu
                  obtain ⟨HSa, HSb, HSc⟩ : Hid (((fun W' : World => W'.cell? ⟨bx, 1, none⟩ = some (.slice (some ⟨bj, 0, none⟩) m m) ∧ W'.cell? ⟨bj, na, none⟩ = some (.slice (some ⟨ra, 0, none⟩) m m) ∧ W'.cell? ⟨bj, nb, none⟩ = some (.slice (some ⟨rc, 0, none⟩) m m) ∧ W'.cell? ⟨wr.heap.size, 0, none⟩ = some (.int .i64 (na : Int)) ∧ W'.cell? ⟨wr.heap.size, 1, none⟩ = some (.int .i64 (nb : Int)) ∧ W'.cell? ⟨wr.heap.size, 2, none⟩ = some (.int .i64 mu))) Wc.drew) ∧ Hid (((fun W' : World => W'.cell? ⟨bx, 1, none⟩ = some (.slice (some ⟨bj, 0, none⟩) m m) ∧ W'.cell? ⟨bj, na, none⟩ = some (.slice (some ⟨ra, 0, none⟩) m m) ∧ W'.cell? ⟨bj, nb, none⟩ = some (.slice (some ⟨rc, 0, none⟩) m m) ∧ W'.cell? ⟨wr.heap.size, 0, none⟩ = some (.int .i64 (na : Int)) ∧ W'.cell? ⟨wr.heap.size, 1, none⟩ = some (.int .i64 (nb : Int)) ∧ W'.cell? ⟨wr.heap.size, 2, none⟩ = some (.int .i64 mu))) (Wc.drew.setCell ⟨ra, nb, none⟩ (.int .i64 mu))) ∧ Hid (((fun W' : World => W'.cell? ⟨bx, 1, none⟩ = some (.slice (some ⟨bj, 0, none⟩) m m) ∧ W'.cell? ⟨bj, na, none⟩ = some (.slice (some ⟨ra, 0, none⟩) m m) ∧ W'.cell? ⟨bj, nb, none⟩ = some (.slice (some ⟨rc, 0, none⟩) m m) ∧ W'.cell? ⟨wr.heap.size, 0, none⟩ = some (.int .i64 (na : Int)) ∧ W'.cell? ⟨wr.heap.size, 1, none⟩ = some (.int .i64 (nb : Int)) ∧ W'.cell? ⟨wr.heap.size, 2, none⟩ = some (.int .i64 mu))) ((Wc.drew.setCell ⟨ra, nb, none⟩ (.int .i64 mu)).setCell ⟨rc, na, none⟩ (.int .i64 mu))) := by
                    have ea := HX3.out.set_other (a := ⟨ra, nb, none⟩) (HX3.out.ne_type (HOm3.out.r na ra hra) (by decide)) (.int .i64 mu)
                    have xa := hom5.x
                    have xb := hom6.x
                    have ja5 : (Wc.setCell ⟨ra, nb, none⟩ (.int .i64 mu)).cell? ⟨bj, na, none⟩ = some (.slice (some ⟨ra, 0, none⟩) m m) := by
                      rw [hom5.j.cell na, List.getElem?_append_left (by rw [List.length_map, HRl.out]; exact hna), List.getElem?_map, hra]; rfl
                    have jb5 : (Wc.setCell ⟨ra, nb, none⟩ (.int .i64 mu)).cell? ⟨bj, nb, none⟩ = some (.slice (some ⟨rc, 0, none⟩) m m) := by
                      rw [hom5.j.cell nb, List.getElem?_append_left (by rw [List.length_map, HRl.out]; exact hnb), List.getElem?_map, hrb]; rfl
                    have ja6 : ((Wc.setCell ⟨ra, nb, none⟩ (.int .i64 mu)).setCell ⟨rc, na, none⟩ (.int .i64 mu)).cell? ⟨bj, na, none⟩ = some (.slice (some ⟨ra, 0, none⟩) m m) := by
                      rw [hom6.j.cell na, List.getElem?_append_left (by rw [List.length_map, HRl.out]; exact hna), List.getElem?_map, hra]; rfl
                    have jb6 : ((Wc.setCell ⟨ra, nb, none⟩ (.int .i64 mu)).setCell ⟨rc, na, none⟩ (.int .i64 mu)).cell? ⟨bj, nb, none⟩ = some (.slice (some ⟨rc, 0, none⟩) m m) := by
                      rw [hom6.j.cell nb, List.getElem?_append_left (by rw [List.length_map, HRl.out]; exact hnb), List.getElem?_map, hrb]; rfl
                    exact ⟨⟨k1, ja, jb, e0, e1, e2⟩, ⟨xa.cell 1, ja5, jb5, ea.cell 0, ea.cell 1, ea.cell 2⟩, ⟨xb.cell 1, ja6, jb6, hxe.cell 0, hxe.cell 1, hxe.cell 2⟩⟩
                  have s2' : (Wc.drew.setCell ⟨ra, nb, none⟩ (.int .i64 mu)).cell? ⟨rc, na, none⟩ = some (.int .i64 z2) := s2
                  have s3' : (Wc.drew.setCell ⟨ra, nb, none⟩ (.int .i64 mu)).frozen? ⟨rc, na, none⟩ = false := s3
                  have HOm6 := Lib.hid hom6
                  have HBl := Lib.hid hbl
                  have HXe := Lib.hid hxe
                  have i1 : (na : Int) < (m : Int) := by omega
                  have i2 : (nb : Int) < (m : Int) := by omega
                  have hnn : na ≠ nb := by omega
                  clear hom5 hom6 hM hbl hxe hEk hra hrb hlo h3 h1 h2 HOk HVx HVa HVb HCe HE HG HA HBv HT HHd HTk HE1 HX0
                  go_wp2_with fail
                  go_region_held3 (fun W' : World => W'.cell? ⟨bx, 1, none⟩ = some (.slice (some ⟨bj, 0, none⟩) m m) ∧ W'.cell? ⟨bj, na, none⟩ = some (.slice (some ⟨ra, 0, none⟩) m m) ∧ W'.cell? ⟨bj, nb, none⟩ = some (.slice (some ⟨rc, 0, none⟩) m m) ∧ W'.cell? ⟨wr.heap.size, 0, none⟩ = some (.int .i64 (na : Int)) ∧ W'.cell? ⟨wr.heap.size, 1, none⟩ = some (.int .i64 (nb : Int)) ∧ W'.cell? ⟨wr.heap.size, 2, none⟩ = some (.int .i64 mu)) (first | exact HSa.out | exact HSb.out | exact HSc.out) (fail)
                  go_wp2_with fail
                  have HOm7 : Hid (OM (((Wc.setCell ⟨ra, nb, none⟩ (.int .i64 mu)).setCell ⟨rc, na, none⟩ (.int .i64 mu)).drew) W0.heap.size m bx bj bv rb (fun v u => wgt (es.take (k + 1)) v u) (fun v => valK (es.take k) v m)) :=
                    ⟨HOm6.out.x, HOm6.out.j, HOm6.out.v, HOm6.out.r, HOm6.out.nd, HOm6.out.lx, HOm6.out.lj, HOm6.out.lr⟩
                  have HBl7 : Hid (Below W0.heap.size W0 (((Wc.setCell ⟨ra, nb, none⟩ (.int .i64 mu)).setCell ⟨rc, na, none⟩ (.int .i64 mu)).drew)) := HBl.out.drew
                  have HXe7 : Hid (BL (((Wc.setCell ⟨ra, nb, none⟩ (.int .i64 mu)).setCell ⟨rc, na, none⟩ (.int .i64 mu)).drew) wr.heap.size 52 [.int .i64 (na : Int), .int .i64 (nb : Int), .int .i64 mu]) := HXe.out
                  clear s0 s1 s2 s3 s2' s3' k1 k2 ja jb e0 e1 e2 HSa HSb HSc HOm6 HBl HXe
                  generalize ((Wc.setCell ⟨ra, nb, none⟩ (.int .i64 mu)).setCell ⟨rc, na, none⟩ (.int .i64 mu)).drew = Wd at *
                  have e0 := HXe7.out.cell 0
                  have e1 := HXe7.out.cell 1
                  have e2 := HXe7.out.cell 2
                  have k2 := HOm7.out.x.cell 2
                  have v0 : Wd.cell? ⟨bv, na, none⟩ = some (.int .i64 (valK (es.take k) na m)) := by
                    rw [HOm7.out.v.cell na, List.getElem?_map, List.getElem?_range hna]; rfl
                  have v1 := HOm7.out.v.frozen na
                  have hom8 := HOm7.out.setV na (valK (es.take k) na m + mu)
                  have hbl8 := HBl7.out.setCell (p := ⟨bv, na, none⟩) (HOm7.out.lr bv (by simp)) (.int .i64 (valK (es.take k) na m + mu))
                  have hxe8 := HXe7.out.set_other (a := ⟨bv, na, none⟩) (HXe7.out.ne_type HOm7.out.v (by decide)) (.int .i64 (valK (es.take k) na m + mu))
                  have HOm8 : Hid (OM (Wd.setCell ⟨bv, na, none⟩ (.int .i64 (valK (es.take k) na m + mu))).drew W0.heap.size m bx bj bv rb (fun v u => wgt (es.take (k + 1)) v u) (fun v => if v = na then valK (es.take k) na m + mu else valK (es.take k) v m)) :=
                    ⟨hom8.x, hom8.j, hom8.v, hom8.r, hom8.nd, hom8.lx, hom8.lj, hom8.lr⟩
                  have HBl8 : Hid (Below W0.heap.size W0 (Wd.setCell ⟨bv, na, none⟩ (.int .i64 (valK (es.take k) na m + mu))).drew) := hbl8.drew
                  have HXe8 : Hid (BL (Wd.setCell ⟨bv, na, none⟩ (.int .i64 (valK (es.take k) na m + mu))).drew wr.heap.size 52 [.int .i64 (na : Int), .int .i64 (nb : Int), .int .i64 mu]) := hxe8
                  clear hom8 hbl8 hxe8
                  generalize valK (es.take k) na m = xa at *
                  have w1 : IntKind.i64.wrap (xa + mu) = xa + mu := by
                    have : (m : Int) ≤ 12 := by omega
                    simp (disch := omega) only [IntWalk.i64_in]
                  refine wp_region_still_tail 11 (by kernel_rfl) (by kernel_rfl) ?_
                  change wpStill _ _ Wd.drew _ _ _
                  simp only [List.take_succ_cons, List.take_zero, List.drop_succ_cons, List.drop_zero]
                  repeat still_step
                  refine wpStill_nil ?_
                  change wpList _ _ _ _ _ Wd.drew
                  go_wp2_with fail
                  clear e0 e1 e2 k2 v0 v1 w1
                  generalize (Wd.setCell ⟨bv, na, none⟩ (.int .i64 (xa + mu))).drew = We at *
                  have e0 := HXe8.out.cell 0
                  have e1 := HXe8.out.cell 1
                  have e2 := HXe8.out.cell 2
                  have k2 := HOm8.out.x.cell 2
                  have v0 : We.cell? ⟨bv, nb, none⟩ = some (.int .i64 (valK (es.take k) nb m)) := by
                    rw [HOm8.out.v.cell nb, List.getElem?_map, List.getElem?_range hnb]
                    simp only [Option.map_some]
                    rw [if_neg (fun h => hnn h.symm)]
                  have v1 := HOm8.out.v.frozen nb
                  have hom9 := HOm8.out.setV nb (valK (es.take k) nb m + mu)
                  have hbl9 := HBl8.out.setCell (p := ⟨bv, nb, none⟩) (HOm8.out.lr bv (by simp)) (.int .i64 (valK (es.take k) nb m + mu))
                  have hV : (fun v => if v = nb then valK (es.take k) nb m + mu else if v = na then xa + mu else valK (es.take k) v m) = fun v => valK (es.take (k + 1)) v m := by
                    funext v; exact (HVf.out v).symm
                  rw [hV] at hom9
                  have HOm9 : Hid (OM (We.setCell ⟨bv, nb, none⟩ (.int .i64 (valK (es.take k) nb m + mu))).drew W0.heap.size m bx bj bv rb (fun v u => wgt (es.take (k + 1)) v u) (fun v => valK (es.take (k + 1)) v m)) :=
                    ⟨hom9.x, hom9.j, hom9.v, hom9.r, hom9.nd, hom9.lx, hom9.lj, hom9.lr⟩
                  have HBl9 : Hid (Below W0.heap.size W0 (We.setCell ⟨bv, nb, none⟩ (.int .i64 (valK (es.take k) nb m + mu))).drew) := hbl9.drew
                  clear hom9 hbl9 hV HVf
                  generalize valK (es.take k) nb m = xb at *
                  have w1 : IntKind.i64.wrap (xb + mu) = xb + mu := by
                    have : (m : Int) ≤ 12 := by omega
                    simp (disch := omega) only [IntWalk.i64_in]
                  refine wp_region_still_tail 11 (by kernel_rfl) (by kernel_rfl) ?_
                  change wpStill _ _ We.drew _ _ _
                  simp only [List.take_succ_cons, List.take_zero, List.drop_succ_cons, List.drop_zero]
                  repeat still_step
                  refine wpStill_nil ?_
                  change wpList _ _ _ _ _ We.drew
                  go_wp2
                  go_roundw
                  case rel => exact ⟨k + 1, by omega, by go_num, HGc.out, HGd.out, HOm9.out, HBl9.out⟩
                  case measure => simp [intOf]; omega
            · have ho9 : okE m (lastE es k) (a, b, mu) = 9 := by
                cases hl : lastE es k with
                | mk la lb =>
                  rw [hl] at ho
                  rw [HOk.out la lb] at ho ⊢
                  by_cases h : a < la ∨ (a = la ∧ b ≤ lb)
                  · rw [if_pos h]
                  · rw [if_neg h] at ho; exact absurd rfl ho
              have HR : Hid (ofE m es = 9) := HErr.out 9 (by decide) ho9
              have hk0 : k ≠ 0 := by
                intro h0
                have hA' := (vtxB_iff _ _).1 HA.out
                rw [h0, show lastE es 0 = (-1, -1) from rfl, HOk.out, if_neg (by omega)] at ho9
                cases ho9
              obtain ⟨j, rfl⟩ : ∃ j, k = j + 1 := ⟨k - 1, by omega⟩
              obtain ⟨la, lb, hla, f1, f2⟩ := HPr.out j rfl
              rw [hla, HOk.out] at ho9
              have hyb : a < la ∨ (a = la ∧ b ≤ lb) := by
                apply Classical.byContradiction
                intro h
                rw [if_neg h] at ho9; cases ho9
              have hj1 : (j : Int) < (es.length : Int) := by omega
              clear hk0 HPr HErr hgd ho HOk HCe HE hla ho9
              by_cases hae : a = la
              · subst hae
                have hlb : b ≤ lb := by omega
                go_wp2_with fail
                refine wp_region_quiet_lit (by kernel_rfl) (by kernel_rfl) ?_
                repeat (first | go_big_quiet_step (fail) | quiet_step (fail) | (refine wpQuiet_step (fun K hK => ?_); go_simp; first | (rw [if_neg (by omega)]; refine hK _ ?_; clear hK K) | (rw [if_pos (by omega)]; go_simp; refine hK _ ?_; clear hK K)))
                refine wpQuiet_nil ?_
                rintro _ ⟨nq, rfl⟩
                have HBq := Lib.hid (below_drewN HBw2.out nq)
                go_wp2
                go_ret2
                exact ⟨.pointer none, by rw [HR.out] <;> rfl, fun h => absurd (HR.out.symm.trans h) (by decide), HB0.out.trans (HBq.out.mono HB0.out.size)⟩
              · have t95 : decide (a < la) = true := by simp; omega
                go_wp2_with fail
                refine wp_region_quiet_lit (by kernel_rfl) (by kernel_rfl) ?_
                repeat (first | go_big_quiet_step (fail) | quiet_step (fail) | (refine wpQuiet_step (fun K hK => ?_); go_simp; first | (rw [if_neg (by omega)]; refine hK _ ?_; clear hK K) | (rw [if_pos (by omega)]; go_simp; refine hK _ ?_; clear hK K)))
                refine wpQuiet_nil ?_
                rintro _ ⟨nq, rfl⟩
                have HBq := Lib.hid (below_drewN HBw2.out nq)
                go_wp2
                go_ret2
                exact ⟨.pointer none, by rw [HR.out] <;> rfl, fun h => absurd (HR.out.symm.trans h) (by decide), HB0.out.trans (HBq.out.mono HB0.out.size)⟩
          · have hke : k = es.length := by omega
            have hg0 : gcheckL m (-1, -1) es = 0 := by
              have := hgc.out
              rwa [hke, List.take_of_length_le (Nat.le_refl _)] at this
            have hgz : gcheckE m es = 0 := by rw [HE.out]; exact hg0
            have hEs : Edges m es := (gcheckL_zero hg0).1
            have hof : ofE m es = if connB m es = false then 13 else 0 := by unfold ofE; rw [hgz, if_neg (by simp)]
            have hgx : GX wr (.pointer (some ⟨bx, 0, none⟩)) m es := by
              have h := hom.out
              rw [hke, List.take_of_length_le (Nat.le_refl _)] at h
              exact h.gx HRl.out (by omega)
            have HCn := Lib.hid (kConn_any _ m es wr hgx hEs (by omega) (by omega))
            have HOf := Lib.hid hof
            have HGx := Lib.hid hgx
            clear hke hg0 hgz hEs hof hgx hgc hgd hom
            generalize connB m es = cb at *
            go_wp2_with fail
            refine HCn.out.mono ?_
            rintro e w5 ⟨rfl, hb5⟩
            have HB5 := Lib.hid (HBk.out.trans (hb5.mono HBk.out.size))
            have HG5 := Lib.hid (HGx.out.below hb5)
            clear hb5
            cases cb
            · have HR : Hid (ofE m es = 13) := by show _ = _; rw [HOf.out]; rfl
              go_wp2
              go_ret2
              exact ⟨.pointer none, by rw [HR.out] <;> rfl, fun h => absurd (HR.out.symm.trans h) (by decide), HB5.out⟩
            · have HR : Hid (ofE m es = 0) := by show _ = _; rw [HOf.out]; rfl
              go_wp2
              go_ret2
              exact ⟨.pointer (some ⟨bx, 0, none⟩), by rw [HR.out] <;> rfl, fun _ => HG5.out, HB5.out⟩
end Go.Proofs.YtgcnijmmjlfabaaGreatDoor

