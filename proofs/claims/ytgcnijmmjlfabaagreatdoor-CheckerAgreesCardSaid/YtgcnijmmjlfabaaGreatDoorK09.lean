/- Contract of the checker's product of square matrices.
   Contract of the checker's test of a diagonal.
   What the checker's grouped computes. -/
import Derived.Test.YtgcnijmmjlfabaaGreatDoorK08
set_option maxRecDepth 100000
set_option maxHeartbeats 16000000
namespace Go.Proofs.YtgcnijmmjlfabaaGreatDoor
open Go.RowKit Go.Shelf

/-- A square matrix in memory. -/
def SQ (w : World) (v : Value) (n : Nat) (l : List Int) : Prop := ∃ sl, v = .agg #[.int .i64 (n : Int), sl] ∧ RI w sl l
theorem sq_size : (Tryz.prog.info? 153).map (·.size) = some 2 := by kernel_rfl
/-- What the product's memory looks like before its loops. -/
def TmCut (n m : Nat) (W : World) (a : Value) (wx : World) : Prop := ∃ x g : Nat, a = .pointer (some ⟨x, 0, none⟩) ∧ W.heap.size ≤ x ∧ W.heap.size ≤ g ∧ x ≠ g ∧ BL wx x 153 [.int .i64 (n : Int), .slice (some ⟨g, 0, none⟩) m m] ∧ OI wx W.heap.size (.slice (some ⟨g, 0, none⟩) m m) (List.replicate m 0) ∧ Below W.heap.size W wx
theorem kTimes_any (va vb : Value) (n : Nat) (a b : List Int) (A B : Int) (w : World) (ha : SQ w va n a) (hb : SQ w vb n b) (hn : n ≤ 11) (hal : a.length = n * n) (hbl : b.length = n * n) (hA : Bd A a) (hB : Bd B b) (hA0 : 0 ≤ A) (hAB : A * B ≤ 800000000000000000) :
    Calls Tryz.prog 115 #[va, vb] w fun e w' => ∃ v, e = .returned v ∧ SQ w' v n (tmsL n a b) ∧ Below w.heap.size w w' := by
  obtain ⟨i0, hi, hz0, hz1, hz2⟩ := info_parts int_info
  obtain ⟨va, rfl, hra⟩ := ha
  obtain ⟨vb, rfl, hrb⟩ := hb
  obtain ⟨Aa, ca, rfl, -⟩ := hra.open_
  obtain ⟨Ab, cb, rfl, -⟩ := hrb.open_
  rw [hal] at hra ⊢
  rw [hbl] at hrb ⊢
  obtain ⟨m, hm⟩ : ∃ m, m = n * n := ⟨_, rfl⟩
  have hm121 : m ≤ 121 := by rw [hm]; exact Nat.le_trans (Nat.mul_le_mul hn hn) (by decide)
  have hmi : (n : Int) * (n : Int) = (m : Int) := by rw [hm]; push_cast; rfl
  rw [← hm] at hra hrb hal hbl ⊢
  have HM := Lib.hid hm
  clear hm
  obtain ⟨W1, hW1⟩ : ∃ W1, W1 = w.alloc (.cells #[.int .i64 (n : Int), .slice Aa m ca] 153) := ⟨_, rfl⟩
  have hb1 : Below w.heap.size w W1 := by rw [hW1]; exact below_alloc w _
  have hz1' : W1.heap.size = w.heap.size + 1 := by rw [hW1]; simp
  have hx1 : BL W1 w.heap.size 153 [.int .i64 (n : Int), .slice Aa m ca] := by rw [hW1]; exact BL.new' w _ _
  obtain ⟨W2, hW2⟩ : ∃ W2, W2 = W1.alloc (.cells #[.int .i64 (n : Int), .slice Ab m cb] 153) := ⟨_, rfl⟩
  have hb2 : Below W1.heap.size W1 W2 := by rw [hW2]; exact below_alloc W1 _
  have hz2' : W2.heap.size = w.heap.size + 2 := by rw [hW2]; simp; omega
  have hx2 : BL W2 (w.heap.size + 1) 153 [.int .i64 (n : Int), .slice Ab m cb] := by rw [hW2, ← hz1']; exact BL.new' W1 _ _
  obtain ⟨W3, hW3⟩ : ∃ W3, W3 = W2.alloc (.cells #[.int .i64 0, .slice none 0 0] 153) := ⟨_, rfl⟩
  have hb3 : Below W2.heap.size W2 W3 := by rw [hW3]; exact below_alloc W2 _
  have hz3' : W3.heap.size = w.heap.size + 3 := by rw [hW3]; simp; omega
  have hx3 : BL W3 (w.heap.size + 2) 153 [.int .i64 0, .slice none 0 0] := by rw [hW3, ← hz2']; exact BL.new' W2 _ _
  have hy1 := (hx1.bel hb2).bel hb3
  have hy2 := hx2.bel hb3
  have hb03 : Below w.heap.size w W3 := (hb1.trans (hb2.mono (by omega))).trans (hb3.mono (by omega))
  have HRa := Lib.hid (RI.below hra hb03)
  have HRb := Lib.hid (RI.below hrb hb03)
  have HY1 := Lib.hid hy1
  have HY2 := Lib.hid hy2
  have HY3 := Lib.hid hx3
  have HB3 := Lib.hid hb03
  have HZ3 := Lib.hid hz3'
  have x10 := hy1.cell 0
  have HW1 := Lib.hid hW1
  have HW2 := Lib.hid hW2
  have HW3 := Lib.hid hW3
  have hmk := run_make_row' (P := Tryz.prog) 42 3 (.int .i64 0) 8 Tryz.underlying42 int_info rfl .i64 .i64 m (by omega) (by omega)
  have hwm : IntKind.i64.wrap (m : Int) = m := by simp (disch := omega) only [IntWalk.i64_in]
  have x11 : (W3.alloc (.cells (madeCells #[Value.int .i64 0] m) 3)).cell? ⟨w.heap.size, 0, none⟩ = some (.int .i64 (n : Int)) := (hy1.alloc _).cell 0
  have x12 : (W3.alloc (.cells #[.int .i64 0, .slice none 0 0] 153)).cell? ⟨w.heap.size, 0, none⟩ = some (.int .i64 (n : Int)) := (hy1.alloc _).cell 0
  have x13 : ((W3.alloc (.cells (madeCells #[Value.int .i64 0] m) 3)).alloc (.cells #[.int .i64 0, .slice none 0 0] 153)).cell? ⟨w.heap.size, 0, none⟩ = some (.int .i64 (n : Int)) := ((hy1.alloc _).alloc _).cell 0
  have x14 : ((W3.alloc (.cells #[.int .i64 0, .slice none 0 0] 153)).alloc (.cells (madeCells #[Value.int .i64 0] m) 3)).cell? ⟨w.heap.size, 0, none⟩ = some (.int .i64 (n : Int)) := ((hy1.alloc _).alloc _).cell 0
  have hxA : BL ((W3.alloc (.cells (madeCells #[Value.int .i64 0] m) 3)).alloc (.cells #[.int .i64 0, .slice none 0 0] 153)) (W3.heap.size + 1) 153 [.int .i64 0, .slice none 0 0] := by
    have := BL.new' (W3.alloc (.cells (madeCells #[Value.int .i64 0] m) 3)) #[.int .i64 0, .slice none 0 0] 153
    rwa [World.size_alloc] at this
  have hxB : BL ((W3.alloc (.cells #[.int .i64 0, .slice none 0 0] 153)).alloc (.cells (madeCells #[Value.int .i64 0] m) 3)) W3.heap.size 153 [.int .i64 0, .slice none 0 0] := (BL.new' W3 _ _).alloc _
  have a0 := hxA.cell 0
  have a1 := hxA.cell 1
  have a2 := hxA.frozen 0
  have a3 := hxA.frozen 1
  have b0 := hxB.cell 0
  have b1 := hxB.cell 1
  have b2 := hxB.frozen 0
  have b3 := hxB.frozen 1
  have HXA := Lib.hid hxA
  have HXB := Lib.hid hxB
  clear hxA hxB
  clear hra hrb hW1 hW2 hW3 hb1 hb2 hb3 hx1 hx2 hx3 hy1 hy2 hb03 hz1' hz2' hz3'
  go_enter Tryz.func115, Tryz.ntmps115
  go_wp2_with fail
  rw [← HW1.out, ← HW2.out, ← HW3.out]
  go_cut [5] (fun a wx => TmCut n m W3 a wx)
  case first =>
    go_region
    · have hc : TmCut n m W3 (.pointer (some ⟨W3.heap.size + 1, 0, none⟩)) (((W3.alloc (.cells (madeCells #[Value.int .i64 0] m) 3)).alloc (.cells #[.int .i64 (n : Int), .slice (some ⟨W3.heap.size, 0, none⟩) m m] 153)).drew) := by
        refine ⟨_, W3.heap.size, rfl, by omega, by omega, by omega, ?_, ?_, ((below_alloc W3 _).alloc (by simp) _).drew⟩
        · have := BL.new' (W3.alloc (.cells (madeCells #[Value.int .i64 0] m) 3)) #[.int .i64 (n : Int), .slice (some ⟨W3.heap.size, 0, none⟩) m m] 153
          rwa [World.size_alloc] at this
        · exact OI.below (OI.below (own_zeros W3 m (by omega)) (below_alloc _ _)) (Below.refl _ _).drew
      have HC := Lib.hid hc
      clear hc
      go_wp2_with fail
      go_meet
      exact HC.out
    · have hc : TmCut n m W3 (.pointer (some ⟨W3.heap.size, 0, none⟩)) (((W3.alloc (.cells #[.int .i64 (n : Int), .slice (some ⟨W3.heap.size + 1, 0, none⟩) m m] 153)).alloc (.cells (madeCells #[Value.int .i64 0] m) 3)).drew) := by
        refine ⟨_, W3.heap.size + 1, rfl, by omega, by omega, by omega, ?_, ?_, ((below_alloc W3 _).alloc (by simp) _).drew⟩
        · exact (BL.new' W3 _ _).alloc _
        · have := own_zeros (W3.alloc (.cells #[.int .i64 (n : Int), .slice (some ⟨W3.heap.size + 1, 0, none⟩) m m] 153)) m (by omega)
          rw [World.size_alloc] at this
          exact OI.below (OV.mono this (by omega)) (Below.refl _ _).drew
      have HC := Lib.hid hc
      clear hc
      go_wp2_with fail
      go_meet
      exact HC.out
  case rest =>
    obtain ⟨x, g, rfl, hxB, hgB, hne, hX, hO, hBw⟩ := hcut
    clear a0 a1 a2 a3 b0 b1 b2 b3 HXA HXB x11 x12 x13 x14 hmk hwm HW1 HW2 HW3
    obtain ⟨Aa', ca', hea, -, -, hca⟩ := HRa.out.open_
    simp only [Value.slice.injEq] at hea
    obtain ⟨rfl, -, rfl⟩ := hea
    obtain ⟨Ab', cb', heb, -, -, hcb⟩ := HRb.out.open_
    simp only [Value.slice.injEq] at heb
    obtain ⟨rfl, -, rfl⟩ := heb
    rw [hal] at hca
    rw [hbl] at hcb
    have HCa := Lib.hid hca
    have HCb := Lib.hid hcb
    have hAB2 : ∀ p q, -(A * B) ≤ a.getD p 0 * b.getD q 0 ∧ a.getD p 0 * b.getD q 0 ≤ A * B := fun p q => mul_bd (hA p) (hB q) hA0
    have HAB : Hid (∀ p q, -800000000000000000 ≤ a.getD p 0 * b.getD q 0 ∧ a.getD p 0 * b.getD q 0 ≤ 800000000000000000) := fun p q => by have := hAB2 p q; omega
    have HTb : Hid (∀ (i k j : Nat), -(800000000000000000 * (j : Int)) ≤ tmC n a b i k j ∧ tmC n a b i k j ≤ 800000000000000000 * (j : Int)) := fun i k j => tmC_bd hA hB hA0 hAB i k j
    have HPl : Hid (∀ i k, i < n → k < n → i * n + k < m) := fun i k h1 h2 => by rw [HM.out]; exact pos_lt h1 h2
    have HSt : Hid (TmR n a b 0 0 0 (List.replicate m 0)) := by rw [HM.out]; exact TmR.start n a b
    have HXc := Lib.hid hX
    have HOc := Lib.hid hO
    have HBc := Lib.hid hBw
    have hzw := HZ3.out
    have HK : Hid (∀ W : World, Below W3.heap.size W3 W → W.cell? ⟨w.heap.size, 0, none⟩ = some (.int .i64 (n : Int)) ∧ W.cell? ⟨w.heap.size, 1, none⟩ = some (.slice Aa m ca) ∧ W.cell? ⟨w.heap.size + 1, 1, none⟩ = some (.slice Ab m cb)) := fun W h => ⟨(HY1.out.bel h).cell 0, (HY1.out.bel h).cell 1, (HY2.out.bel h).cell 1⟩
    have HXs : Hid (∀ (W : World) (p : Nat) (v : Value), BL W x 153 [.int .i64 (n : Int), .slice (some ⟨g, 0, none⟩) m m] → BL (W.setCell ⟨g, p, none⟩ v) x 153 [.int .i64 (n : Int), .slice (some ⟨g, 0, none⟩) m m]) := fun W p v h => h.set_other hne v
    clear hca hcb hX hO hBw hA hB hA0 hAB hAB2 hal hbl HRa HRb x10
    obtain ⟨k0, k1, k2⟩ := HK.out _ HBc.out
    go_wp2_with fail
    go_loopw [20] (fun ii wr => ∃ (i : Nat) (os : List Int), i ≤ n ∧ ii = .int .i64 (i : Int) ∧ Hid (TmR n a b i 0 0 os) ∧ Hid (OI wr W3.heap.size (.slice (some ⟨g, 0, none⟩) m m) os) ∧ Hid (BL wr x 153 [.int .i64 (n : Int), .slice (some ⟨g, 0, none⟩) m m]) ∧ Hid (Below W3.heap.size W3 wr)) (fun i _ => n - (intOf i).toNat)
    case atStart => exact ⟨0, _, Nat.zero_le _, rfl, HSt.out, HOc.out, HXc.out, HBc.out⟩
    case round =>
      obtain ⟨i, os, hi, rfl, hT, hO, hX, hB⟩ := hrel
      clear k0 k1 k2 HOc HXc HBc HSt
      obtain ⟨k0, k1, k2⟩ := HK.out _ hB.out
      by_cases hin : i < n
      · go_wp2_with fail
        go_loopw [25] (fun kk wr => ∃ (k : Nat) (os : List Int), k ≤ n ∧ kk = .int .i64 (k : Int) ∧ Hid (TmR n a b i k 0 os) ∧ Hid (OI wr W3.heap.size (.slice (some ⟨g, 0, none⟩) m m) os) ∧ Hid (BL wr x 153 [.int .i64 (n : Int), .slice (some ⟨g, 0, none⟩) m m]) ∧ Hid (Below W3.heap.size W3 wr)) (fun k _ => n - (intOf k).toNat)
        case atStart => exact ⟨0, _, Nat.zero_le _, rfl, hT.out, hO.out, hX.out, hB.out⟩
        case round =>
          obtain ⟨k, os, hk, rfl, hT, hO, hX, hB⟩ := hrel
          clear k0 k1 k2
          obtain ⟨k0, k1, k2⟩ := HK.out _ hB.out
          by_cases hkn : k < n
          · go_wp2_with fail
            go_loopw [30] (fun jj wr => ∃ (j : Nat) (os : List Int), j ≤ n ∧ jj = .int .i64 (j : Int) ∧ Hid (TmR n a b i k j os) ∧ Hid (OI wr W3.heap.size (.slice (some ⟨g, 0, none⟩) m m) os) ∧ Hid (BL wr x 153 [.int .i64 (n : Int), .slice (some ⟨g, 0, none⟩) m m]) ∧ Hid (Below W3.heap.size W3 wr)) (fun j _ => n - (intOf j).toNat)
            case atStart => exact ⟨0, _, Nat.zero_le _, rfl, hT.out, hO.out, hX.out, hB.out⟩
            case round =>
              obtain ⟨j, os, hj, rfl, hT, hO, hX, hB⟩ := hrel
              clear k0 k1 k2
              obtain ⟨k0, k1, k2⟩ := HK.out _ hB.out
              by_cases hjn : j < n
              · have q1 := hX.out.cell 1
                obtain ⟨p0, hp0⟩ : ∃ p0, p0 = i * n + k := ⟨_, rfl⟩
                obtain ⟨pa, hpa⟩ : ∃ p, p = i * n + j := ⟨_, rfl⟩
                obtain ⟨pb, hpb⟩ : ∃ p, p = j * n + k := ⟨_, rfl⟩
                have l0 := HPl.out i k hin hkn
                have la := HPl.out i j hin hjn
                have lb := HPl.out j k hjn hkn
                have w0 : (i : Int) * (n : Int) + (k : Int) = (p0 : Int) := by rw [hp0]; push_cast; rfl
                have wa : (i : Int) * (n : Int) + (j : Int) = (pa : Int) := by rw [hpa]; push_cast; rfl
                have wb : (j : Int) * (n : Int) + (k : Int) = (pb : Int) := by rw [hpb]; push_cast; rfl
                have hcell := hT.out.cell hin hkn
                have hst := hT.out.step hin hkn
                have htb := HTb.out i k j
                rw [tmC_succ, ← hcell, ← hp0, ← hpa, ← hpb] at hst
                rw [← hcell, ← hp0] at htb
                rw [← hp0] at l0
                rw [← hpa] at la
                rw [← hpb] at lb
                have hl : os.length = m := by rw [hT.out.1, HM.out]
                obtain ⟨-, -, s1, s2, s3⟩ := hO.out.at' (k := p0) (by rw [hl]; exact l0)
                obtain ⟨ada, xa, rfl, hab, hxa, hcxa⟩ := HCa.out pa la
                obtain ⟨adb, xb, rfl, hbb, hxb, hcxb⟩ := HCb.out pb lb
                have r1 := (hB.out.cell (p := ada.add pa) (by rw [block_of_add]; exact hab)).trans hcxa
                have r2 := (hB.out.cell (p := adb.add pb) (by rw [block_of_add]; exact hbb)).trans hcxb
                have hpr := HAB.out pa pb
                rw [getD_of' hxa.out, getD_of' hxb.out] at hst hpr
                have HS := Lib.hid (s3 (os.getD p0 0 + xa * xb)).1
                have HX2 := Lib.hid (HXs.out wr p0 (.int .i64 (os.getD p0 0 + xa * xb)) hX.out)
                have HB2 := Lib.hid (hB.out.setCell (p := ⟨g, p0, none⟩) hgB (.int .i64 (os.getD p0 0 + xa * xb)))
                have HT2 := Lib.hid hst
                have hj11 : (j : Int) ≤ 10 := by omega
                clear hcell hst s3 hcxa hcxb hxa hxb hab hbb hl hT
                generalize os.getD p0 0 = o at *
                generalize hxx : xa * xb = pr at *
                have e0 : IntKind.i64.wrap ((i : Int) * (n : Int)) = (i : Int) * (n : Int) := by
                  have : 0 ≤ (i : Int) * (n : Int) := by rw [← Int.natCast_mul]; omega
                  have : (i : Int) * (n : Int) ≤ 200 := by omega
                  simp (disch := omega) only [IntWalk.i64_in]
                have e1 : IntKind.i64.wrap ((j : Int) * (n : Int)) = (j : Int) * (n : Int) := by
                  have : 0 ≤ (j : Int) * (n : Int) := by rw [← Int.natCast_mul]; omega
                  have : (j : Int) * (n : Int) ≤ 200 := by omega
                  simp (disch := omega) only [IntWalk.i64_in]
                have e2 : IntKind.i64.wrap ((i : Int) * (n : Int) + (k : Int)) = (p0 : Int) := by rw [w0]; simp (disch := omega) only [IntWalk.i64_in]
                have e3 : IntKind.i64.wrap ((i : Int) * (n : Int) + (j : Int)) = (pa : Int) := by rw [wa]; simp (disch := omega) only [IntWalk.i64_in]
                have e4 : IntKind.i64.wrap ((j : Int) * (n : Int) + (k : Int)) = (pb : Int) := by rw [wb]; simp (disch := omega) only [IntWalk.i64_in]
                have e5 : IntKind.i64.wrap (xa * xb) = pr := by rw [hxx]; simp (disch := omega) only [IntWalk.i64_in]
                have e6 : IntKind.i64.wrap (o + pr) = o + pr := by simp (disch := omega) only [IntWalk.i64_in]
                clear hp0 hpa hpb w0 wa wb hxx
                have b0 : (p0 : Int) < m := by omega
                have b1 : (pa : Int) < m := by omega
                have b2 : (pb : Int) < m := by omega
                go_wp2_with fail
                refine wp_region_still_tail 33 (by kernel_rfl) (by kernel_rfl) ?_
                change wpStill _ _ wr.drew _ _ _
                simp only [List.take_succ_cons, List.take_zero, List.drop_succ_cons, List.drop_zero]
                repeat still_step
                refine wpStill_nil ?_
                change wpList _ _ _ _ _ wr.drew
                go_wp2
                go_roundw
                case rel => exact ⟨j + 1, _, by omega, by go_num, HT2.out, OI.below HS.out (Below.refl _ _).drew, HX2.out.drew, HB2.out.drew⟩
                case measure => simp [intOf]; omega
              · obtain rfl : n = j := by omega
                have HT2 := Lib.hid (hT.out.next hkn)
                go_wp2
                go_roundw
                case rel => exact ⟨k + 1, _, by omega, by go_num, HT2.out, hO.out, hX.out, hB.out⟩
                case measure => simp [intOf]; omega
          · obtain rfl : n = k := by omega
            have HT2 := Lib.hid hT.out.row
            go_wp2
            go_roundw
            case rel => exact ⟨i + 1, _, by omega, by go_num, HT2.out, hO.out, hX.out, hB.out⟩
            case measure => simp [intOf]; omega
      · obtain rfl : n = i := by omega
        obtain rfl := hT.out.end_
        have HO := Lib.hid hO.out
        have HL := Lib.hid hT.out.1
        have y0 := hX.out.cell 0
        have y1 := hX.out.cell 1
        have HY := Lib.hid (HY3.out.bel hB.out)
        have z0 := HY.out.cell 0
        have z1 := HY.out.cell 1
        have z2 := HY.out.frozen 0
        have z3 := HY.out.frozen 1
        have HBw := Lib.hid (HB3.out.trans (hB.out.mono HB3.out.size))
        clear hT hO hX hB
        go_wp2
        refine bodyPost_ret (results_cell_row rfl _ _ (w.heap.size + 2) 153 #[.int .i64 (n : Int), .slice (some ⟨g, 0, none⟩) m m] (0, 0) _ rfl ((HY.out.set 0 _).set 1 _) Tryz.underlying153 rfl sq_size) rfl ?_
        have hb3 := (HBw.out.setCell (p := ⟨w.heap.size + 2, 0, none⟩) (by simp) (.int .i64 (n : Int))).setCell (p := ⟨w.heap.size + 2, 1, none⟩) (by simp) (.slice (some ⟨g, 0, none⟩) m m)
        refine ⟨_, rfl, ⟨_, rfl, ?_⟩, hb3⟩
        exact OI.ri (OI.setOther (OI.setOther HO.out (by show g ≠ w.heap.size + 2; have := HZ3.out; omega) _) (by show g ≠ w.heap.size + 2; have := HZ3.out; omega) _)
end Go.Proofs.YtgcnijmmjlfabaaGreatDoor

namespace Go.Proofs.YtgcnijmmjlfabaaGreatDoor
open Go.RowKit Go.Shelf

/-- What stands in a diagonal matrix with some last numbers. -/
def wantI (n : Nat) (last : List Int) (i k : Nat) : Int := if i = k then (if 0 ≤ (i : Int) - n + last.length then last.getD ((i : Int) - n + last.length).toNat 0 else 1) else 0
/-- Whether a square matrix is diagonal with some last numbers. -/
def diaB (n : Nat) (a last : List Int) : Bool := (List.range (n * n)).all fun p => decide (a.getD p 0 = wantI n last (p / n) (p % n))
theorem all_range_succ {p : Nat → Bool} {k : Nat} : (List.range (k + 1)).all p = ((List.range k).all p && p k) := by rw [List.range_succ, List.all_append]; simp
theorem all_range_false {p : Nat → Bool} {k n : Nat} (h : k < n) (hp : p k = false) : (List.range n).all p = false := by
  rw [← Bool.not_eq_true, List.all_eq_true]
  intro hc
  have := hc k (List.mem_range.2 h)
  rw [hp] at this
  cases this
theorem pos_div {n i k : Nat} (hk : k < n) : (i * n + k) / n = i := by rw [Nat.mul_comm, Nat.mul_add_div (by omega), Nat.div_eq_of_lt hk, Nat.add_zero]
theorem pos_mod {n i k : Nat} (hk : k < n) : (i * n + k) % n = k := by rw [Nat.mul_comm, Nat.mul_add_mod, Nat.mod_eq_of_lt hk]
theorem kDiag_any (va vl : Value) (n : Nat) (a last : List Int) (w : World) (ha : SQ w va n a) (hl : RI w vl last) (hn : n ≤ 11) (hal : a.length = n * n) (hll : last.length ≤ 100000) :
    Calls Tryz.prog 116 #[va, vl] w fun e w' => e = .returned (.bool (diaB n a last)) ∧ Below w.heap.size w w' := by
  obtain ⟨va, rfl, hra⟩ := ha
  obtain ⟨Aa, ca, rfl, -⟩ := hra.open_
  obtain ⟨Al, cl, rfl, -⟩ := hl.open_
  rw [hal] at hra ⊢
  obtain ⟨m, hm⟩ : ∃ m, m = n * n := ⟨_, rfl⟩
  have hm121 : m ≤ 121 := by rw [hm]; exact Nat.le_trans (Nat.mul_le_mul hn hn) (by decide)
  have HM := Lib.hid hm
  rw [← hm] at hra hal ⊢
  obtain ⟨W1, hW1⟩ : ∃ W1, W1 = w.alloc (.cells #[.int .i64 (n : Int), .slice Aa m ca] 153) := ⟨_, rfl⟩
  have hb1 : Below w.heap.size w W1 := by rw [hW1]; exact below_alloc w _
  have hx1 : BL W1 w.heap.size 153 [.int .i64 (n : Int), .slice Aa m ca] := by rw [hW1]; exact BL.new' w _ _
  have x0 := hx1.cell 0
  have x1 := hx1.cell 1
  obtain ⟨Aa', ca', hea, -, -, hca⟩ := (RI.below hra hb1).open_
  simp only [Value.slice.injEq] at hea
  obtain ⟨rfl, -, rfl⟩ := hea
  obtain ⟨Al', cl', hel, -, -, hcl⟩ := (RI.below hl hb1).open_
  simp only [Value.slice.injEq] at hel
  obtain ⟨rfl, -, rfl⟩ := hel
  rw [hal] at hca
  have HCa := Lib.hid hca
  have HCl := Lib.hid hcl
  have HB1 := Lib.hid hb1
  have HW1 := Lib.hid hW1
  have HPl : Hid (∀ i k, i < n → k < n → i * n + k < m) := fun i k h1 h2 => by rw [hm]; exact pos_lt h1 h2
  have HR0 : Hid (diaB n a last = (List.range m).all fun p => decide (a.getD p 0 = wantI n last (p / n) (p % n))) := by show _ = _; rw [hm]; rfl
  clear hra hl hal hm hW1 hb1 hx1 hca hcl
  go_enter Tryz.func116, Tryz.ntmps116
  go_wp2_with fail
  rw [← HW1.out]
  go_loop [11] (fun ii => ∃ i : Nat, i ≤ n ∧ ii = .int .i64 (i : Int) ∧ Hid ((List.range (i * n)).all (fun p => decide (a.getD p 0 = wantI n last (p / n) (p % n))) = true)) (fun ii => n - (intOf ii).toNat)
  case atStart => exact ⟨0, Nat.zero_le _, rfl, by simp [Hid]⟩
  case round =>
    obtain ⟨i, hi, rfl, hT⟩ := hrel
    by_cases hin : i < n
    · go_wp2_with fail
      go_loop [16] (fun kk => ∃ k : Nat, k ≤ n ∧ kk = .int .i64 (k : Int) ∧ Hid ((List.range (i * n + k)).all (fun p => decide (a.getD p 0 = wantI n last (p / n) (p % n))) = true)) (fun kk => n - (intOf kk).toNat)
      case atStart => exact ⟨0, Nat.zero_le _, rfl, hT.out⟩
      case round =>
        obtain ⟨k, hk, rfl, hT⟩ := hrel
        by_cases hkn : k < n
        · have hs := all_range_succ (p := fun p => decide (a.getD p 0 = wantI n last (p / n) (p % n))) (k := i * n + k)
          rw [hT.out, Bool.true_and, pos_div hkn, pos_mod hkn] at hs
          have hf := fun h => all_range_false (p := fun p => decide (a.getD p 0 = wantI n last (p / n) (p % n))) (HPl.out i k hin hkn) h
          rw [pos_div hkn, pos_mod hkn] at hf
          have hlm := HPl.out i k hin hkn
          obtain ⟨p, hp⟩ : ∃ p, p = i * n + k := ⟨_, rfl⟩
          have w0 : (i : Int) * (n : Int) + (k : Int) = (p : Int) := by rw [hp]; push_cast; rfl
          rw [← hp] at hs hf hlm
          obtain ⟨ada, xa, rfl, -, hxa, hcxa⟩ := HCa.out p hlm
          rw [getD_of' hxa.out] at hs hf
          have HNx : Hid ((List.range (i * n + (k + 1))).all (fun p => decide (a.getD p 0 = wantI n last (p / n) (p % n))) = decide (xa = wantI n last i k)) := by
            show _ = _; rw [← Nat.add_assoc, ← hp]; exact hs
          have HF := Lib.hid hf
          obtain ⟨r, hr⟩ : ∃ r : Int, r = (i : Int) * (n : Int) := ⟨_, rfl⟩
          have hr0 : 0 ≤ r := by rw [hr, ← Int.natCast_mul]; omega
          rw [← hr] at w0
          have e0 : IntKind.i64.wrap ((i : Int) * (n : Int)) = r := by rw [← hr]; simp (disch := omega) only [IntWalk.i64_in]
          have e1 : IntKind.i64.wrap (r + (k : Int)) = (p : Int) := by rw [w0]; simp (disch := omega) only [IntWalk.i64_in]
          clear hp hs hf hxa hr hT HCa HPl HM
          by_cases hik : i = k
          · obtain rfl : k = i := hik.symm
            by_cases hj : 0 ≤ (k : Int) - n + last.length
            · obtain ⟨adl, y, rfl, -, hy, hcy⟩ := HCl.out ((k : Int) - n + last.length).toNat (by omega)
              have HWt : Hid (wantI n last k k = y) := by show _ = _; unfold wantI; rw [if_pos rfl, if_pos hj, getD_of' hy.out]
              clear hy HCl hik
              by_cases hxy : xa = y
              · have t3 : (xa != y) = false := by rw [bne_eq_false_iff_eq]; exact hxy
                rw [HWt.out, decide_eq_true hxy] at HNx
                clear hxy
                go_wp2
                go_round
                case rel => exact ⟨k + 1, by omega, by go_num, HNx.out⟩
                case measure => simp [intOf]; omega
              · have t3 : (xa != y) = true := by rw [bne_iff_ne]; exact hxy
                have HR : Hid (diaB n a last = false) := by show _ = _; rw [HR0.out, HF.out (decide_eq_false (by rw [HWt.out]; exact hxy))]
                clear hxy
                go_wp2
                go_ret
                exact ⟨by rw [HR.out]; rfl, HB1.out⟩
            · have HWt : Hid (wantI n last k k = 1) := by show _ = _; unfold wantI; rw [if_pos rfl, if_neg hj]
              clear hik HCl
              by_cases hxy : xa = 1
              · have t3 : (xa != 1) = false := by rw [bne_eq_false_iff_eq]; exact hxy
                rw [HWt.out, decide_eq_true hxy] at HNx
                clear hxy
                go_wp2
                go_round
                case rel => exact ⟨k + 1, by omega, by go_num, HNx.out⟩
                case measure => simp [intOf]; omega
              · have t3 : (xa != 1) = true := by rw [bne_iff_ne]; exact hxy
                have HR : Hid (diaB n a last = false) := by show _ = _; rw [HR0.out, HF.out (decide_eq_false (by rw [HWt.out]; exact hxy))]
                clear hxy
                go_wp2
                go_ret
                exact ⟨by rw [HR.out]; rfl, HB1.out⟩
          · have t1 : ((i : Int) == (k : Int)) = false := by rw [beq_eq_false_iff_ne]; omega
            have HWt : Hid (wantI n last i k = 0) := by show _ = _; unfold wantI; rw [if_neg hik]
            clear hik HCl
            by_cases hxy : xa = 0
            · have t3 : (xa != 0) = false := by rw [bne_eq_false_iff_eq]; exact hxy
              rw [HWt.out, decide_eq_true hxy] at HNx
              clear hxy
              go_wp2
              go_round
              case rel => exact ⟨k + 1, by omega, by go_num, HNx.out⟩
              case measure => simp [intOf]; omega
            · have t3 : (xa != 0) = true := by rw [bne_iff_ne]; exact hxy
              have HR : Hid (diaB n a last = false) := by show _ = _; rw [HR0.out, HF.out (decide_eq_false (by rw [HWt.out]; exact hxy))]
              clear hxy
              go_wp2
              go_ret
              exact ⟨by rw [HR.out]; rfl, HB1.out⟩
        · obtain rfl : n = k := by omega
          have HT2 : Hid ((List.range ((i + 1) * n)).all (fun p => decide (a.getD p 0 = wantI n last (p / n) (p % n))) = true) := by show _ = _; rw [Nat.succ_mul]; exact hT.out
          go_wp2
          go_round
          case rel => exact ⟨i + 1, by omega, by go_num, HT2.out⟩
          case measure => simp [intOf]; omega
    · obtain rfl : n = i := by omega
      have HR : Hid (diaB n a last = true) := by show _ = _; rw [HR0.out, HM.out]; exact hT.out
      go_wp2
      go_ret
      exact ⟨by rw [HR.out]; rfl, HB1.out⟩
end Go.Proofs.YtgcnijmmjlfabaaGreatDoor

namespace Go.Proofs.YtgcnijmmjlfabaaGreatDoor
open Go.RowKit Go.Shelf

/-- A cell of the reduced Laplacian. -/
def redC (n : Nat) (es : List Tri) (i k : Nat) : Int := if i = k then valK es (i + 1) (n + 1) else -wgt es (i + 1) (k + 1)
/-- The reduced Laplacian of a graph of n + 1 vertices, row by row. -/
def redL (n : Nat) (es : List Tri) : List Int := (List.range (n * n)).map fun p => redC n es (p / n) (p % n)
theorem redL_len (n : Nat) (es : List Tri) : (redL n es).length = n * n := by simp [redL]
theorem redL_at {n : Nat} {es : List Tri} {p : Nat} (h : p < n * n) : (redL n es).getD p 0 = redC n es (p / n) (p % n) := by
  rw [List.getD_eq_getElem?_getD, List.getElem?_eq_getElem (by rw [redL_len]; exact h)]
  simp [redL]
theorem wgt50' {n : Nat} {es : List Tri} (hE : Edges n es) (u v : Nat) : 0 ≤ wgt es u v ∧ wgt es u v ≤ 50 := by
  by_cases e : u = v
  · rw [e, wgt_self]; omega
  · exact wgt_le hE e
theorem redC_bd {n : Nat} {es : List Tri} (hE : Edges (n + 1) es) (hn : n ≤ 11) (i k : Nat) : -600 ≤ redC n es i k ∧ redC n es i k ≤ 600 := by
  unfold redC
  have h1 := valK_le hE (i + 1) (n + 1)
  have h2 := wgt50' hE (i + 1) (k + 1)
  split <;> omega
theorem redL_bd {n : Nat} {es : List Tri} (hE : Edges (n + 1) es) (hn : n ≤ 11) : Bd 600 (redL n es) := fun p => by
  by_cases hp : p < n * n
  · rw [redL_at hp]; exact redC_bd hE hn _ _
  · rw [List.getD_eq_getElem?_getD, List.getElem?_eq_none (by rw [redL_len]; omega)]; simp
theorem tmsL_bd {n : Nat} {a b : List Int} {A B C : Int} (ha : Bd A a) (hb : Bd B b) (hA : 0 ≤ A) (hC : A * B ≤ C) (hC0 : 0 ≤ C) (hn : n ≤ 11) : Bd (C * 11) (tmsL n a b) := fun p => by
  by_cases hp : p < n * n
  · rw [tmsL_at hp]
    have h := tmC_bd (n := n) ha hb hA hC (p / n) (p % n) n
    have h2 : C * (n : Int) ≤ C * 11 := Int.mul_le_mul_of_nonneg_left (by omega) hC0
    omega
  · rw [List.getD_eq_getElem?_getD, List.getElem?_eq_none (by rw [tmsL_len]; omega)]
    simp; omega
/-- The reduced Laplacian, when the rows before i and the first k cells of the row i are there. -/
def RdR (n : Nat) (es : List Tri) (i k : Nat) (os : List Int) : Prop :=
  os.length = n * n ∧ ∀ p, p < n * n → os.getD p 0 = if p < i * n then redC n es (p / n) (p % n) else if p < i * n + k then -wgt es (i + 1) (p - i * n + 1) else 0
theorem RdR.start (n : Nat) (es : List Tri) : RdR n es 0 0 (List.replicate (n * n) 0) := by
  refine ⟨by simp, fun p hp => ?_⟩
  rw [if_neg (by omega), if_neg (by omega), List.getD_eq_getElem?_getD, List.getElem?_replicate, if_pos hp]; rfl
theorem RdR.step {n : Nat} {es : List Tri} {i k : Nat} {os : List Int} (h : RdR n es i k os) (hi : i < n) (hk : k < n) : RdR n es i (k + 1) (os.set (i * n + k) (-wgt es (i + 1) (k + 1))) := by
  refine ⟨by rw [List.length_set]; exact h.1, fun p hp => ?_⟩
  rw [getD_set' (by rw [h.1]; exact pos_lt hi hk)]
  by_cases e : p = i * n + k
  · rw [if_pos e, if_neg (by omega), if_pos (by omega), e, Nat.add_sub_cancel_left]
  · rw [if_neg e, h.2 p hp]
    by_cases e2 : p < i * n
    · rw [if_pos e2, if_pos e2]
    · rw [if_neg e2, if_neg e2]
      by_cases e3 : p < i * n + k
      · rw [if_pos e3, if_pos (by omega)]
      · rw [if_neg e3, if_neg (by omega)]
theorem RdR.row {n : Nat} {es : List Tri} {i : Nat} {os : List Int} (h : RdR n es i n os) (hi : i < n) : RdR n es (i + 1) 0 (os.set (i * n + i) (valK es (i + 1) (n + 1))) := by
  refine ⟨by rw [List.length_set]; exact h.1, fun p hp => ?_⟩
  rw [getD_set' (by rw [h.1]; exact pos_lt hi hi), Nat.succ_mul]
  by_cases e : p = i * n + i
  · rw [if_pos e, if_pos (by omega), e, pos_div hi, pos_mod hi, redC, if_pos rfl]
  · rw [if_neg e, h.2 p hp]
    by_cases e2 : p < i * n
    · rw [if_pos e2, if_pos (by omega)]
    · rw [if_neg e2]
      by_cases e3 : p < i * n + n
      · obtain ⟨k, rfl⟩ : ∃ k, p = i * n + k := ⟨p - i * n, by omega⟩
        have hk : k < n := by omega
        rw [if_pos e3, if_pos e3, pos_div hk, pos_mod hk, redC, if_neg (by omega), Nat.add_sub_cancel_left]
      · rw [if_neg e3, if_neg (by omega), if_neg (by omega)]
theorem RdR.end_ {n : Nat} {es : List Tri} {os : List Int} (h : RdR n es n 0 os) : os = redL n es :=
  list_eq' (n := n * n) h.1 (redL_len n es) fun p hp => by rw [h.2 p hp, if_pos hp, redL_at hp]
/-- The j-th matrix of a certificate. -/
def sqP (n : Nat) (pf : List Int) (j : Nat) : List Int := (pf.take ((j + 1) * (n * n))).drop (j * (n * n))
theorem sqP_len {n : Nat} {pf : List Int} {j : Nat} (h : pf.length = 4 * n * n) (hj : j < 4) : (sqP n pf j).length = n * n := by
  unfold sqP
  have h1 : (j + 1) * (n * n) ≤ 4 * (n * n) := Nat.mul_le_mul_right _ (by omega)
  rw [Nat.mul_assoc] at h
  rw [List.length_drop, List.length_take, Nat.min_eq_left (by omega), Nat.succ_mul]
  omega
theorem sqP_bd {n : Nat} {pf : List Int} {B : Int} (h : Bd B pf) (h0 : 0 ≤ B) (j : Nat) : Bd B (sqP n pf j) := h.sub h0 _ _
/-- What the checker answers to matrices that should show the invariant factors l. -/
def groupedE (n : Nat) (es : List Tri) (l pf : List Int) : Int :=
  if pf.length ≠ 4 * n * n then 8
  else if (diaB n (tmsL n (sqP n pf 0) (sqP n pf 1)) [] && diaB n (tmsL n (sqP n pf 2) (sqP n pf 3)) [] && diaB n (tmsL n (tmsL n (sqP n pf 0) (redL n es)) (sqP n pf 2)) l) = true then 0 else 16
end Go.Proofs.YtgcnijmmjlfabaaGreatDoor

