/- Contracts of Same at claims, the program's and the reference's. (printed by gen/same57.py)
   Contracts of the reference's SameAll and of the law's few.
   The law ProofCompares. -/
import Derived.Test.YteamhbohgoclgaaGreatDoorP36
import Derived.Test.YteamhbohgoclgaaGreatDoorP32
set_option maxRecDepth 100000
set_option maxHeartbeats 16000000
namespace Go.Proofs.YteamhbohgoclgaaGreatDoor
open Go.RowKit Go.Shelf
theorem ordP_lt {x y : Int} (xs ys : List Int) (h : x < y) : cmpL (x :: xs) (y :: ys) = -1 := by
  have e : cmpI x y = -1 := sgn_lt h
  rw [cmpL, e]; rfl
theorem ordP_gt {x y : Int} (xs ys : List Int) (h : y < x) : cmpL (x :: xs) (y :: ys) = 1 := by
  have e : cmpI x y = 1 := sgn_gt h
  rw [cmpL, e]; rfl
theorem ordL_eq (x : Int) (xs ys : List Int) : cmpL (x :: xs) (x :: ys) = cmpL xs ys := by
  have e : cmpI x x = 0 := sgn_eq rfl
  rw [cmpL, e]; rfl
theorem rOrdP_any (va vb : Value) (xs ys : List Int) (w : World) (ha : RI w va xs) (hb : RI w vb ys) (hl : xs.length = ys.length) :
    Calls Tryz.prog 71 #[va, vb] w fun e w' => e = .returned (.int .i64 (cmpL xs ys)) ∧ ∃ n, w' = w.drewN n := by
  obtain ⟨A, c, rfl, hlc, hc, hcell⟩ := ha.open_
  obtain ⟨A', c', rfl, hlc', hc', hcell'⟩ := hb.open_
  have HA := Hd hcell
  have HB := Hd hcell'
  have HL := Hd hl
  clear hcell hcell' ha hb hl
  go_enter Tryz.func71, Tryz.ntmps71
  go_wp2
  go_loopw [5] (fun i wr => ∃ k : Nat, k ≤ xs.length ∧ i = .int .i64 k ∧ Hid (cmpL (xs.drop k) (ys.drop k) = cmpL xs ys) ∧ Dr w wr) (fun i _ => xs.length - (intOf i).toNat)
  case atStart => exact ⟨0, Nat.zero_le _, rfl, rfl, Dr.refl _⟩
  case round =>
    obtain ⟨k, hk, rfl, he, hdr⟩ := hrel
    by_cases hlt : k < xs.length
    · obtain ⟨ad, z, rfl, _, hz, hcl⟩ := HA.out k hlt
      have hlt' : k < ys.length := by have := HL.out; omega
      obtain ⟨ad', z', rfl, _, hz', hcl'⟩ := HB.out k hlt'
      have hcw := (hdr.cell _).trans hcl
      have hcw' := (hdr.cell _).trans hcl'
      have HD := Hd (drop_at hz)
      have HD' := Hd (drop_at hz')
      clear HA HB
      by_cases c1 : z < z'
      · have HR : Hid (cmpL xs ys = -1) := by show _ = _; rw [← he.out, HD.out, HD'.out, ordP_lt _ _ c1]
        go_wp2_with fail
        go_quiet (fail)
        go_wp2
        go_ret
        exact ⟨ret_i HR.out.symm, (by obtain ⟨n, rfl⟩ := hdr; exact ⟨n + nq, World.drewN_drewN ..⟩)⟩
      · by_cases c2 : z' < z
        · have HR : Hid (cmpL xs ys = 1) := by show _ = _; rw [← he.out, HD.out, HD'.out, ordP_gt _ _ c2]
          go_wp2_with fail
          go_quiet (fail)
          go_wp2_with fail
          go_quiet (fail)
          go_wp2
          go_ret
          refine ⟨ret_i HR.out.symm, ?_⟩
          show Dr w _
          repeat (first | assumption | exact Dr.refl _ | apply Dr.drewN | apply Dr.drew)
        · obtain rfl : z' = z := by omega
          have HR : Hid (cmpL (xs.drop (k + 1)) (ys.drop (k + 1)) = cmpL xs ys) := by show _ = _; rw [← he.out, HD.out, HD'.out, ordL_eq]
          go_wp2_with fail
          go_quiet (fail)
          go_wp2_with fail
          go_quiet (fail)
          go_wp2
          go_roundw
          case rel => exact ⟨k + 1, by omega, by go_num, HR.out, (by repeat (first | assumption | exact Dr.refl _ | apply Dr.drewN | apply Dr.drew))⟩
          case measure => simp [intOf]; omega
    · have HR : Hid (cmpL xs ys = 0) := by
        show _ = _
        rw [← he.out, List.drop_of_length_le (by omega), List.drop_of_length_le (by have := HL.out; omega)]; rfl
      go_wp2
      go_ret
      exact ⟨ret_i HR.out.symm, hdr⟩
theorem RI.drewN' {w : World} {v : Value} {zs : List Int} (h : RI w v zs) (n : Nat) : RI (w.drewN n) v zs := h
theorem SameInts08_any (va vb : Value) (xs ys : List Int) (w : World) (ha : RI w va xs) (hb : RI w vb ys) :
    Calls Tryz.prog 40 #[va, vb] w (Quiet w (.bool (eqL xs ys))) := by
  obtain ⟨A, c, rfl, hlc, hc, hcell⟩ := ha.open_
  obtain ⟨A', c', rfl, hlc', hc', hcell'⟩ := hb.open_
  have HA := Hd hcell
  have HB := Hd hcell'
  clear hcell hcell' ha hb
  by_cases hl : xs.length = ys.length
  · have hl' : ((xs.length : Int) != ys.length) = false := by simp [hl]
    have HL := Hd hl
    clear hl
    go_enter Tryz.func40, Tryz.ntmps40
    go_wp2
    go_loopw [5] (fun i wr => ∃ k m : Nat, k ≤ xs.length ∧ i = .int .i64 k ∧ Hid (eqL (xs.drop k) (ys.drop k) = eqL xs ys) ∧ wr = w.drewN m) (fun i _ => xs.length - (intOf i).toNat)
    case atStart => exact ⟨0, 0, Nat.zero_le _, rfl, rfl, rfl⟩
    case round =>
      obtain ⟨k, m, hk, rfl, he, rfl⟩ := hrel
      by_cases hlt : k < xs.length
      · obtain ⟨ad, z, rfl, _, hz, hcl⟩ := HA.out k hlt
        have hlt' : k < ys.length := by have := HL.out; omega
        obtain ⟨ad', z', rfl, _, hz', hcl'⟩ := HB.out k hlt'
        have HD := Hd (drop_at hz)
        have HD' := Hd (drop_at hz')
        clear HA HB
        go_wp2_with fail
        go_quiet (fail)
        go_wp2
        · have hne : z ≠ z' := by have : (z != z') = true := by assumption
                                  simpa using this
          go_ret
          refine ⟨ret_b ?_, m + nq, by simp⟩
          rw [← he.out, HD.out, HD'.out]
          simp [eqL, hne]
        · have heq : z = z' := by have : (z != z') = false := by assumption
                                  simpa using this
          go_roundw
          case rel => exact ⟨k + 1, m + nq, by omega, by go_num, by show _ = _; rw [← he.out, HD.out, HD'.out]; simp [eqL, heq], by simp⟩
          case measure => simp [intOf]; omega
      · go_wp2
        go_ret
        refine ⟨ret_b ?_, m, rfl⟩
        rw [← he.out, List.drop_of_length_le (by omega), List.drop_of_length_le (by have := HL.out; omega)]; rfl
  · have hl' : ((xs.length : Int) != ys.length) = true := by simp; omega
    have HL := Hd hl
    clear hl
    go_enter Tryz.func40, Tryz.ntmps40
    go_wp2
    go_ret
    exact ⟨ret_b (eqL_len HL.out).symm, 0, rfl⟩
theorem cmp_eq {xs ys : List Int} : (cmpL xs ys == 0) = eqL xs ys := by
  by_cases h : xs = ys
  · subst h; rw [cmpL_refl, (eqL_iff _ _).2 rfl]; rfl
  · have h1 : eqL xs ys = false := by rw [Bool.eq_false_iff]; intro e; exact h ((eqL_iff _ _).1 e)
    rw [h1, beq_eq_false_iff_ne]
    intro e
    refine h (cmpL_anti xs ys (by omega) ?_)
    have : cmpL ys xs = - cmpL xs ys := by
      clear h h1 e
      induction xs generalizing ys with
      | nil => cases ys <;> simp [cmpL]
      | cons x r ih =>
        cases ys with
        | nil => simp [cmpL]
        | cons y s =>
          rw [cmpL_cons, cmpL_cons, ih]
          by_cases h1 : x < y
          · rw [if_pos h1, if_neg (by omega), if_pos h1]; decide
          · by_cases h2 : y < x
            · rw [if_pos h2, if_neg h1, if_pos h2]
            · rw [if_neg h2, if_neg h1]; first | done | (rw [if_neg h1, if_neg h2])
    omega
theorem rSame17_any (va vb : Value) (xs ys : List Int) (w : World) (ha : RI w va xs) (hb : RI w vb ys) :
    Calls Tryz.prog 39 #[va, vb] w (Quiet w (.bool (eqL xs ys))) := by
  have HO := Hd (fun h => rOrdP_any va vb xs ys w ha hb h)
  obtain ⟨A, c, rfl, -⟩ := ha.open_
  obtain ⟨A', c', rfl, -⟩ := hb.open_
  clear ha hb
  by_cases hl : xs.length = ys.length
  · have hl' : ((xs.length : Int) != ys.length) = false := by simp [hl]
    have HOr := Hd (HO.out hl)
    have HE : Hid ((cmpL xs ys == 0) = eqL xs ys) := cmp_eq
    generalize cmpL xs ys = z at *
    clear HO hl
    go_enter Tryz.func39, Tryz.ntmps39
    go_wp2_with fail
    refine HOr.out.mono ?_
    rintro e w2 ⟨rfl, n, rfl⟩
    go_wp2
    go_ret
    exact ⟨ret_b HE.out, n, rfl⟩
  · have hl' : ((xs.length : Int) != ys.length) = true := by simp; omega
    have HL := Hd hl
    clear hl HO
    go_enter Tryz.func39, Tryz.ntmps39
    go_wp2
    go_ret
    exact ⟨ret_b (eqL_len HL.out).symm, 0, rfl⟩
/-- Whether two claims are equal. -/
def sameC (k1 Q1 N1 : Int) (a1 b1 f1 : List Int) (k2 Q2 N2 : Int) (a2 b2 f2 : List Int) : Bool := (k1 == k2) && (Q1 == Q2) && (N1 == N2) && eqL a1 a2 && eqL b1 b2 && eqL f1 f2
theorem pSame_any (va1 vb1 vf1 va2 vb2 vf2 : Value) (k1 Q1 N1 : Int) (a1 b1 f1 : List Int) (k2 Q2 N2 : Int) (a2 b2 f2 : List Int) (w : World) (ha1 : RI w va1 a1) (hb1 : RI w vb1 b1) (hf1 : RI w vf1 f1) (ha2 : RI w va2 a2) (hb2 : RI w vb2 b2) (hf2 : RI w vf2 f2) :
    Calls Tryz.prog 18 #[.agg #[.int .i64 k1, .int .i64 Q1, .int .i64 N1, va1, vb1, vf1], .agg #[.int .i64 k2, .int .i64 Q2, .int .i64 N2, va2, vb2, vf2]] w fun e w' => e = .returned (.bool (sameC k1 Q1 N1 a1 b1 f1 k2 Q2 N2 a2 b2 f2)) ∧ Below w.heap.size w w' := by
  obtain ⟨Aa1, ca1, rfl, -⟩ := ha1.open_
  obtain ⟨Ab1, cb1, rfl, -⟩ := hb1.open_
  obtain ⟨Af1, cf1, rfl, -⟩ := hf1.open_
  obtain ⟨Aa2, ca2, rfl, -⟩ := ha2.open_
  obtain ⟨Ab2, cb2, rfl, -⟩ := hb2.open_
  obtain ⟨Af2, cf2, rfl, -⟩ := hf2.open_
  obtain ⟨W0, hW0⟩ : ∃ W0, W0 = (w.alloc (.cells #[.int .i64 k1, .int .i64 Q1, .int .i64 N1, .slice Aa1 a1.length ca1, .slice Ab1 b1.length cb1, .slice Af1 f1.length cf1] 40)).alloc (.cells #[.int .i64 k2, .int .i64 Q2, .int .i64 N2, .slice Aa2 a2.length ca2, .slice Ab2 b2.length cb2, .slice Af2 f2.length cf2] 40) := ⟨_, rfl⟩
  have hbW : Below w.heap.size w W0 := by rw [hW0]; exact (below_alloc w _).alloc (by simp) _
  have hx1 : BL W0 w.heap.size 40 [.int .i64 k1, .int .i64 Q1, .int .i64 N1, .slice Aa1 a1.length ca1, .slice Ab1 b1.length cb1, .slice Af1 f1.length cf1] := by rw [hW0]; exact (BL.new' w _ _).alloc _
  have hx2 : BL W0 (w.heap.size + 1) 40 [.int .i64 k2, .int .i64 Q2, .int .i64 N2, .slice Aa2 a2.length ca2, .slice Ab2 b2.length cb2, .slice Af2 f2.length cf2] := by
    rw [hW0]
    have := BL.new' (w.alloc (.cells #[.int .i64 k1, .int .i64 Q1, .int .i64 N1, .slice Aa1 a1.length ca1, .slice Ab1 b1.length cb1, .slice Af1 f1.length cf1] 40)) #[.int .i64 k2, .int .i64 Q2, .int .i64 N2, .slice Aa2 a2.length ca2, .slice Ab2 b2.length cb2, .slice Af2 f2.length cf2] 40
    rwa [World.size_alloc] at this
  have HE1 : Hid (∀ n, Calls Tryz.prog 22 #[.slice Aa1 a1.length ca1, .slice Aa2 a2.length ca2] (W0.drewN n) (Quiet (W0.drewN n) (.bool (eqL a1 a2)))) := fun n => EqualD_any _ _ a1 a2 _ (RI.drewN' (RI.below ha1 hbW) n) (RI.drewN' (RI.below ha2 hbW) n)
  have HE2 : Hid (∀ n, Calls Tryz.prog 22 #[.slice Ab1 b1.length cb1, .slice Ab2 b2.length cb2] (W0.drewN n) (Quiet (W0.drewN n) (.bool (eqL b1 b2)))) := fun n => EqualD_any _ _ b1 b2 _ (RI.drewN' (RI.below hb1 hbW) n) (RI.drewN' (RI.below hb2 hbW) n)
  have HE3 : Hid (∀ n, Calls Tryz.prog 38 #[.slice Af1 f1.length cf1, .slice Af2 f2.length cf2] (W0.drewN n) (Quiet (W0.drewN n) (.bool (eqL f1 f2)))) := fun n => EqualI_any _ _ f1 f2 _ (RI.drewN' (RI.below hf1 hbW) n) (RI.drewN' (RI.below hf2 hbW) n)
  have HR : Hid (sameC k1 Q1 N1 a1 b1 f1 k2 Q2 N2 a2 b2 f2 = ((k1 == k2) && (Q1 == Q2) && (N1 == N2) && eqL a1 a2 && eqL b1 b2 && eqL f1 f2)) := rfl
  generalize sameC k1 Q1 N1 a1 b1 f1 k2 Q2 N2 a2 b2 f2 = E at *
  generalize eqL a1 a2 = ea at *
  generalize eqL b1 b2 = eb at *
  generalize eqL f1 f2 = ef at *
  have HX1 := Hd hx1
  have HX2 := Hd hx2
  have HBW := Hd hbW
  have HW0 := Hd hW0
  clear ha1 hb1 hf1 ha2 hb2 hf2 hx1 hx2 hbW hW0
  have x10 := HX1.out.cell 0
  have x11 := HX1.out.cell 1
  have x12 := HX1.out.cell 2
  have x13 := HX1.out.cell 3
  have x14 := HX1.out.cell 4
  have x15 := HX1.out.cell 5
  have x20 := HX2.out.cell 0
  have x21 := HX2.out.cell 1
  have x22 := HX2.out.cell 2
  have x23 := HX2.out.cell 3
  have x24 := HX2.out.cell 4
  have x25 := HX2.out.cell 5
  rw [HW0.out] at x10 x11 x12 x13 x14 x15 x20 x21 x22 x23 x24 x25
  cases t0 : (k1 == k2)
  · have hR : Hid (E = false) := by show _ = _; rw [HR.out, t0]; simp
    clear HR
    go_enter Tryz.func18, Tryz.ntmps18
    go_wp2
    go_ret
    exact ⟨ret_b hR.out.symm, by rw [← HW0.out]; exact HBW.out⟩
  cases t1 : (Q1 == Q2)
  · have hR : Hid (E = false) := by show _ = _; rw [HR.out, t1]; simp
    clear HR
    go_enter Tryz.func18, Tryz.ntmps18
    go_wp2
    go_ret
    exact ⟨ret_b hR.out.symm, by rw [← HW0.out]; exact HBW.out⟩
  cases t2 : (N1 == N2)
  · have hR : Hid (E = false) := by show _ = _; rw [HR.out, t2]; simp
    clear HR
    go_enter Tryz.func18, Tryz.ntmps18
    go_wp2
    go_ret
    exact ⟨ret_b hR.out.symm, by rw [← HW0.out]; exact HBW.out⟩
  rw [t0, t1, t2] at HR
  go_enter Tryz.func18, Tryz.ntmps18
  go_wp2_with fail
  rw [← HW0.out]
  refine (HE1.out 0).mono ?_
  rintro e w1 ⟨rfl, n1, rfl⟩
  have hw1 : (W0.drewN 0).drewN n1 = W0.drewN n1 := by simp
  rw [hw1]
  clear x10 x11 x12 x13 x14 x15
  have x10 : (W0.drewN n1).cell? ⟨w.heap.size, 0, none⟩ = _ := HX1.out.cell 0
  have x11 : (W0.drewN n1).cell? ⟨w.heap.size, 1, none⟩ = _ := HX1.out.cell 1
  have x12 : (W0.drewN n1).cell? ⟨w.heap.size, 2, none⟩ = _ := HX1.out.cell 2
  have x13 : (W0.drewN n1).cell? ⟨w.heap.size, 3, none⟩ = _ := HX1.out.cell 3
  have x14 : (W0.drewN n1).cell? ⟨w.heap.size, 4, none⟩ = _ := HX1.out.cell 4
  have x15 : (W0.drewN n1).cell? ⟨w.heap.size, 5, none⟩ = _ := HX1.out.cell 5
  clear x20 x21 x22 x23 x24 x25
  have x20 : (W0.drewN n1).cell? ⟨w.heap.size + 1, 0, none⟩ = _ := HX2.out.cell 0
  have x21 : (W0.drewN n1).cell? ⟨w.heap.size + 1, 1, none⟩ = _ := HX2.out.cell 1
  have x22 : (W0.drewN n1).cell? ⟨w.heap.size + 1, 2, none⟩ = _ := HX2.out.cell 2
  have x23 : (W0.drewN n1).cell? ⟨w.heap.size + 1, 3, none⟩ = _ := HX2.out.cell 3
  have x24 : (W0.drewN n1).cell? ⟨w.heap.size + 1, 4, none⟩ = _ := HX2.out.cell 4
  have x25 : (W0.drewN n1).cell? ⟨w.heap.size + 1, 5, none⟩ = _ := HX2.out.cell 5
  cases ea
  · have hR : Hid (E = false) := by show _ = _; rw [HR.out]; simp
    clear HR
    go_wp2
    go_ret
    exact ⟨ret_b hR.out.symm, below_drewN HBW.out n1⟩
  go_wp2_with fail
  refine (HE2.out n1).mono ?_
  rintro e w1 ⟨rfl, n2, rfl⟩
  have hw2 : (W0.drewN n1).drewN n2 = W0.drewN (n1 + n2) := by simp
  rw [hw2]
  clear x10 x11 x12 x13 x14 x15
  have x10 : (W0.drewN (n1 + n2)).cell? ⟨w.heap.size, 0, none⟩ = _ := HX1.out.cell 0
  have x11 : (W0.drewN (n1 + n2)).cell? ⟨w.heap.size, 1, none⟩ = _ := HX1.out.cell 1
  have x12 : (W0.drewN (n1 + n2)).cell? ⟨w.heap.size, 2, none⟩ = _ := HX1.out.cell 2
  have x13 : (W0.drewN (n1 + n2)).cell? ⟨w.heap.size, 3, none⟩ = _ := HX1.out.cell 3
  have x14 : (W0.drewN (n1 + n2)).cell? ⟨w.heap.size, 4, none⟩ = _ := HX1.out.cell 4
  have x15 : (W0.drewN (n1 + n2)).cell? ⟨w.heap.size, 5, none⟩ = _ := HX1.out.cell 5
  clear x20 x21 x22 x23 x24 x25
  have x20 : (W0.drewN (n1 + n2)).cell? ⟨w.heap.size + 1, 0, none⟩ = _ := HX2.out.cell 0
  have x21 : (W0.drewN (n1 + n2)).cell? ⟨w.heap.size + 1, 1, none⟩ = _ := HX2.out.cell 1
  have x22 : (W0.drewN (n1 + n2)).cell? ⟨w.heap.size + 1, 2, none⟩ = _ := HX2.out.cell 2
  have x23 : (W0.drewN (n1 + n2)).cell? ⟨w.heap.size + 1, 3, none⟩ = _ := HX2.out.cell 3
  have x24 : (W0.drewN (n1 + n2)).cell? ⟨w.heap.size + 1, 4, none⟩ = _ := HX2.out.cell 4
  have x25 : (W0.drewN (n1 + n2)).cell? ⟨w.heap.size + 1, 5, none⟩ = _ := HX2.out.cell 5
  cases eb
  · have hR : Hid (E = false) := by show _ = _; rw [HR.out]; simp
    clear HR
    go_wp2
    go_ret
    exact ⟨ret_b hR.out.symm, below_drewN HBW.out _⟩
  go_wp2_with fail
  refine (HE3.out (n1 + n2)).mono ?_
  rintro e w1 ⟨rfl, n3, rfl⟩
  have hR : Hid (E = ef) := by show _ = _; rw [HR.out]; simp
  clear HR
  go_wp2
  go_ret
  exact ⟨ret_b hR.out.symm, by first | exact below_drewN (below_drewN HBW.out _) n3 | exact below_drewN HBW.out _⟩
theorem rSame57_any (va1 vb1 vf1 va2 vb2 vf2 : Value) (k1 Q1 N1 : Int) (a1 b1 f1 : List Int) (k2 Q2 N2 : Int) (a2 b2 f2 : List Int) (w : World) (ha1 : RI w va1 a1) (hb1 : RI w vb1 b1) (hf1 : RI w vf1 f1) (ha2 : RI w va2 a2) (hb2 : RI w vb2 b2) (hf2 : RI w vf2 f2) :
    Calls Tryz.prog 19 #[.agg #[.int .i64 k1, .int .i64 Q1, .int .i64 N1, va1, vb1, vf1], .agg #[.int .i64 k2, .int .i64 Q2, .int .i64 N2, va2, vb2, vf2]] w fun e w' => e = .returned (.bool (sameC k1 Q1 N1 a1 b1 f1 k2 Q2 N2 a2 b2 f2)) ∧ Below w.heap.size w w' := by
  obtain ⟨Aa1, ca1, rfl, -⟩ := ha1.open_
  obtain ⟨Ab1, cb1, rfl, -⟩ := hb1.open_
  obtain ⟨Af1, cf1, rfl, -⟩ := hf1.open_
  obtain ⟨Aa2, ca2, rfl, -⟩ := ha2.open_
  obtain ⟨Ab2, cb2, rfl, -⟩ := hb2.open_
  obtain ⟨Af2, cf2, rfl, -⟩ := hf2.open_
  obtain ⟨W0, hW0⟩ : ∃ W0, W0 = (w.alloc (.cells #[.int .i64 k1, .int .i64 Q1, .int .i64 N1, .slice Aa1 a1.length ca1, .slice Ab1 b1.length cb1, .slice Af1 f1.length cf1] 47)).alloc (.cells #[.int .i64 k2, .int .i64 Q2, .int .i64 N2, .slice Aa2 a2.length ca2, .slice Ab2 b2.length cb2, .slice Af2 f2.length cf2] 47) := ⟨_, rfl⟩
  have hbW : Below w.heap.size w W0 := by rw [hW0]; exact (below_alloc w _).alloc (by simp) _
  have hx1 : BL W0 w.heap.size 47 [.int .i64 k1, .int .i64 Q1, .int .i64 N1, .slice Aa1 a1.length ca1, .slice Ab1 b1.length cb1, .slice Af1 f1.length cf1] := by rw [hW0]; exact (BL.new' w _ _).alloc _
  have hx2 : BL W0 (w.heap.size + 1) 47 [.int .i64 k2, .int .i64 Q2, .int .i64 N2, .slice Aa2 a2.length ca2, .slice Ab2 b2.length cb2, .slice Af2 f2.length cf2] := by
    rw [hW0]
    have := BL.new' (w.alloc (.cells #[.int .i64 k1, .int .i64 Q1, .int .i64 N1, .slice Aa1 a1.length ca1, .slice Ab1 b1.length cb1, .slice Af1 f1.length cf1] 47)) #[.int .i64 k2, .int .i64 Q2, .int .i64 N2, .slice Aa2 a2.length ca2, .slice Ab2 b2.length cb2, .slice Af2 f2.length cf2] 47
    rwa [World.size_alloc] at this
  have HE1 : Hid (∀ n, Calls Tryz.prog 39 #[.slice Aa1 a1.length ca1, .slice Aa2 a2.length ca2] (W0.drewN n) (Quiet (W0.drewN n) (.bool (eqL a1 a2)))) := fun n => rSame17_any _ _ a1 a2 _ (RI.drewN' (RI.below ha1 hbW) n) (RI.drewN' (RI.below ha2 hbW) n)
  have HE2 : Hid (∀ n, Calls Tryz.prog 39 #[.slice Ab1 b1.length cb1, .slice Ab2 b2.length cb2] (W0.drewN n) (Quiet (W0.drewN n) (.bool (eqL b1 b2)))) := fun n => rSame17_any _ _ b1 b2 _ (RI.drewN' (RI.below hb1 hbW) n) (RI.drewN' (RI.below hb2 hbW) n)
  have HE3 : Hid (∀ n, Calls Tryz.prog 40 #[.slice Af1 f1.length cf1, .slice Af2 f2.length cf2] (W0.drewN n) (Quiet (W0.drewN n) (.bool (eqL f1 f2)))) := fun n => SameInts08_any _ _ f1 f2 _ (RI.drewN' (RI.below hf1 hbW) n) (RI.drewN' (RI.below hf2 hbW) n)
  have HR : Hid (sameC k1 Q1 N1 a1 b1 f1 k2 Q2 N2 a2 b2 f2 = ((k1 == k2) && (Q1 == Q2) && (N1 == N2) && eqL a1 a2 && eqL b1 b2 && eqL f1 f2)) := rfl
  generalize sameC k1 Q1 N1 a1 b1 f1 k2 Q2 N2 a2 b2 f2 = E at *
  generalize eqL a1 a2 = ea at *
  generalize eqL b1 b2 = eb at *
  generalize eqL f1 f2 = ef at *
  have HX1 := Hd hx1
  have HX2 := Hd hx2
  have HBW := Hd hbW
  have HW0 := Hd hW0
  clear ha1 hb1 hf1 ha2 hb2 hf2 hx1 hx2 hbW hW0
  have x10 := HX1.out.cell 0
  have x11 := HX1.out.cell 1
  have x12 := HX1.out.cell 2
  have x13 := HX1.out.cell 3
  have x14 := HX1.out.cell 4
  have x15 := HX1.out.cell 5
  have x20 := HX2.out.cell 0
  have x21 := HX2.out.cell 1
  have x22 := HX2.out.cell 2
  have x23 := HX2.out.cell 3
  have x24 := HX2.out.cell 4
  have x25 := HX2.out.cell 5
  rw [HW0.out] at x10 x11 x12 x13 x14 x15 x20 x21 x22 x23 x24 x25
  cases t0 : (k1 == k2)
  · have hR : Hid (E = false) := by show _ = _; rw [HR.out, t0]; simp
    clear HR
    go_enter Tryz.func19, Tryz.ntmps19
    go_wp2
    go_ret
    exact ⟨ret_b hR.out.symm, by rw [← HW0.out]; exact HBW.out⟩
  cases t1 : (Q1 == Q2)
  · have hR : Hid (E = false) := by show _ = _; rw [HR.out, t1]; simp
    clear HR
    go_enter Tryz.func19, Tryz.ntmps19
    go_wp2
    go_ret
    exact ⟨ret_b hR.out.symm, by rw [← HW0.out]; exact HBW.out⟩
  cases t2 : (N1 == N2)
  · have hR : Hid (E = false) := by show _ = _; rw [HR.out, t2]; simp
    clear HR
    go_enter Tryz.func19, Tryz.ntmps19
    go_wp2
    go_ret
    exact ⟨ret_b hR.out.symm, by rw [← HW0.out]; exact HBW.out⟩
  rw [t0, t1, t2] at HR
  go_enter Tryz.func19, Tryz.ntmps19
  go_wp2_with fail
  rw [← HW0.out]
  refine (HE1.out 0).mono ?_
  rintro e w1 ⟨rfl, n1, rfl⟩
  have hw1 : (W0.drewN 0).drewN n1 = W0.drewN n1 := by simp
  rw [hw1]
  clear x10 x11 x12 x13 x14 x15
  have x10 : (W0.drewN n1).cell? ⟨w.heap.size, 0, none⟩ = _ := HX1.out.cell 0
  have x11 : (W0.drewN n1).cell? ⟨w.heap.size, 1, none⟩ = _ := HX1.out.cell 1
  have x12 : (W0.drewN n1).cell? ⟨w.heap.size, 2, none⟩ = _ := HX1.out.cell 2
  have x13 : (W0.drewN n1).cell? ⟨w.heap.size, 3, none⟩ = _ := HX1.out.cell 3
  have x14 : (W0.drewN n1).cell? ⟨w.heap.size, 4, none⟩ = _ := HX1.out.cell 4
  have x15 : (W0.drewN n1).cell? ⟨w.heap.size, 5, none⟩ = _ := HX1.out.cell 5
  clear x20 x21 x22 x23 x24 x25
  have x20 : (W0.drewN n1).cell? ⟨w.heap.size + 1, 0, none⟩ = _ := HX2.out.cell 0
  have x21 : (W0.drewN n1).cell? ⟨w.heap.size + 1, 1, none⟩ = _ := HX2.out.cell 1
  have x22 : (W0.drewN n1).cell? ⟨w.heap.size + 1, 2, none⟩ = _ := HX2.out.cell 2
  have x23 : (W0.drewN n1).cell? ⟨w.heap.size + 1, 3, none⟩ = _ := HX2.out.cell 3
  have x24 : (W0.drewN n1).cell? ⟨w.heap.size + 1, 4, none⟩ = _ := HX2.out.cell 4
  have x25 : (W0.drewN n1).cell? ⟨w.heap.size + 1, 5, none⟩ = _ := HX2.out.cell 5
  cases ea
  · have hR : Hid (E = false) := by show _ = _; rw [HR.out]; simp
    clear HR
    go_wp2
    go_ret
    exact ⟨ret_b hR.out.symm, below_drewN HBW.out n1⟩
  go_wp2_with fail
  refine (HE2.out n1).mono ?_
  rintro e w1 ⟨rfl, n2, rfl⟩
  have hw2 : (W0.drewN n1).drewN n2 = W0.drewN (n1 + n2) := by simp
  rw [hw2]
  clear x10 x11 x12 x13 x14 x15
  have x10 : (W0.drewN (n1 + n2)).cell? ⟨w.heap.size, 0, none⟩ = _ := HX1.out.cell 0
  have x11 : (W0.drewN (n1 + n2)).cell? ⟨w.heap.size, 1, none⟩ = _ := HX1.out.cell 1
  have x12 : (W0.drewN (n1 + n2)).cell? ⟨w.heap.size, 2, none⟩ = _ := HX1.out.cell 2
  have x13 : (W0.drewN (n1 + n2)).cell? ⟨w.heap.size, 3, none⟩ = _ := HX1.out.cell 3
  have x14 : (W0.drewN (n1 + n2)).cell? ⟨w.heap.size, 4, none⟩ = _ := HX1.out.cell 4
  have x15 : (W0.drewN (n1 + n2)).cell? ⟨w.heap.size, 5, none⟩ = _ := HX1.out.cell 5
  clear x20 x21 x22 x23 x24 x25
  have x20 : (W0.drewN (n1 + n2)).cell? ⟨w.heap.size + 1, 0, none⟩ = _ := HX2.out.cell 0
  have x21 : (W0.drewN (n1 + n2)).cell? ⟨w.heap.size + 1, 1, none⟩ = _ := HX2.out.cell 1
  have x22 : (W0.drewN (n1 + n2)).cell? ⟨w.heap.size + 1, 2, none⟩ = _ := HX2.out.cell 2
  have x23 : (W0.drewN (n1 + n2)).cell? ⟨w.heap.size + 1, 3, none⟩ = _ := HX2.out.cell 3
  have x24 : (W0.drewN (n1 + n2)).cell? ⟨w.heap.size + 1, 4, none⟩ = _ := HX2.out.cell 4
  have x25 : (W0.drewN (n1 + n2)).cell? ⟨w.heap.size + 1, 5, none⟩ = _ := HX2.out.cell 5
  cases eb
  · have hR : Hid (E = false) := by show _ = _; rw [HR.out]; simp
    clear HR
    go_wp2
    go_ret
    exact ⟨ret_b hR.out.symm, below_drewN HBW.out _⟩
  go_wp2_with fail
  refine (HE3.out (n1 + n2)).mono ?_
  rintro e w1 ⟨rfl, n3, rfl⟩
  have hR : Hid (E = ef) := by show _ = _; rw [HR.out]; simp
  clear HR
  go_wp2
  go_ret
  exact ⟨ret_b hR.out.symm, by first | exact below_drewN (below_drewN HBW.out _) n3 | exact below_drewN HBW.out _⟩
open Go.RowKit Go.Shelf

theorem sameC_refl (k Q N : Int) (a b f : List Int) : sameC k Q N a b f k Q N a b f = true := by
  unfold sameC
  rw [(eqL_iff a a).2 rfl, (eqL_iff b b).2 rfl, (eqL_iff f f).2 rfl]
  simp
open Go.RowKit Go.Shelf

theorem comparesLaw_any (va1 vb1 vf1 va2 vb2 vf2 : Value) (k1 Q1 N1 : Int) (a1 b1 f1 : List Int) (k2 Q2 N2 : Int) (a2 b2 f2 : List Int) (w : World) (ha1 : RI w va1 a1) (hb1 : RI w vb1 b1) (hf1 : RI w vf1 f1) (ha2 : RI w va2 a2) (hb2 : RI w vb2 b2) (hf2 : RI w vf2 f2) (hlv : LV w) (ht : TB w) :
    Calls Tryz.prog 5 #[.agg #[.int .i64 k1, .int .i64 Q1, .int .i64 N1, va1, vb1, vf1], .agg #[.int .i64 k2, .int .i64 Q2, .int .i64 N2, va2, vb2, vf2]] w fun e w' => e = .returned (.bool true) ∧ Below w.heap.size w w' := by
  have HA1 := Hd ha1
  have HD1 := Hd hb1
  have HF1 := Hd hf1
  have HA2 := Hd ha2
  have HD2 := Hd hb2
  have HF2 := Hd hf2
  have HLV := Hd hlv
  have HT := Hd ht
  obtain ⟨Aa1, ca1, rfl, -⟩ := ha1.open_
  obtain ⟨Ab1, cb1, rfl, -⟩ := hb1.open_
  obtain ⟨Af1, cf1, rfl, -⟩ := hf1.open_
  obtain ⟨Aa2, ca2, rfl, -⟩ := ha2.open_
  obtain ⟨Ab2, cb2, rfl, -⟩ := hb2.open_
  obtain ⟨Af2, cf2, rfl, -⟩ := hf2.open_
  obtain ⟨W0, hW0⟩ : ∃ W0, W0 = (w.alloc (.cells #[.int .i64 k1, .int .i64 Q1, .int .i64 N1, .slice Aa1 a1.length ca1, .slice Ab1 b1.length cb1, .slice Af1 f1.length cf1] 40)).alloc (.cells #[.int .i64 k2, .int .i64 Q2, .int .i64 N2, .slice Aa2 a2.length ca2, .slice Ab2 b2.length cb2, .slice Af2 f2.length cf2] 40) := ⟨_, rfl⟩
  have hbW : Below w.heap.size w W0 := by rw [hW0]; exact (below_alloc w _).alloc (by simp) _
  have HX1 : Hid (BL W0 w.heap.size 40 [.int .i64 k1, .int .i64 Q1, .int .i64 N1, .slice Aa1 a1.length ca1, .slice Ab1 b1.length cb1, .slice Af1 f1.length cf1]) := by
    show BL _ _ _ _
    rw [hW0]; exact (BL.new' w _ _).alloc _
  have HX2 : Hid (BL W0 (w.heap.size + 1) 40 [.int .i64 k2, .int .i64 Q2, .int .i64 N2, .slice Aa2 a2.length ca2, .slice Ab2 b2.length cb2, .slice Af2 f2.length cf2]) := by
    show BL _ _ _ _
    rw [hW0]
    have := BL.new' (w.alloc (.cells #[.int .i64 k1, .int .i64 Q1, .int .i64 N1, .slice Aa1 a1.length ca1, .slice Ab1 b1.length cb1, .slice Af1 f1.length cf1] 40)) #[.int .i64 k2, .int .i64 Q2, .int .i64 N2, .slice Aa2 a2.length ca2, .slice Ab2 b2.length cb2, .slice Af2 f2.length cf2] 40
    rwa [World.size_alloc] at this
  have HB0 := Hd hbW
  have HW0 := Hd hW0
  have HBt : Hid (∀ W, Below W0.heap.size W0 W → Below w.heap.size w W) := fun W h => hbW.trans (h.mono hbW.size)
  have HPs : Hid (∀ W, Below W0.heap.size W0 W → Calls Tryz.prog 18 #[.agg #[.int .i64 k1, .int .i64 Q1, .int .i64 N1, .slice Aa1 a1.length ca1, .slice Ab1 b1.length cb1, .slice Af1 f1.length cf1], .agg #[.int .i64 k2, .int .i64 Q2, .int .i64 N2, .slice Aa2 a2.length ca2, .slice Ab2 b2.length cb2, .slice Af2 f2.length cf2]] W fun e w' => e = .returned (.bool (sameC k1 Q1 N1 a1 b1 f1 k2 Q2 N2 a2 b2 f2)) ∧ Below W.heap.size W w') := fun W h =>
    pSame_any _ _ _ _ _ _ k1 Q1 N1 a1 b1 f1 k2 Q2 N2 a2 b2 f2 W (RI.below HA1.out (HBt.out W h)) (RI.below HD1.out (HBt.out W h)) (RI.below HF1.out (HBt.out W h)) (RI.below HA2.out (HBt.out W h)) (RI.below HD2.out (HBt.out W h)) (RI.below HF2.out (HBt.out W h))
  have HRs : Hid (∀ W, Below W0.heap.size W0 W → Calls Tryz.prog 19 #[.agg #[.int .i64 k1, .int .i64 Q1, .int .i64 N1, .slice Aa1 a1.length ca1, .slice Ab1 b1.length cb1, .slice Af1 f1.length cf1], .agg #[.int .i64 k2, .int .i64 Q2, .int .i64 N2, .slice Aa2 a2.length ca2, .slice Ab2 b2.length cb2, .slice Af2 f2.length cf2]] W fun e w' => e = .returned (.bool (sameC k1 Q1 N1 a1 b1 f1 k2 Q2 N2 a2 b2 f2)) ∧ Below W.heap.size W w') := fun W h =>
    rSame57_any _ _ _ _ _ _ k1 Q1 N1 a1 b1 f1 k2 Q2 N2 a2 b2 f2 W (RI.below HA1.out (HBt.out W h)) (RI.below HD1.out (HBt.out W h)) (RI.below HF1.out (HBt.out W h)) (RI.below HA2.out (HBt.out W h)) (RI.below HD2.out (HBt.out W h)) (RI.below HF2.out (HBt.out W h))
  have HPa : Hid (∀ W, Below W0.heap.size W0 W → Calls Tryz.prog 18 #[.agg #[.int .i64 k1, .int .i64 Q1, .int .i64 N1, .slice Aa1 a1.length ca1, .slice Ab1 b1.length cb1, .slice Af1 f1.length cf1], .agg #[.int .i64 k1, .int .i64 Q1, .int .i64 N1, .slice Aa1 a1.length ca1, .slice Ab1 b1.length cb1, .slice Af1 f1.length cf1]] W fun e w' => e = .returned (.bool true) ∧ Below W.heap.size W w') := fun W h => by
    have h1 := pSame_any _ _ _ _ _ _ k1 Q1 N1 a1 b1 f1 k1 Q1 N1 a1 b1 f1 W (RI.below HA1.out (HBt.out W h)) (RI.below HD1.out (HBt.out W h)) (RI.below HF1.out (HBt.out W h)) (RI.below HA1.out (HBt.out W h)) (RI.below HD1.out (HBt.out W h)) (RI.below HF1.out (HBt.out W h))
    rwa [sameC_refl] at h1
  have HAw : Hid (∀ W, Below W0.heap.size W0 W → Calls Tryz.prog 6 #[] W fun e w' => e = .returned (.bool true) ∧ Below W.heap.size W w') := fun W h => awake57_any W (HLV.out.below (HBt.out W h)) (HT.out.below (HBt.out W h))
  clear ha1 hb1 hf1 ha2 hb2 hf2 hlv ht hbW hW0
  generalize sameC k1 Q1 N1 a1 b1 f1 k2 Q2 N2 a2 b2 f2 = R at *
  have HKp : Hid (∀ W : World, Below W0.heap.size W0 W → (fun W' : World => (W'.cell? ⟨w.heap.size, 0, none⟩ = some (.int .i64 k1) ∧ W'.cell? ⟨w.heap.size, 1, none⟩ = some (.int .i64 Q1) ∧ W'.cell? ⟨w.heap.size, 2, none⟩ = some (.int .i64 N1) ∧ W'.cell? ⟨w.heap.size, 3, none⟩ = some (.slice Aa1 a1.length ca1) ∧ W'.cell? ⟨w.heap.size, 4, none⟩ = some (.slice Ab1 b1.length cb1) ∧ W'.cell? ⟨w.heap.size, 5, none⟩ = some (.slice Af1 f1.length cf1)) ∧ W'.cell? ⟨w.heap.size + 1, 0, none⟩ = some (.int .i64 k2) ∧ W'.cell? ⟨w.heap.size + 1, 1, none⟩ = some (.int .i64 Q2) ∧ W'.cell? ⟨w.heap.size + 1, 2, none⟩ = some (.int .i64 N2) ∧ W'.cell? ⟨w.heap.size + 1, 3, none⟩ = some (.slice Aa2 a2.length ca2) ∧ W'.cell? ⟨w.heap.size + 1, 4, none⟩ = some (.slice Ab2 b2.length cb2) ∧ W'.cell? ⟨w.heap.size + 1, 5, none⟩ = some (.slice Af2 f2.length cf2)) W) := fun W h =>
    ⟨⟨(HX1.out.bel h).cell 0, (HX1.out.bel h).cell 1, (HX1.out.bel h).cell 2, (HX1.out.bel h).cell 3, (HX1.out.bel h).cell 4, (HX1.out.bel h).cell 5⟩, (HX2.out.bel h).cell 0, (HX2.out.bel h).cell 1, (HX2.out.bel h).cell 2, (HX2.out.bel h).cell 3, (HX2.out.bel h).cell 4, (HX2.out.bel h).cell 5⟩
  have HBc := Hd ((Below.refl W0.heap.size W0).drew)
  have HSc := Hd (HKp.out _ HBc.out)
  have hRR : (R == R) = true := by simp
  go_enter Tryz.func5, Tryz.ntmps5
  go_upto_region 1 with fail
  rw [← HW0.out]
  go_region_held3 (fun W' : World => (W'.cell? ⟨w.heap.size, 0, none⟩ = some (.int .i64 k1) ∧ W'.cell? ⟨w.heap.size, 1, none⟩ = some (.int .i64 Q1) ∧ W'.cell? ⟨w.heap.size, 2, none⟩ = some (.int .i64 N1) ∧ W'.cell? ⟨w.heap.size, 3, none⟩ = some (.slice Aa1 a1.length ca1) ∧ W'.cell? ⟨w.heap.size, 4, none⟩ = some (.slice Ab1 b1.length cb1) ∧ W'.cell? ⟨w.heap.size, 5, none⟩ = some (.slice Af1 f1.length cf1)) ∧ W'.cell? ⟨w.heap.size + 1, 0, none⟩ = some (.int .i64 k2) ∧ W'.cell? ⟨w.heap.size + 1, 1, none⟩ = some (.int .i64 Q2) ∧ W'.cell? ⟨w.heap.size + 1, 2, none⟩ = some (.int .i64 N2) ∧ W'.cell? ⟨w.heap.size + 1, 3, none⟩ = some (.slice Aa2 a2.length ca2) ∧ W'.cell? ⟨w.heap.size + 1, 4, none⟩ = some (.slice Ab2 b2.length cb2) ∧ W'.cell? ⟨w.heap.size + 1, 5, none⟩ = some (.slice Af2 f2.length cf2)) (first | exact HSc.out)
    (first
      | (go_at_call 18; (first | (with_reducible refine (HPs.out _ HBc.out).mono ?_) | (with_reducible refine (HPa.out _ HBc.out).mono ?_)); rintro e wx ⟨rfl, hbx⟩; have HBc := Hd (HBc.out.trans (hbx.mono HBc.out.size)); have HSc := Hd (HKp.out _ HBc.out); clear hbx)
      | (go_at_call 19; (with_reducible refine (HRs.out _ HBc.out).mono ?_); rintro e wx ⟨rfl, hbx⟩; have HBc := Hd (HBc.out.trans (hbx.mono HBc.out.size)); have HSc := Hd (HKp.out _ HBc.out); clear hbx)
      | (go_at_call 6; (with_reducible refine (HAw.out _ HBc.out).mono ?_); rintro e wx ⟨rfl, hbx⟩; have HBc := Hd (HBc.out.trans (hbx.mono HBc.out.size)); have HSc := Hd (HKp.out _ HBc.out); clear hbx))
  all_goals
    go_wp2
    go_ret
    exact ⟨rfl, HBt.out _ HBc.out⟩
end Go.Proofs.YteamhbohgoclgaaGreatDoor

