/- Contracts of the reference of layer 17: sums, orders, comparisons. -/
import Derived.Test.YtcmkllfocifnlaaRefA
namespace Go.Proofs.Ytcmkllfocifnlaa
open Go.RowKit Go.Shelf

set_option maxHeartbeats 400000 in
theorem Total_any (v : Value) (xs : List Int) (w : World) (hv : RI w v xs) (hb : xs.all InB = true) (hl : xs.length ≤ 1073741824) :
    Calls Try.prog 72 #[v] w fun e w' => e = .returned (.int .i64 xs.sum) ∧ w = w' := by
  obtain ⟨A, c, rfl, hlc, hc, hcell⟩ := hv.open_
  have HA := Lib.hid hcell
  have L3 := Lib.hid hb
  clear hcell hv hb
  go_enter Try.func72, Try.ntmps72
  go_wp2
  go_loop [3, 4] (fun t i => ∃ k : Nat, k ≤ xs.length ∧ i = .int .i64 k ∧ t = .int .i64 (xs.take k).sum) (fun _ i => xs.length - (intOf i).toNat)
  case atStart => exact ⟨0, Nat.zero_le _, rfl, by simp⟩
  case round =>
    obtain ⟨k, hk, rfl, rfl⟩ := hrel
    have hsb := sum_bd (xs.take k) (all_take L3.out k)
    rw [List.length_take] at hsb
    have hsb1 : -1125899906842624 ≤ (xs.take k).sum := by omega
    have hsb2 : (xs.take k).sum ≤ 1125899906842624 := by omega
    clear hsb
    by_cases hlt : k < xs.length
    · obtain ⟨ad, z, rfl, hadb, hz, hcl⟩ := HA.out k hlt
      obtain ⟨hz1, hz2⟩ := inB_at L3.out hz.out
      have HS := Lib.hid (sum_take_succ hz.out)
      clear HA
      go_wp2
      go_round
      case rel => exact ⟨k + 1, by omega, by go_num, by rw [HS.out]⟩
      case measure => simp [intOf]; omega
    · go_wp2
      go_ret
      exact ⟨ret_i (by rw [List.take_of_length_le (by omega)]), rfl⟩

set_option maxHeartbeats 400000 in
theorem rDegree_any (va : Value) (xs : List Int) (w : World) (ha : RI w va xs) :
    Calls Try.prog 32 #[va] w fun e w' => e = .returned (.tuple #[.int .i64 (degL xs).1, .int .i64 (degL xs).2]) ∧ w = w' := by
  have h1 := Lib.hid (Own_any va xs w ha)
  by_cases h0 : checkE xs xs.length = 0
  · obtain ⟨l1, l2, l3⟩ := checkE_zero h0
    have h2 := Lib.hid (Total_any va xs w ha l3 (by omega))
    have E : Hid (degL xs = (xs.sum, 0)) := by show _ = _; simp [degL, h0]
    rw [h0] at h1
    rw [E.out]
    clear ha l3 h0
    go_enter Try.func32, Try.ntmps32
    go_wp2_with (first | (go_at_call 41; refine h1.out.mono ?_; rintro e w' ⟨rfl, rfl⟩) | (go_at_call 72; refine h2.out.mono ?_; rintro e w' ⟨rfl, rfl⟩))
    go_ret2
    exact ⟨rfl, rfl⟩
  · have h0' : (checkE xs xs.length != 0) = true := by simp [h0]
    have E : Hid (degL xs = (0, checkE xs xs.length)) := by show _ = _; simp [degL, h0]
    rw [E.out]
    clear ha h0
    go_enter Try.func32, Try.ntmps32
    go_wp2_with (go_at_call 41; refine h1.out.mono ?_; rintro e w' ⟨rfl, rfl⟩)
    go_ret2
    exact ⟨rfl, rfl⟩

set_option maxHeartbeats 400000 in
theorem rEffective_any (va : Value) (xs : List Int) (w : World) (ha : RI w va xs) :
    Calls Try.prog 34 #[va] w fun e w' => e = .returned (.tuple #[.bool (effL xs).1, .int .i64 (effL xs).2]) ∧ w = w' := by
  have h1 := Lib.hid (Own_any va xs w ha)
  have h2 := Lib.hid (Paid_any va xs w ha)
  by_cases h0 : checkE xs xs.length = 0
  · have E : Hid (effL xs = (xs.all (fun z => decide (0 ≤ z)), 0)) := by show _ = _; simp [effL, h0]
    rw [h0] at h1
    rw [E.out]
    clear ha h0
    go_enter Try.func34, Try.ntmps34
    go_wp2_with (first | (go_at_call 41; refine h1.out.mono ?_; rintro e w' ⟨rfl, rfl⟩) | (go_at_call 71; refine h2.out.mono ?_; rintro e w' ⟨rfl, rfl⟩))
    go_ret2
    exact ⟨rfl, rfl⟩
  · have h0' : (checkE xs xs.length != 0) = true := by simp [h0]
    have E : Hid (effL xs = (false, checkE xs xs.length)) := by show _ = _; simp [effL, h0]
    rw [E.out]
    clear ha h0
    go_enter Try.func34, Try.ntmps34
    go_wp2_with (go_at_call 41; refine h1.out.mono ?_; rintro e w' ⟨rfl, rfl⟩)
    go_ret2
    exact ⟨rfl, rfl⟩

set_option maxHeartbeats 1000000 in
theorem Order_any (va vb : Value) (xs ys : List Int) (w : World) (ha : RI w va xs) (hb : RI w vb ys) (hl : xs.length = ys.length) :
    Calls Try.prog 40 #[va, vb] w (Quiet w (.int .i64 (cmpL xs ys))) := by
  obtain ⟨A, c, rfl, hlc, hc, hcell⟩ := ha.open_
  obtain ⟨A', c', rfl, hlc', hc', hcell'⟩ := hb.open_
  have HA := Lib.hid hcell
  have HB := Lib.hid hcell'
  have HL := Lib.hid hl
  clear hcell hcell' ha hb hl
  go_enter Try.func40, Try.ntmps40
  go_wp2
  go_loopw [5] (fun i wr => ∃ k : Nat, k ≤ xs.length ∧ i = .int .i64 k ∧ Hid (cmpL (xs.drop k) (ys.drop k) = cmpL xs ys) ∧ Dr w wr) (fun i _ => xs.length - (intOf i).toNat)
  case atStart => exact ⟨0, Nat.zero_le _, rfl, rfl, Dr.refl _⟩
  case round =>
    obtain ⟨k, hk, rfl, he, hdr⟩ := hrel
    by_cases hlt : k < xs.length
    · obtain ⟨ad, z, rfl, _, hz, hcl⟩ := HA.out k hlt
      have hlt' : k < ys.length := by have := HL.out; omega
      obtain ⟨ad', z', rfl, _, hz', hcl'⟩ := HB.out k hlt'
      have hcw := (hdr.cell _).trans hcl
      have hcw' := (hdr.cell _).trans hcl'
      have HD := Lib.hid (drop_at hz)
      have HD' := Lib.hid (drop_at hz')
      clear HA HB
      by_cases c1 : z < z'
      · go_wp2_with fail
        go_quiet (fail)
        go_wp2
        go_ret
        refine ⟨ret_i ?_, (by repeat (first | assumption | exact Dr.refl _ | apply Dr.drewN | apply Dr.drew))⟩
        rw [← he.out, HD.out, HD'.out]; simp [cmpL, c1]
      · by_cases c2 : z' < z
        · go_wp2_with fail
          go_quiet (fail)
          go_wp2_with fail
          go_quiet (fail)
          go_wp2
          go_ret
          refine ⟨ret_i ?_, (by repeat (first | assumption | exact Dr.refl _ | apply Dr.drewN | apply Dr.drew))⟩
          rw [← he.out, HD.out, HD'.out]; simp [cmpL, c1, c2]
        · go_wp2_with fail
          go_quiet (fail)
          go_wp2_with fail
          go_quiet (fail)
          go_wp2
          go_roundw
          case rel => exact ⟨k + 1, by omega, by go_num, by show _ = _; rw [← he.out, HD.out, HD'.out]; rw [show z' = z by omega]; simp [cmpL], (by repeat (first | assumption | exact Dr.refl _ | apply Dr.drewN | apply Dr.drew))⟩
          case measure => simp [intOf]; omega
    · go_wp2
      go_ret
      refine ⟨ret_i ?_, hdr⟩
      rw [← he.out, List.drop_of_length_le (by omega), List.drop_of_length_le (by have := HL.out; omega)]; rfl

theorem cmpL_zero (xs ys : List Int) (h : xs.length = ys.length) : cmpL xs ys = 0 ↔ xs = ys := by
  induction xs generalizing ys with
  | nil => cases ys <;> simp_all [cmpL]
  | cons x r ih =>
    cases ys with
    | nil => simp at h
    | cons y s =>
      simp only [cmpL]
      by_cases c1 : x < y
      · simp [c1]; omega
      · by_cases c2 : y < x
        · simp [c1, c2]; omega
        · rw [if_neg c1, if_neg c2, ih s (by simpa using h)]
          simp; intro _; omega

set_option maxHeartbeats 400000 in
theorem Same_any (va vb : Value) (xs ys : List Int) (w : World) (ha : RI w va xs) (hb : RI w vb ys) :
    Calls Try.prog 22 #[va, vb] w (Quiet w (.bool (eqL xs ys))) := by
  by_cases hl : xs.length = ys.length
  · have h1 := Lib.hid (Order_any va vb xs ys w ha hb hl)
    have E : Hid (eqL xs ys = (cmpL xs ys == 0)) := by
      show _ = _
      rw [Bool.eq_iff_iff, eqL_iff, beq_iff_eq, cmpL_zero xs ys hl]
    obtain ⟨A, c, rfl, hlc, hc, -⟩ := ha.open_
    obtain ⟨A', c', rfl, hlc', hc', -⟩ := hb.open_
    have hl' : ((xs.length : Int) != ys.length) = false := by simp [hl]
    clear ha hb hl
    go_enter Try.func22, Try.ntmps22
    go_wp2_with (go_at_call 40; refine h1.out.mono ?_; rintro e w' ⟨rfl, n, rfl⟩)
    go_ret
    exact ⟨ret_b E.out.symm, n, rfl⟩
  · have E : Hid (eqL xs ys = false) := eqL_len hl
    obtain ⟨A, c, rfl, hlc, hc, -⟩ := ha.open_
    obtain ⟨A', c', rfl, hlc', hc', -⟩ := hb.open_
    have hl' : ((xs.length : Int) != ys.length) = true := by simp; omega
    clear ha hb hl
    go_enter Try.func22, Try.ntmps22
    go_wp2
    go_ret
    exact ⟨ret_b E.out.symm, 0, rfl⟩

set_option maxHeartbeats 1000000 in
theorem SameInts_any (va vb : Value) (xs ys : List Int) (w : World) (ha : RI w va xs) (hb : RI w vb ys) :
    Calls Try.prog 39 #[va, vb] w (Quiet w (.bool (eqL xs ys))) := by
  obtain ⟨A, c, rfl, hlc, hc, hcell⟩ := ha.open_
  obtain ⟨A', c', rfl, hlc', hc', hcell'⟩ := hb.open_
  have HA := Lib.hid hcell
  have HB := Lib.hid hcell'
  clear hcell hcell' ha hb
  by_cases hl : xs.length = ys.length
  · have hl' : ((xs.length : Int) != ys.length) = false := by simp [hl]
    have HL := Lib.hid hl
    clear hl
    go_enter Try.func39, Try.ntmps39
    go_wp2
    go_loopw [5] (fun i wr => ∃ k : Nat, k ≤ xs.length ∧ i = .int .i64 k ∧ Hid (eqL (xs.drop k) (ys.drop k) = eqL xs ys) ∧ Dr w wr) (fun i _ => xs.length - (intOf i).toNat)
    case atStart => exact ⟨0, Nat.zero_le _, rfl, rfl, Dr.refl _⟩
    case round =>
      obtain ⟨k, hk, rfl, he, hdr⟩ := hrel
      by_cases hlt : k < xs.length
      · obtain ⟨ad, z, rfl, _, hz, hcl⟩ := HA.out k hlt
        have hlt' : k < ys.length := by have := HL.out; omega
        obtain ⟨ad', z', rfl, _, hz', hcl'⟩ := HB.out k hlt'
        have hcw := (hdr.cell _).trans hcl
        have hcw' := (hdr.cell _).trans hcl'
        have HD := Lib.hid (drop_at hz)
        have HD' := Lib.hid (drop_at hz')
        clear HA HB
        go_wp2_with fail
        go_quiet (fail)
        go_wp2
        · have hne : z ≠ z' := by have : (z != z') = true := by assumption
                                  simpa using this
          go_ret
          refine ⟨ret_b ?_, (by repeat (first | assumption | exact Dr.refl _ | apply Dr.drewN | apply Dr.drew))⟩
          rw [← he.out, HD.out, HD'.out]
          simp [eqL, hne]
        · have heq : z = z' := by have : (z != z') = false := by assumption
                                  simpa using this
          go_roundw
          case rel => exact ⟨k + 1, by omega, by go_num, by show _ = _; rw [← he.out, HD.out, HD'.out]; simp [eqL, heq], (by repeat (first | assumption | exact Dr.refl _ | apply Dr.drewN | apply Dr.drew))⟩
          case measure => simp [intOf]; omega
      · go_wp2
        go_ret
        refine ⟨ret_b ?_, hdr⟩
        rw [← he.out, List.drop_of_length_le (by omega), List.drop_of_length_le (by have := HL.out; omega)]; rfl
  · have hl' : ((xs.length : Int) != ys.length) = true := by simp; omega
    have HL := Lib.hid hl
    clear hl
    go_enter Try.func39, Try.ntmps39
    go_wp2
    go_ret
    exact ⟨ret_b (eqL_len HL.out).symm, 0, rfl⟩

theorem quiet_ofQ {P : Program} {f : FuncId} {args : Array Value} {w : World} {n : Nat} {v : Value} (h : Calls P f args (w.drewN n) (Quiet (w.drewN n) v)) :
    Calls P f args (w.drewN n) fun e w'' => e = .returned v ∧ ∃ m, w'' = w.drewN m := Calls.quiet_of h
/-- Equality of lists of divisors. -/
def eqS : List (List Int) → List (List Int) → Bool
  | [], [] => true
  | x :: r, y :: s => eqL x y && eqS r s
  | _, _ => false
theorem eqS_iff (xs ys : List (List Int)) : eqS xs ys = true ↔ xs = ys := by
  induction xs generalizing ys with
  | nil => cases ys <;> simp [eqS]
  | cons x r ih => cases ys <;> simp [eqS, ih, eqL_iff]
theorem eqS_len {xs ys : List (List Int)} (h : xs.length ≠ ys.length) : eqS xs ys = false := by
  rw [Bool.eq_false_iff]; intro e; exact h (congrArg List.length ((eqS_iff _ _).1 e))
theorem RI.drewN {w : World} {v : Value} {zs : List Int} (h : RI w v zs) (n : Nat) : RI (w.drewN n) v zs := h
theorem RR.drewN {w : World} {v : Value} {zs : List (List Int)} (h : RR w v zs) (n : Nat) : RR (w.drewN n) v zs := h

set_option maxHeartbeats 1000000 in
theorem SameAll_any (va vb : Value) (xs ys : List (List Int)) (w : World) (ha : RR w va xs) (hb : RR w vb ys) :
    Calls Try.prog 27 #[va, vb] w (Quiet w (.bool (eqS xs ys))) := by
  obtain ⟨A, c, rfl, hlc, hc, hcell⟩ := ha.open_
  obtain ⟨A', c', rfl, hlc', hc', hcell'⟩ := hb.open_
  have HA := Lib.hid hcell
  have HB := Lib.hid hcell'
  clear hcell hcell' ha hb
  by_cases hl : xs.length = ys.length
  · have hl' : ((xs.length : Int) != ys.length) = false := by simp [hl]
    have HL := Lib.hid hl
    clear hl
    go_enter Try.func27, Try.ntmps27
    go_wp2
    go_loopw [5] (fun i wr => ∃ k : Nat, k ≤ xs.length ∧ i = .int .i64 k ∧ Hid (eqS (xs.drop k) (ys.drop k) = eqS xs ys) ∧ Dr w wr) (fun i _ => xs.length - (intOf i).toNat)
    case atStart => exact ⟨0, Nat.zero_le _, rfl, rfl, Dr.refl _⟩
    case round =>
      obtain ⟨k, hk, rfl, he, hdr⟩ := hrel
      by_cases hlt : k < xs.length
      · obtain ⟨ad, z, A1, c1, rfl, _, hz, hcl, hri⟩ := HA.out k hlt
        have hlt' : k < ys.length := by have := HL.out; omega
        obtain ⟨ad', z', A2, c2, rfl, _, hz', hcl', hri'⟩ := HB.out k hlt'
        have hcw := (hdr.cell _).trans hcl
        have hcw' := (hdr.cell _).trans hcl'
        have HD := Lib.hid (drop_at hz)
        have HD' := Lib.hid (drop_at hz')
        have HR := Lib.hid hri
        have HR' := Lib.hid hri'
        clear HA HB hri hri'
        go_wp2_with fail
        refine wp_region_quiet_lit (by kernel_rfl) (by kernel_rfl) ?_
        repeat (quiet_step ((go_at_call 22; exact quiet_ofQ (Same_any _ _ z z' _ (RI.drewN (hdr.ri HR.out) _) (RI.drewN (hdr.ri HR'.out) _)))))
        refine wpQuiet_nil ?_
        rintro _ ⟨nq, rfl⟩
        go_wp2
        · have hne : eqL z z' = false := by have : (!eqL z z') = true := by assumption
                                            simpa using this
          go_ret
          refine ⟨ret_b ?_, (by repeat (first | assumption | exact Dr.refl _ | apply Dr.drewN | apply Dr.drew))⟩
          rw [← he.out, HD.out, HD'.out]
          simp [eqS, hne]
        · have heq : eqL z z' = true := by have : (!eqL z z') = false := by assumption
                                           simpa using this
          go_roundw
          case rel => exact ⟨k + 1, by omega, by go_num, by show _ = _; rw [← he.out, HD.out, HD'.out]; simp [eqS, heq], (by repeat (first | assumption | exact Dr.refl _ | apply Dr.drewN | apply Dr.drew))⟩
          case measure => simp [intOf]; omega
      · go_wp2
        go_ret
        refine ⟨ret_b ?_, hdr⟩
        rw [← he.out, List.drop_of_length_le (by omega), List.drop_of_length_le (by have := HL.out; omega)]; rfl
  · have hl' : ((xs.length : Int) != ys.length) = true := by simp; omega
    have HL := Lib.hid hl
    clear hl
    go_enter Try.func27, Try.ntmps27
    go_wp2
    go_ret
    exact ⟨ret_b (eqS_len HL.out).symm, 0, rfl⟩

set_option maxHeartbeats 400000 in
theorem rCompare_any (va vb : Value) (xs ys : List Int) (w : World) (ha : RI w va xs) (hb : RI w vb ys) :
    Calls Try.prog 15 #[va, vb] w (Quiet w (.tuple #[.int .i64 (compL xs ys).1, .int .i64 (compL xs ys).2])) := by
  have h1 := Lib.hid (Both_any va vb xs ys w ha hb)
  by_cases h0 : ownE [xs, ys] = 0
  · obtain ⟨l1, l2, l3⟩ := own2_zero h0
    have h2 := Lib.hid (Order_any va vb xs ys w ha hb l1)
    have E : Hid (compL xs ys = (cmpL xs ys, 0)) := by show _ = _; simp [compL, h0]
    rw [h0] at h1
    rw [E.out]
    clear ha hb l1 l3 h0
    go_enter Try.func15, Try.ntmps15
    go_wp2_with (first | (go_at_call 28; refine h1.out.mono ?_; rintro e w' ⟨rfl, rfl⟩) | (go_at_call 40; refine h2.out.mono ?_; rintro e w' ⟨rfl, n, rfl⟩))
    go_ret2
    exact ⟨rfl, n, rfl⟩
  · have h0' : (ownE [xs, ys] != 0) = true := by simp [h0]
    have E : Hid (compL xs ys = (0, ownE [xs, ys])) := by show _ = _; simp [compL, h0]
    rw [E.out]
    clear ha hb h0
    go_enter Try.func15, Try.ntmps15
    go_wp2_with (go_at_call 28; refine h1.out.mono ?_; rintro e w' ⟨rfl, rfl⟩)
    go_ret2
    exact ⟨rfl, 0, rfl⟩

/-- Above, by the numbers. -/
def geL : List Int → List Int → Bool
  | x :: r, y :: s => decide (y ≤ x) && geL r s
  | _, _ => true
theorem minL2_eq (xs ys : List Int) (h : xs.length = ys.length) : eqL (List.zipWith (fun x y => min x y) xs ys) ys = geL xs ys := by
  induction xs generalizing ys with
  | nil => cases ys <;> simp_all [geL, eqL]
  | cons x r ih =>
    cases ys with
    | nil => simp at h
    | cons y s =>
      simp only [List.zipWith_cons_cons, eqL, geL, ih s (by simpa using h)]
      congr 1
      rw [Bool.eq_iff_iff, beq_iff_eq, decide_eq_true_iff]
      omega
theorem zip_inB (F : Int → Int → Int) (hF : ∀ x y, InB x = true → InB y = true → InB (F x y) = true) (xs ys : List Int) (h1 : xs.all InB = true) (h2 : ys.all InB = true) : (List.zipWith F xs ys).all InB = true := by
  induction xs generalizing ys with
  | nil => simp
  | cons x r ih =>
    cases ys with
    | nil => simp
    | cons y s =>
      simp only [List.all_cons, Bool.and_eq_true, List.zipWith_cons_cons] at h1 h2 ⊢
      exact ⟨hF x y h1.1 h2.1, ih s h1.2 h2.2⟩
theorem min_inB (x y : Int) (hx : InB x = true) (hy : InB y = true) : InB (min x y) = true := by rw [inB_iff] at *; omega
theorem max_inB2 (x y : Int) (hx : InB x = true) (hy : InB y = true) : InB (max x y) = true := by rw [inB_iff] at *; omega
theorem aboveL_eq (xs ys : List Int) : aboveL xs ys = if ownE [xs, ys] ≠ 0 then (false, ownE [xs, ys]) else (geL xs ys, 0) := by
  by_cases h0 : ownE [xs, ys] = 0
  · obtain ⟨l1, _, _, l4, l5⟩ := own2_zero h0
    have : (List.zipWith (fun x y => min x y) xs ys).all InB = true := zip_inB _ min_inB xs ys l4 l5
    simp only [aboveL, eachL, h0, this, ne_eq, not_true_eq_false, if_false, if_true, decide_true, Bool.true_and, minL2_eq xs ys l1]
  · simp [aboveL, eachL, h0]

set_option maxHeartbeats 1000000 in
theorem rAbove_any (va vb : Value) (xs ys : List Int) (w : World) (ha : RI w va xs) (hb : RI w vb ys) :
    Calls Try.prog 17 #[va, vb] w (Quiet w (.tuple #[.bool (aboveL xs ys).1, .int .i64 (aboveL xs ys).2])) := by
  have h1 := Lib.hid (Both_any va vb xs ys w ha hb)
  by_cases h0 : ownE [xs, ys] = 0
  · obtain ⟨l1, l2, l3, -⟩ := own2_zero h0
    have E : Hid (aboveL xs ys = (geL xs ys, 0)) := by show _ = _; rw [aboveL_eq]; simp [h0]
    rw [h0] at h1
    rw [E.out]
    obtain ⟨A, c, rfl, hlc, hc, hcell⟩ := ha.open_
    obtain ⟨A', c', rfl, hlc', hc', hcell'⟩ := hb.open_
    have HA := Lib.hid hcell
    have HB := Lib.hid hcell'
    have HL := Lib.hid l1
    clear hcell hcell' ha hb l1 h0
    go_enter Try.func17, Try.ntmps17
    go_wp2_with (go_at_call 28; refine h1.out.mono ?_; rintro e w' ⟨rfl, rfl⟩)
    go_loopw [7] (fun i wr => ∃ k : Nat, k ≤ xs.length ∧ i = .int .i64 k ∧ Hid (geL (xs.drop k) (ys.drop k) = geL xs ys) ∧ Dr w wr) (fun i _ => xs.length - (intOf i).toNat)
    case atStart => exact ⟨0, Nat.zero_le _, rfl, rfl, Dr.refl _⟩
    case round =>
      obtain ⟨k, hk, rfl, he, hdr⟩ := hrel
      by_cases hlt : k < xs.length
      · obtain ⟨ad, z, rfl, _, hz, hcl⟩ := HA.out k hlt
        have hlt' : k < ys.length := by have := HL.out; omega
        obtain ⟨ad', z', rfl, _, hz', hcl'⟩ := HB.out k hlt'
        have hcw := (hdr.cell _).trans hcl
        have hcw' := (hdr.cell _).trans hcl'
        have HD := Lib.hid (drop_at hz)
        have HD' := Lib.hid (drop_at hz')
        clear HA HB
        by_cases c1 : z < z'
        · go_wp2_with fail
          go_quiet (fail)
          go_wp2
          go_ret2
          have e2 : geL xs ys = false := by rw [← he.out, HD.out, HD'.out]; simp only [geL]; rw [decide_eq_false (by omega)]; rfl
          exact ⟨by rw [e2]; rfl, (by repeat (first | assumption | exact Dr.refl _ | apply Dr.drewN | apply Dr.drew))⟩
        · go_wp2_with fail
          go_quiet (fail)
          go_wp2
          go_roundw
          case rel => exact ⟨k + 1, by omega, by go_num, by show _ = _; rw [← he.out, HD.out, HD'.out]; simp only [geL]; rw [decide_eq_true (show z' ≤ z by omega)]; rfl, (by repeat (first | assumption | exact Dr.refl _ | apply Dr.drewN | apply Dr.drew))⟩
          case measure => simp [intOf]; omega
      · go_wp2
        go_ret2
        have e2 : geL xs ys = true := by rw [← he.out, List.drop_of_length_le (by omega)]; rfl
        exact ⟨by rw [e2]; rfl, hdr⟩
  · have h0' : (ownE [xs, ys] != 0) = true := by simp [h0]
    have E : Hid (aboveL xs ys = (false, ownE [xs, ys])) := by show _ = _; rw [aboveL_eq]; simp [h0]
    rw [E.out]
    clear ha hb h0
    go_enter Try.func17, Try.ntmps17
    go_wp2_with (go_at_call 28; refine h1.out.mono ?_; rintro e w' ⟨rfl, rfl⟩)
    go_ret2
    exact ⟨rfl, 0, rfl⟩
end Go.Proofs.Ytcmkllfocifnlaa
