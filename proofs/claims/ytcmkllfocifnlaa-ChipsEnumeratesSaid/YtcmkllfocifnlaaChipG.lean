/- Contracts of slices and cmp at divisors: Equal, Compare, Clone; chips: Compare, Above. -/
import Derived.Test.YtcmkllfocifnlaaChipF
namespace Go.Proofs.Ytcmkllfocifnlaa
open Go.RowKit

def Quiet (w : World) (v : Value) (e : Ending) (w' : World) : Prop := e = .returned v ∧ ∃ n, w' = w.drewN n
theorem drewN_zero (w : World) : w.drewN 0 = w := rfl

/-- Equal at divisors. -/
def eqL : List Int → List Int → Bool
  | [], [] => true
  | x :: r, y :: s => x == y && eqL r s
  | _, _ => false
theorem eqL_iff (xs ys : List Int) : eqL xs ys = true ↔ xs = ys := by
  induction xs generalizing ys with
  | nil => cases ys <;> simp [eqL]
  | cons x r ih => cases ys <;> simp [eqL, ih]
theorem eqL_len {xs ys : List Int} (h : xs.length ≠ ys.length) : eqL xs ys = false := by
  rw [Bool.eq_false_iff]; intro e; exact h (congrArg List.length ((eqL_iff _ _).1 e))

set_option maxHeartbeats 1000000 in
theorem EqualD_any (va vb : Value) (xs ys : List Int) (w : World) (ha : RI w va xs) (hb : RI w vb ys) :
    Calls Try.prog 59 #[va, vb] w (Quiet w (.bool (eqL xs ys))) := by
  obtain ⟨A, c, rfl, hlc, hc, hcell⟩ := ha.open_
  obtain ⟨A', c', rfl, hlc', hc', hcell'⟩ := hb.open_
  have HA := Lib.hid hcell
  have HB := Lib.hid hcell'
  clear hcell hcell' ha hb
  by_cases hl : xs.length = ys.length
  · have hl' : ((xs.length : Int) != ys.length) = false := by simp [hl]
    have HL := Lib.hid hl
    clear hl
    go_enter Try.func59, Try.ntmps59
    go_wp2
    go_loopw [13] (fun i wr => ∃ k m : Nat, k ≤ xs.length ∧ i = .int .i64 k ∧ Hid (eqL (xs.drop k) (ys.drop k) = eqL xs ys) ∧ wr = w.drewN m) (fun i _ => xs.length - (intOf i).toNat)
    case atStart => exact ⟨0, 0, Nat.zero_le _, rfl, rfl, rfl⟩
    case round =>
      obtain ⟨k, m, hk, rfl, he, rfl⟩ := hrel
      by_cases hlt : k < xs.length
      · obtain ⟨ad, z, rfl, _, hz, hcl⟩ := HA.out k hlt
        have hlt' : k < ys.length := by have := HL.out; omega
        obtain ⟨ad', z', rfl, _, hz', hcl'⟩ := HB.out k hlt'
        have HD := Lib.hid (drop_at hz)
        have HD' := Lib.hid (drop_at hz')
        clear HA HB
        go_wp2_with fail
        go_quiet (fail)
        go_wp2
        · have hne : z ≠ z' := by have : (z != z') = true := by assumption
                                  simpa using this
          go_ret
          refine ⟨ret_b ?_, m + nq, by simp⟩
          rw [← he.out, HD.out, HD'.out]
          simp [eqL, hne]
        · have heq : z = z' := by have : (z != z') = false := by assumption
                                  simpa using this
          go_roundw
          case rel => exact ⟨k + 1, m + nq, by omega, by go_num, by show _ = _; rw [← he.out, HD.out, HD'.out]; simp [eqL, heq], by simp⟩
          case measure => simp [intOf]; omega
      · go_wp2
        go_ret
        refine ⟨ret_b ?_, m, rfl⟩
        rw [← he.out, List.drop_of_length_le (by omega), List.drop_of_length_le (by have := HL.out; omega)]; rfl
  · have hl' : ((xs.length : Int) != ys.length) = true := by simp; omega
    have HL := Lib.hid hl
    clear hl
    go_enter Try.func59, Try.ntmps59
    go_wp2
    go_ret
    exact ⟨ret_b (eqL_len HL.out).symm, 0, rfl⟩

set_option maxHeartbeats 1000000 in
theorem EqualI_any (va vb : Value) (xs ys : List Int) (w : World) (ha : RI w va xs) (hb : RI w vb ys) :
    Calls Try.prog 55 #[va, vb] w (Quiet w (.bool (eqL xs ys))) := by
  obtain ⟨A, c, rfl, hlc, hc, hcell⟩ := ha.open_
  obtain ⟨A', c', rfl, hlc', hc', hcell'⟩ := hb.open_
  have HA := Lib.hid hcell
  have HB := Lib.hid hcell'
  clear hcell hcell' ha hb
  by_cases hl : xs.length = ys.length
  · have hl' : ((xs.length : Int) != ys.length) = false := by simp [hl]
    have HL := Lib.hid hl
    clear hl
    go_enter Try.func55, Try.ntmps55
    go_wp2
    go_loopw [13] (fun i wr => ∃ k m : Nat, k ≤ xs.length ∧ i = .int .i64 k ∧ Hid (eqL (xs.drop k) (ys.drop k) = eqL xs ys) ∧ wr = w.drewN m) (fun i _ => xs.length - (intOf i).toNat)
    case atStart => exact ⟨0, 0, Nat.zero_le _, rfl, rfl, rfl⟩
    case round =>
      obtain ⟨k, m, hk, rfl, he, rfl⟩ := hrel
      by_cases hlt : k < xs.length
      · obtain ⟨ad, z, rfl, _, hz, hcl⟩ := HA.out k hlt
        have hlt' : k < ys.length := by have := HL.out; omega
        obtain ⟨ad', z', rfl, _, hz', hcl'⟩ := HB.out k hlt'
        have HD := Lib.hid (drop_at hz)
        have HD' := Lib.hid (drop_at hz')
        clear HA HB
        go_wp2_with fail
        go_quiet (fail)
        go_wp2
        · have hne : z ≠ z' := by have : (z != z') = true := by assumption
                                  simpa using this
          go_ret
          refine ⟨ret_b ?_, m + nq, by simp⟩
          rw [← he.out, HD.out, HD'.out]
          simp [eqL, hne]
        · have heq : z = z' := by have : (z != z') = false := by assumption
                                  simpa using this
          go_roundw
          case rel => exact ⟨k + 1, m + nq, by omega, by go_num, by show _ = _; rw [← he.out, HD.out, HD'.out]; simp [eqL, heq], by simp⟩
          case measure => simp [intOf]; omega
      · go_wp2
        go_ret
        refine ⟨ret_b ?_, m, rfl⟩
        rw [← he.out, List.drop_of_length_le (by omega), List.drop_of_length_le (by have := HL.out; omega)]; rfl
  · have hl' : ((xs.length : Int) != ys.length) = true := by simp; omega
    have HL := Lib.hid hl
    clear hl
    go_enter Try.func55, Try.ntmps55
    go_wp2
    go_ret
    exact ⟨ret_b (eqL_len HL.out).symm, 0, rfl⟩

/-- Lexicographic comparison. -/
def cmpL : List Int → List Int → Int
  | [], [] => 0
  | [], _ :: _ => -1
  | _ :: _, [] => 1
  | x :: r, y :: s => if x < y then -1 else if y < x then 1 else cmpL r s

theorem isNaN_any (x : Int) (w : World) : Calls Try.prog 84 #[.int .i64 x] w fun e w' => e = .returned (.bool false) ∧ w = w' := by
  go_enter Try.func84, Try.ntmps84
  go_wp2
  go_ret
  exact ⟨ret_b (by simp), rfl⟩
def cmpI (x y : Int) : Int := if x < y then -1 else if y < x then 1 else 0
set_option maxHeartbeats 400000 in
theorem cmp_any (x y : Int) (w : World) : Calls Try.prog 58 #[.int .i64 x, .int .i64 y] w fun e w' => e = .returned (.int .i64 (cmpI x y)) ∧ w = w' := by
  go_enter Try.func58, Try.ntmps58
  go_wp2_with (go_at_call 84; refine (isNaN_any _ _).mono ?_; rintro e w' ⟨rfl, rfl⟩)
  all_goals (go_ret; refine ⟨ret_i ?_, rfl⟩; simp only [cmpI]; split <;> (try split) <;> omega)

set_option maxHeartbeats 1000000 in
theorem CompareFunc_any (va vb : Value) (xs ys : List Int) (w : World) (ha : RI w va xs) (hb : RI w vb ys) :
    Calls Try.prog 57 #[va, vb, .func (.func 58) #[] #[]] w fun e w' => e = .returned (.int .i64 (cmpL xs ys)) ∧ w = w' := by
  obtain ⟨A, c, rfl, hlc, hc, hcell⟩ := ha.open_
  obtain ⟨A', c', rfl, hlc', hc', hcell'⟩ := hb.open_
  have HA := Lib.hid hcell
  have HB := Lib.hid hcell'
  clear hcell hcell' ha hb
  go_enter Try.func57, Try.ntmps57
  go_wp2
  go_loop [13] (fun i => ∃ k : Nat, k ≤ xs.length ∧ k ≤ ys.length ∧ i = .int .i64 k ∧ Hid (cmpL (xs.drop k) (ys.drop k) = cmpL xs ys)) (fun i => xs.length - (intOf i).toNat)
  case atStart => exact ⟨0, Nat.zero_le _, Nat.zero_le _, rfl, rfl⟩
  case round =>
    obtain ⟨k, hk, hk', rfl, he⟩ := hrel
    by_cases hlt : k < xs.length
    · obtain ⟨ad, z, rfl, _, hz, hcl⟩ := HA.out k hlt
      have HD := Lib.hid (drop_at hz)
      by_cases hlt' : k < ys.length
      · obtain ⟨ad', z', rfl, _, hz', hcl'⟩ := HB.out k hlt'
        have HD' := Lib.hid (drop_at hz')
        clear HA HB
        by_cases hne : cmpI z z' = 0
        · go_wp2_with (go_at_call 58; refine (cmp_any _ _ _).mono ?_; rintro e w' ⟨rfl, rfl⟩)
          go_round
          case rel =>
            refine ⟨k + 1, by omega, by omega, by go_num, ?_⟩
            show _ = _
            rw [← he.out, HD.out, HD'.out]
            simp only [cmpI] at hne
            simp only [cmpL]
            split at hne
            · omega
            · split at hne
              · omega
              · rw [if_neg (by assumption), if_neg (by assumption)]
          case measure => simp [intOf]; omega
        · have hne' : (cmpI z z' != 0) = true := by simp [hne]
          have HN := Lib.hid hne
          clear hne
          go_wp2_with (go_at_call 58; refine (cmp_any _ _ _).mono ?_; rintro e w' ⟨rfl, rfl⟩)
          go_ret
          refine ⟨ret_i ?_, rfl⟩
          have hne := HN.out
          rw [← he.out, HD.out, HD'.out]
          simp only [cmpI] at hne ⊢
          simp only [cmpL]
          split
          · rfl
          · split
            · rfl
            · rw [if_neg (by assumption), if_neg (by assumption)] at hne
              exact absurd rfl hne
      · have hky : ys.length ≤ k := by omega
        have HL := Lib.hid hlt'
        clear hlt'
        clear HA HB
        go_wp2
        go_ret
        refine ⟨ret_i ?_, rfl⟩
        rw [← he.out, HD.out, List.drop_of_length_le (l := ys) (by omega)]
        rfl
    · by_cases hlt' : k < ys.length
      · obtain ⟨ad', z', rfl, _, hz', hcl'⟩ := HB.out k hlt'
        have HD' := Lib.hid (drop_at hz')
        clear HA HB
        have hll : xs.length < ys.length := by omega
        go_wp2
        go_ret
        refine ⟨ret_i ?_, rfl⟩
        rw [← he.out, HD'.out, List.drop_of_length_le (l := xs) (by omega)]
        rfl
      · clear HA HB
        have hll : ¬ xs.length < ys.length := by omega
        go_wp2
        go_ret
        refine ⟨ret_i ?_, rfl⟩
        rw [← he.out, List.drop_of_length_le (l := xs) (by omega), List.drop_of_length_le (l := ys) (by omega)]
        rfl
end Go.Proofs.Ytcmkllfocifnlaa
