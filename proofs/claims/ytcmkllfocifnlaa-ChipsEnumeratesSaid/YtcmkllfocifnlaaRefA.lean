/- Contracts of the reference of layer 17: what reads divisors. -/
import Derived.Test.YtcmkllfocifnlaaChipM
namespace Go.Proofs.Ytcmkllfocifnlaa
open Go.RowKit Go.Shelf

set_option maxHeartbeats 400000 in
theorem In_any (k : Int) (w : World) : Calls Try.prog 79 #[.int .i64 k] w fun e w' => e = .returned (.bool (InB k)) ∧ w = w' := by
  go_enter Try.func79, Try.ntmps79
  go_wp2
  all_goals (go_ret; exact ⟨by simp [InB, *]; try omega, rfl⟩)

theorem Few_any (v : Value) (zs : List Int) (w : World) (hv : RI w v zs) : Calls Try.prog 12 #[v] w fun e w' => e = .returned (.bool (decide (zs.length ≤ 24))) ∧ w = w' := by
  obtain ⟨A, c, rfl, hlc, hc, -⟩ := hv.open_
  clear hv
  by_cases h : zs.length ≤ 24
  · go_enter Try.func12, Try.ntmps12
    go_wp2
    go_ret
    exact ⟨ret_b (by simp; omega), rfl⟩
  · go_enter Try.func12, Try.ntmps12
    go_wp2
    go_ret
    exact ⟨ret_b (by simp; omega), rfl⟩

set_option maxHeartbeats 400000 in
theorem rCheck_any (v : Value) (zs : List Int) (n : Int) (w : World) (hv : RI w v zs) :
    Calls Try.prog 48 #[v, .int .i64 n] w fun e w' => e = .returned (.int .i64 (checkE zs n)) ∧ w = w' := by
  obtain ⟨A, c, rfl, hlc, hc, hcell⟩ := hv.open_
  have HC := Lib.hid hcell
  clear hcell hv
  by_cases h1 : n < 1
  · go_enter Try.func48, Try.ntmps48
    go_wp2
    go_ret
    exact ⟨ret_i (by simp [checkE, h1]), rfl⟩
  by_cases h1' : 12 < n
  · go_enter Try.func48, Try.ntmps48
    go_wp2
    go_ret
    exact ⟨ret_i (by simp [checkE, h1']), rfl⟩
  have H1 := Lib.hid (show ¬ (n < 1 ∨ 12 < n) by omega)
  by_cases h2 : (zs.length : Int) = n
  · have e2 : ((zs.length : Int) != n) = false := by simp [h2]
    have H2 := Lib.hid h2
    have h2' : (zs.length : Int) ≤ n ∧ n ≤ zs.length := by omega
    clear h2
    go_enter Try.func48, Try.ntmps48
    go_wp2
    go_loop [5] (fun i => ∃ k : Nat, k ≤ zs.length ∧ i = .int .i64 k ∧ Hid ((zs.drop k).all InB = zs.all InB)) (fun i => zs.length - (intOf i).toNat)
    case atStart => exact ⟨0, Nat.zero_le _, rfl, rfl⟩
    case round =>
      obtain ⟨k, hk, rfl, hr⟩ := hrel
      by_cases hlt : k < zs.length
      · obtain ⟨ad, z, rfl, _, hz, hcl⟩ := HC.out k hlt
        clear HC
        have hd := Lib.hid (drop_at hz)
        have hlt2 : (k : Int) < n := by omega
        cases hb : InB z
        · go_wp2_with (go_at_call 79; refine (In_any _ _).mono ?_; rintro e w' ⟨rfl, rfl⟩)
          go_ret
          refine ⟨ret_i ?_, rfl⟩
          have := hr.out; rw [hd.out] at this
          simp only [checkE, if_neg H1.out, H2.out, ← this]
          simp [hb]
        · go_wp2_with (go_at_call 79; refine (In_any _ _).mono ?_; rintro e w' ⟨rfl, rfl⟩)
          go_round
          case rel => exact ⟨k + 1, by omega, by go_num, by have := hr.out; rw [hd.out] at this; simpa [Hid, hb] using this⟩
          case measure => simp [intOf]; omega
      · have hlt2 : n ≤ (k : Int) := by omega
        go_wp2
        go_ret
        refine ⟨ret_i ?_, rfl⟩
        have := hr.out; rw [List.drop_of_length_le (by omega)] at this
        simp only [checkE, if_neg H1.out, H2.out, ← this]
        simp
  · have e2 : ((zs.length : Int) != n) = true := by simp [h2]
    have H2 := Lib.hid h2
    clear h2
    go_enter Try.func48, Try.ntmps48
    go_wp2
    go_ret
    exact ⟨ret_i (by simp [checkE, H1.out, H2.out]), rfl⟩

theorem Own_any (v : Value) (zs : List Int) (w : World) (hv : RI w v zs) :
    Calls Try.prog 41 #[v] w fun e w' => e = .returned (.int .i64 (checkE zs zs.length)) ∧ w = w' := by
  have h := Lib.hid (rCheck_any v zs zs.length w hv)
  obtain ⟨A, c, rfl, hlc, hc, -⟩ := hv.open_
  clear hv
  go_enter Try.func41, Try.ntmps41
  go_wp2_with (go_at_call 48; refine h.out.mono ?_; rintro e w' ⟨rfl, rfl⟩)
  go_ret
  exact ⟨rfl, rfl⟩

theorem ownE_two (xs ys : List Int) : ownE [xs, ys] = if checkE xs xs.length ≠ 0 then checkE xs xs.length else if checkE ys ys.length ≠ 0 then checkE ys ys.length else if xs.length = ys.length then 0 else 8 := by
  by_cases h1 : checkE xs xs.length = 0
  · by_cases h2 : checkE ys ys.length = 0
    · have hA : ownE1 [xs, ys] = 0 := by simp [ownE1, h1, h2]
      unfold ownE
      rw [hA, h1, h2]
      by_cases h3 : xs.length = ys.length
      · simp [h3]
      · have h3' : ¬ ys.length = xs.length := fun e => h3 e.symm
        simp [h3, h3']
    · simp [ownE, ownE1, h1, h2]
  · simp [ownE, ownE1, h1]

set_option maxHeartbeats 400000 in
theorem Both_any (va vb : Value) (xs ys : List Int) (w : World) (ha : RI w va xs) (hb : RI w vb ys) :
    Calls Try.prog 28 #[va, vb] w fun e w' => e = .returned (.int .i64 (ownE [xs, ys])) ∧ w = w' := by
  have h1 := Lib.hid (Own_any va xs w ha)
  have h2 := Lib.hid (Own_any vb ys w hb)
  have HE := Lib.hid (ownE_two xs ys)
  obtain ⟨A, c, rfl, hlc, hc, -⟩ := ha.open_
  obtain ⟨A', c', rfl, hlc', hc', -⟩ := hb.open_
  clear ha hb
  obtain ⟨ea, hea⟩ : ∃ e, e = checkE xs xs.length := ⟨_, rfl⟩
  obtain ⟨eb, heb⟩ : ∃ e, e = checkE ys ys.length := ⟨_, rfl⟩
  rw [← hea] at h1 HE
  rw [← heb] at h2 HE
  clear hea heb
  by_cases e1 : ea = 0
  · subst e1
    by_cases e2 : eb = 0
    · subst e2
      by_cases e3 : xs.length = ys.length
      · have t3 : ((xs.length : Int) != ys.length) = false := by simp [e3]
        have E3 := Lib.hid e3
        clear e3
        go_enter Try.func28, Try.ntmps28
        go_wp2_with fail
        refine h1.out.mono ?_
        rintro e w' ⟨rfl, rfl⟩
        go_wp2_with fail
        refine h2.out.mono ?_
        rintro e w' ⟨rfl, rfl⟩
        go_wp2
        go_ret
        exact ⟨ret_i (by rw [HE.out]; simp [E3.out]), rfl⟩
      · have t3 : ((xs.length : Int) != ys.length) = true := by simp; omega
        have E3 := Lib.hid e3
        clear e3
        go_enter Try.func28, Try.ntmps28
        go_wp2_with fail
        refine h1.out.mono ?_
        rintro e w' ⟨rfl, rfl⟩
        go_wp2_with fail
        refine h2.out.mono ?_
        rintro e w' ⟨rfl, rfl⟩
        go_wp2
        go_ret
        exact ⟨ret_i (by rw [HE.out]; simp [E3.out]), rfl⟩
    · have t2 : (eb != 0) = true := by simp [e2]
      have E2 := Lib.hid e2
      clear e2
      go_enter Try.func28, Try.ntmps28
      go_wp2_with fail
      refine h1.out.mono ?_
      rintro e w' ⟨rfl, rfl⟩
      go_wp2_with fail
      refine h2.out.mono ?_
      rintro e w' ⟨rfl, rfl⟩
      go_wp2
      go_ret
      exact ⟨ret_i (by rw [HE.out]; simp [E2.out]), rfl⟩
  · have t1 : (ea != 0) = true := by simp [e1]
    have E1 := Lib.hid e1
    clear e1
    go_enter Try.func28, Try.ntmps28
    go_wp2_with fail
    refine h1.out.mono ?_
    rintro e w' ⟨rfl, rfl⟩
    go_wp2
    go_ret
    exact ⟨ret_i (by rw [HE.out]; simp [E1.out]), rfl⟩


set_option maxHeartbeats 400000 in
theorem Paid_any (v : Value) (zs : List Int) (w : World) (hv : RI w v zs) : Calls Try.prog 71 #[v] w fun e w' => e = .returned (.bool (zs.all (fun z => decide (0 ≤ z)))) ∧ w = w' := by
  obtain ⟨A, c, rfl, hlc, hc, hcell⟩ := hv.open_
  have HC := Lib.hid hcell
  clear hcell hv
  go_enter Try.func71, Try.ntmps71
  go_wp2
  go_loop [3] (fun i => ∃ k : Nat, k ≤ zs.length ∧ i = .int .i64 k ∧ Hid ((zs.drop k).all (fun z => decide (0 ≤ z)) = zs.all (fun z => decide (0 ≤ z)))) (fun i => zs.length - (intOf i).toNat)
  case atStart => exact ⟨0, Nat.zero_le _, rfl, rfl⟩
  case round =>
    obtain ⟨k, hk, rfl, hr⟩ := hrel
    by_cases hlt : k < zs.length
    · obtain ⟨ad, z, rfl, _, hz, hcl⟩ := HC.out k hlt
      clear HC
      have hd := Lib.hid (drop_at hz)
      by_cases h0 : z < 0
      · have hneg : Hid ((fun z => decide (0 ≤ z)) z = false) := by show _ = _; simp; omega
        go_wp2
        go_ret
        exact ⟨ret_b (by have := hr.out; rw [hd.out, List.all_cons, hneg.out] at this; simpa using this), rfl⟩
      · have hok : 0 ≤ z := by omega
        go_wp2
        go_round
        case rel => exact ⟨k + 1, by omega, by go_num, by have := hr.out; rw [hd.out, List.all_cons] at this; simpa [Hid, hok] using this⟩
        case measure => simp [intOf]; omega
    · go_wp2
      go_ret
      exact ⟨ret_b (by have := hr.out; rw [List.drop_of_length_le (by omega)] at this; simpa using this), rfl⟩

set_option maxHeartbeats 400000 in
theorem Small_any (v : Value) (zs : List Int) (w : World) (hv : RI w v zs) : Calls Try.prog 29 #[v] w fun e w' => e = .returned (.bool (zs.all (fun z => decide (-60 ≤ z) && decide (z ≤ 60)))) ∧ w = w' := by
  obtain ⟨A, c, rfl, hlc, hc, hcell⟩ := hv.open_
  have HC := Lib.hid hcell
  clear hcell hv
  go_enter Try.func29, Try.ntmps29
  go_wp2
  go_loop [3] (fun i => ∃ k : Nat, k ≤ zs.length ∧ i = .int .i64 k ∧ Hid ((zs.drop k).all (fun z => decide (-60 ≤ z) && decide (z ≤ 60)) = zs.all (fun z => decide (-60 ≤ z) && decide (z ≤ 60)))) (fun i => zs.length - (intOf i).toNat)
  case atStart => exact ⟨0, Nat.zero_le _, rfl, rfl⟩
  case round =>
    obtain ⟨k, hk, rfl, hr⟩ := hrel
    by_cases hlt : k < zs.length
    · obtain ⟨ad, z, rfl, _, hz, hcl⟩ := HC.out k hlt
      clear HC
      have hd := Lib.hid (drop_at hz)
      by_cases h0 : z < -60
      · have hneg : Hid ((fun z => decide (-60 ≤ z) && decide (z ≤ 60)) z = false) := by show _ = _; simp; omega
        go_wp2
        go_ret
        exact ⟨ret_b (by have := hr.out; rw [hd.out, List.all_cons, hneg.out] at this; simpa using this), rfl⟩
      by_cases h1 : 60 < z
      · have hneg : Hid ((fun z => decide (-60 ≤ z) && decide (z ≤ 60)) z = false) := by show _ = _; simp; omega
        go_wp2
        go_ret
        exact ⟨ret_b (by have := hr.out; rw [hd.out, List.all_cons, hneg.out] at this; simpa using this), rfl⟩
      · have hok : -60 ≤ z ∧ z ≤ 60 := by omega
        go_wp2
        go_round
        case rel => exact ⟨k + 1, by omega, by go_num, by have := hr.out; rw [hd.out, List.all_cons] at this; simpa [Hid, hok] using this⟩
        case measure => simp [intOf]; omega
    · go_wp2
      go_ret
      exact ⟨ret_b (by have := hr.out; rw [List.drop_of_length_le (by omega)] at this; simpa using this), rfl⟩
end Go.Proofs.Ytcmkllfocifnlaa
