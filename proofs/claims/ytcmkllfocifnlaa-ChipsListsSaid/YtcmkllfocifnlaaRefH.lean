/- Contracts of the reference of layer 17: All, Next. -/
import Derived.Test.YtcmkllfocifnlaaRefF
import Derived.Test.YtcmkllfocifnlaaRefG
namespace Go.Proofs.Ytcmkllfocifnlaa
open Go.RowKit Go.Shelf

theorem cap_many_iff (n k : Nat) : (16384 < cap n k) ↔ 16384 < cnt n k := by unfold cap; omega

set_option maxRecDepth 100000 in
set_option maxHeartbeats 2000000 in
theorem rAll_any (n k : Int) (w : World) : Calls Try.prog 24 #[.int .i64 n, .int .i64 k] w (PairS w (allL n k)) := by
  by_cases h1 : n < 1 ∨ 12 < n
  · have E : Hid (allL n k = ([], 2)) := by show _ = _; simp [allL, vertE, h1]
    rw [E.out]
    by_cases a : n < 1
    · clear h1
      go_enter Try.func24, Try.ntmps24
      go_wp2
      go_ret2
      exact ⟨.slice none 0 0, rfl, RR.nil_ _, Below.refl _ _⟩
    · have b : 12 < n := by omega
      clear h1
      go_enter Try.func24, Try.ntmps24
      go_wp2
      go_ret2
      exact ⟨.slice none 0 0, rfl, RR.nil_ _, Below.refl _ _⟩
  have e1 : vertE n = 0 := by simp [vertE, h1]
  have a1 : ¬ n < 1 := fun h => h1 (.inl h)
  have a2 : ¬ 12 < n := fun h => h1 (.inr h)
  by_cases h2 : k < 0 ∨ 1048576 < k
  · have E : Hid (allL n k = ([], 2)) := by show _ = _; simp [allL, e1, h2]
    rw [E.out]
    clear e1
    by_cases a : k < 0
    · clear h1 h2
      go_enter Try.func24, Try.ntmps24
      go_wp2
      go_ret2
      exact ⟨.slice none 0 0, rfl, RR.nil_ _, Below.refl _ _⟩
    · have b : 1048576 < k := by omega
      clear h1 h2
      go_enter Try.func24, Try.ntmps24
      go_wp2
      go_ret2
      exact ⟨.slice none 0 0, rfl, RR.nil_ _, Below.refl _ _⟩
  obtain ⟨m, rfl⟩ := Int.eq_ofNat_of_zero_le (show 0 ≤ n by omega)
  obtain ⟨q, rfl⟩ := Int.eq_ofNat_of_zero_le (show 0 ≤ k by omega)
  have hm1 : 1 ≤ m := by omega
  have hm2 : m ≤ 12 := by omega
  have hq : q ≤ 1048576 := by omega
  have E : Hid (allL m q = if 16384 < cnt (m - 1) q then ([], 12) else (comps (m - 1) q, 0)) := by
    show _ = _; simp only [allL, e1, ne_eq, not_true_eq_false, if_false, h2, Int.toNat_natCast]
  have hC := Lib.hid (Count_any m q hm1 hm2 hq w)
  have hci := Lib.hid (cap_many_iff (m - 1) q)
  have hcb := cap_bd (m - 1) q
  clear h1 h2 a1 a2 e1
  by_cases hc : 16384 < cnt (m - 1) q
  · have E2 := Lib.hid (E.out.trans (if_pos hc))
    have hc' := hci.out.2 hc
    generalize cap (m - 1) q = x at *
    rw [E2.out]
    clear hc
    go_enter Try.func24, Try.ntmps24
    go_wp2_with (go_at_call 66; refine hC.out.mono ?_; rintro e w1 ⟨rfl, hb1⟩)
    go_ret2
    exact ⟨.slice none 0 0, rfl, RR.nil_ _, hb1⟩
  · have E2 := Lib.hid (E.out.trans (if_neg hc))
    have hc' : ¬ 16384 < cap (m - 1) q := fun h => hc (hci.out.1 h)
    have hL := Lib.hid (fun w => Listed_any m q hm1 hm2 hq (by show cnt (m - 1) q ≤ _; omega) w)
    generalize cap (m - 1) q = x at *
    rw [E2.out]
    clear hc
    go_enter Try.func24, Try.ntmps24
    go_wp2_with (go_at_call 66; refine hC.out.mono ?_; rintro e w1 ⟨rfl, hb1⟩)
    refine (hL.out _).mono ?_
    rintro e w2 ⟨v, rfl, hr, hb2⟩
    have HR := Lib.hid hr
    clear hr
    go_wp2
    go_ret2
    exact ⟨v, rfl, HR.out, hb1.trans (hb2.mono hb1.size)⟩

set_option maxRecDepth 100000 in
set_option maxHeartbeats 2000000 in
theorem rNext_any (va : Value) (xs : List Int) (w : World) (ha : RI w va xs) : Calls Try.prog 26 #[va] w (Trip w (nextL xs)) := by
  have h1 := Lib.hid (Own_any va xs w ha)
  have h2 := Lib.hid (Paid_any va xs w ha)
  have HA := Lib.hid ha
  by_cases h0 : checkE xs xs.length = 0
  · obtain ⟨l1, l2, l3⟩ := checkE_zero h0
    have h3 := Lib.hid (Total_any va xs w ha l3 (by omega))
    have L3 := Lib.hid l3
    rw [h0] at h1
    by_cases hp : xs.all (fun z => decide (0 ≤ z)) = true
    · have HP := Lib.hid hp
      have hb := sum_bd xs l3
      have hsb : -1125899906842624 ≤ xs.sum ∧ xs.sum ≤ 1125899906842624 := by omega
      rw [hp] at h2
      have HL := Lib.hid (show xs.length ≤ 12 ∧ 1 ≤ xs.length from ⟨l2, l1⟩)
      clear hb l1 l2 l3
      by_cases hs : 1048576 < xs.sum
      · have E : Hid (nextL xs = (([], false), 11)) := by show _ = _; simp [nextL, h0, hp, hs]
        rw [E.out]
        generalize xs.sum = x at *
        clear ha h0 hp
        go_enter Try.func26, Try.ntmps26
        go_wp2_with (first | (go_at_call 41; refine h1.out.mono ?_; rintro e w' ⟨rfl, rfl⟩) | (go_at_call 71; refine h2.out.mono ?_; rintro e w' ⟨rfl, rfl⟩) | (go_at_call 72; refine h3.out.mono ?_; rintro e w' ⟨rfl, rfl⟩))
        go_ret3
        exact ⟨.slice none 0 0, rfl, OI.nil_ _ _, Below.refl _ _⟩
      · have E : Hid (nextL xs = (followL xs, 0)) := by
          show _ = _; simp only [nextL, h0, ne_eq, not_true_eq_false, if_false, hp, Bool.true_eq_false, hs]
          rw [stepL_eq]; unfold followL
          cases stepR xs <;> rfl
        have hnn : NonNeg xs := fun z hz => by
          have h := List.all_eq_true.1 hp z hz
          have h' := List.all_eq_true.1 L3.out z hz
          rw [inB_iff] at h'
          simp at h
          omega
        have h4 := Lib.hid (Follows_any va xs w ha hnn (by have := HL.out.1; omega) HL.out.2)
        rw [E.out]
        generalize xs.sum = x at *
        clear ha h0 hp hnn
        go_enter Try.func26, Try.ntmps26
        go_wp2_with (first | (go_at_call 41; refine h1.out.mono ?_; rintro e w' ⟨rfl, rfl⟩) | (go_at_call 71; refine h2.out.mono ?_; rintro e w' ⟨rfl, rfl⟩) | (go_at_call 72; refine h3.out.mono ?_; rintro e w' ⟨rfl, rfl⟩))
        refine h4.out.mono ?_
        rintro e w1 ⟨v, rfl, ho, hb⟩
        have HO := Lib.hid ho
        clear ho
        go_wp2
        go_ret3
        exact ⟨v, rfl, HO.out, hb⟩
    · have hp' : xs.all (fun z => decide (0 ≤ z)) = false := by simpa using hp
      have E : Hid (nextL xs = (([], false), 15)) := by show _ = _; simp only [nextL, h0, ne_eq, not_true_eq_false, if_false, hp', if_true]
      rw [hp'] at h2
      rw [E.out]
      clear ha h0 hp hp' h3 L3 l3
      go_enter Try.func26, Try.ntmps26
      go_wp2_with (first | (go_at_call 41; refine h1.out.mono ?_; rintro e w' ⟨rfl, rfl⟩) | (go_at_call 71; refine h2.out.mono ?_; rintro e w' ⟨rfl, rfl⟩))
      go_ret3
      exact ⟨.slice none 0 0, rfl, OI.nil_ _ _, Below.refl _ _⟩
  · have h0' : (checkE xs xs.length != 0) = true := by simp [h0]
    have E : Hid (nextL xs = (([], false), checkE xs xs.length)) := by show _ = _; simp [nextL, h0]
    rw [E.out]
    clear ha h0
    go_enter Try.func26, Try.ntmps26
    go_wp2_with (go_at_call 41; refine h1.out.mono ?_; rintro e w' ⟨rfl, rfl⟩)
    go_ret3
    exact ⟨.slice none 0 0, rfl, OI.nil_ _ _, Below.refl _ _⟩
end Go.Proofs.Ytcmkllfocifnlaa
