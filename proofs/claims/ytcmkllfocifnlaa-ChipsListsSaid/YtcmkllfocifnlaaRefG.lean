/- Contracts of the reference of layer 17: Count. -/
import Derived.Test.YtcmkllfocifnlaaRefE
namespace Go.Proofs.Ytcmkllfocifnlaa
open Go.RowKit Go.Shelf

/-- The count, at most 16385. -/
def cap (n k : Nat) : Int := ((min (cnt n k) 16385 : Nat) : Int)
theorem cap_bd (n k : Nat) : 1 ≤ cap n k ∧ cap n k ≤ 16385 := by have := cnt_pos n k; unfold cap; omega
theorem cap_zero (k : Nat) : cap 0 k = 1 := by unfold cap; rw [cnt_zero]; rfl
theorem cap_n_zero (n : Nat) : cap n 0 = 1 := by unfold cap; rw [cnt_n_zero]; rfl
theorem cap_le {n k : Nat} (h : cap n (k + 1) + cap (n + 1) k ≤ 16385) : cap n (k + 1) + cap (n + 1) k = cap (n + 1) (k + 1) := by
  have h1 := cnt_pos n (k + 1)
  have h2 := cnt_pos (n + 1) k
  unfold cap at *; rw [cnt_succ]; omega
theorem cap_gt {n k : Nat} (h : ¬ cap n (k + 1) + cap (n + 1) k ≤ 16385) : 16385 = cap (n + 1) (k + 1) := by
  unfold cap at *; rw [cnt_succ]; omega
def CntRow (w : World) (q j : Nat) (i : Value) (wy : World) : Prop := ∃ (t s : Nat) (os : List Int), Hid (s = t + 1) ∧ s ≤ q + 1 ∧ i = .int .i64 s ∧ Hid (os.length = q + 1) ∧ Hid (∀ x, x ≤ t → os.getD x 0 = cap (j + 1) x) ∧ Hid (∀ x, t < x → x < q + 1 → os.getD x 0 = cap j x) ∧ Hid (OI wy w.heap.size (.slice (some ⟨w.heap.size, 0, none⟩) (q + 1) (q + 1)) os) ∧ Hid (Below w.heap.size w wy)
theorem cap_many {n k : Nat} (h1 : 1 ≤ n) (h : 16384 < k) : cap n k = 16385 := by
  have := cnt_mono h1 k
  rw [cnt_one] at this
  unfold cap; omega

set_option maxRecDepth 100000 in
set_option maxHeartbeats 2000000 in
theorem Count_any (m q : Nat) (hm1 : 1 ≤ m) (hm2 : m ≤ 12) (hq : q ≤ 1048576) (w : World) :
    Calls Try.prog 66 #[.int .i64 m, .int .i64 q] w fun e w' => e = .returned (.int .i64 (cap (m - 1) q)) ∧ Below w.heap.size w w' := by
  obtain ⟨i0, hi, hz0, hz1, hz2⟩ := info_parts int_info
  by_cases c1 : m = 1
  · subst c1
    have E := Lib.hid (cap_zero q)
    go_enter Try.func66, Try.ntmps66
    go_wp2
    go_ret
    exact ⟨by rw [E.out]; rfl, Below.refl _ _⟩
  by_cases c2 : 16384 < q
  · have E := Lib.hid (cap_many (n := m - 1) (by omega) c2)
    go_enter Try.func66, Try.ntmps66
    go_wp2
    go_ret
    exact ⟨by rw [E.out]; rfl, Below.refl _ _⟩
  have hm3 : 2 ≤ m := by omega
  have hq2 : q ≤ 16384 := by omega
  clear c1 c2 hq hm1
  go_enter Try.func66, Try.ntmps66
  go_wp2_with (at_make; refine wpList_make_full _ rfl _ _ _ rfl w.heap.size 3 i0 _ 1 Try.underlying22 hi hz0 hz1 .i64 .i64 _ _ (q + 1) rfl rfl rfl rfl (by rw [hz2]; omega) (by unfold maxLen; omega) (by simp) ?_; intro w1 hown1 hg1; have HO1 := Lib.hid (own_zeros hown1 (by omega)); have HG1 := Lib.hid hg1; clear hown1 hg1)
  go_loopw [6] (fun i wr => ∃ (t : Nat) (os : List Int), t ≤ q + 1 ∧ i = .int .i64 t ∧ Hid (os.length = q + 1) ∧ Hid (∀ x, x < t → os.getD x 0 = 1) ∧ Hid (OI wr w.heap.size (.slice (some ⟨w.heap.size, 0, none⟩) (q + 1) (q + 1)) os) ∧ Hid (Below w.heap.size w wr)) (fun i _ => q + 1 - (intOf i).toNat)
  case atStart => exact ⟨0, List.replicate (q + 1) 0, Nat.zero_le _, rfl, by simp [Hid], fun x h => by omega, HO1.out, below_grown HG1.out (Below.refl _ _)⟩
  case round =>
    obtain ⟨t, os, ht, rfl, ho1, ho2, hown, hbel⟩ := hrel
    by_cases hlt : t < q + 1
    · obtain ⟨-, -, hc3, hf3, hst3⟩ := OI.at' hown.out (k := t) (by have := ho1.out; omega)
      have HS3 := Lib.hid (hst3 1).1
      clear hst3
      go_wp2
      go_roundw
      case rel => exact ⟨t + 1, os.set t 1, by omega, by go_num, by show _ = _; rw [List.length_set, ho1.out], fun x h => (by
          by_cases e : t = x
          · rw [← e, getD_set_eq _ (by have := ho1.out; omega)]
          · rw [getD_set_ne _ e]; exact ho2.out x (by omega)), HS3.out, hbel.out.setCell (p := ⟨w.heap.size, t, none⟩) (Nat.le_refl _) _⟩
      case measure => simp [intOf]; omega
    · obtain rfl : t = q + 1 := by omega
      have hrow : Hid (∀ x, x < q + 1 → os.getD x 0 = cap 0 x) := fun x h => by rw [cap_zero]; exact ho2.out x (by omega)
      clear ho2
      go_wp2_with fail
      go_loopw [7] (fun i wx => ∃ (j : Nat) (os : List Int), j + 2 ≤ m + 1 ∧ i = .int .i64 ((j : Int) + 2) ∧ Hid (os.length = q + 1) ∧ Hid (∀ x, x < q + 1 → os.getD x 0 = cap j x) ∧ Hid (OI wx w.heap.size (.slice (some ⟨w.heap.size, 0, none⟩) (q + 1) (q + 1)) os) ∧ Hid (Below w.heap.size w wx)) (fun i _ => m + 2 - (intOf i).toNat)
      case atStart => exact ⟨0, os, by omega, by go_num, ho1, hrow, hown, hbel⟩
      case round =>
        clear hrow hown hbel ho1 ht hlt
        obtain ⟨j, os, hj, rfl, ho1, hrow, hown, hbel⟩ := hrel
        by_cases hlt : j + 2 ≤ m
        · go_wp2_with fail
          go_loopw [8] (fun i wy => CntRow w q j i wy) (fun i _ => q + 2 - (intOf i).toNat)
          case atStart => exact ⟨0, 1, os, rfl, by omega, by go_num, ho1, fun x h => (by rw [show x = 0 by omega, hrow.out 0 (by omega), cap_n_zero, cap_n_zero]), fun x _ h => hrow.out x h, hown, hbel⟩
          case round =>
            clear ho1 hrow hown hbel
            obtain ⟨t, s, os, hs1, ht, rfl, ho1, hr1, hr2, hown, hbel⟩ := hrel
            have hst := hs1.out
            by_cases hlt2 : s ≤ q
            · obtain ⟨-, -, hc3, hf3, hst3⟩ := OI.at' hown.out (k := s) (by have := ho1.out; omega)
              obtain ⟨-, -, hc4, -, -⟩ := OI.at' hown.out (k := t) (by have := ho1.out; omega)
              have hc5 : wr.cell? ⟨w.heap.size, s, none⟩ = some (.int .i64 (cap j (t + 1))) := by rw [hc3, hr2.out s (by omega) (by omega), hst]
              rw [hr1.out t (Nat.le_refl _)] at hc4
              clear hc3
              have b1 := cap_bd j (t + 1)
              have b2 := cap_bd (j + 1) t
              have C1 := Lib.hid (@cap_le j t)
              have C2 := Lib.hid (@cap_gt j t)
              have HS3 := Lib.hid hst3
              have hval : ∀ y, y = cap (j + 1) (t + 1) → ∀ x, x ≤ s → (os.set s y).getD x 0 = cap (j + 1) x := fun y hy x h => by
                by_cases e : s = x
                · rw [← e, getD_set_eq _ (by have := ho1.out; omega), hy, hst]
                · rw [getD_set_ne _ e]; exact hr1.out x (by omega)
              have hval2 : ∀ y, ∀ x, s < x → x < q + 1 → (os.set s y).getD x 0 = cap j x := fun y x h1 h2 => by
                rw [getD_set_ne _ (by omega)]; exact hr2.out x (by omega) h2
              have V1 := Lib.hid hval
              have V2 := Lib.hid hval2
              generalize cap j (t + 1) = a at *
              generalize cap (j + 1) t = b at *
              have hsq : (s : Int) < (q : Int) + 1 := by omega
              have htq : (t : Int) < (q : Int) + 1 := by omega
              have hsub : (s : Int) - 1 = (t : Int) := by omega
              have hw1 : IntKind.i64.wrap (t : Int) = (t : Int) := by simp (disch := omega) only [IntWalk.i64_in]
              have hw2 : IntKind.i64.wrap (a + b) = a + b := by simp (disch := omega) only [IntWalk.i64_in]
              have hdm : decide ((j : Int) + 2 ≤ (m : Int)) = true := by simp; omega
              clear hst3 hval hval2 hst ht
              by_cases cc : a + b ≤ 16385
              · go_wp2_with fail
                refine wp_region_still_tail 13 (by kernel_rfl) (by kernel_rfl) ?_
                change wpStill _ _ wr.drew _ _ _
                simp only [List.take_succ_cons, List.take_zero, List.drop_succ_cons, List.drop_zero]
                repeat still_step
                refine wpStill_nil ?_
                change wpList _ _ _ _ _ wr.drew
                go_wp2
                go_roundw
                case rel => first | exact ⟨s, s + 1, os.set s (a + b), rfl, by omega, by go_num, by show _ = _; rw [List.length_set, ho1.out], V1.out _ (C1.out cc), V2.out _, (HS3.out (a + b)).1, (hbel.out.setCell (p := ⟨w.heap.size, s, none⟩) (Nat.le_refl _) _).drew⟩ | exact ⟨.int .i64 ((s : Int) + 1), _, _, _, _, _, _, _, _, _, _, _, _, _, _, _, _, _, _, _, ⟨s, s + 1, os.set s (a + b), rfl, by omega, by go_num, by show _ = _; rw [List.length_set, ho1.out], V1.out _ (C1.out cc), V2.out _, (HS3.out (a + b)).1, (hbel.out.setCell (p := ⟨w.heap.size, s, none⟩) (Nat.le_refl _) _).drew⟩, by rw [hdm]; rfl⟩
                case measure => simp [intOf]; omega
              · go_wp2_with fail
                refine wp_region_still_tail 13 (by kernel_rfl) (by kernel_rfl) ?_
                change wpStill _ _ wr.drew _ _ _
                simp only [List.take_succ_cons, List.take_zero, List.drop_succ_cons, List.drop_zero]
                repeat still_step
                refine wpStill_nil ?_
                change wpList _ _ _ _ _ wr.drew
                go_wp2
                go_roundw
                case rel => first | exact ⟨s, s + 1, os.set s (16385), rfl, by omega, by go_num, by show _ = _; rw [List.length_set, ho1.out], V1.out _ (C2.out (by omega)), V2.out _, (HS3.out (16385)).1, (hbel.out.setCell (p := ⟨w.heap.size, s, none⟩) (Nat.le_refl _) _).drew⟩ | exact ⟨.int .i64 ((s : Int) + 1), _, _, _, _, _, _, _, _, _, _, _, _, _, _, _, _, _, _, _, ⟨s, s + 1, os.set s (16385), rfl, by omega, by go_num, by show _ = _; rw [List.length_set, ho1.out], V1.out _ (C2.out (by omega)), V2.out _, (HS3.out (16385)).1, (hbel.out.setCell (p := ⟨w.heap.size, s, none⟩) (Nat.le_refl _) _).drew⟩, by rw [hdm]; rfl⟩
                case measure => simp [intOf]; omega
            · have hte : t = q := by omega
              clear hst ht
              go_wp2
              go_roundw
              case rel => exact ⟨j + 1, os, by omega, by go_num, ho1, fun x h => hr1.out x (by omega), hown, hbel⟩
              case measure => simp [intOf]; omega
        · have hje : j = m - 1 := by omega
          have hq3 := hrow.out q (by omega)
          obtain ⟨-, -, hc3, -, -⟩ := OI.at' hown.out (k := q) (by have := ho1.out; omega)
          rw [hq3, hje] at hc3
          clear hq3
          go_wp2
          go_ret
          exact ⟨rfl, hbel.out⟩
end Go.Proofs.Ytcmkllfocifnlaa
