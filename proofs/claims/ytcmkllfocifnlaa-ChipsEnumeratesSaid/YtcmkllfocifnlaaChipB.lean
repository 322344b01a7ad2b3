/- Contracts of package chips: own. -/
import Derived.Test.YtcmkllfocifnlaaChipA
namespace Go.Proofs.Ytcmkllfocifnlaa
open Go.RowKit

theorem ownE1_cons (zs : List Int) (r : List (List Int)) : ownE1 (zs :: r) = if checkE zs zs.length ≠ 0 then checkE zs zs.length else ownE1 r := rfl
theorem ownE_of1 {l : List (List Int)} (h : ownE1 l ≠ 0) : ownE l = ownE1 l := by simp [ownE, h]

set_option maxHeartbeats 400000 in
theorem own_any (v : Value) (zss : List (List Int)) (w : World) (hv : RR w v zss) :
    Calls Try.prog 56 #[v] w fun e w' => e = .returned (.int .i64 (ownE zss)) ∧ w = w' := by
  obtain ⟨A, c, rfl, hlc, hc, hcell⟩ := hv.open_
  clear hv
  have HC := Lib.hid hcell
  clear hcell
  go_enter Try.func56, Try.ntmps56
  go_wp2
  go_loop [10] (fun i => ∃ k : Nat, k ≤ zss.length ∧ i = .int .i64 k ∧ Hid (ownE1 (zss.drop k) = ownE1 zss)) (fun i => zss.length - (intOf i).toNat)
  case atStart => exact ⟨0, Nat.zero_le _, rfl, rfl⟩
  case round =>
    obtain ⟨k, hk, rfl, hr⟩ := hrel
    by_cases hlt : k < zss.length
    · obtain ⟨ad, zs, A1, c1, rfl, _, hz, hcl, hri⟩ := HC.out k hlt
      have hd := Lib.hid (drop_at hz)
      have HR := Lib.hid hri
      clear HC hri
      by_cases hb : checkE zs zs.length = 0
      · go_wp2_with (go_at_call 47; refine (check_any _ zs _ _ HR.out).mono ?_; rintro e w' ⟨rfl, rfl⟩)
        go_round
        case rel => exact ⟨k + 1, by omega, by go_num, by have := hr.out; rw [hd.out, ownE1_cons, hb] at this; simpa [Hid] using this⟩
        case measure => simp [intOf]; omega
      · have hb' : (checkE zs zs.length != 0) = true := by simp [hb]
        have HB := Lib.hid hb
        clear hb
        go_wp2_with (go_at_call 47; refine (check_any _ zs _ _ HR.out).mono ?_; rintro e w' ⟨rfl, rfl⟩)
        go_ret
        refine ⟨?_, rfl⟩
        have := hr.out; rw [hd.out, ownE1_cons, if_pos HB.out] at this
        rw [ownE_of1 (by rw [← this]; exact HB.out), this]; rfl
    · have h1 : ownE1 zss = 0 := by have := hr.out; rw [List.drop_of_length_le (by omega)] at this; simpa [ownE1] using this.symm
      have H1 := Lib.hid h1
      clear h1 hr
      go_wp2
      go_loop [24] (fun i => ∃ k : Nat, k ≤ zss.length ∧ i = .int .i64 k ∧ Hid ((zss.drop k).all (fun zs => decide (zs.length = (zss.headD []).length)) = zss.all (fun zs => decide (zs.length = (zss.headD []).length)))) (fun i => zss.length - (intOf i).toNat)
      case atStart => exact ⟨0, Nat.zero_le _, rfl, rfl⟩
      case round =>
        obtain ⟨k, hk, rfl, hr⟩ := hrel
        by_cases hlt : k < zss.length
        · obtain ⟨ad, zs, A1, c1, rfl, _, hz, hcl, hri⟩ := HC.out k hlt
          obtain ⟨ad', zs0, A2, c2, hA, _, hz0, hcl0, hri0⟩ := HC.out 0 (by omega)
          obtain rfl := Option.some.inj hA
          have hcl1 : w.cell? ad = some (Value.slice A2 zs0.length c2) := hcl0
          have hp : 0 < zss.length := by omega
          have hd := Lib.hid (drop_at hz)
          have hh : Hid ((zss.headD []) = zs0) := by have := hz0.out; cases zss <;> simp_all [Hid]
          clear HC hri hri0 hcl0 hA
          by_cases hb : zs.length = zs0.length
          · have hb' : ((zs.length : Int) != zs0.length) = false := by simp [hb]
            have HB := Lib.hid hb
            clear hb
            go_wp2
            go_round
            case rel => exact ⟨k + 1, by omega, by go_num, by have := hr.out; rw [hd.out, List.all_cons, hh.out] at this; simp only [HB.out, decide_true, Bool.true_and] at this; rw [hh.out]; exact this⟩
            case measure => simp [intOf]; omega
          · have hb' : ((zs.length : Int) != zs0.length) = true := by simp; omega
            have HB := Lib.hid hb
            clear hb
            go_wp2
            go_ret
            refine ⟨?_, rfl⟩
            have := hr.out
            rw [hd.out, List.all_cons, hh.out] at this
            simp only [ownE, H1.out, ne_eq, not_true_eq_false, if_false, hh.out, ← this]
            simp [HB.out]
        · go_wp2
          go_ret
          refine ⟨?_, rfl⟩
          have := hr.out
          rw [List.drop_of_length_le (by omega)] at this
          simp only [ownE, H1.out, ne_eq, not_true_eq_false, if_false, ← this]
          simp
end Go.Proofs.Ytcmkllfocifnlaa
