/- Contracts of package chips, the leaves. -/
import Derived.Test.YtcmkllfocifnlaaBase
namespace Go.Proofs.Ytcmkllfocifnlaa
open Go.RowKit

def vertE (n : Int) : Int := if n < 1 ∨ 12 < n then 2 else 0
def checkE (zs : List Int) (n : Int) : Int := if n < 1 ∨ 12 < n then 2 else if (zs.length : Int) ≠ n then 8 else if zs.all InB then 0 else 2
def ownE1 : List (List Int) → Int
  | [] => 0
  | zs :: r => if checkE zs zs.length ≠ 0 then checkE zs zs.length else ownE1 r
def ownE (l : List (List Int)) : Int := if ownE1 l ≠ 0 then ownE1 l else if l.all (fun zs => decide (zs.length = (l.headD []).length)) then 0 else 8

set_option maxHeartbeats 400000 in
theorem within_any (k : Int) (w : World) : Calls Try.prog 78 #[.int .i64 k] w fun e w' => e = .returned (.bool (InB k)) ∧ w = w' := by
  go_enter Try.func78, Try.ntmps78
  go_wp2
  all_goals (go_ret; exact ⟨by simp [InB, *]; try omega, rfl⟩)
set_option maxHeartbeats 400000 in
theorem vertices_any (n : Int) (w : World) : Calls Try.prog 63 #[.int .i64 n] w fun e w' => e = .returned (.int .i64 (vertE n)) ∧ w = w' := by
  by_cases h1 : n < 1
  · go_enter Try.func63, Try.ntmps63
    go_wp2
    go_ret
    exact ⟨by simp [vertE, h1], rfl⟩
  · by_cases h2 : n > 12
    · go_enter Try.func63, Try.ntmps63
      go_wp2
      go_ret
      exact ⟨by simp [vertE, h2], rfl⟩
    · go_enter Try.func63, Try.ntmps63
      go_wp2
      go_ret
      exact ⟨by simp [vertE, h1, h2], rfl⟩

set_option maxHeartbeats 400000 in
theorem check_any (v : Value) (zs : List Int) (n : Int) (w : World) (hv : RI w v zs) :
    Calls Try.prog 47 #[v, .int .i64 n] w fun e w' => e = .returned (.int .i64 (checkE zs n)) ∧ w = w' := by
  obtain ⟨A, c, rfl, hlc, hc, hcell⟩ := hv.open_
  by_cases h1 : n < 1 ∨ 12 < n
  · have e1 : (vertE n != 0) = true := by simp [vertE, h1]
    have H1 := Lib.hid h1
    clear h1
    go_enter Try.func47, Try.ntmps47
    go_wp2_with (go_at_call 63; refine (vertices_any _ _).mono ?_; rintro e w' ⟨rfl, rfl⟩)
    go_ret
    exact ⟨by simp [vertE, checkE, H1.out], rfl⟩
  · have e1 : vertE n = 0 := by simp [vertE, h1]
    by_cases h2 : (zs.length : Int) = n
    · have e2 : ((zs.length : Int) != n) = false := by simp [h2]
      have H1 := Lib.hid h1
      have H2 := Lib.hid h2
      have HC := Lib.hid hcell
      clear h1 h2 hcell
      go_enter Try.func47, Try.ntmps47
      go_wp2_with (go_at_call 63; refine (vertices_any _ _).mono ?_; rintro e w' ⟨rfl, rfl⟩)
      go_loop [19] (fun i => ∃ k : Nat, k ≤ zs.length ∧ i = .int .i64 k ∧ Hid ((zs.drop k).all InB = zs.all InB)) (fun i => zs.length - (intOf i).toNat)
      case atStart => exact ⟨0, Nat.zero_le _, rfl, rfl⟩
      case round =>
        obtain ⟨k, hk, rfl, hr⟩ := hrel
        by_cases hlt : k < zs.length
        · obtain ⟨ad, z, rfl, _, hz, hcl⟩ := HC.out k hlt
          clear HC hv
          have hd := Lib.hid (drop_at hz)
          cases hb : InB z
          · go_wp2_with (go_at_call 78; refine (within_any _ _).mono ?_; rintro e w' ⟨rfl, rfl⟩)
            go_ret
            refine ⟨?_, rfl⟩
            have := hr.out; rw [hd.out] at this
            simp only [checkE, if_neg H1.out, H2.out, ← this]
            simp [hb]
          · go_wp2_with (go_at_call 78; refine (within_any _ _).mono ?_; rintro e w' ⟨rfl, rfl⟩)
            go_round
            case rel => exact ⟨k + 1, by omega, by go_num, by have := hr.out; rw [hd.out] at this; simpa [Hid, hb] using this⟩
            case measure => simp [intOf]; omega
        · go_wp2
          go_ret
          refine ⟨?_, rfl⟩
          have := hr.out; rw [List.drop_of_length_le (by omega)] at this
          simp only [checkE, if_neg H1.out, H2.out, ← this]
          simp
    · have e2 : ((zs.length : Int) != n) = true := by simp [h2]
      have H1 := Lib.hid h1
      have H2 := Lib.hid h2
      clear h1 h2
      go_enter Try.func47, Try.ntmps47
      go_wp2_with (go_at_call 63; refine (vertices_any _ _).mono ?_; rintro e w' ⟨rfl, rfl⟩)
      go_ret
      exact ⟨by simp [checkE, H1.out, H2.out], rfl⟩
end Go.Proofs.Ytcmkllfocifnlaa
