/- append onto a slice of the call's own, the source any slice that reads as a list; one store of a value into an own slice.
   Contracts of cmp.Compare at ints, slices.Compare at divisors, and of the closure of Classes.
   Contract of slices.SortFunc at divisors, out of the shelf's.
   Contracts of the references' order, added and taken.
   Contracts of slices.Clone, Min, Equal at ints. -/
import Derived.Test.YteamhbohgoclgaaGreatDoorP14
set_option maxRecDepth 100000
set_option maxHeartbeats 16000000
namespace Go.Proofs.YteamhbohgoclgaaGreatDoor
open Go.RowKit

section
variable {P : Program} (w : World)
end
/-- Only draws have been made. -/
def Dr (w w' : World) : Prop := ∃ n, w' = w.drewN n
theorem Dr.refl (w : World) : Dr w w := ⟨0, rfl⟩
theorem Dr.drewN {w w' : World} (h : Dr w w') (n : Nat) : Dr w (w'.drewN n) := by obtain ⟨m, rfl⟩ := h; exact ⟨m + n, World.drewN_drewN ..⟩
theorem Dr.drew {w w' : World} (h : Dr w w') : Dr w w'.drew := h.drewN 1
theorem Dr.cell {w w' : World} (h : Dr w w') (a : Addr) : w'.cell? a = w.cell? a := by obtain ⟨n, rfl⟩ := h; rfl
end Go.Proofs.YteamhbohgoclgaaGreatDoor

namespace Go.Proofs.YteamhbohgoclgaaGreatDoor
open Go.RowKit Go.Shelf

/-- Lexicographic comparison. -/
def cmpL : List Int → List Int → Int
  | [], [] => 0
  | [], _ :: _ => -1
  | _ :: _, [] => 1
  | x :: xs, y :: ys => if cmpI x y ≠ 0 then cmpI x y else cmpL xs ys
open Go.RowKit Go.Shelf

theorem cmpL_refl : ∀ xs, cmpL xs xs = 0
  | [] => rfl
  | x :: r => by
    have : cmpI x x = 0 := by simp [cmpI]
    rw [cmpL, if_neg (by simp [this]), cmpL_refl r]
theorem cmpL_cons (x y : Int) (r s : List Int) : cmpL (x :: r) (y :: s) = if x < y then -1 else if y < x then 1 else cmpL r s := by
  rw [cmpL]; unfold cmpI
  by_cases h1 : x < y
  · simp [h1]
  · by_cases h2 : y < x
    · simp [h1, h2]
    · simp [h1, h2]
theorem cmpL_nil_cons (y : Int) (s : List Int) : cmpL [] (y :: s) = -1 := by rw [cmpL]
theorem cmpL_cons_nil (x : Int) (r : List Int) : cmpL (x :: r) [] = 1 := by rw [cmpL]
theorem cmpL_ge : ∀ xs ys zs, ¬ cmpL xs ys < 0 → ¬ cmpL ys zs < 0 → ¬ cmpL xs zs < 0 := by
  intro xs
  induction xs with
  | nil =>
    intro ys zs h1 h2
    cases ys with
    | nil => exact h2
    | cons y s => rw [cmpL_nil_cons] at h1; omega
  | cons x r ih =>
    intro ys zs h1 h2
    cases zs with
    | nil => rw [cmpL_cons_nil]; omega
    | cons z t => cases ys with
      | nil => rw [cmpL_nil_cons] at h2; omega
      | cons y s =>
        rw [cmpL_cons] at h1 h2 ⊢
        have := ih s t
        repeat' split at h1
        all_goals (repeat' split at h2)
        all_goals (repeat' split)
        all_goals first | omega | exact this h1 h2
theorem cmpL_anti : ∀ xs ys, ¬ cmpL xs ys < 0 → ¬ cmpL ys xs < 0 → xs = ys := by
  intro xs
  induction xs with
  | nil =>
    intro ys h1 h2
    cases ys with
    | nil => rfl
    | cons y s => rw [cmpL_nil_cons] at h1; omega
  | cons x r ih =>
    intro ys h1 h2
    cases ys with
    | nil => rw [cmpL_nil_cons] at h2; omega
    | cons y s =>
      rw [cmpL_cons] at h1 h2
      have := ih s
      repeat' split at h1
      all_goals (repeat' split at h2)
      all_goals first | omega | (rw [this h1 h2]; congr 1; omega)
open Go.RowKit Go.Shelf

theorem sgn_lt {a b : Int} (h : a < b) : cmpI a b = -1 := by unfold cmpI; rw [if_pos h]
theorem sgn_gt {a b : Int} (h : b < a) : cmpI a b = 1 := by unfold cmpI; rw [if_neg (by omega), if_pos h]
theorem sgn_eq {a b : Int} (h : a = b) : cmpI a b = 0 := by unfold cmpI; rw [if_neg (by omega), if_neg (by omega)]
open Go.RowKit Go.Shelf

theorem EqualI_any (va vb : Value) (xs ys : List Int) (w : World) (ha : RI w va xs) (hb : RI w vb ys) :
    Calls Tryz.prog 38 #[va, vb] w (Quiet w (.bool (eqL xs ys))) := by
  obtain ⟨A, c, rfl, hlc, hc, hcell⟩ := ha.open_
  obtain ⟨A', c', rfl, hlc', hc', hcell'⟩ := hb.open_
  have HA := Hd hcell
  have HB := Hd hcell'
  clear hcell hcell' ha hb
  by_cases hl : xs.length = ys.length
  · have hl' : ((xs.length : Int) != ys.length) = false := by simp [hl]
    have HL := Hd hl
    clear hl
    go_enter Tryz.func38, Tryz.ntmps38
    go_wp2
    go_loopw [13] (fun i wr => ∃ k m : Nat, k ≤ xs.length ∧ i = .int .i64 k ∧ Hid (eqL (xs.drop k) (ys.drop k) = eqL xs ys) ∧ wr = w.drewN m) (fun i _ => xs.length - (intOf i).toNat)
    case atStart => exact ⟨0, 0, Nat.zero_le _, rfl, rfl, rfl⟩
    case round =>
      obtain ⟨k, m, hk, rfl, he, rfl⟩ := hrel
      by_cases hlt : k < xs.length
      · obtain ⟨ad, z, rfl, _, hz, hcl⟩ := HA.out k hlt
        have hlt' : k < ys.length := by have := HL.out; omega
        obtain ⟨ad', z', rfl, _, hz', hcl'⟩ := HB.out k hlt'
        have HD := Hd (drop_at hz)
        have HD' := Hd (drop_at hz')
        clear HA HB
        go_wp2_with fail
        go_quiet (fail)
        go_wp2
        · have hne : z ≠ z' := by have : (z != z') = true := by assumption
                                  simpa using this
          go_ret
          refine ⟨ret_b ?_, m + nq, by simp⟩
          rw [← he.out, HD.out, HD'.out]
          simp [eqL, hne]
        · have heq : z = z' := by have : (z != z') = false := by assumption
                                  simpa using this
          go_roundw
          case rel => exact ⟨k + 1, m + nq, by omega, by go_num, by show _ = _; rw [← he.out, HD.out, HD'.out]; simp [eqL, heq], by simp⟩
          case measure => simp [intOf]; omega
      · go_wp2
        go_ret
        refine ⟨ret_b ?_, m, rfl⟩
        rw [← he.out, List.drop_of_length_le (by omega), List.drop_of_length_le (by have := HL.out; omega)]; rfl
  · have hl' : ((xs.length : Int) != ys.length) = true := by simp; omega
    have HL := Hd hl
    clear hl
    go_enter Tryz.func38, Tryz.ntmps38
    go_wp2
    go_ret
    exact ⟨ret_b (eqL_len HL.out).symm, 0, rfl⟩

end Go.Proofs.YteamhbohgoclgaaGreatDoor

