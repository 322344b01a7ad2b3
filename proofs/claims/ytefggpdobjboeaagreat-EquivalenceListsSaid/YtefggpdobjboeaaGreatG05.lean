/- Contracts of slices at divisors, scripts and ints: Equal, Clone, IndexFunc, ContainsFunc, Compare, Min, Max. Printed by gen/slices35.py.
   What moves along edges, as the code does it: one edge, one vertex, one set at a time. No program in sight.
   Contracts of package chips, the leaves. -/
import Derived.Test.YtefggpdobjboeaaGreatG04
import Derived.Test.YtefggpdobjboeaaGreatG02
import Derived.Test.YtefggpdobjboeaaGreatG01
namespace Go.Proofs.YtefggpdobjboeaaGreat
open Go.RowKit

def Quiet (w : World) (v : Value) (e : Ending) (w' : World) : Prop := e = .returned v ∧ ∃ n, w' = w.drewN n
theorem drewN_zero (w : World) : w.drewN 0 = w := rfl

/-- Equal at divisors. -/
def eqL : List Int → List Int → Bool
  | [], [] => true
  | x :: r, y :: s => x == y && eqL r s
  | _, _ => false
theorem eqL_iff (xs ys : List Int) : eqL xs ys = true ↔ xs = ys := by
  induction xs generalizing ys with
  | nil => cases ys <;> simp [eqL]
  | cons x r ih => cases ys <;> simp [eqL, ih]
theorem eqL_len {xs ys : List Int} (h : xs.length ≠ ys.length) : eqL xs ys = false := by
  rw [Bool.eq_false_iff]; intro e; exact h (congrArg List.length ((eqL_iff _ _).1 e))

set_option maxHeartbeats 1000000 in
theorem EqualD_any (va vb : Value) (xs ys : List Int) (w : World) (ha : RI w va xs) (hb : RI w vb ys) :
    Calls Tryz.prog 19 #[va, vb] w (Quiet w (.bool (eqL xs ys))) := by
  obtain ⟨A, c, rfl, hlc, hc, hcell⟩ := ha.open_
  obtain ⟨A', c', rfl, hlc', hc', hcell'⟩ := hb.open_
  have HA := Lib.hid hcell
  have HB := Lib.hid hcell'
  clear hcell hcell' ha hb
  by_cases hl : xs.length = ys.length
  · have hl' : ((xs.length : Int) != ys.length) = false := by simp [hl]
    have HL := Lib.hid hl
    clear hl
    go_enter Tryz.func19, Tryz.ntmps19
    go_wp2
    go_loopw [13] (fun i wr => ∃ k m : Nat, k ≤ xs.length ∧ i = .int .i64 k ∧ Hid (eqL (xs.drop k) (ys.drop k) = eqL xs ys) ∧ wr = w.drewN m) (fun i _ => xs.length - (intOf i).toNat)
    case atStart => exact ⟨0, 0, Nat.zero_le _, rfl, rfl, rfl⟩
    case round =>
      obtain ⟨k, m, hk, rfl, he, rfl⟩ := hrel
      by_cases hlt : k < xs.length
      · obtain ⟨ad, z, rfl, _, hz, hcl⟩ := HA.out k hlt
        have hlt' : k < ys.length := by have := HL.out; omega
        obtain ⟨ad', z', rfl, _, hz', hcl'⟩ := HB.out k hlt'
        have HD := Lib.hid (drop_at hz)
        have HD' := Lib.hid (drop_at hz')
        clear HA HB
        go_wp2_with fail
        go_quiet (fail)
        go_wp2
        · have hne : z ≠ z' := by have : (z != z') = true := by assumption
                                  simpa using this
          go_ret
          refine ⟨ret_b ?_, m + nq, by simp⟩
          rw [← he.out, HD.out, HD'.out]
          simp [eqL, hne]
        · have heq : z = z' := by have : (z != z') = false := by assumption
                                  simpa using this
          go_roundw
          case rel => exact ⟨k + 1, m + nq, by omega, by go_num, by show _ = _; rw [← he.out, HD.out, HD'.out]; simp [eqL, heq], by simp⟩
          case measure => simp [intOf]; omega
      · go_wp2
        go_ret
        refine ⟨ret_b ?_, m, rfl⟩
        rw [← he.out, List.drop_of_length_le (by omega), List.drop_of_length_le (by have := HL.out; omega)]; rfl
  · have hl' : ((xs.length : Int) != ys.length) = true := by simp; omega
    have HL := Lib.hid hl
    clear hl
    go_enter Tryz.func19, Tryz.ntmps19
    go_wp2
    go_ret
    exact ⟨ret_b (eqL_len HL.out).symm, 0, rfl⟩

set_option maxHeartbeats 1000000 in
theorem EqualS_any (va vb : Value) (xs ys : List Int) (w : World) (ha : RI w va xs) (hb : RI w vb ys) :
    Calls Tryz.prog 13 #[va, vb] w (Quiet w (.bool (eqL xs ys))) := by
  obtain ⟨A, c, rfl, hlc, hc, hcell⟩ := ha.open_
  obtain ⟨A', c', rfl, hlc', hc', hcell'⟩ := hb.open_
  have HA := Lib.hid hcell
  have HB := Lib.hid hcell'
  clear hcell hcell' ha hb
  by_cases hl : xs.length = ys.length
  · have hl' : ((xs.length : Int) != ys.length) = false := by simp [hl]
    have HL := Lib.hid hl
    clear hl
    go_enter Tryz.func13, Tryz.ntmps13
    go_wp2
    go_loopw [13] (fun i wr => ∃ k m : Nat, k ≤ xs.length ∧ i = .int .i64 k ∧ Hid (eqL (xs.drop k) (ys.drop k) = eqL xs ys) ∧ wr = w.drewN m) (fun i _ => xs.length - (intOf i).toNat)
    case atStart => exact ⟨0, 0, Nat.zero_le _, rfl, rfl, rfl⟩
    case round =>
      obtain ⟨k, m, hk, rfl, he, rfl⟩ := hrel
      by_cases hlt : k < xs.length
      · obtain ⟨ad, z, rfl, _, hz, hcl⟩ := HA.out k hlt
        have hlt' : k < ys.length := by have := HL.out; omega
        obtain ⟨ad', z', rfl, _, hz', hcl'⟩ := HB.out k hlt'
        have HD := Lib.hid (drop_at hz)
        have HD' := Lib.hid (drop_at hz')
        clear HA HB
        go_wp2_with fail
        go_quiet (fail)
        go_wp2
        · have hne : z ≠ z' := by have : (z != z') = true := by assumption
                                  simpa using this
          go_ret
          refine ⟨ret_b ?_, m + nq, by simp⟩
          rw [← he.out, HD.out, HD'.out]
          simp [eqL, hne]
        · have heq : z = z' := by have : (z != z') = false := by assumption
                                  simpa using this
          go_roundw
          case rel => exact ⟨k + 1, m + nq, by omega, by go_num, by show _ = _; rw [← he.out, HD.out, HD'.out]; simp [eqL, heq], by simp⟩
          case measure => simp [intOf]; omega
      · go_wp2
        go_ret
        refine ⟨ret_b ?_, m, rfl⟩
        rw [← he.out, List.drop_of_length_le (by omega), List.drop_of_length_le (by have := HL.out; omega)]; rfl
  · have hl' : ((xs.length : Int) != ys.length) = true := by simp; omega
    have HL := Lib.hid hl
    clear hl
    go_enter Tryz.func13, Tryz.ntmps13
    go_wp2
    go_ret
    exact ⟨ret_b (eqL_len HL.out).symm, 0, rfl⟩

set_option maxRecDepth 100000 in
set_option maxHeartbeats 1000000 in
theorem CloneD_any (va : Value) (xs : List Int) (w : World) (ha : RI w va xs) (hl : xs.length ≤ 17592186044415 := by omega) :
    Calls Tryz.prog 29 #[va] w fun e w' => ∃ v, e = .returned v ∧ OI w' w.heap.size v xs ∧ Below w.heap.size w w' := by
  obtain ⟨A, c, rfl, hlc, hc, hcell⟩ := ha.open_
  obtain ⟨i0, hi, hz0, hz1, hz2⟩ := info_parts int_info
  have hq := fun W : World => Lib.run_eql_slice_nil (P := Tryz.prog) W 26 3 A xs.length c 0 0 Tryz.underlying26
  have HRA := Lib.hid ha
  rcases A with _ | ad
  · have hn : xs.length = 0 := by
      rcases Nat.eq_zero_or_pos xs.length with h | h
      · exact h
      · obtain ⟨ad, z, h, _⟩ := hcell 0 h; cases h
    have HN := Lib.hid (List.eq_nil_of_length_eq_zero hn)
    simp only [Option.isNone_none] at hq
    clear hcell ha hn
    go_enter Tryz.func29, Tryz.ntmps29
    go_wp2
    refine bodyPost_ret (results_tmp rfl _ _ _) rfl ⟨.slice none 0 0, rfl, ?_, Below.refl _ _⟩
    rw [HN.out]; exact OI.nil_ _ _
  · simp only [Option.isNone_some] at hq
    have hr1 := Lib.hid (ha.below (below_alloc w (.cells #[] 3)))
    have ho := Lib.hid (show OV (w.alloc (.cells #[] 3)) w.heap.size 3 (.slice (some ⟨w.heap.size, 0, none⟩) 0 0) [] from
      ⟨World.ownsRow_made w #[] 0 (Nat.le_refl _) (by unfold maxLen; omega) (by simp), by simp⟩)
    have HX := Lib.hid (ints_one xs)
    clear hcell ha
    go_enter Tryz.func29, Tryz.ntmps29
    go_wp2_with (at_builtin; refine wpList_appendV _ rfl _ _ _ rfl 3 i0 _ 8 Tryz.underlying26 hi hz0 hz1 hz2 rfl w.heap.size _ [] rfl ho.out _ _ rfl hr1.out HX.out (by simpa using hl) (by simp; omega) (by simp) ?_; intro v1 w1 hown1 hg1 hat1)
    refine bodyPost_ret (results_tmp rfl _ _ _) rfl ⟨v1, rfl, by simpa [OI] using hown1, ?_⟩
    exact below_own (below_alloc w _) (by simp) ho.out hg1
/-- A function value that says p of ints, in the world w and whatever follows it; it may draw. -/
def CloB (P : Program) (w : World) (fv : Value) (D : Int → Prop) (p : Int → Bool) : Prop :=
  ∃ fn caps, fv = .func (.func fn) #[] caps ∧ (∀ args W, (callFunc fn args).run P W = .ok (.enter fn args) W) ∧ ∀ W, Below w.heap.size w W → ∀ x, D x → Calls P fn (#[.int .i64 x] ++ caps) W fun e w' => e = .returned (.bool (p x)) ∧ W = w'
theorem CloB.below {P : Program} {w w' : World} {fv : Value} {D : Int → Prop} {p : Int → Bool} (h : CloB P w fv D p) (hb : Below w.heap.size w w') : CloB P w' fv D p := by
  obtain ⟨fn, caps, e, hen, hc⟩ := h
  exact ⟨fn, caps, e, hen, fun W hW x hx => hc W (hb.trans (hW.mono hb.size)) x hx⟩
/-- The first place where p holds. -/
def idxL (p : Int → Bool) : List Int → Int
  | [] => -1
  | z :: r => if p z then 0 else if idxL p r < 0 then -1 else idxL p r + 1
theorem idxL_any (p : Int → Bool) (l : List Int) : decide (0 ≤ idxL p l) = l.any p := by
  induction l with
  | nil => rfl
  | cons z r ih =>
    rw [List.any_cons, ← ih]
    by_cases hp : p z = true
    · simp [idxL, hp]
    · have hp' : p z = false := by simpa using hp
      simp only [idxL, hp', Bool.false_eq_true, if_false, Bool.false_or]
      split <;> rw [decide_eq_decide] <;> omega
theorem idxL_lo (p : Int → Bool) (l : List Int) : -1 ≤ idxL p l := by
  induction l with
  | nil => exact Int.le_refl _
  | cons z r ih => simp only [idxL]; split <;> (try split) <;> omega
theorem idxL_hi (p : Int → Bool) (l : List Int) : idxL p l ≤ l.length := by
  induction l with
  | nil => simp [idxL]
  | cons z r ih => simp only [idxL, List.length_cons]; split <;> (try split) <;> omega
set_option maxHeartbeats 1000000 in
theorem IndexD_any (va fv : Value) (xs : List Int) (D : Int → Prop) (p : Int → Bool) (w : World) (ha : RI w va xs) (hf : CloB Tryz.prog w fv D p) (hD : ∀ x ∈ xs, D x) :
    Calls Tryz.prog 105 #[va, fv] w fun e w' => e = .returned (.int .i64 (idxL p xs)) ∧ w = w' := by
  obtain ⟨A, c, rfl, hlc, hc, hcell⟩ := ha.open_
  obtain ⟨fn, caps, rfl, hen, hcall⟩ := hf
  have HA := Lib.hid hcell
  have HF := Lib.hid (hcall w (Below.refl _ _))
  have HD := Lib.hid hD
  clear hcell ha hcall hD
  go_enter Tryz.func105, Tryz.ntmps105
  go_wp2
  go_loop [8] (fun i => ∃ k : Nat, k ≤ xs.length ∧ i = .int .i64 k ∧ Hid (idxL p xs = if idxL p (xs.drop k) < 0 then -1 else idxL p (xs.drop k) + k)) (fun i => xs.length - (intOf i).toNat)
  case atStart => exact ⟨0, Nat.zero_le _, rfl, by show _ = _; have := idxL_lo p xs; simp only [List.drop_zero]; split <;> omega⟩
  case round =>
    obtain ⟨k, hk, rfl, he⟩ := hrel
    by_cases hlt : k < xs.length
    · obtain ⟨ad, z, rfl, _, hz, hcl⟩ := HA.out k hlt
      have HC := Lib.hid (HF.out z (HD.out z (List.mem_of_getElem? hz.out)))
      have HDr := Lib.hid (drop_at hz)
      clear HA HF
      cases hb : p z
      · go_wp2_with fail
        refine HC.out.mono ?_
        rw [hb]
        rintro e w' ⟨rfl, rfl⟩
        go_wp2
        go_round
        case rel =>
          refine ⟨k + 1, by omega, by go_num, ?_⟩
          show _ = _
          have h := he.out
          have hlo := idxL_lo p (xs.drop (k + 1))
          rw [HDr.out] at h
          simp only [idxL, hb, Bool.false_eq_true, if_false] at h
          rw [h]
          by_cases c1 : idxL p (xs.drop (k + 1)) < 0
          · simp [c1]
          · rw [if_neg c1, if_neg c1, if_neg (by omega)]; push_cast; omega
        case measure => simp [intOf]; omega
      · go_wp2_with fail
        refine HC.out.mono ?_
        rw [hb]
        rintro e w' ⟨rfl, rfl⟩
        go_wp2
        go_ret
        refine ⟨ret_i ?_, rfl⟩
        have h := he.out
        rw [HDr.out] at h
        simp only [idxL, hb, if_true] at h
        rw [h]; simp
    · go_wp2
      go_ret
      refine ⟨ret_i ?_, rfl⟩
      have h := he.out
      rw [List.drop_of_length_le (by omega)] at h
      rw [h]; simp [idxL]
set_option maxHeartbeats 400000 in
theorem ContainsD_any (va fv : Value) (xs : List Int) (D : Int → Prop) (p : Int → Bool) (w : World) (ha : RI w va xs) (hf : CloB Tryz.prog w fv D p) (hD : ∀ x ∈ xs, D x) :
    Calls Tryz.prog 62 #[va, fv] w fun e w' => e = .returned (.bool (xs.any p)) ∧ w = w' := by
  have HI := Lib.hid (IndexD_any va fv xs D p w ha hf hD)
  have HE := Lib.hid (idxL_any p xs)
  have hlo := idxL_lo p xs
  have hhi := idxL_hi p xs
  obtain ⟨A, c, rfl, hlc, hc, -⟩ := ha.open_
  obtain ⟨fn, caps, rfl, -, -⟩ := hf
  clear ha hD
  go_enter Tryz.func62, Tryz.ntmps62
  go_wp2_with (refine HI.out.mono ?_; rintro e w' ⟨rfl, rfl⟩)
  go_ret
  exact ⟨ret_b HE.out, rfl⟩
set_option maxHeartbeats 1000000 in
theorem IndexS_any (va fv : Value) (xs : List Int) (D : Int → Prop) (p : Int → Bool) (w : World) (ha : RI w va xs) (hf : CloB Tryz.prog w fv D p) (hD : ∀ x ∈ xs, D x) :
    Calls Tryz.prog 67 #[va, fv] w fun e w' => e = .returned (.int .i64 (idxL p xs)) ∧ w = w' := by
  obtain ⟨A, c, rfl, hlc, hc, hcell⟩ := ha.open_
  obtain ⟨fn, caps, rfl, hen, hcall⟩ := hf
  have HA := Lib.hid hcell
  have HF := Lib.hid (hcall w (Below.refl _ _))
  have HD := Lib.hid hD
  clear hcell ha hcall hD
  go_enter Tryz.func67, Tryz.ntmps67
  go_wp2
  go_loop [8] (fun i => ∃ k : Nat, k ≤ xs.length ∧ i = .int .i64 k ∧ Hid (idxL p xs = if idxL p (xs.drop k) < 0 then -1 else idxL p (xs.drop k) + k)) (fun i => xs.length - (intOf i).toNat)
  case atStart => exact ⟨0, Nat.zero_le _, rfl, by show _ = _; have := idxL_lo p xs; simp only [List.drop_zero]; split <;> omega⟩
  case round =>
    obtain ⟨k, hk, rfl, he⟩ := hrel
    by_cases hlt : k < xs.length
    · obtain ⟨ad, z, rfl, _, hz, hcl⟩ := HA.out k hlt
      have HC := Lib.hid (HF.out z (HD.out z (List.mem_of_getElem? hz.out)))
      have HDr := Lib.hid (drop_at hz)
      clear HA HF
      cases hb : p z
      · go_wp2_with fail
        refine HC.out.mono ?_
        rw [hb]
        rintro e w' ⟨rfl, rfl⟩
        go_wp2
        go_round
        case rel =>
          refine ⟨k + 1, by omega, by go_num, ?_⟩
          show _ = _
          have h := he.out
          have hlo := idxL_lo p (xs.drop (k + 1))
          rw [HDr.out] at h
          simp only [idxL, hb, Bool.false_eq_true, if_false] at h
          rw [h]
          by_cases c1 : idxL p (xs.drop (k + 1)) < 0
          · simp [c1]
          · rw [if_neg c1, if_neg c1, if_neg (by omega)]; push_cast; omega
        case measure => simp [intOf]; omega
      · go_wp2_with fail
        refine HC.out.mono ?_
        rw [hb]
        rintro e w' ⟨rfl, rfl⟩
        go_wp2
        go_ret
        refine ⟨ret_i ?_, rfl⟩
        have h := he.out
        rw [HDr.out] at h
        simp only [idxL, hb, if_true] at h
        rw [h]; simp
    · go_wp2
      go_ret
      refine ⟨ret_i ?_, rfl⟩
      have h := he.out
      rw [List.drop_of_length_le (by omega)] at h
      rw [h]; simp [idxL]
set_option maxHeartbeats 400000 in
theorem ContainsS_any (va fv : Value) (xs : List Int) (D : Int → Prop) (p : Int → Bool) (w : World) (ha : RI w va xs) (hf : CloB Tryz.prog w fv D p) (hD : ∀ x ∈ xs, D x) :
    Calls Tryz.prog 25 #[va, fv] w fun e w' => e = .returned (.bool (xs.any p)) ∧ w = w' := by
  have HI := Lib.hid (IndexS_any va fv xs D p w ha hf hD)
  have HE := Lib.hid (idxL_any p xs)
  have hlo := idxL_lo p xs
  have hhi := idxL_hi p xs
  obtain ⟨A, c, rfl, hlc, hc, -⟩ := ha.open_
  obtain ⟨fn, caps, rfl, -, -⟩ := hf
  clear ha hD
  go_enter Tryz.func25, Tryz.ntmps25
  go_wp2_with (refine HI.out.mono ?_; rintro e w' ⟨rfl, rfl⟩)
  go_ret
  exact ⟨ret_b HE.out, rfl⟩
end Go.Proofs.YtefggpdobjboeaaGreat

namespace Go.Proofs.YtefggpdobjboeaaGreat

def addAt (d : List Int) (i : Nat) (x : Int) : List Int := d.set i (d.getD i 0 + x)
theorem addAt_len (d : List Int) (i : Nat) (x : Int) : (addAt d i x).length = d.length := by simp [addAt]
theorem addAt_get {d : List Int} {i : Nat} (x : Int) (hi : i < d.length) (j : Nat) : (addAt d i x).getD j 0 = d.getD j 0 + if i = j then x else 0 := by
  unfold addAt
  rw [List.getD_eq_getElem?_getD, List.getElem?_set]
  by_cases e : i = j
  · subst e; rw [if_pos rfl, if_pos hi, if_pos rfl]; rfl
  · rw [if_neg e, if_neg e, List.getD_eq_getElem?_getD]; simp
def Bd (B : Int) (d : List Int) : Prop := ∀ j, -B ≤ d.getD j 0 ∧ d.getD j 0 ≤ B
theorem Bd.mono {B B' : Int} {d : List Int} (h : Bd B d) (hB : B ≤ B') : Bd B' d := fun j => by have := h j; omega
theorem addAt_bd {B F x : Int} {d : List Int} {i : Nat} (h : Bd B d) (hi : i < d.length) (hx : -F ≤ x ∧ x ≤ F) : Bd (B + F) (addAt d i x) := fun j => by
  rw [addAt_get x hi]
  have := h j
  split <;> omega
theorem mul_abs {x y X Y : Int} (hx : -X ≤ x) (hx' : x ≤ X) (hy : -Y ≤ y) (hy' : y ≤ Y) : -(X * Y) ≤ x * y ∧ x * y ≤ X * Y := by
  have a1 : (X - x) * (Y + y) ≥ 0 := Int.mul_nonneg (by omega) (by omega)
  have a2 : (X + x) * (Y - y) ≥ 0 := Int.mul_nonneg (by omega) (by omega)
  have a3 : (X - x) * (Y - y) ≥ 0 := Int.mul_nonneg (by omega) (by omega)
  have a4 : (X + x) * (Y + y) ≥ 0 := Int.mul_nonneg (by omega) (by omega)
  simp only [Int.sub_mul, Int.add_mul, Int.mul_add, Int.mul_sub] at a1 a2 a3 a4
  generalize x * y = p at *
  generalize X * Y = q at *
  generalize x * Y = r at *
  generalize X * y = s at *
  omega

/-- One edge, by a script. -/
def moveT (s : List Int) (d : List Int) (t : Tri) : List Int :=
  addAt (addAt d t.1.toNat (-(t.2.2 * (s.getD t.1.toNat 0 - s.getD t.2.1.toNat 0)))) t.2.1.toNat (t.2.2 * (s.getD t.1.toNat 0 - s.getD t.2.1.toNat 0))
def moveE (s : List Int) (es : List Tri) (d : List Int) : List Int := es.foldl (moveT s) d
theorem moveT_len (s d : List Int) (t : Tri) : (moveT s d t).length = d.length := by simp [moveT, addAt_len]
theorem moveE_len (s : List Int) (es : List Tri) (d : List Int) : (moveE s es d).length = d.length := by
  induction es generalizing d with
  | nil => rfl
  | cons t r ih => exact (ih _).trans (moveT_len s d t)
theorem moveT_get {s d : List Int} {t : Tri} {n : Nat} (hd : d.length = n) (h : 0 ≤ t.1 ∧ t.1 < n ∧ 0 ≤ t.2.1 ∧ t.2.1 < n) (v : Nat) : (moveT s d t).getD v 0 = d.getD v 0 - lapT1 t (fun u => s.getD u 0) v := by
  unfold moveT
  rw [addAt_get _ (by rw [addAt_len]; omega), addAt_get _ (by omega)]
  unfold lapT1
  dsimp only
  by_cases e : t.1 = t.2.1
  · rw [if_pos e, e]; split <;> omega
  · rw [if_neg e]
    by_cases a : t.1 = v
    · rw [if_pos a, if_pos (by omega), if_neg (by omega), show t.1.toNat = v by omega]; omega
    · rw [if_neg a, if_neg (show ¬ t.1.toNat = v by omega)]
      by_cases b : t.2.1 = v
      · rw [if_pos b, if_pos (by omega), show t.2.1.toNat = v by omega]
        have : t.2.2 * (s.getD t.1.toNat 0 - s.getD v 0) = -(t.2.2 * (s.getD v 0 - s.getD t.1.toNat 0)) := by rw [← Int.mul_neg]; congr 1; omega
        omega
      · rw [if_neg b, if_neg (by omega)]; omega
theorem moveE_get {s : List Int} {es : List Tri} {d : List Int} {n : Nat} (hd : d.length = n) (h : Ends n es) (v : Nat) : (moveE s es d).getD v 0 = d.getD v 0 - lapE es (fun u => s.getD u 0) v := by
  induction es generalizing d with
  | nil => simp [moveE, lapE]
  | cons t r ih =>
    have h1 := ih (d := moveT s d t) (by rw [moveT_len]; exact hd) h.tail
    have h2 := moveT_get (s := s) hd (h t (List.mem_cons_self ..)) v
    show (moveE s r (moveT s d t)).getD v 0 = _
    rw [h1, h2]
    simp only [lapE]; omega
theorem moveE_snoc (s : List Int) (es : List Tri) (t : Tri) (d : List Int) : moveE s (es ++ [t]) d = moveT s (moveE s es d) t := by simp [moveE]
theorem flow_bd {s : List Int} {t : Tri} {S : Int} (hs : Bd S s) (hm : 1 ≤ t.2.2 ∧ t.2.2 ≤ 50) : -(100 * S) ≤ t.2.2 * (s.getD t.1.toNat 0 - s.getD t.2.1.toNat 0) ∧ t.2.2 * (s.getD t.1.toNat 0 - s.getD t.2.1.toNat 0) ≤ 100 * S := by
  have h1 := hs t.1.toNat
  have h2 := hs t.2.1.toNat
  have := mul_abs (x := t.2.2) (y := s.getD t.1.toNat 0 - s.getD t.2.1.toNat 0) (X := 50) (Y := 2 * S) (by omega) (by omega) (by omega) (by omega)
  omega
theorem moveE_bd {s : List Int} {es : List Tri} {d : List Int} {n : Nat} {S B : Int} (hd : d.length = n) (h : Ends n es) (hm : ∀ t ∈ es, 1 ≤ t.2.2 ∧ t.2.2 ≤ 50) (hs : Bd S s) (hb : Bd B d) : Bd (B + es.length * (200 * S)) (moveE s es d) := by
  induction es generalizing d B with
  | nil => simpa [moveE] using hb
  | cons t r ih =>
    have ht := h t (List.mem_cons_self ..)
    have hf := flow_bd hs (hm t (List.mem_cons_self ..)) (t := t)
    have h1 := addAt_bd (F := 100 * S) (x := -(t.2.2 * (s.getD t.1.toNat 0 - s.getD t.2.1.toNat 0))) hb (i := t.1.toNat) (by omega) (by omega)
    have h2 := addAt_bd (F := 100 * S) (x := t.2.2 * (s.getD t.1.toNat 0 - s.getD t.2.1.toNat 0)) h1 (i := t.2.1.toNat) (by rw [addAt_len]; omega) (by omega)
    have h3 := ih (d := moveT s d t) (by rw [moveT_len]; exact hd) h.tail (fun t ht => hm t (List.mem_cons_of_mem _ ht)) h2
    refine Bd.mono h3 ?_
    simp only [List.length_cons]
    push_cast
    rw [Int.add_mul]
    omega

/-- How many edges there can be. -/
theorem asc_len {l : List Int} {lo hi : Int} (h : l.Pairwise (· < ·)) (hb : ∀ x ∈ l, lo ≤ x ∧ x < hi) (hl : lo ≤ hi) : (l.length : Int) ≤ hi - lo := by
  induction l generalizing lo with
  | nil => simp; omega
  | cons x r ih =>
    have hx := hb x (List.mem_cons_self ..)
    have h' := List.pairwise_cons.1 h
    have := ih (lo := x + 1) h'.2 (fun y hy => by have := h'.1 y hy; have := hb y (List.mem_cons_of_mem _ hy); omega) (by omega)
    simp only [List.length_cons]; push_cast; omega
theorem edges_len {n : Nat} {es : List Tri} (h : Edges n es) (hn : n ≤ 12) : es.length ≤ 144 := by
  have := asc_len (l := es.map fun t => t.1 * 12 + t.2.1) (lo := 0) (hi := 144) (by
    rw [List.pairwise_map]
    refine List.Pairwise.imp_of_mem (fun {a b} ha hb hab => ?_) h.ord
    have h1 := h.lo a ha
    have h2 := h.lo b hb
    unfold LexLt at hab
    omega) (fun x hx => by
    obtain ⟨t, ht, rfl⟩ := List.mem_map.1 hx
    have := h.lo t ht
    omega) (by omega)
  simp at this
  omega

/-- The edges from v to others: the other vertex, and how many. -/
def linksL (es : List Tri) (v : Nat) : List (Int × Int) := es.filterMap fun t : Tri => if t.1 ≠ t.2.1 ∧ (t.1 = (v : Int) ∨ t.2.1 = (v : Int)) then some (t.1 + t.2.1 - (v : Int), t.2.2) else none
theorem linksL_cons (t : Tri) (r : List Tri) (v : Nat) : linksL (t :: r) v = if t.1 ≠ t.2.1 ∧ (t.1 = (v : Int) ∨ t.2.1 = (v : Int)) then (t.1 + t.2.1 - (v : Int), t.2.2) :: linksL r v else linksL r v := by
  unfold linksL
  rw [List.filterMap_cons]
  split
  · next h => split at h
              · cases h
              · next h' => rw [if_neg h']
  · next h => split at h
              · next h' => rw [if_pos h']; cases h; rfl
              · cases h
def sumP (p : Nat → Bool) : List (Int × Int) → Int
  | [] => 0
  | x :: r => (if p x.1.toNat = true then x.2 else 0) + sumP p r
theorem sumP_links (p : Nat → Bool) (es : List Tri) (v : Nat) : sumP p (linksL es v) = joinE es p v := by
  induction es with
  | nil => rfl
  | cons t r ih =>
    rw [linksL_cons]
    simp only [joinE, joinT1]
    by_cases h : t.1 ≠ t.2.1 ∧ (t.1 = (v : Int) ∨ t.2.1 = (v : Int))
    · rw [if_pos h]
      simp only [sumP, ih]
      by_cases c : p (t.1 + t.2.1 - v).toNat = true
      · rw [if_pos c, if_pos ⟨h.1, h.2, c⟩]
      · rw [if_neg c, if_neg fun hh => c hh.2.2]
    · rw [if_neg h, ih, if_neg fun hh => h ⟨hh.1, hh.2.1⟩]; omega
theorem sumP_snoc (p : Nat → Bool) (l : List (Int × Int)) (x : Int × Int) : sumP p (l ++ [x]) = sumP p l + if p x.1.toNat = true then x.2 else 0 := by
  induction l with
  | nil => simp [sumP]
  | cons y r ih => simp only [List.cons_append, sumP, ih]; omega
theorem links_mem {n : Nat} {es : List Tri} (h : Edges n es) {v : Nat} (hv : v < n) {x : Int × Int} (hx : x ∈ linksL es v) : 0 ≤ x.1 ∧ x.1 < n ∧ x.1 ≠ v ∧ 1 ≤ x.2 ∧ x.2 ≤ 50 := by
  unfold linksL at hx
  obtain ⟨t, ht, he⟩ := List.mem_filterMap.1 hx
  have h1 := h.lo t ht
  have h2 := h.mult t ht
  split at he
  · next hh =>
    obtain rfl := Option.some.inj he
    simp only
    omega
  · cases he
theorem links_len (es : List Tri) (v : Nat) : (linksL es v).length ≤ es.length := List.length_filterMap_le _ _
/-- One vertex fires k times along some of its edges. -/
def fireI (v : Nat) (k : Int) (l : List (Int × Int)) (d : List Int) : List Int := l.foldl (fun d x => addAt (addAt d v (-(x.2 * k))) x.1.toNat (x.2 * k)) d
theorem fireI_len (v : Nat) (k : Int) (l : List (Int × Int)) (d : List Int) : (fireI v k l d).length = d.length := by
  induction l generalizing d with
  | nil => rfl
  | cons x r ih => exact (ih _).trans (by rw [addAt_len, addAt_len])
theorem fireI_snoc (v : Nat) (k : Int) (l : List (Int × Int)) (x : Int × Int) (d : List Int) : fireI v k (l ++ [x]) d = addAt (addAt (fireI v k l d) v (-(x.2 * k))) x.1.toNat (x.2 * k) := by simp [fireI]
theorem fireI_get {n : Nat} {es : List Tri} {d : List Int} (h : Ends n es) (hd : d.length = n) {v : Nat} (hv : v < n) (k : Int) (x : Nat) :
    (fireI v k (linksL es v) d).getD x 0 = d.getD x 0 - lapE es (fun u => if u = v then k else 0) x := by
  induction es generalizing d with
  | nil => simp [linksL, fireI, lapE]
  | cons t r ih =>
    have ht := h t (List.mem_cons_self ..)
    rw [linksL_cons]
    simp only [lapE]
    by_cases c : t.1 ≠ t.2.1 ∧ (t.1 = (v : Int) ∨ t.2.1 = (v : Int))
    · rw [if_pos c]
      have h1 := ih (d := addAt (addAt d v (-(t.2.2 * k))) (t.1 + t.2.1 - v).toNat (t.2.2 * k)) h.tail (by rw [addAt_len, addAt_len]; exact hd)
      show (fireI v k (linksL r v) (addAt (addAt d v (-(t.2.2 * k))) (t.1 + t.2.1 - v).toNat (t.2.2 * k))).getD x 0 = _
      rw [h1, addAt_get _ (by rw [addAt_len]; omega), addAt_get _ (by omega)]
      unfold lapT1
      dsimp only
      rw [if_neg c.1]
      by_cases a : t.1 = x
      · rw [if_pos a]
        by_cases e : v = x
        · subst e
          rw [if_pos rfl, if_neg (by omega), if_pos rfl, if_neg (by omega), Int.sub_zero]; omega
        · have e2 : t.2.1 = v := by omega
          rw [if_neg e, if_pos (by omega), if_neg (fun h => e h.symm), if_pos (by omega)]
          have : t.2.2 * (0 - k) = -(t.2.2 * k) := by rw [Int.zero_sub, Int.mul_neg]
          omega
      · rw [if_neg a]
        by_cases b : t.2.1 = x
        · rw [if_pos b]
          by_cases e : v = x
          · subst e
            rw [if_pos rfl, if_neg (by omega), if_pos rfl, if_neg (by omega), Int.sub_zero]; omega
          · have e2 : t.1 = v := by omega
            rw [if_neg e, if_pos (by omega), if_neg (fun h => e h.symm), if_pos (by omega)]
            have : t.2.2 * (0 - k) = -(t.2.2 * k) := by rw [Int.zero_sub, Int.mul_neg]
            omega
        · rw [if_neg b, if_neg (by omega), if_neg (by omega)]; omega
    · rw [if_neg c, ih h.tail hd]
      have : lapT1 t (fun u => if u = v then k else 0) x = 0 := by
        unfold lapT1
        dsimp only
        by_cases e : t.1 = t.2.1
        · rw [if_pos e]
        · rw [if_neg e]
          have e1 : t.1.toNat ≠ v := by intro hh; exact c ⟨e, .inl (by omega)⟩
          have e2 : t.2.1.toNat ≠ v := by intro hh; exact c ⟨e, .inr (by omega)⟩
          by_cases a : t.1 = x
          · rw [if_pos a, if_neg (by omega), if_neg e2]; simp
          · rw [if_neg a]
            by_cases b : t.2.1 = x
            · rw [if_pos b, if_neg (by omega), if_neg e1]; simp
            · rw [if_neg b]
      omega
theorem fireI_bd {v : Nat} {k K B : Int} {l : List (Int × Int)} {d : List Int} (hv : v < d.length) (hl : ∀ x ∈ l, x.1.toNat < d.length ∧ 1 ≤ x.2 ∧ x.2 ≤ 50) (hk : -K ≤ k ∧ k ≤ K) (hb : Bd B d) : Bd (B + l.length * (100 * K)) (fireI v k l d) := by
  induction l generalizing d B with
  | nil => simpa [fireI] using hb
  | cons x r ih =>
    have hx := hl x (List.mem_cons_self ..)
    have hm := mul_abs (x := x.2) (y := k) (X := 50) (Y := K) (by omega) (by omega) hk.1 hk.2
    have h1 := addAt_bd (F := 50 * K) (x := -(x.2 * k)) hb hv (by omega)
    have h2 := addAt_bd (F := 50 * K) (x := x.2 * k) h1 (i := x.1.toNat) (by rw [addAt_len]; exact hx.1) (by omega)
    have h3 := ih (d := addAt (addAt d v (-(x.2 * k))) x.1.toNat (x.2 * k)) (by rw [addAt_len, addAt_len]; exact hv) (fun y hy => by rw [addAt_len, addAt_len]; exact hl y (List.mem_cons_of_mem _ hy)) h2
    refine Bd.mono h3 ?_
    simp only [List.length_cons]
    push_cast
    rw [Int.add_mul]
    omega
theorem lapE_add (es : List Tri) (s t : Nat → Int) (v : Nat) : lapE es (fun u => s u + t u) v = lapE es s v + lapE es t v := by
  induction es with
  | nil => rfl
  | cons x r ih =>
    simp only [lapE, ih]
    have : lapT1 x (fun u => s u + t u) v = lapT1 x s v + lapT1 x t v := by
      unfold lapT1
      dsimp only
      repeat' split
      all_goals first | rfl | (rw [← Int.mul_add]; congr 1; omega)
    omega
theorem lapE_congr {n : Nat} {es : List Tri} (h : Ends n es) {s t : Nat → Int} {v : Nat} (hv : v < n) (he : ∀ u, u < n → s u = t u) : lapE es s v = lapE es t v := by
  rw [← lap_edges h, ← lap_edges h]; exact lap_congr hv he
/-- A set fires k times: its vertices below m have done so. -/
def fireS (ins : List Bool) (k : Int) (es : List Tri) : Nat → List Int → List Int
  | 0, d => d
  | m + 1, d => if ins.getD m false = true then fireI m k (linksL es m) (fireS ins k es m d) else fireS ins k es m d
theorem fireS_len (ins : List Bool) (k : Int) (es : List Tri) (m : Nat) (d : List Int) : (fireS ins k es m d).length = d.length := by
  induction m with
  | zero => rfl
  | succ m ih => simp only [fireS]; split
                 · rw [fireI_len, ih]
                 · exact ih
theorem fireS_get {n : Nat} {es : List Tri} {d : List Int} (h : Ends n es) (hd : d.length = n) (ins : List Bool) (k : Int) {m : Nat} (hm : m ≤ n) {x : Nat} (hx : x < n) :
    (fireS ins k es m d).getD x 0 = d.getD x 0 - lapE es (fun u => if u < m ∧ ins.getD u false = true then k else 0) x := by
  induction m with
  | zero =>
    have : lapE es (fun u => if u < 0 ∧ ins.getD u false = true then k else 0) x = lapE es (fun _ => 0) x := lapE_congr h hx fun u _ => by rw [if_neg (by omega)]
    have z : ∀ es : List Tri, lapE es (fun _ => 0) x = 0 := fun es => by
      induction es with
      | nil => rfl
      | cons t r ih => simp only [lapE, ih, lapT1]; split <;> (try split) <;> (try split) <;> simp
    rw [this, z]; simp [fireS]
  | succ m ih =>
    have ih := ih (by omega)
    simp only [fireS]
    by_cases c : ins.getD m false = true
    · rw [if_pos c, fireI_get h (by rw [fireS_len]; exact hd) (by omega), ih]
      have := lapE_add es (fun u => if u < m ∧ ins.getD u false = true then k else 0) (fun u => if u = m then k else 0) x
      have e : lapE es (fun u => if u < m + 1 ∧ ins.getD u false = true then k else 0) x = lapE es (fun u => (if u < m ∧ ins.getD u false = true then k else 0) + if u = m then k else 0) x := lapE_congr h hx fun u _ => by
        by_cases e : u = m
        · subst e; rw [if_pos ⟨by omega, c⟩, if_neg (by omega), if_pos rfl]; omega
        · rw [if_neg e]
          by_cases e2 : u < m ∧ ins.getD u false = true
          · rw [if_pos ⟨by omega, e2.2⟩, if_pos e2]; omega
          · rw [if_neg e2, if_neg fun hh => e2 ⟨by omega, hh.2⟩]; rfl
      rw [e, this]; omega
    · rw [if_neg c, ih]
      congr 1
      exact lapE_congr h hx fun u _ => by
        by_cases e : u = m
        · subst e; rw [if_neg (by omega), if_neg fun hh => c hh.2]
        · by_cases e2 : u < m ∧ ins.getD u false = true
          · rw [if_pos e2, if_pos ⟨by omega, e2.2⟩]
          · rw [if_neg e2, if_neg fun hh => e2 ⟨by omega, hh.2⟩]
theorem fireS_bd {n : Nat} {es : List Tri} {d : List Int} {ins : List Bool} {k K B : Int} (h : Edges n es) (hd : d.length = n) (hn : n ≤ 12) (hK : 0 ≤ K) (hk : -K ≤ k ∧ k ≤ K) (hb : Bd B d) {m : Nat} (hm : m ≤ n) : Bd (B + m * (14400 * K)) (fireS ins k es m d) := by
  induction m with
  | zero => simpa [fireS] using hb
  | succ m ih =>
    have ih := ih (by omega)
    have hl := edges_len h hn
    simp only [fireS]
    push_cast
    rw [Int.add_mul]
    split
    · have := fireI_bd (v := m) (k := k) (K := K) (l := linksL es m) (d := fireS ins k es m d) (by rw [fireS_len]; omega) (fun x hx => by have := links_mem h (by omega) hx; rw [fireS_len]; omega) hk ih
      refine Bd.mono this ?_
      have h2 := links_len es m
      have h3 : (100 * K) * ((linksL es m).length : Int) ≤ (100 * K) * 144 := Int.mul_le_mul_of_nonneg_left (by omega) (by omega)
      rw [Int.mul_comm ((linksL es m).length : Int)]
      omega
    · exact Bd.mono ih (by omega)
end Go.Proofs.YtefggpdobjboeaaGreat

namespace Go.Proofs.YtefggpdobjboeaaGreat
open Go.RowKit

def vertE (n : Int) : Int := if n < 1 ∨ 12 < n then 2 else 0
def checkE (zs : List Int) (n : Int) : Int := if n < 1 ∨ 12 < n then 2 else if (zs.length : Int) ≠ n then 8 else if zs.all InB then 0 else 2
def ownE1 : List (List Int) → Int
  | [] => 0
  | zs :: r => if checkE zs zs.length ≠ 0 then checkE zs zs.length else ownE1 r
def ownE (l : List (List Int)) : Int := if ownE1 l ≠ 0 then ownE1 l else if l.all (fun zs => decide (zs.length = (l.headD []).length)) then 0 else 8

set_option maxHeartbeats 400000 in
theorem within_any (k : Int) (w : World) : Calls Tryz.prog 91 #[.int .i64 k] w fun e w' => e = .returned (.bool (InB k)) ∧ w = w' := by
  go_enter Tryz.func91, Tryz.ntmps91
  go_wp2
  all_goals (go_ret; exact ⟨by simp [InB, *]; try omega, rfl⟩)
set_option maxHeartbeats 400000 in
theorem vertices_any (n : Int) (w : World) : Calls Tryz.prog 90 #[.int .i64 n] w fun e w' => e = .returned (.int .i64 (vertE n)) ∧ w = w' := by
  by_cases h1 : n < 1
  · go_enter Tryz.func90, Tryz.ntmps90
    go_wp2
    go_ret
    exact ⟨by simp [vertE, h1], rfl⟩
  · by_cases h2 : n > 12
    · go_enter Tryz.func90, Tryz.ntmps90
      go_wp2
      go_ret
      exact ⟨by simp [vertE, h2], rfl⟩
    · go_enter Tryz.func90, Tryz.ntmps90
      go_wp2
      go_ret
      exact ⟨by simp [vertE, h1, h2], rfl⟩

set_option maxHeartbeats 400000 in
theorem check_any (v : Value) (zs : List Int) (n : Int) (w : World) (hv : RI w v zs) :
    Calls Tryz.prog 50 #[v, .int .i64 n] w fun e w' => e = .returned (.int .i64 (checkE zs n)) ∧ w = w' := by
  obtain ⟨A, c, rfl, hlc, hc, hcell⟩ := hv.open_
  by_cases h1 : n < 1 ∨ 12 < n
  · have e1 : (vertE n != 0) = true := by simp [vertE, h1]
    have H1 := Lib.hid h1
    clear h1
    go_enter Tryz.func50, Tryz.ntmps50
    go_wp2_with (go_at_call 90; refine (vertices_any _ _).mono ?_; rintro e w' ⟨rfl, rfl⟩)
    go_ret
    exact ⟨by simp [vertE, checkE, H1.out], rfl⟩
  · have e1 : vertE n = 0 := by simp [vertE, h1]
    by_cases h2 : (zs.length : Int) = n
    · have e2 : ((zs.length : Int) != n) = false := by simp [h2]
      have H1 := Lib.hid h1
      have H2 := Lib.hid h2
      have HC := Lib.hid hcell
      clear h1 h2 hcell
      go_enter Tryz.func50, Tryz.ntmps50
      go_wp2_with (go_at_call 90; refine (vertices_any _ _).mono ?_; rintro e w' ⟨rfl, rfl⟩)
      go_loop [19] (fun i => ∃ k : Nat, k ≤ zs.length ∧ i = .int .i64 k ∧ Hid ((zs.drop k).all InB = zs.all InB)) (fun i => zs.length - (intOf i).toNat)
      case atStart => exact ⟨0, Nat.zero_le _, rfl, rfl⟩
      case round =>
        obtain ⟨k, hk, rfl, hr⟩ := hrel
        by_cases hlt : k < zs.length
        · obtain ⟨ad, z, rfl, _, hz, hcl⟩ := HC.out k hlt
          clear HC hv
          have hd := Lib.hid (drop_at hz)
          cases hb : InB z
          · go_wp2_with (go_at_call 91; refine (within_any _ _).mono ?_; rintro e w' ⟨rfl, rfl⟩)
            go_ret
            refine ⟨?_, rfl⟩
            have := hr.out; rw [hd.out] at this
            simp only [checkE, if_neg H1.out, H2.out, ← this]
            simp [hb]
          · go_wp2_with (go_at_call 91; refine (within_any _ _).mono ?_; rintro e w' ⟨rfl, rfl⟩)
            go_round
            case rel => exact ⟨k + 1, by omega, by go_num, by have := hr.out; rw [hd.out] at this; simpa [Hid, hb] using this⟩
            case measure => simp [intOf]; omega
        · go_wp2
          go_ret
          refine ⟨?_, rfl⟩
          have := hr.out; rw [List.drop_of_length_le (by omega)] at this
          simp only [checkE, if_neg H1.out, H2.out, ← this]
          simp
    · have e2 : ((zs.length : Int) != n) = true := by simp [h2]
      have H1 := Lib.hid h1
      have H2 := Lib.hid h2
      clear h1 h2
      go_enter Tryz.func50, Tryz.ntmps50
      go_wp2_with (go_at_call 90; refine (vertices_any _ _).mono ?_; rintro e w' ⟨rfl, rfl⟩)
      go_ret
      exact ⟨by simp [checkE, H1.out, H2.out], rfl⟩
end Go.Proofs.YtefggpdobjboeaaGreat
