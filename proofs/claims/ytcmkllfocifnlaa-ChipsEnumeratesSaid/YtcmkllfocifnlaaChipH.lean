/- Contracts of slices.Clone at divisors; chips: Compare, Above, Some. -/
import Derived.Test.YtcmkllfocifnlaaChipG
import Derived.Test.YtcmkllfocifnlaaBaseB
namespace Go.Proofs.Ytcmkllfocifnlaa
open Go.RowKit

set_option maxRecDepth 100000 in
set_option maxHeartbeats 1000000 in
theorem CloneD_any (va : Value) (xs : List Int) (w : World) (ha : RI w va xs) (hl : xs.length ≤ 17592186044415 := by omega) :
    Calls Try.prog 69 #[va] w fun e w' => ∃ v, e = .returned v ∧ OI w' w.heap.size v xs ∧ Below w.heap.size w w' := by
  obtain ⟨A, c, rfl, hlc, hc, hcell⟩ := ha.open_
  obtain ⟨i0, hi, hz0, hz1, hz2⟩ := info_parts int_info
  have hq := fun W : World => Lib.run_eql_slice_nil (P := Try.prog) W 23 3 A xs.length c 0 0 Try.underlying23
  have HRA := Lib.hid ha
  rcases A with _ | ad
  · have hn : xs.length = 0 := by
      rcases Nat.eq_zero_or_pos xs.length with h | h
      · exact h
      · obtain ⟨ad, z, h, _⟩ := hcell 0 h; cases h
    have HN := Lib.hid (List.eq_nil_of_length_eq_zero hn)
    simp only [Option.isNone_none] at hq
    clear hcell ha hn
    go_enter Try.func69, Try.ntmps69
    go_wp2
    refine bodyPost_ret (results_tmp rfl _ _ _) rfl ⟨.slice none 0 0, rfl, ?_, Below.refl _ _⟩
    rw [HN.out]; exact OI.nil_ _ _
  · simp only [Option.isNone_some] at hq
    have hr1 := Lib.hid (ha.below (below_alloc w (.cells #[] 3)))
    have ho := Lib.hid (show OV (w.alloc (.cells #[] 3)) w.heap.size 3 (.slice (some ⟨w.heap.size, 0, none⟩) 0 0) [] from
      ⟨World.ownsRow_made w #[] 0 (Nat.le_refl _) (by unfold maxLen; omega) (by simp), by simp⟩)
    have HX := Lib.hid (ints_one xs)
    clear hcell ha
    go_enter Try.func69, Try.ntmps69
    go_wp2_with (at_builtin; refine wpList_appendV _ rfl _ _ _ rfl 3 i0 _ 8 Try.underlying23 hi hz0 hz1 hz2 rfl w.heap.size _ [] rfl ho.out _ _ rfl hr1.out HX.out (by simpa using hl) (by simp; omega) (by simp) ?_; intro v1 w1 hown1 hg1 hat1)
    refine bodyPost_ret (results_tmp rfl _ _ _) rfl ⟨v1, rfl, by simpa [OI] using hown1, ?_⟩
    exact below_own (below_alloc w _) (by simp) ho.out hg1
def compL (xs ys : List Int) : Int × Int := if ownE [xs, ys] ≠ 0 then (0, ownE [xs, ys]) else (cmpL xs ys, 0)
set_option maxHeartbeats 400000 in
theorem Compare_any (va vb : Value) (xs ys : List Int) (w : World) (ha : RI w va xs) (hb : RI w vb ys) :
    Calls Try.prog 14 #[va, vb] w fun e w' => e = .returned (.tuple #[.int .i64 (compL xs ys).1, .int .i64 (compL xs ys).2]) ∧ Below w.heap.size w w' := by
  have hrr := Lib.hid (RR.lit2 23 ha hb)
  have ha1 := Lib.hid (ha.below (below_alloc w (.cells #[va, vb] 23)))
  have hb1 := Lib.hid (hb.below (below_alloc w (.cells #[va, vb] 23)))
  obtain ⟨A, c, rfl, hlc, hc, -⟩ := ha.open_
  obtain ⟨A', c', rfl, hlc', hc', -⟩ := hb.open_
  clear ha hb
  by_cases h0 : ownE [xs, ys] = 0
  · have H0 := Lib.hid h0
    clear h0
    go_enter Try.func14, Try.ntmps14
    go_wp2_with (first
      | (go_at_call 56; refine (own_any _ [xs, ys] _ hrr.out).mono ?_; rw [H0.out]; rintro e w' ⟨rfl, rfl⟩)
      | (go_at_call 57; refine (CompareFunc_any _ _ xs ys _ ha1.out hb1.out).mono ?_; rintro e w' ⟨rfl, rfl⟩))
    go_ret2
    refine ⟨?_, below_alloc w _⟩
    simp only [compL, H0.out, ne_eq, not_true_eq_false, if_false]
    rfl
  · have h0' : (ownE [xs, ys] != 0) = true := by simp [h0]
    have H0 := Lib.hid h0
    clear h0
    go_enter Try.func14, Try.ntmps14
    go_wp2_with (go_at_call 56; refine (own_any _ [xs, ys] _ hrr.out).mono ?_; rintro e w' ⟨rfl, rfl⟩)
    go_ret2
    exact ⟨by simp [compL, H0.out], below_alloc w _⟩

def aboveL (xs ys : List Int) : Bool × Int :=
  (decide ((eachL (fun x y => min x y) xs ys).2 = 0) && eqL (eachL (fun x y => min x y) xs ys).1 ys, (eachL (fun x y => min x y) xs ys).2)
set_option maxHeartbeats 400000 in
theorem Above_any (va vb : Value) (xs ys : List Int) (w : World) (ha : RI w va xs) (hb : RI w vb ys) :
    Calls Try.prog 16 #[va, vb] w fun e w' => e = .returned (.tuple #[.bool (aboveL xs ys).1, .int .i64 (aboveL xs ys).2]) ∧ Below w.heap.size w w' := by
  have hm := Lib.hid (Meet_any va vb xs ys w ha hb)
  have HB := Lib.hid hb
  clear ha hb
  obtain ⟨zs, hzs⟩ : ∃ zs, zs = eachL (fun x y => min x y) xs ys := ⟨_, rfl⟩
  rw [← hzs] at hm
  have hA : Hid (aboveL xs ys = (decide (zs.2 = 0) && eqL zs.1 ys, zs.2)) := by show _ = _; rw [hzs]; rfl
  clear hzs
  obtain ⟨zl, ze⟩ := zs
  by_cases h0 : ze = 0
  · subst h0
    go_enter Try.func16, Try.ntmps16
    go_wp2_with fail
    refine hm.out.mono ?_
    rintro e w1 ⟨v, rfl, ho, hb1⟩
    have H1 := Lib.hid ho
    clear ho
    go_wp2_with (go_at_call 59; refine (EqualD_any _ _ zl ys _ H1.out.ri (HB.out.below hb1)).mono ?_; rintro e w2 ⟨rfl, n2, rfl⟩)
    go_ret2
    refine ⟨?_, below_drewN hb1 _⟩
    rw [hA.out]
    simp
  · have h0' : (ze == 0) = false := by simp [h0]
    have H0 := Lib.hid h0
    clear h0
    go_enter Try.func16, Try.ntmps16
    go_wp2_with fail
    refine hm.out.mono ?_
    rintro e w1 ⟨v, rfl, ho, hb1⟩
    have H1 := Lib.hid ho
    clear ho
    go_wp2
    go_ret2
    refine ⟨?_, hb1⟩
    rw [hA.out]
    simp [H0.out]
end Go.Proofs.Ytcmkllfocifnlaa
