/- Contracts of the reference of layer 17: what makes divisors. -/
import Derived.Test.YtcmkllfocifnlaaRefB
namespace Go.Proofs.Ytcmkllfocifnlaa
open Go.RowKit Go.Shelf

set_option maxHeartbeats 400000 in
theorem rZero_any (n : Int) (w : World) : Calls Try.prog 44 #[.int .i64 n] w (Pair w (zeroL n)) := by
  obtain ⟨i0, hi, hz0, hz1, hz2⟩ := info_parts int_info
  by_cases h1 : n < 1
  · have E : Hid (zeroL n = ([], 2)) := by show _ = _; simp [zeroL, vertE, h1]
    rw [E.out]
    go_enter Try.func44, Try.ntmps44
    go_wp2
    go_ret2
    exact ⟨.slice none 0 0, rfl, OI.nil_ _ _, Below.refl _ _⟩
  by_cases h2 : 12 < n
  · have E : Hid (zeroL n = ([], 2)) := by show _ = _; simp [zeroL, vertE, h2]
    rw [E.out]
    go_enter Try.func44, Try.ntmps44
    go_wp2
    go_ret2
    exact ⟨.slice none 0 0, rfl, OI.nil_ _ _, Below.refl _ _⟩
  obtain ⟨m, rfl⟩ := Int.eq_ofNat_of_zero_le (show 0 ≤ n by omega)
  have hm : m ≤ 12 := by omega
  have E : Hid (zeroL m = (List.replicate m 0, 0)) := by
    show _ = _; have : ¬ ((m : Int) < 1 ∨ 12 < (m : Int)) := by omega
    simp [zeroL, vertE, this]
  rw [E.out]
  go_enter Try.func44, Try.ntmps44
  go_wp2_with (at_make; refine wpList_make_full _ rfl _ _ _ rfl w.heap.size 3 i0 _ 1 Try.underlying23 hi hz0 hz1 .i64 .i64 _ _ m rfl rfl rfl rfl (by rw [hz2]; omega) (by unfold maxLen; omega) (by simp) ?_; intro w1 hown1 hg1)
  go_ret2
  exact ⟨.slice (some ⟨w.heap.size, 0, none⟩) m m, rfl, own_zeros hown1 (by omega), below_grown hg1 (Below.refl _ _)⟩

set_option maxHeartbeats 1000000 in
theorem rSome_any (n v k : Int) (w : World) : Calls Try.prog 46 #[.int .i64 n, .int .i64 v, .int .i64 k] w (Pair w (someL n v k)) := by
  have hz := Lib.hid (rZero_any n w)
  by_cases h1 : n < 1 ∨ 12 < n
  · have e1 : vertE n = 2 := by simp [vertE, h1]
    have E1 : Hid (zeroL n = ([], 2)) := by show _ = _; simp [zeroL, e1]
    have E2 : Hid (someL n v k = ([], 2)) := by show _ = _; simp [someL, e1]
    clear e1 h1
    rw [E1.out] at hz
    go_enter Try.func46, Try.ntmps46
    go_wp2_with fail
    refine hz.out.mono ?_
    rintro e w1 ⟨u, rfl, ho, hb1⟩
    clear ho
    go_wp2
    rw [E2.out]
    go_ret2
    exact ⟨.slice none 0 0, rfl, OI.nil_ _ _, hb1⟩
  · have e1 : vertE n = 0 := by simp [vertE, h1]
    obtain ⟨m, rfl⟩ := Int.eq_ofNat_of_zero_le (show 0 ≤ n by omega)
    have hm : m ≤ 12 := by omega
    have E1 : Hid (zeroL m = (List.replicate m 0, 0)) := by show _ = _; simp [zeroL, e1]
    have E3 := Lib.hid e1
    clear e1 h1
    rw [E1.out] at hz
    by_cases hv : v < 0 ∨ (m : Int) ≤ v ∨ InB k = false
    · have E2 : Hid (someL m v k = ([], 2)) := by show _ = _; simp only [someL, E3.out, ne_eq, not_true_eq_false, if_false, hv, if_true]
      have fin : ∀ w1, Below w.heap.size w w1 → Pair w (someL m v k) (.returned (.tuple #[.slice none 0 0, .int .i64 2])) w1 := by
        intro w1 hb1; rw [E2.out]; exact ⟨.slice none 0 0, rfl, OI.nil_ _ _, hb1⟩
      have FIN := Lib.hid fin
      clear fin
      by_cases a : v < 0
      · clear hv
        go_enter Try.func46, Try.ntmps46
        go_wp2_with fail
        refine hz.out.mono ?_
        rintro e w1 ⟨u, rfl, ho, hb1⟩
        clear ho
        go_wp2
        go_ret2; exact FIN.out w1 hb1
      · by_cases b : (m : Int) ≤ v
        · clear hv
          go_enter Try.func46, Try.ntmps46
          go_wp2_with fail
          refine hz.out.mono ?_
          rintro e w1 ⟨u, rfl, ho, hb1⟩
          clear ho
          go_wp2
          go_ret2; exact FIN.out w1 hb1
        · have hk : InB k = false := by simpa [a, b] using hv
          clear hv
          go_enter Try.func46, Try.ntmps46
          go_wp2_with fail
          refine hz.out.mono ?_
          rintro e w1 ⟨u, rfl, ho, hb1⟩
          clear ho
          go_wp2_with (go_at_call 79; refine (In_any _ _).mono ?_; rintro e w' ⟨rfl, rfl⟩)
          go_ret2; exact FIN.out _ hb1
    · have a : ¬ v < 0 := fun h => hv (.inl h)
      have b : ¬ (m : Int) ≤ v := fun h => hv (.inr (.inl h))
      have hk : InB k = true := by cases h : InB k <;> simp_all
      obtain ⟨j, rfl⟩ := Int.eq_ofNat_of_zero_le (show 0 ≤ v by omega)
      have hj : j < m := by omega
      have E2 : Hid (someL m j k = ((List.replicate m 0).set j k, 0)) := by show _ = _; simp only [someL, E3.out, ne_eq, not_true_eq_false, if_false, hv]; rfl
      clear hv a b
      go_enter Try.func46, Try.ntmps46
      go_wp2_with fail
      refine hz.out.mono ?_
      rintro e w1 ⟨u, rfl, ho, hb1⟩
      obtain ⟨g, cap, rfl, hg, hc, hf, hst⟩ := OI.at_ ho (k := j) (by simpa using hj)
      simp only [List.length_replicate] at hst
      have HS := Lib.hid hst
      simp only [List.length_replicate]
      have HO := Lib.hid ho
      clear ho hst
      go_wp2_with (go_at_call 79; refine (In_any _ _).mono ?_; rintro e w' ⟨rfl, rfl⟩)
      rw [E2.out]
      go_ret2; exact ⟨_, rfl, (HS.out k).1, hb1.setCell (p := ⟨g, j, none⟩) hg _⟩

theorem eachL_min (xs ys : List Int) : eachL (fun x y => min x y) xs ys = if ownE [xs, ys] ≠ 0 then ([], ownE [xs, ys]) else (List.zipWith (fun x y => min x y) xs ys, 0) := by
  by_cases h0 : ownE [xs, ys] = 0
  · obtain ⟨_, _, _, l4, l5⟩ := own2_zero h0
    have : (List.zipWith (fun x y => min x y) xs ys).all InB = true := zip_inB _ min_inB xs ys l4 l5
    simp [eachL, h0, this]
  · simp [eachL, h0]
theorem eachL_max (xs ys : List Int) : eachL (fun x y => max x y) xs ys = if ownE [xs, ys] ≠ 0 then ([], ownE [xs, ys]) else (List.zipWith (fun x y => max x y) xs ys, 0) := by
  by_cases h0 : ownE [xs, ys] = 0
  · obtain ⟨_, _, _, l4, l5⟩ := own2_zero h0
    have : (List.zipWith (fun x y => max x y) xs ys).all InB = true := zip_inB _ max_inB2 xs ys l4 l5
    simp [eachL, h0, this]
  · simp [eachL, h0]

set_option maxRecDepth 100000 in
set_option maxHeartbeats 1000000 in
theorem rMeet_any (va vb : Value) (xs ys : List Int) (w : World) (ha : RI w va xs) (hb : RI w vb ys) : Calls Try.prog 19 #[va, vb] w (Pair w (eachL (fun x y => min x y) xs ys)) := by
  have h1 := Lib.hid (Both_any va vb xs ys w ha hb)
  have HE := Lib.hid (eachL_min xs ys)
  obtain ⟨i0, hi, hz0, hz1, hz2⟩ := info_parts int_info
  by_cases h0 : ownE [xs, ys] = 0
  · obtain ⟨l1, l2, l3, -⟩ := own2_zero h0
    have E : Hid (eachL (fun x y => min x y) xs ys = (List.zipWith (fun x y => min x y) xs ys, 0)) := by show _ = _; rw [HE.out]; simp [h0]
    rw [h0] at h1
    rw [E.out]
    obtain ⟨A, c, rfl, hlc, hc, hcell⟩ := ha.open_
    obtain ⟨A', c', rfl, hlc', hc', hcell'⟩ := hb.open_
    have HA := Lib.hid hcell
    have HB := Lib.hid hcell'
    have L1 := Lib.hid l1
    clear hcell hcell' ha hb h0 l1
    go_enter Try.func19, Try.ntmps19
    go_wp2_with (first
      | (go_at_call 28; refine h1.out.mono ?_; rintro e w' ⟨rfl, rfl⟩)
      | (at_make; refine wpList_make_full _ rfl _ _ _ rfl w.heap.size 3 i0 _ 1 Try.underlying23 hi hz0 hz1 .i64 .i64 _ _ xs.length rfl rfl rfl rfl (by rw [hz2]; omega) (by unfold maxLen; omega) (by simp) ?_; intro w1 hown1 hg1; have HO1 := Lib.hid hown1; have HG1 := Lib.hid hg1; clear hown1 hg1))
    go_loopw [8] (fun i wr => ∃ (k : Nat) (os : List Int), k ≤ xs.length ∧ i = .int .i64 k ∧ Hid (os.length = xs.length) ∧ Hid (os.take k = (List.zipWith (fun x y => min x y) xs ys).take k) ∧
      Hid (OI wr w.heap.size (.slice (some ⟨w.heap.size, 0, none⟩) xs.length xs.length) os) ∧ Below w.heap.size w wr) (fun i _ => xs.length - (intOf i).toNat)
    case atStart => exact ⟨0, List.replicate xs.length 0, Nat.zero_le _, rfl, by simp [Hid], by simp [Hid], own_zeros HO1.out (by omega), below_grown HG1.out (Below.refl _ _)⟩
    case round =>
      obtain ⟨k, os, hk, rfl, ho1, ho2, hown, hbel⟩ := hrel
      by_cases hlt : k < xs.length
      · obtain ⟨ad, z, rfl, hadb, hz, hcl⟩ := HA.out k hlt
        have hlt' : k < ys.length := by have := L1.out; omega
        obtain ⟨ad', z', rfl, hadb', hz', hcl'⟩ := HB.out k hlt'
        have hc1 : wr.cell? (ad.add k) = some (.int .i64 z) := (hbel.cell (by rw [block_of_add]; exact hadb)).trans hcl
        have hc2 : wr.cell? (ad'.add k) = some (.int .i64 z') := (hbel.cell (by rw [block_of_add]; exact hadb')).trans hcl'
        have hol : k < os.length := by have := ho1.out; omega
        obtain ⟨-, -, hc3, hf3, hst⟩ := OI.at' hown.out hol
        have HS := Lib.hid hst
        have hz1' : Hid ((List.zipWith (fun x y => min x y) xs ys)[k]? = some ((fun x y => min x y) z z')) := by show _ = _; rw [List.getElem?_zipWith, hz.out, hz'.out]
        clear HA HB hst
        by_cases cc : z ≤ z'
        · have hval : Hid ((z) = (fun x y => min x y) z z') := by show _ = _; dsimp only; omega
          go_wp2_with fail
          refine wp_region_still_tail 12 (by kernel_rfl) (by kernel_rfl) ?_
          change wpStill _ _ wr.drew _ _ _
          simp only [List.take_succ_cons, List.take_zero, List.drop_succ_cons, List.drop_zero]
          repeat still_step
          refine wpStill_nil ?_
          change wpList _ _ _ _ _ wr.drew
          go_wp2
          have hst := HS.out (z)
          go_roundw
          case rel => exact ⟨k + 1, os.set k (z), by omega, by go_num, by simpa [Hid] using ho1.out, take_set_succ os _ k _ hol (by rw [hval.out]; exact hz1'.out) ho2.out, hst.1, (hbel.setCell (p := ⟨w.heap.size, k, none⟩) (Nat.le_refl _) _).drew⟩
          case measure => simp [intOf]; omega
        · have hval : Hid ((z') = (fun x y => min x y) z z') := by show _ = _; dsimp only; omega
          go_wp2_with fail
          refine wp_region_still_tail 12 (by kernel_rfl) (by kernel_rfl) ?_
          change wpStill _ _ wr.drew _ _ _
          simp only [List.take_succ_cons, List.take_zero, List.drop_succ_cons, List.drop_zero]
          repeat still_step
          refine wpStill_nil ?_
          change wpList _ _ _ _ _ wr.drew
          go_wp2
          have hst := HS.out (z')
          go_roundw
          case rel => exact ⟨k + 1, os.set k (z'), by omega, by go_num, by simpa [Hid] using ho1.out, take_set_succ os _ k _ hol (by rw [hval.out]; exact hz1'.out) ho2.out, hst.1, (hbel.setCell (p := ⟨w.heap.size, k, none⟩) (Nat.le_refl _) _).drew⟩
          case measure => simp [intOf]; omega
      · go_wp2
        have h2 := ho2.out
        have hl : (List.zipWith (fun x y => min x y) xs ys).length ≤ k := by simp; omega
        rw [List.take_of_length_le hl, List.take_of_length_le (by have := ho1.out; omega)] at h2
        go_ret2
        exact ⟨_, rfl, by rw [← h2]; exact hown.out, hbel⟩
  · have h0' : (ownE [xs, ys] != 0) = true := by simp [h0]
    have E : Hid (eachL (fun x y => min x y) xs ys = ([], ownE [xs, ys])) := by show _ = _; rw [HE.out]; simp [h0]
    rw [E.out]
    clear ha hb h0
    go_enter Try.func19, Try.ntmps19
    go_wp2_with (go_at_call 28; refine h1.out.mono ?_; rintro e w' ⟨rfl, rfl⟩)
    go_ret2
    exact ⟨.slice none 0 0, rfl, OI.nil_ _ _, Below.refl _ _⟩

set_option maxRecDepth 100000 in
set_option maxHeartbeats 1000000 in
theorem rJoin_any (va vb : Value) (xs ys : List Int) (w : World) (ha : RI w va xs) (hb : RI w vb ys) : Calls Try.prog 21 #[va, vb] w (Pair w (eachL (fun x y => max x y) xs ys)) := by
  have h1 := Lib.hid (Both_any va vb xs ys w ha hb)
  have HE := Lib.hid (eachL_max xs ys)
  obtain ⟨i0, hi, hz0, hz1, hz2⟩ := info_parts int_info
  by_cases h0 : ownE [xs, ys] = 0
  · obtain ⟨l1, l2, l3, -⟩ := own2_zero h0
    have E : Hid (eachL (fun x y => max x y) xs ys = (List.zipWith (fun x y => max x y) xs ys, 0)) := by show _ = _; rw [HE.out]; simp [h0]
    rw [h0] at h1
    rw [E.out]
    obtain ⟨A, c, rfl, hlc, hc, hcell⟩ := ha.open_
    obtain ⟨A', c', rfl, hlc', hc', hcell'⟩ := hb.open_
    have HA := Lib.hid hcell
    have HB := Lib.hid hcell'
    have L1 := Lib.hid l1
    clear hcell hcell' ha hb h0 l1
    go_enter Try.func21, Try.ntmps21
    go_wp2_with (first
      | (go_at_call 28; refine h1.out.mono ?_; rintro e w' ⟨rfl, rfl⟩)
      | (at_make; refine wpList_make_full _ rfl _ _ _ rfl w.heap.size 3 i0 _ 1 Try.underlying23 hi hz0 hz1 .i64 .i64 _ _ xs.length rfl rfl rfl rfl (by rw [hz2]; omega) (by unfold maxLen; omega) (by simp) ?_; intro w1 hown1 hg1; have HO1 := Lib.hid hown1; have HG1 := Lib.hid hg1; clear hown1 hg1))
    go_loopw [8] (fun i wr => ∃ (k : Nat) (os : List Int), k ≤ xs.length ∧ i = .int .i64 k ∧ Hid (os.length = xs.length) ∧ Hid (os.take k = (List.zipWith (fun x y => max x y) xs ys).take k) ∧
      Hid (OI wr w.heap.size (.slice (some ⟨w.heap.size, 0, none⟩) xs.length xs.length) os) ∧ Below w.heap.size w wr) (fun i _ => xs.length - (intOf i).toNat)
    case atStart => exact ⟨0, List.replicate xs.length 0, Nat.zero_le _, rfl, by simp [Hid], by simp [Hid], own_zeros HO1.out (by omega), below_grown HG1.out (Below.refl _ _)⟩
    case round =>
      obtain ⟨k, os, hk, rfl, ho1, ho2, hown, hbel⟩ := hrel
      by_cases hlt : k < xs.length
      · obtain ⟨ad, z, rfl, hadb, hz, hcl⟩ := HA.out k hlt
        have hlt' : k < ys.length := by have := L1.out; omega
        obtain ⟨ad', z', rfl, hadb', hz', hcl'⟩ := HB.out k hlt'
        have hc1 : wr.cell? (ad.add k) = some (.int .i64 z) := (hbel.cell (by rw [block_of_add]; exact hadb)).trans hcl
        have hc2 : wr.cell? (ad'.add k) = some (.int .i64 z') := (hbel.cell (by rw [block_of_add]; exact hadb')).trans hcl'
        have hol : k < os.length := by have := ho1.out; omega
        obtain ⟨-, -, hc3, hf3, hst⟩ := OI.at' hown.out hol
        have HS := Lib.hid hst
        have hz1' : Hid ((List.zipWith (fun x y => max x y) xs ys)[k]? = some ((fun x y => max x y) z z')) := by show _ = _; rw [List.getElem?_zipWith, hz.out, hz'.out]
        clear HA HB hst
        by_cases cc : z < z'
        · have hval : Hid ((z') = (fun x y => max x y) z z') := by show _ = _; dsimp only; omega
          go_wp2_with fail
          refine wp_region_still_tail 12 (by kernel_rfl) (by kernel_rfl) ?_
          change wpStill _ _ wr.drew _ _ _
          simp only [List.take_succ_cons, List.take_zero, List.drop_succ_cons, List.drop_zero]
          repeat still_step
          refine wpStill_nil ?_
          change wpList _ _ _ _ _ wr.drew
          go_wp2
          have hst := HS.out (z')
          go_roundw
          case rel => exact ⟨k + 1, os.set k (z'), by omega, by go_num, by simpa [Hid] using ho1.out, take_set_succ os _ k _ hol (by rw [hval.out]; exact hz1'.out) ho2.out, hst.1, (hbel.setCell (p := ⟨w.heap.size, k, none⟩) (Nat.le_refl _) _).drew⟩
          case measure => simp [intOf]; omega
        · have hval : Hid ((z) = (fun x y => max x y) z z') := by show _ = _; dsimp only; omega
          go_wp2_with fail
          refine wp_region_still_tail 12 (by kernel_rfl) (by kernel_rfl) ?_
          change wpStill _ _ wr.drew _ _ _
          simp only [List.take_succ_cons, List.take_zero, List.drop_succ_cons, List.drop_zero]
          repeat still_step
          refine wpStill_nil ?_
          change wpList _ _ _ _ _ wr.drew
          go_wp2
          have hst := HS.out (z)
          go_roundw
          case rel => exact ⟨k + 1, os.set k (z), by omega, by go_num, by simpa [Hid] using ho1.out, take_set_succ os _ k _ hol (by rw [hval.out]; exact hz1'.out) ho2.out, hst.1, (hbel.setCell (p := ⟨w.heap.size, k, none⟩) (Nat.le_refl _) _).drew⟩
          case measure => simp [intOf]; omega
      · go_wp2
        have h2 := ho2.out
        have hl : (List.zipWith (fun x y => max x y) xs ys).length ≤ k := by simp; omega
        rw [List.take_of_length_le hl, List.take_of_length_le (by have := ho1.out; omega)] at h2
        go_ret2
        exact ⟨_, rfl, by rw [← h2]; exact hown.out, hbel⟩
  · have h0' : (ownE [xs, ys] != 0) = true := by simp [h0]
    have E : Hid (eachL (fun x y => max x y) xs ys = ([], ownE [xs, ys])) := by show _ = _; rw [HE.out]; simp [h0]
    rw [E.out]
    clear ha hb h0
    go_enter Try.func21, Try.ntmps21
    go_wp2_with (go_at_call 28; refine h1.out.mono ?_; rintro e w' ⟨rfl, rfl⟩)
    go_ret2
    exact ⟨.slice none 0 0, rfl, OI.nil_ _ _, Below.refl _ _⟩

def sumL (k : Int) (xs ys : List Int) : List Int × Bool := if (List.zipWith (fun x y => x + k * y) xs ys).all InB then (List.zipWith (fun x y => x + k * y) xs ys, true) else ([], false)
def PairB (w : World) (l : List Int × Bool) (e : Ending) (w' : World) : Prop := ∃ v, e = .returned (.tuple #[v, .bool l.2]) ∧ OI w' w.heap.size v l.1 ∧ Below w.heap.size w w'

set_option maxRecDepth 100000 in
set_option maxHeartbeats 1000000 in
theorem Sum_any (va vb : Value) (xs ys : List Int) (q : Int) (w : World) (ha : RI w va xs) (hb : RI w vb ys) (hq1 : -1048576 ≤ q) (hq2 : q ≤ 1048576) (l1 : xs.length = ys.length) (l3 : xs.length ≤ 1000000) (l4 : xs.all InB = true) (l5 : ys.all InB = true) :
    Calls Try.prog 80 #[va, vb, .int .i64 q] w (PairB w (sumL q xs ys)) := by
  obtain ⟨i0, hi, hz0, hz1, hz2⟩ := info_parts int_info
  obtain ⟨A, c, rfl, hlc, hc, hcell⟩ := ha.open_
  obtain ⟨A', c', rfl, hlc', hc', hcell'⟩ := hb.open_
  have HA := Lib.hid hcell
  have HB := Lib.hid hcell'
  have L1 := Lib.hid l1
  have L4 := Lib.hid l4
  have L5 := Lib.hid l5
  clear hcell hcell' ha hb l1 l4 l5
  go_enter Try.func80, Try.ntmps80
  go_wp2_with (at_make; refine wpList_make_full _ rfl _ _ _ rfl w.heap.size 3 i0 _ 1 Try.underlying23 hi hz0 hz1 .i64 .i64 _ _ xs.length rfl rfl rfl rfl (by rw [hz2]; omega) (by unfold maxLen; omega) (by simp) ?_; intro w1 hown1 hg1; have HO1 := Lib.hid hown1; have HG1 := Lib.hid hg1; clear hown1 hg1)
  go_loopw [9] (fun i wr => ∃ (k : Nat) (os : List Int), k ≤ xs.length ∧ i = .int .i64 k ∧ Hid (os.length = xs.length) ∧ Hid (os.take k = (List.zipWith (fun x y => x + q * y) xs ys).take k) ∧ Hid (((List.zipWith (fun x y => x + q * y) xs ys).take k).all InB = true) ∧
    Hid (OI wr w.heap.size (.slice (some ⟨w.heap.size, 0, none⟩) xs.length xs.length) os) ∧ Below w.heap.size w wr) (fun i _ => xs.length - (intOf i).toNat)
  case atStart => exact ⟨0, List.replicate xs.length 0, Nat.zero_le _, rfl, by simp [Hid], by simp [Hid], by simp [Hid], own_zeros HO1.out (by omega), below_grown HG1.out (Below.refl _ _)⟩
  case round =>
    obtain ⟨k, os, hk, rfl, ho1, ho2, ho3, hown, hbel⟩ := hrel
    by_cases hlt : k < xs.length
    · obtain ⟨ad, z, rfl, hadb, hz, hcl⟩ := HA.out k hlt
      have hlt' : k < ys.length := by have := L1.out; omega
      obtain ⟨ad', z', rfl, hadb', hz', hcl'⟩ := HB.out k hlt'
      have hc1 : wr.cell? (ad.add k) = some (.int .i64 z) := (hbel.cell (by rw [block_of_add]; exact hadb)).trans hcl
      have hc2 : wr.cell? (ad'.add k) = some (.int .i64 z') := (hbel.cell (by rw [block_of_add]; exact hadb')).trans hcl'
      have hol : k < os.length := by have := ho1.out; omega
      obtain ⟨-, -, hc3, hf3, hst⟩ := OI.at' hown.out hol
      have hzb := inB_at L4.out hz.out
      have hzb' := inB_at L5.out hz'.out
      have hm := mul_bd hq1 hq2 hzb'.1 hzb'.2
      have HS := Lib.hid (hst (z + q * z'))
      have hz1' : Hid ((List.zipWith (fun x y => x + q * y) xs ys)[k]? = some (z + q * z')) := by show _ = _; rw [List.getElem?_zipWith, hz.out, hz'.out]
      clear HA HB hst
      go_wp2_with fail
      refine wp_region_still_tail 14 (by kernel_rfl) (by kernel_rfl) ?_
      change wpStill _ _ wr.drew _ _ _
      simp only [List.take_succ_cons, List.take_zero, List.drop_succ_cons, List.drop_zero]
      repeat still_step
      refine wpStill_nil ?_
      change wpList _ _ _ _ _ wr.drew
      go_wp2_with (go_at_call 79; refine (In_any _ _).mono ?_; rintro e w' ⟨rfl, rfl⟩)
      · have hw : InB (z + q * z') = false := by have : (!InB (z + q * z')) = true := by assumption
                                                 simpa using this
        have hall : (List.zipWith (fun x y => x + q * y) xs ys).all InB = false := by
          rw [List.all_eq_false]; exact ⟨_, List.mem_of_getElem? hz1'.out, by simp [hw]⟩
        have e2 : sumL q xs ys = ([], false) := by simp [sumL, hall]
        rw [e2]
        go_ret2
        exact ⟨.slice none 0 0, rfl, OI.nil_ _ _, (hbel.setCell (p := ⟨w.heap.size, k, none⟩) (Nat.le_refl _) _).drew⟩
      · have hw : InB (z + q * z') = true := by have : (!InB (z + q * z')) = false := by assumption
                                                simpa using this
        have hst := HS.out
        go_roundw
        case rel =>
          refine ⟨k + 1, os.set k (z + q * z'), by omega, by go_num, by simpa [Hid] using ho1.out, take_set_succ os _ k _ hol hz1'.out ho2.out, ?_, hst.1, (hbel.setCell (p := ⟨w.heap.size, k, none⟩) (Nat.le_refl _) _).drew⟩
          show _ = true
          rw [all_take_succ _ k _ hz1'.out, ho3.out, hw]; rfl
        case measure => simp [intOf]; omega
    · go_wp2
      have h2 := ho2.out
      have h3 := ho3.out
      have hl : (List.zipWith (fun x y => x + q * y) xs ys).length ≤ k := by simp; omega
      rw [List.take_of_length_le hl] at h3
      rw [List.take_of_length_le hl, List.take_of_length_le (by have := ho1.out; omega)] at h2
      have e2 : sumL q xs ys = (os, true) := by simp only [sumL, h3, if_true, h2]
      rw [e2]
      go_ret2
      exact ⟨_, rfl, hown.out, hbel⟩

theorem result_any (v : Value) (b : Bool) (w : World) : Calls Try.prog 81 #[v, .bool b] w fun e w' => e = .returned (.tuple #[if b then v else .slice none 0 0, .int .i64 (if b then 0 else 11)]) ∧ w = w' := by
  cases b
  · go_enter Try.func81, Try.ntmps81
    go_wp2
    go_ret2
    exact ⟨rfl, rfl⟩
  · go_enter Try.func81, Try.ntmps81
    go_wp2
    go_ret2
    exact ⟨rfl, rfl⟩

def addL (q : Int) (xs ys : List Int) : List Int × Int := if ownE [xs, ys] ≠ 0 then ([], ownE [xs, ys]) else if (sumL q xs ys).2 then ((sumL q xs ys).1, 0) else ([], 11)
theorem addL_eq (q : Int) (xs ys : List Int) : addL q xs ys = eachL (fun x y => x + q * y) xs ys := by
  by_cases h0 : ownE [xs, ys] = 0
  · by_cases h : (List.zipWith (fun x y => x + q * y) xs ys).all InB = true
    · simp [addL, eachL, h0, sumL, h]
    · simp [addL, eachL, h0, sumL, h]
  · simp [addL, eachL, h0]

set_option maxHeartbeats 1000000 in
theorem rAdd_any (va vb : Value) (xs ys : List Int) (w : World) (ha : RI w va xs) (hb : RI w vb ys) : Calls Try.prog 49 #[va, vb] w (Pair w (addL (1) xs ys)) := by
  have h1 := Lib.hid (Both_any va vb xs ys w ha hb)
  by_cases h0 : ownE [xs, ys] = 0
  · obtain ⟨l1, l2, l3, l4, l5⟩ := own2_zero h0
    have h2 := Lib.hid (Sum_any va vb xs ys (1) w ha hb (by omega) (by omega) l1 (by omega) l4 l5)
    have E : Hid (addL (1) xs ys = if (sumL (1) xs ys).2 then ((sumL (1) xs ys).1, 0) else ([], 11)) := by show _ = _; simp [addL, h0]
    rw [h0] at h1
    rw [E.out]
    obtain ⟨⟨zl, zb⟩, hzs⟩ : ∃ zs, zs = sumL (1) xs ys := ⟨_, rfl⟩
    rw [← hzs] at h2 ⊢
    clear ha hb h0 l1 l4 l5 hzs
    cases zb
    all_goals
      simp only [Bool.false_eq_true, if_false, if_true]
      go_enter Try.func49, Try.ntmps49
      go_wp2_with (first
        | (go_at_call 28; refine h1.out.mono ?_; rintro e w' ⟨rfl, rfl⟩)
        | (go_at_call 80; refine h2.out.mono ?_; rintro e w1 ⟨v, rfl, ho, hb1⟩; have HO := Lib.hid ho; clear ho)
        | (go_at_call 81; refine (result_any _ _ _).mono ?_; rintro e w' ⟨rfl, rfl⟩))
      go_ret2
      first | exact ⟨v, rfl, HO.out, hb1⟩ | exact ⟨.slice none 0 0, rfl, OI.nil_ _ _, hb1⟩
  · have h0' : (ownE [xs, ys] != 0) = true := by simp [h0]
    have E : Hid (addL (1) xs ys = ([], ownE [xs, ys])) := by show _ = _; simp [addL, h0]
    rw [E.out]
    clear ha hb h0
    go_enter Try.func49, Try.ntmps49
    go_wp2_with (go_at_call 28; refine h1.out.mono ?_; rintro e w' ⟨rfl, rfl⟩)
    go_ret2
    exact ⟨.slice none 0 0, rfl, OI.nil_ _ _, Below.refl _ _⟩

set_option maxHeartbeats 1000000 in
theorem rSub_any (va vb : Value) (xs ys : List Int) (w : World) (ha : RI w va xs) (hb : RI w vb ys) : Calls Try.prog 50 #[va, vb] w (Pair w (addL (-1) xs ys)) := by
  have h1 := Lib.hid (Both_any va vb xs ys w ha hb)
  by_cases h0 : ownE [xs, ys] = 0
  · obtain ⟨l1, l2, l3, l4, l5⟩ := own2_zero h0
    have h2 := Lib.hid (Sum_any va vb xs ys (-1) w ha hb (by omega) (by omega) l1 (by omega) l4 l5)
    have E : Hid (addL (-1) xs ys = if (sumL (-1) xs ys).2 then ((sumL (-1) xs ys).1, 0) else ([], 11)) := by show _ = _; simp [addL, h0]
    rw [h0] at h1
    rw [E.out]
    obtain ⟨⟨zl, zb⟩, hzs⟩ : ∃ zs, zs = sumL (-1) xs ys := ⟨_, rfl⟩
    rw [← hzs] at h2 ⊢
    clear ha hb h0 l1 l4 l5 hzs
    cases zb
    all_goals
      simp only [Bool.false_eq_true, if_false, if_true]
      go_enter Try.func50, Try.ntmps50
      go_wp2_with (first
        | (go_at_call 28; refine h1.out.mono ?_; rintro e w' ⟨rfl, rfl⟩)
        | (go_at_call 80; refine h2.out.mono ?_; rintro e w1 ⟨v, rfl, ho, hb1⟩; have HO := Lib.hid ho; clear ho)
        | (go_at_call 81; refine (result_any _ _ _).mono ?_; rintro e w' ⟨rfl, rfl⟩))
      go_ret2
      first | exact ⟨v, rfl, HO.out, hb1⟩ | exact ⟨.slice none 0 0, rfl, OI.nil_ _ _, hb1⟩
  · have h0' : (ownE [xs, ys] != 0) = true := by simp [h0]
    have E : Hid (addL (-1) xs ys = ([], ownE [xs, ys])) := by show _ = _; simp [addL, h0]
    rw [E.out]
    clear ha hb h0
    go_enter Try.func50, Try.ntmps50
    go_wp2_with (go_at_call 28; refine h1.out.mono ?_; rintro e w' ⟨rfl, rfl⟩)
    go_ret2
    exact ⟨.slice none 0 0, rfl, OI.nil_ _ _, Below.refl _ _⟩

set_option maxHeartbeats 1000000 in
theorem rNeg_any (va : Value) (xs : List Int) (w : World) (ha : RI w va xs) : Calls Try.prog 52 #[va] w (Pair w (eachL (fun x _ => -x) xs xs)) := by
  obtain ⟨i0, hi, hz0, hz1, hz2⟩ := info_parts int_info
  have h1 := Lib.hid (Own_any va xs w ha)
  have HE := Lib.hid (eachL_same (fun x => -x) xs (fun x _ h => by rw [inB_iff] at *; omega))
  have HA := Lib.hid ha
  obtain ⟨A, c, rfl, hlc, hc, -⟩ := ha.open_
  by_cases h0 : checkE xs xs.length = 0
  · obtain ⟨l2, l3, l4⟩ := checkE_zero h0
    have E : Hid (eachL (fun x _ => -x) xs xs = (xs.map (fun x => -x), 0)) := by show _ = _; rw [HE.out]; simp [h0]
    have ES : Hid (sumL (-1) (List.replicate xs.length 0) xs = (xs.map (fun x => -x), true)) := by
      show _ = _
      have ez : List.zipWith (fun x y => x + -1 * y) (List.replicate xs.length 0) xs = xs.map (fun x => -x) := by
        clear HE HA h1 hlc hc h0 l2 l3 l4 E ha
        induction xs with
        | nil => rfl
        | cons x r ih => simp only [List.length_cons, List.replicate_succ, List.zipWith_cons_cons, List.map_cons, ih]; congr 1; omega
      have ea : (xs.map (fun x => -x)).all InB = true := by
        rw [List.all_map, List.all_eq_true]; intro x hx; have := List.all_eq_true.1 l4 x hx; simp only [Function.comp]; rw [inB_iff] at *; omega
      simp only [sumL, ez, ea, if_true]
    have L4 := Lib.hid l4
    rw [h0] at h1
    rw [E.out]
    clear ha h0 l4
    go_enter Try.func52, Try.ntmps52
    go_wp2_with (first
      | (go_at_call 41; refine h1.out.mono ?_; rintro e w' ⟨rfl, rfl⟩)
      | (at_make; refine wpList_make_full _ rfl _ _ _ rfl w.heap.size 3 i0 _ 1 Try.underlying23 hi hz0 hz1 .i64 .i64 _ _ xs.length rfl rfl rfl rfl (by rw [hz2]; omega) (by unfold maxLen; omega) (by simp) ?_; intro w1 hown1 hg1; have HO1 := Lib.hid (own_zeros hown1 (by omega)); have HG1 := Lib.hid hg1; clear hown1 hg1)
      | (go_at_call 80; refine (Sum_any _ _ (List.replicate xs.length 0) xs (-1) _ HO1.out.ri (HA.out.below (below_grown HG1.out (Below.refl _ _))) (by omega) (by omega) (by simp) (by simp; omega) (by simp [InB]) L4.out).mono ?_; rw [ES.out]; rintro e w2 ⟨v, rfl, ho, hb2⟩; have HO := Lib.hid ho; clear ho))
    go_ret2
    have hb1 := below_grown HG1.out (Below.refl _ _)
    exact ⟨v, rfl, OV.mono HO.out hb1.size, hb1.trans (hb2.mono hb1.size)⟩
  · have h0' : (checkE xs xs.length != 0) = true := by simp [h0]
    have E : Hid (eachL (fun x _ => -x) xs xs = ([], checkE xs xs.length)) := by show _ = _; rw [HE.out]; simp [h0]
    rw [E.out]
    clear ha h0
    go_enter Try.func52, Try.ntmps52
    go_wp2_with (go_at_call 41; refine h1.out.mono ?_; rintro e w' ⟨rfl, rfl⟩)
    go_ret2
    exact ⟨.slice none 0 0, rfl, OI.nil_ _ _, Below.refl _ _⟩
end Go.Proofs.Ytcmkllfocifnlaa
