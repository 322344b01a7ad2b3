/- Contracts of the reference's times and diagonal.
   Contract of the reference's Burns. -/
import Derived.Test.YtgcnijmmjlfabaaGreatDoorH01
import Derived.Test.YtgcnijmmjlfabaaGreatDoorH06
import Derived.Test.YtgcnijmmjlfabaaGreatDoorH02
import Derived.Test.YtgcnijmmjlfabaaGreatDoorH07
import Derived.Test.YtgcnijmmjlfabaaGreatDoorH05
import Derived.Test.YtgcnijmmjlfabaaGreatDoorH08
import Derived.Test.YtgcnijmmjlfabaaGreatDoorH09
import Derived.Test.YtgcnijmmjlfabaaGreatDoorH03
import Derived.Test.YtgcnijmmjlfabaaGreatDoorH04
import Derived.ArgAppend
import Derived.BigQuiet
import Derived.ChangeAlike
import Derived.Deep.AppendLies
import Derived.Deep.DeepCutAuto
import Derived.Deep.DeepFit
import Derived.Deep.Draws
import Derived.Deep.LoopGhost
import Derived.Deep.MidRow
import Derived.Deep.OwnRows
import Derived.Deep.QuietTactic
import Derived.Deep.RegionHeld3
import Derived.Deep.RegionLaw
import Derived.Deep.RegionWith
import Derived.Laws.CopyOwn
import Derived.Laws.Rows
import Derived.Lib.Hide
import Derived.Lib.MinMax
import Derived.LoopIn
import Derived.LoopNIn
import Derived.Maps.AppendAt
import Derived.Maps.OwnOps
import Derived.Maps.Views
import Derived.OwnWalkIn
import Derived.RangeFuncBound
import Derived.RangeFuncCalls
import Derived.RangeFuncLeaves
import Derived.RangeFuncNested
import Derived.RegionTactic
import Derived.Shelf.Abstract
import Derived.Shelf.RegionOpen
import Derived.Sort.LoopGhostIn
import Derived.StillTailTactics
import Derived.TacticsInMore
import Derived.Test.YtgcnijmmjlfabaaGreatDoorProg
import Derived.WalkKit
import Derived.WalkLawsBesides
import Derived.WalkSpells
namespace Go.Proofs.YtgcnijmmjlfabaaGreatDoor
open Go.RowKit Go.Shelf

set_option maxRecDepth 100000 in
set_option maxHeartbeats 8000000 in
theorem rTimes_any (va vb : Value) (n : Nat) (a b : List Int) (A B : Int) (w : World) (hra : RI w va a) (hrb : RI w vb b) (hn : n ≤ 11) (hal : a.length = n * n) (hbl : b.length = n * n) (hA : Bd A a) (hB : Bd B b) (hA0 : 0 ≤ A) (hAB : A * B ≤ 800000000000000000) :
    Calls Tryz.prog 131 #[.int .i64 (n : Int), va, vb] w fun e w' => ∃ v, e = .returned v ∧ OI w' w.heap.size v (tmsL n a b) ∧ Below w.heap.size w w' := by
  obtain ⟨Aa, ca, rfl, -, -, hca⟩ := hra.open_
  obtain ⟨Ab, cb, rfl, -, -, hcb⟩ := hrb.open_
  rw [hal] at hca ⊢
  rw [hbl] at hcb ⊢
  obtain ⟨m, hm⟩ : ∃ m, m = n * n := ⟨_, rfl⟩
  have hm121 : m ≤ 121 := by rw [hm]; exact Nat.le_trans (Nat.mul_le_mul hn hn) (by decide)
  have hmi : (n : Int) * (n : Int) = (m : Int) := by rw [hm]; push_cast; rfl
  rw [← hm] at hca hcb hal hbl ⊢
  have HM := Lib.hid hm
  clear hm
  have hmk := run_make_row' (P := Tryz.prog) 42 3 (.int .i64 0) 8 Tryz.underlying42 int_info rfl .i64 .i64 m (by omega) (by omega)
  have hwm : IntKind.i64.wrap (m : Int) = m := by simp (disch := omega) only [IntWalk.i64_in]
  obtain ⟨W1, hW1⟩ : ∃ W1, W1 = w.alloc (.cells (madeCells #[Value.int .i64 0] m) 3) := ⟨_, rfl⟩
  have ho0 : OI W1 w.heap.size (.slice (some ⟨w.heap.size, 0, none⟩) m m) (List.replicate m 0) := by rw [hW1]; exact own_zeros w m (by omega)
  have hb1 : Below w.heap.size w W1 := by rw [hW1]; exact below_alloc w _
  have HO0 := Lib.hid ho0
  have HB1 := Lib.hid hb1
  have HW1 := Lib.hid hW1
  have HCa := Lib.hid hca
  have HCb := Lib.hid hcb
  have hAB2 : ∀ p q, -(A * B) ≤ a.getD p 0 * b.getD q 0 ∧ a.getD p 0 * b.getD q 0 ≤ A * B := fun p q => mul_bd (hA p) (hB q) hA0
  have HAB : Hid (∀ p q, -800000000000000000 ≤ a.getD p 0 * b.getD q 0 ∧ a.getD p 0 * b.getD q 0 ≤ 800000000000000000) := fun p q => by have := hAB2 p q; omega
  have HTb : Hid (∀ (i k j : Nat), -(800000000000000000 * (j : Int)) ≤ tmC n a b i k j ∧ tmC n a b i k j ≤ 800000000000000000 * (j : Int)) := fun i k j => tmC_bd hA hB hA0 hAB i k j
  have HPl : Hid (∀ i k, i < n → k < n → i * n + k < m) := fun i k h1 h2 => by rw [HM.out]; exact pos_lt h1 h2
  have HSt : Hid (TmR n a b 0 0 0 (List.replicate m 0)) := by rw [HM.out]; exact TmR.start n a b
  clear hra hrb hca hcb hW1 ho0 hb1 hA hB hA0 hAB hAB2 hal hbl
  go_enter Tryz.func131, Tryz.ntmps131
  go_wp2_with fail
  rw [← HW1.out]
  clear hmk hwm
  go_loopw [8] (fun ii wr => ∃ (i : Nat) (os : List Int), i ≤ n ∧ ii = .int .i64 (i : Int) ∧ Hid (TmR n a b i 0 0 os) ∧ Hid (OI wr w.heap.size (.slice (some ⟨w.heap.size, 0, none⟩) m m) os) ∧ Hid (Below w.heap.size w wr)) (fun i _ => n - (intOf i).toNat)
  case atStart => exact ⟨0, _, Nat.zero_le _, rfl, HSt.out, HO0.out, HB1.out⟩
  case round =>
    obtain ⟨i, os, hi, rfl, hT, hO, hB⟩ := hrel
    by_cases hin : i < n
    · go_wp2_with fail
      go_loopw [9] (fun kk wr => ∃ (k : Nat) (os : List Int), k ≤ n ∧ kk = .int .i64 (k : Int) ∧ Hid (TmR n a b i k 0 os) ∧ Hid (OI wr w.heap.size (.slice (some ⟨w.heap.size, 0, none⟩) m m) os) ∧ Hid (Below w.heap.size w wr)) (fun k _ => n - (intOf k).toNat)
      case atStart => exact ⟨0, _, Nat.zero_le _, rfl, hT.out, hO.out, hB.out⟩
      case round =>
        obtain ⟨k, os, hk, rfl, hT, hO, hB⟩ := hrel
        by_cases hkn : k < n
        · go_wp2_with fail
          go_loopw [10] (fun jj wr => ∃ (j : Nat) (os : List Int), j ≤ n ∧ jj = .int .i64 (j : Int) ∧ Hid (TmR n a b i k j os) ∧ Hid (OI wr w.heap.size (.slice (some ⟨w.heap.size, 0, none⟩) m m) os) ∧ Hid (Below w.heap.size w wr)) (fun j _ => n - (intOf j).toNat)
          case atStart => exact ⟨0, _, Nat.zero_le _, rfl, hT.out, hO.out, hB.out⟩
          case round =>
            obtain ⟨j, os, hj, rfl, hT, hO, hB⟩ := hrel
            by_cases hjn : j < n
            · obtain ⟨p0, hp0⟩ : ∃ p0, p0 = i * n + k := ⟨_, rfl⟩
              obtain ⟨pa, hpa⟩ : ∃ p, p = i * n + j := ⟨_, rfl⟩
              obtain ⟨pb, hpb⟩ : ∃ p, p = j * n + k := ⟨_, rfl⟩
              have l0 := HPl.out i k hin hkn
              have la := HPl.out i j hin hjn
              have lb := HPl.out j k hjn hkn
              have w0 : (i : Int) * (n : Int) + (k : Int) = (p0 : Int) := by rw [hp0]; push_cast; rfl
              have wa : (i : Int) * (n : Int) + (j : Int) = (pa : Int) := by rw [hpa]; push_cast; rfl
              have wb : (j : Int) * (n : Int) + (k : Int) = (pb : Int) := by rw [hpb]; push_cast; rfl
              have hcell := hT.out.cell hin hkn
              have hst := hT.out.step hin hkn
              have htb := HTb.out i k j
              rw [tmC_succ, ← hcell, ← hp0, ← hpa, ← hpb] at hst
              rw [← hcell, ← hp0] at htb
              rw [← hp0] at l0
              rw [← hpa] at la
              rw [← hpb] at lb
              have hl : os.length = m := by rw [hT.out.1, HM.out]
              obtain ⟨-, -, s1, s2, s3⟩ := hO.out.at' (k := p0) (by rw [hl]; exact l0)
              obtain ⟨ada, xa, rfl, hab, hxa, hcxa⟩ := HCa.out pa la
              obtain ⟨adb, xb, rfl, hbb, hxb, hcxb⟩ := HCb.out pb lb
              have r1 := (hB.out.cell (p := ada.add pa) (by rw [block_of_add]; exact hab)).trans hcxa
              have r2 := (hB.out.cell (p := adb.add pb) (by rw [block_of_add]; exact hbb)).trans hcxb
              have hpr := HAB.out pa pb
              rw [getD_of' hxa.out, getD_of' hxb.out] at hst hpr
              have HS := Lib.hid (s3 (os.getD p0 0 + xa * xb)).1
              have HB2 := Lib.hid (hB.out.setCell (p := ⟨w.heap.size, p0, none⟩) (Nat.le_refl _) (.int .i64 (os.getD p0 0 + xa * xb)))
              have HT2 := Lib.hid hst
              have hj11 : (j : Int) ≤ 10 := by omega
              clear hcell hst s3 hcxa hcxb hxa hxb hab hbb hl hT
              generalize os.getD p0 0 = o at *
              generalize hxx : xa * xb = pr at *
              have e0 : IntKind.i64.wrap ((i : Int) * (n : Int)) = (i : Int) * (n : Int) := by
                have : 0 ≤ (i : Int) * (n : Int) := by rw [← Int.natCast_mul]; omega
                have : (i : Int) * (n : Int) ≤ 200 := by omega
                simp (disch := omega) only [IntWalk.i64_in]
              have e1 : IntKind.i64.wrap ((j : Int) * (n : Int)) = (j : Int) * (n : Int) := by
                have : 0 ≤ (j : Int) * (n : Int) := by rw [← Int.natCast_mul]; omega
                have : (j : Int) * (n : Int) ≤ 200 := by omega
                simp (disch := omega) only [IntWalk.i64_in]
              have e2 : IntKind.i64.wrap ((i : Int) * (n : Int) + (k : Int)) = (p0 : Int) := by rw [w0]; simp (disch := omega) only [IntWalk.i64_in]
              have e3 : IntKind.i64.wrap ((i : Int) * (n : Int) + (j : Int)) = (pa : Int) := by rw [wa]; simp (disch := omega) only [IntWalk.i64_in]
              have e4 : IntKind.i64.wrap ((j : Int) * (n : Int) + (k : Int)) = (pb : Int) := by rw [wb]; simp (disch := omega) only [IntWalk.i64_in]
              have e5 : IntKind.i64.wrap (xa * xb) = pr := by rw [hxx]; simp (disch := omega) only [IntWalk.i64_in]
              have e6 : IntKind.i64.wrap (o + pr) = o + pr := by simp (disch := omega) only [IntWalk.i64_in]
              clear hp0 hpa hpb w0 wa wb hxx
              have b0 : (p0 : Int) < m := by omega
              have b1 : (pa : Int) < m := by omega
              have b2 : (pb : Int) < m := by omega
              go_wp2_with fail
              refine wp_region_still_tail 27 (by kernel_rfl) (by kernel_rfl) ?_
              change wpStill _ _ wr.drew _ _ _
              simp only [List.take_succ_cons, List.take_zero, List.drop_succ_cons, List.drop_zero]
              repeat still_step
              refine wpStill_nil ?_
              change wpList _ _ _ _ _ wr.drew
              go_wp2
              go_roundw
              case rel => exact ⟨j + 1, _, by omega, by go_num, HT2.out, OI.below HS.out (Below.refl _ _).drew, HB2.out.drew⟩
              case measure => simp [intOf]; omega
            · obtain rfl : n = j := by omega
              have HT2 := Lib.hid (hT.out.next hkn)
              go_wp2
              go_roundw
              case rel => exact ⟨k + 1, _, by omega, by go_num, HT2.out, hO.out, hB.out⟩
              case measure => simp [intOf]; omega
        · obtain rfl : n = k := by omega
          have HT2 := Lib.hid hT.out.row
          go_wp2
          go_roundw
          case rel => exact ⟨i + 1, _, by omega, by go_num, HT2.out, hO.out, hB.out⟩
          case measure => simp [intOf]; omega
    · obtain rfl : n = i := by omega
      obtain rfl := hT.out.end_
      have HO := Lib.hid hO.out
      clear hT hO
      go_wp2
      go_ret
      exact ⟨_, rfl, HO.out, hB.out⟩
set_option maxRecDepth 100000 in
set_option maxHeartbeats 8000000 in
theorem rDiag_any (va vl : Value) (n : Nat) (a last : List Int) (w : World) (hra : RI w va a) (hl : RI w vl last) (hn : n ≤ 11) (hal : a.length = n * n) (hll : last.length ≤ 100000) :
    Calls Tryz.prog 130 #[.int .i64 (n : Int), va, vl] w fun e w' => e = .returned (.bool (diaB n a last)) ∧ Below w.heap.size w w' := by
  obtain ⟨Aa, ca, rfl, -, -, hca⟩ := hra.open_
  obtain ⟨Al, cl, rfl, -, -, hcl⟩ := hl.open_
  rw [hal] at hca ⊢
  obtain ⟨m, hm⟩ : ∃ m, m = n * n := ⟨_, rfl⟩
  have hm121 : m ≤ 121 := by rw [hm]; exact Nat.le_trans (Nat.mul_le_mul hn hn) (by decide)
  have hmi : (n : Int) * (n : Int) = (m : Int) := by rw [hm]; push_cast; rfl
  have hwm : IntKind.i64.wrap ((n : Int) * (n : Int)) = m := by rw [hmi]; simp (disch := omega) only [IntWalk.i64_in]
  rw [← hm] at hca hal ⊢
  have HDv : Hid (∀ p, p < m → p / n < n ∧ p % n < n ∧ 0 < n) := fun p hp => by
    rw [hm] at hp
    have hn0 : 0 < n := by rcases Nat.eq_zero_or_pos n with h | h; · subst h; omega
                           · exact h
    exact ⟨Nat.div_lt_of_lt_mul hp, Nat.mod_lt _ hn0, hn0⟩
  have HCa := Lib.hid hca
  have HCl := Lib.hid hcl
  have HR0 : Hid (diaB n a last = (List.range m).all fun p => decide (a.getD p 0 = wantI n last (p / n) (p % n))) := by show _ = _; rw [hm]; rfl
  clear hra hl hal hm hca hcl
  go_enter Tryz.func130, Tryz.ntmps130
  go_wp2_with fail
  go_loopw [7] (fun ii wr => ∃ p : Nat, p ≤ m ∧ ii = .int .i64 (p : Int) ∧ Hid ((List.range p).all (fun p => decide (a.getD p 0 = wantI n last (p / n) (p % n))) = true) ∧ Hid (Below w.heap.size w wr)) (fun ii _ => m - (intOf ii).toNat)
  case atStart => exact ⟨0, Nat.zero_le _, rfl, by simp [Hid], Below.refl _ _⟩
  case round =>
    obtain ⟨p, hp, rfl, hT, hB⟩ := hrel
    by_cases hpm : p < m
    · obtain ⟨hd1, hd2, hd3⟩ := HDv.out p hpm
      have hs := all_range_succ (p := fun p => decide (a.getD p 0 = wantI n last (p / n) (p % n))) (k := p)
      rw [hT.out, Bool.true_and] at hs
      have hf := fun h => all_range_false (p := fun p => decide (a.getD p 0 = wantI n last (p / n) (p % n))) hpm h
      obtain ⟨ada, xa, rfl, hab, hxa, hcxa⟩ := HCa.out p hpm
      have HCx : Hid (∀ W, Below w.heap.size w W → W.cell? (ada.add p) = some (.int .i64 xa)) := fun W h => (h.cell (p := ada.add p) (by rw [block_of_add]; exact hab)).trans hcxa
      rw [getD_of' hxa.out] at hs hf
      have HNx := Lib.hid hs
      have HF := Lib.hid hf
      have q1 : (p : Int).tdiv (n : Int) = ((p / n : Nat) : Int) := by rw [Int.tdiv_eq_ediv_of_nonneg (by omega)]; rfl
      have q2 : (p : Int).tmod (n : Int) = ((p % n : Nat) : Int) := by rw [Int.tmod_eq_emod_of_nonneg (by omega)]; rfl
      have q3 : (p : Int) / (n : Int) = ((p / n : Nat) : Int) := rfl
      have q4 : (p : Int) % (n : Int) = ((p % n : Nat) : Int) := rfl
      have hnz : (n : Int) ≠ 0 := by omega
      clear hs hf hxa hcxa hab hT HDv
      generalize p / n = i at *
      generalize p % n = k at *
      go_wp2_with fail
      go_quiet (fail)
      have HB2 := Lib.hid (below_drewN hB.out nq)
      obtain ⟨w2, hw2⟩ : ∃ w2, w2 = wr.drewN nq := ⟨_, rfl⟩
      rw [← hw2] at HB2 ⊢
      clear hw2
      have r1 := HCx.out w2 HB2.out
      by_cases hik : i = k
      · obtain rfl : k = i := hik.symm
        have t1 : ((k : Int) == (k : Int)) = true := by simp
        by_cases hj : 0 ≤ (k : Int) - ((n : Int) - (last.length : Int))
        · obtain ⟨adl, y, rfl, hbl, hy, hcy⟩ := HCl.out ((k : Int) - ((n : Int) - (last.length : Int))).toNat (by omega)
          have HWt : Hid (wantI n last k k = y) := by
            show _ = _; unfold wantI; rw [if_pos rfl, if_pos (by omega), show ((k : Int) - n + last.length).toNat = ((k : Int) - ((n : Int) - (last.length : Int))).toNat by congr 1; omega, getD_of' hy.out]
          have r2 := (HB2.out.cell (p := adl.add ((k : Int) - ((n : Int) - (last.length : Int))).toNat) (by rw [block_of_add]; exact hbl)).trans hcy
          have hjl : (k : Int) - ((n : Int) - (last.length : Int)) < last.length := by omega
          clear hy hcy hbl HCl hik
          by_cases hxy : xa = y
          · have t3 : (xa != y) = false := by rw [bne_eq_false_iff_eq]; exact hxy
            rw [HWt.out, decide_eq_true hxy] at HNx
            clear hxy
            go_wp2
            go_roundw
            case rel => exact ⟨p + 1, by omega, by go_num, HNx.out, HB2.out⟩
            case measure => simp [intOf]; omega
          · have t3 : (xa != y) = true := by rw [bne_iff_ne]; exact hxy
            have HR : Hid (diaB n a last = false) := by show _ = _; rw [HR0.out, HF.out (decide_eq_false (by rw [HWt.out]; exact hxy))]
            clear hxy
            go_wp2
            go_ret
            exact ⟨by rw [HR.out]; rfl, HB2.out⟩
        · have HWt : Hid (wantI n last k k = 1) := by show _ = _; unfold wantI; rw [if_pos rfl, if_neg (by omega)]
          clear hik HCl
          by_cases hxy : xa = 1
          · have t3 : (xa != 1) = false := by rw [bne_eq_false_iff_eq]; exact hxy
            rw [HWt.out, decide_eq_true hxy] at HNx
            clear hxy
            go_wp2
            go_roundw
            case rel => exact ⟨p + 1, by omega, by go_num, HNx.out, HB2.out⟩
            case measure => simp [intOf]; omega
          · have t3 : (xa != 1) = true := by rw [bne_iff_ne]; exact hxy
            have HR : Hid (diaB n a last = false) := by show _ = _; rw [HR0.out, HF.out (decide_eq_false (by rw [HWt.out]; exact hxy))]
            clear hxy
            go_wp2
            go_ret
            exact ⟨by rw [HR.out]; rfl, HB2.out⟩
      · have t1 : ((i : Int) == (k : Int)) = false := by rw [beq_eq_false_iff_ne]; omega
        have HWt : Hid (wantI n last i k = 0) := by show _ = _; unfold wantI; rw [if_neg hik]
        clear hik HCl
        by_cases hxy : xa = 0
        · have t3 : (xa != 0) = false := by rw [bne_eq_false_iff_eq]; exact hxy
          rw [HWt.out, decide_eq_true hxy] at HNx
          clear hxy
          go_wp2
          go_roundw
          case rel => exact ⟨p + 1, by omega, by go_num, HNx.out, HB2.out⟩
          case measure => simp [intOf]; omega
        · have t3 : (xa != 0) = true := by rw [bne_iff_ne]; exact hxy
          have HR : Hid (diaB n a last = false) := by show _ = _; rw [HR0.out, HF.out (decide_eq_false (by rw [HWt.out]; exact hxy))]
          clear hxy
          go_wp2
          go_ret
          exact ⟨by rw [HR.out]; rfl, HB2.out⟩
    · obtain rfl : m = p := by omega
      have HR : Hid (diaB n a last = true) := by show _ = _; rw [HR0.out]; exact hT.out
      clear hT
      go_wp2
      go_ret
      exact ⟨by rw [HR.out]; rfl, hB.out⟩
end Go.Proofs.YtgcnijmmjlfabaaGreatDoor

namespace Go.Proofs.YtgcnijmmjlfabaaGreatDoor
open Go.RowKit Go.Shelf

theorem btw_comm (es : List Tri) (a b : Int) : btwE es a b = btwE es b a := by
  induction es with
  | nil => rfl
  | cons t r ih => rw [btwE, btwE, ih, Int.min_comm, Int.max_comm]
theorem btw_wgt' {n : Nat} {es : List Tri} (hE : Edges n es) {u v : Nat} (h : u ≠ v) : btwE es (u : Int) (v : Int) = wgt es v u := by
  rw [btw_comm]; exact btw_wgt hE (Ne.symm h)
theorem mrk_succ (es : List Tri) (bs : List Bool) (v k : Nat) : mrkN es bs v (k + 1) = mrkN es bs v k + if bs.getD k false then wgt es v k else 0 := rfl
set_option maxRecDepth 100000 in
set_option maxHeartbeats 16000000 in
theorem r57Burns_any (g vd vo : Value) (n q : Nat) (es : List Tri) (d order : List Int) (w : World) (hg : GV w g n es) (hd : RI w vd d) (ho : RI w vo order) (hE : Edges n es) (hn : n ≤ 12) (hq : q < n) (hdl : d.length = n) (hol : order.length ≤ 100000) :
    Calls Tryz.prog 96 #[g, .int .i64 (q : Int), vd, vo] w fun e w' => e = .returned (.bool (burnsB n es q d order)) ∧ Below w.heap.size w w' := by
  obtain ⟨A, c, rfl, -⟩ := hg.open_
  obtain ⟨W0, hW0⟩ : ∃ W0, W0 = w.alloc (.cells #[.int .i64 (n:Int), .slice A es.length c] 24) := ⟨_, rfl⟩
  have hb0 : Below w.heap.size w W0 := by rw [hW0]; exact below_alloc w _
  have hx0 : BL W0 w.heap.size 24 [.int .i64 (n:Int), .slice A es.length c] := by rw [hW0]; exact BL.new' w _ _
  have c0 := hx0.cell 0
  have c1 := hx0.cell 1
  have HX0 := Lib.hid hx0
  have HG0 := Lib.hid (hg.below hb0)
  have HB0 := Lib.hid hb0
  have HW0 := Lib.hid hW0
  rw [hW0] at c0 c1
  clear hg hx0 hW0
  obtain ⟨A1, e1, rfl, -, -, hcd⟩ := (RI.below hd hb0).open_
  obtain ⟨A2, e2, rfl, -, -, hco⟩ := (RI.below ho hb0).open_
  rw [hdl] at hcd ⊢
  have HCd := Lib.hid hcd
  have HCo := Lib.hid hco
  have HFin : Hid (burnsB n es q d order = (brnB n es d (brnS n q) order && decide ((order.length : Int) = n - 1))) := rfl
  have g0 := HX0.out.cell 0
  have g1 := HX0.out.cell 1
  clear hd ho hdl hcd hco hb0
  by_cases hlen : (order.length : Int) ≠ n - 1
  · have HR : Hid (burnsB n es q d order = false) := by show _ = _; rw [HFin.out, decide_eq_false hlen, Bool.and_false]
    have t1 : ((order.length : Int) != (n : Int) - 1) = true := by simpa using hlen
    clear hlen hE HFin
    go_enter Tryz.func96, Tryz.ntmps96
    go_upto_region 1 with fail
    rw [← HW0.out]
    clear c0 c1
    go_wp2
    go_ret
    exact ⟨by rw [HR.out]; rfl, HB0.out⟩
  have hlen : (order.length : Int) = n - 1 := by omega
  have t1 : ((order.length : Int) != (n : Int) - 1) = false := by simpa using hlen
  have HLn := Lib.hid hlen
  have hmk := run_make_row' (P := Tryz.prog) 139 4 (.bool false) 1 Tryz.underlying139 bool_info rfl .i64 .i64 n (by omega) (by omega)
  have ho0 : OB (W0.alloc (.cells (madeCells #[Value.bool false] n) 4)) W0.heap.size (.slice (some ⟨W0.heap.size, 0, none⟩) n n) (List.replicate n false) := own_falses W0 n (by omega)
  have hb1 := below_alloc W0 (.cells (madeCells #[Value.bool false] n) 4)
  obtain ⟨W1, hW1⟩ : ∃ W1, W1 = W0.alloc (.cells (madeCells #[Value.bool false] n) 4) := ⟨_, rfl⟩
  rw [← hW1] at ho0 hb1
  obtain ⟨-, q1, q2, q3⟩ := ho0.at_ (k := q) (by simpa using hq)
  have HO2 : Hid (OB (W1.setCell ⟨W0.heap.size, q, none⟩ (.bool true)) W0.heap.size (.slice (some ⟨W0.heap.size, 0, none⟩) n n) (brnS n q)) := q3 true
  have HB2 := Lib.hid (hb1.setCell (p := ⟨W0.heap.size, q, none⟩) (Nat.le_refl _) (.bool true))
  have hWe : W1.setCell ⟨W0.heap.size, q, none⟩ (.bool true) = W0.alloc (.cells ((madeCells #[Value.bool false] n).setIfInBounds q (.bool true)) 4) := by rw [hW1]; simp [go_sem]
  have HW1 := Lib.hid hWe
  rw [show (List.replicate n false).getD q false = false by rw [List.getD_eq_getElem?_getD, List.getElem?_replicate]; split <;> rfl, hW1] at q1
  rw [hW1] at q2
  have HV : Hid (∀ (v : Int) (W : World), Below W0.heap.size W0 W → Calls Tryz.prog 101 #[.agg #[.int .i64 (n : Int), .slice A es.length c], .int .i64 v] W fun e w' => e = .returned (.bool (vtxB n v)) ∧ Below W.heap.size W w') := fun v W h => rVertex_any _ n es v W (HG0.out.below h)
  have HJ : Hid (∀ (u v : Nat) (W : World), Below W0.heap.size W0 W → u ≠ v → Calls Tryz.prog 129 #[.agg #[.int .i64 (n : Int), .slice A es.length c], .int .i64 (u : Int), .int .i64 (v : Int)] W fun e w' => e = .returned (.int .i64 (wgt es v u)) ∧ Below W.heap.size W w') := fun u v W h h1 => by
    rw [← btw_wgt' hE h1]; exact between_any _ (n : Int) es (u : Int) (v : Int) W (HG0.out.below h)
  have HSl : Hid ((brnS n q).length = n) := by simp [Hid, brnS]
  have HMb : Hid (∀ bs v k, 0 ≤ mrkN es bs v k ∧ mrkN es bs v k ≤ 50 * (k : Int)) := fun bs v k => mrk_bd hE bs v k
  have HWb : Hid (∀ u v : Nat, 0 ≤ wgt es v u ∧ wgt es v u ≤ 50) := fun u v => wgt50 hE v u
  clear hE hlen hW1 hWe ho0 hb1 q3
  go_enter Tryz.func96, Tryz.ntmps96
  go_upto_region 1 with fail
  rw [← HW0.out]
  clear c0 c1
  go_wp2_with fail
  rw [← HW1.out]
  clear hmk q1 q2 g0 g1
  go_loopw [10] (fun ii wr => ∃ (k : Nat) (bs : List Bool), k ≤ order.length ∧ ii = .int .i64 (k : Int) ∧ Hid (bs.length = n) ∧ Hid (OB wr W0.heap.size (.slice (some ⟨W0.heap.size, 0, none⟩) n n) bs) ∧ Hid (Below W0.heap.size W0 wr) ∧ Hid (brnB n es d bs (order.drop k) = brnB n es d (brnS n q) order)) (fun i _ => order.length - (intOf i).toNat)
  case atStart => exact ⟨0, brnS n q, Nat.zero_le _, rfl, HSl.out, HO2.out, HB2.out, rfl⟩
  case round =>
    obtain ⟨k, bs, hk, rfl, hbl, hob, hbw, hbr⟩ := hrel
    have g0 := (HX0.out.bel hbw.out).cell 0
    have g1 := (HX0.out.bel hbw.out).cell 1
    by_cases hlt : k < order.length
    · obtain ⟨ado, v, rfl, hvb, hv, hcv⟩ := HCo.out k hlt
      have r1 := (hbw.out.cell (p := ado.add k) (by rw [block_of_add]; exact hvb)).trans hcv
      have hdr := drop_at hv
      have hb2 := hbr.out
      rw [hdr, brnB] at hb2
      have HV1 := Lib.hid (HV.out v wr hbw.out)
      clear hcv hvb hdr hv
      go_wp2_with fail
      refine HV1.out.mono ?_
      rintro e w1 ⟨rfl, hb1⟩
      have HBw1 := Lib.hid (hbw.out.trans (hb1.mono hbw.out.size))
      have hob1 := OB.below hob.out hb1
      clear hb1 HV1 g0 g1 r1 hob
      by_cases hvx : 0 ≤ v ∧ v < n
      · obtain ⟨vn, rfl⟩ : ∃ vn : Nat, v = vn := ⟨v.toNat, by omega⟩
        have hvn : vn < n := by omega
        have hvt : vtxB n (vn : Int) = true := by unfold vtxB; rw [decide_eq_true hvx.1, decide_eq_true hvx.2]; rfl
        rw [hvt]
        rw [decide_eq_true hvx.1, decide_eq_true hvx.2] at hb2
        simp only [Int.toNat_natCast, Bool.true_and] at hb2
        obtain ⟨-, s1, s2, s3⟩ := hob1.at_ (k := vn) (by rw [hbl.out]; exact hvn)
        obtain ⟨add, z, rfl, hzb, hz, hcz⟩ := HCd.out vn hvn
        simp only [getD_of' hz.out] at hb2
        have HZb := Lib.hid hzb
        have HCz := Lib.hid hcz
        have HOb := Lib.hid hob1
        clear hcz hz hzb hvx hvt hob1
        by_cases hbt : bs.getD vn false = true
        · rw [hbt] at s1
          simp only [hbt, Bool.not_true, Bool.false_and, Bool.false_eq_true, if_false] at hb2
          have HB := Lib.hid hb2
          have HR : Hid (burnsB n es q d order = false) := by show _ = _; rw [HFin.out, ← HB.out]; rfl
          clear hb2 hbt s3
          go_wp2
          go_ret
          exact ⟨by rw [HR.out]; rfl, HB0.out.trans (HBw1.out.mono HB0.out.size)⟩
        have hbt : bs.getD vn false = false := by simpa using hbt
        rw [hbt] at s1
        simp only [hbt, Bool.not_false, Bool.true_and] at hb2
        have HBt := Lib.hid hbt
        have HBr2 := Lib.hid hb2
        have HB2' := Lib.hid HBw1.out.size
        clear hb2 hbt s3 s2
        go_wp2_with fail
        go_loopw [12, 13] (fun nn uu wr => ∃ (u : Nat) (x : Int), u ≤ n ∧ nn = .int .i64 x ∧ uu = .int .i64 (u : Int) ∧ Hid (x = mrkN es bs vn u) ∧ Hid (Below w1.heap.size w1 wr)) (fun _ uu _ => n - (intOf uu).toNat)
        case atStart => exact ⟨0, 0, Nat.zero_le _, rfl, rfl, rfl, Below.refl _ _⟩
        case round =>
          obtain ⟨u, x, hu, rfl, rfl, hx, hbi⟩ := hrel
          have HBi := Lib.hid (HBw1.out.trans (hbi.out.mono HBw1.out.size))
          have g0 := (HX0.out.bel HBi.out).cell 0
          have g1 := (HX0.out.bel HBi.out).cell 1
          have hobi := OB.below HOb.out hbi.out
          have hxb := HMb.out bs vn u
          rw [← hx.out] at hxb
          by_cases hun : u < n
          · obtain ⟨-, p1, -, -⟩ := hobi.at_ (k := u) (by rw [hbl.out]; exact hun)
            have hms := mrk_succ es bs vn u
            by_cases hbu : bs.getD u false = true
            · have huv : u ≠ vn := fun e => by rw [e, HBt.out] at hbu; cases hbu
              rw [hbu] at p1
              rw [if_pos hbu] at hms
              have HJ1 := Lib.hid (HJ.out u vn _ HBi.out huv)
              have hwb := HWb.out u vn
              have HX2 : Hid (x + wgt es vn u = mrkN es bs vn (u + 1)) := by show _ = _; rw [hx.out, hms]
              clear hms hbu huv hobi
              generalize wgt es vn u = y at *
              go_wp2_with fail
              refine HJ1.out.mono ?_
              rintro e w2 ⟨rfl, hb2⟩
              have HBi2 := Lib.hid (hbi.out.trans (hb2.mono hbi.out.size))
              clear hb2 g0 g1 p1 HJ1
              go_wp2
              go_roundw
              case rel => exact ⟨u + 1, _, by omega, rfl, by go_num, HX2.out, HBi2.out⟩
              case measure => simp [intOf]; omega
            · have hbu : bs.getD u false = false := by simpa using hbu
              rw [hbu] at p1
              rw [hbu] at hms
              have HX2 : Hid (x = mrkN es bs vn (u + 1)) := by show _ = _; rw [hx.out, hms]; simp
              clear hms hbu hobi
              go_wp2
              go_roundw
              case rel => exact ⟨u + 1, _, by omega, rfl, by go_num, HX2.out, hbi.out⟩
              case measure => simp [intOf]; omega
          · obtain rfl : u = n := by omega
            have HZ2 : Hid (decide (z < mrkN es bs vn u) = decide (z < x)) := by show _ = _; rw [hx.out]
            have r2 := (HBi.out.cell (p := add.add vn) (by rw [block_of_add]; exact HZb.out)).trans HCz.out
            by_cases hlm : z < x
            · have hb3 := HBr2.out
              rw [HZ2.out, decide_eq_true hlm, if_pos rfl] at hb3
              have HB := Lib.hid hb3
              have hge : ¬ (x ≤ z) := by omega
              obtain ⟨-, s1, s2, s3⟩ := hobi.at_ (k := vn) (by rw [hbl.out]; exact hvn)
              have HS := Lib.hid (s3 true)
              have HL2 : Hid ((bs.set vn true).length = u) := by show _ = _; rw [List.length_set]; exact hbl.out
              have HB3 := Lib.hid (HBi.out.setCell (p := ⟨W0.heap.size, vn, none⟩) (Nat.le_refl _) (.bool true))
              clear hb3 s3 hobi hlm
              go_wp2
              go_roundw
              case rel => exact ⟨k + 1, _, by omega, by go_num, HL2.out, HS.out, HB3.out, HB.out⟩
              case measure => simp [intOf]; omega
            · have hb3 := HBr2.out
              rw [HZ2.out, decide_eq_false hlm, if_neg (by decide)] at hb3
              have HB := Lib.hid hb3
              have hge : x ≤ z := by omega
              have HR : Hid (burnsB u es q d order = false) := by show _ = _; rw [HFin.out, ← HB.out]; rfl
              clear hb3 hobi hlm
              go_wp2
              go_ret
              exact ⟨by rw [HR.out]; rfl, HB0.out.trans (HBi.out.mono HB0.out.size)⟩
      · have hvt : vtxB n v = false := by
          unfold vtxB
          by_cases h1 : 0 ≤ v
          · rw [decide_eq_false (show ¬ v < (n : Int) from fun h2 => hvx ⟨h1, h2⟩), Bool.and_false]
          · rw [decide_eq_false h1, Bool.false_and]
        have hvf : (decide (0 ≤ v) && decide (v < (n : Int))) = false := hvt
        rw [hvt]
        simp only [hvf, Bool.false_and, Bool.false_eq_true, if_false] at hb2
        have HB := Lib.hid hb2
        have HR : Hid (burnsB n es q d order = false) := by show _ = _; rw [HFin.out, ← HB.out]; rfl
        clear hb2 hvx hvf hvt hob1
        go_wp2
        go_ret
        exact ⟨by rw [HR.out]; rfl, HB0.out.trans (HBw1.out.mono HB0.out.size)⟩
    · obtain rfl : k = order.length := by omega
      have hb2 := hbr.out
      rw [List.drop_of_length_le (Nat.le_refl _), brnB] at hb2
      have HB := Lib.hid hb2
      have HR : Hid (burnsB n es q d order = true) := by show _ = _; rw [HFin.out, ← HB.out, decide_eq_true HLn.out]; rfl
      clear hb2
      go_wp2
      go_ret
      exact ⟨by rw [HR.out]; rfl, HB0.out.trans (hbw.out.mono HB0.out.size)⟩
end Go.Proofs.YtgcnijmmjlfabaaGreatDoor

