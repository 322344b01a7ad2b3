/- Contracts of chips: step. -/
import Derived.Test.YtcmkllfocifnlaaChipI
namespace Go.Proofs.Ytcmkllfocifnlaa
open Go.RowKit

def downTo (zs : List Int) : Nat → Nat
  | 0 => 0
  | j + 1 => if zs.getD (j + 1) 0 = 0 then downTo zs j else j + 1
def stepAt (zs : List Int) : Nat → Option (List Int)
  | 0 => none
  | j + 1 => some ((((zs.set (j + 1) 0).set j (zs.getD j 0 + 1))).set (zs.length - 1) (zs.getD (j + 1) 0 - 1))
def stepL (zs : List Int) : Option (List Int) := stepAt zs (downTo zs (zs.length - 1))
theorem downTo_le (zs : List Int) (j : Nat) : downTo zs j ≤ j := by
  induction j with
  | zero => simp [downTo]
  | succ j ih => simp only [downTo]; split <;> omega

def StepPost (w : World) (B : Nat) (v : Value) (zs : List Int) (e : Ending) (w' : World) : Prop :=
  match stepL zs with
  | none => e = .returned (.bool false) ∧ w = w'
  | some zs' => e = .returned (.bool true) ∧ OI w' B v zs' ∧ w.grownBy w' v.ownBlock

theorem grown_trans3 {w w' w'' : World} {row : Option Nat} (h : w.grownBy w' row) (k : w'.grownBy w'' row) : w.grownBy w'' row :=
  ⟨k.os.trans h.os, k.tape.trans h.tape, k.output.trans h.output, Nat.le_trans h.size k.size, fun i hi hne => (k.block i (Nat.lt_of_lt_of_le hi h.size) hne).trans (h.block i hi hne)⟩

set_option maxRecDepth 100000 in
set_option maxHeartbeats 1000000 in
theorem step_any (v : Value) (zs : List Int) (B : Nat) (w : World) (ho : OI w B v zs) (hl : 1 ≤ zs.length) (hb : ∀ z ∈ zs, -1099511627776 ≤ z ∧ z ≤ 1099511627776) :
    Calls Try.prog 70 #[v] w (StepPost w B v zs) := by
  obtain ⟨g, cap, rfl, -⟩ := OI.at_ ho (k := 0) (by omega)
  obtain ⟨n, hn⟩ : ∃ n, zs.length = n + 1 := ⟨zs.length - 1, by omega⟩
  have hlen := ho.ri.len
  rw [hn] at hlen
  have H := Lib.hid ho
  have HB := Lib.hid hb
  have HN := Lib.hid hn
  rw [hn]
  clear ho hb hl hn
  go_enter Try.func70, Try.ntmps70
  go_wp2
  go_loop [4] (fun i => ∃ k : Nat, k ≤ n ∧ i = .int .i64 k ∧ Hid (downTo zs k = downTo zs (zs.length - 1))) (fun i => (intOf i).toNat)
  case atStart => exact ⟨n, Nat.le_refl _, by first | rfl | (congr 1; omega), by show _ = _; rw [HN.out]; rfl⟩
  case round =>
    obtain ⟨k, hk, rfl, hd⟩ := hrel
    rcases k with _ | k
    · have hs : Hid (stepL zs = none) := by show _ = _; unfold stepL; rw [← hd.out]; rfl
      go_wp2
      go_ret
      unfold StepPost
      rw [hs.out]
      exact ⟨rfl, rfl⟩
    · obtain ⟨-, hgB, hc, hf, hst⟩ := OI.at' H.out (k := k + 1) (by rw [HN.out]; omega)
      obtain ⟨z, hzz⟩ : ∃ z, z = zs.getD (k + 1) 0 := ⟨_, rfl⟩
      obtain ⟨z', hzz'⟩ : ∃ z, z = zs.getD k 0 := ⟨_, rfl⟩
      have hbz : -1099511627776 ≤ z ∧ z ≤ 1099511627776 := by
        apply HB.out; rw [hzz, List.getD_eq_getElem?_getD, List.getElem?_eq_getElem (by rw [HN.out]; omega)]; exact List.getElem_mem _
      have hbz' : -1099511627776 ≤ z' ∧ z' ≤ 1099511627776 := by
        apply HB.out; rw [hzz', List.getD_eq_getElem?_getD, List.getElem?_eq_getElem (by rw [HN.out]; omega)]; exact List.getElem_mem _
      by_cases hz : z = 0
      · subst hz
        rw [← hzz] at hc
        have HZ := Lib.hid hzz
        clear hzz hst hzz'
        go_wp2
        go_round
        case rel => exact ⟨k, by omega, by go_num, by show _ = _; rw [← hd.out]; simp only [downTo, ← HZ.out, if_true]⟩
        case measure => simp [intOf]
      · have hj : downTo zs (zs.length - 1) = k + 1 := by rw [← hd.out]; simp only [downTo, ← hzz, hz, if_false]
        have hs : Hid (stepL zs = some (((zs.set (k + 1) 0).set k (z' + 1)).set n (z - 1))) := by show _ = _; unfold stepL; rw [hj]; simp only [stepAt, ← hzz, ← hzz', HN.out]; rfl
        have hz0 : (z == 0) = false := by simp [hz]
        rw [← hzz] at hc
        obtain ⟨ho1, hg1⟩ := hst 0
        obtain ⟨-, -, hc1, hf1, hst1⟩ := OI.at' ho1 (k := k) (by simp [HN.out]; omega)
        have e1 : (zs.set (k + 1) 0).getD k 0 = z' := by rw [hzz', List.getD_eq_getElem?_getD, List.getElem?_set_ne (by omega), List.getD_eq_getElem?_getD]
        rw [e1] at hc1
        obtain ⟨ho2, hg2⟩ := hst1 (z' + 1)
        obtain ⟨-, -, hc2, hf2, hst2⟩ := OI.at' ho2 (k := n) (by simp [HN.out])
        obtain ⟨ho3, hg3⟩ := hst2 (z - 1)
        have HO := Lib.hid ho3
        have HG := Lib.hid (grown_trans3 (grown_trans3 hg1 hg2) hg3)
        obtain ⟨u2, hu2⟩ : ∃ u, u = ((zs.set (k + 1) 0).set k (z' + 1)).getD n 0 := ⟨_, rfl⟩
        rw [← hu2] at hc2
        clear hj e1 hzz hzz' hu2 hst hst1 hst2 ho1 ho2 ho3 hg1 hg2 hg3 hz
        go_wp2
        go_ret
        unfold StepPost
        rw [hs.out]
        exact ⟨rfl, by rw [← HN.out]; exact HO.out, HG.out⟩

def nextL (zs : List Int) : (List Int × Bool) × Int :=
  if checkE zs zs.length ≠ 0 then (([], false), checkE zs zs.length) else if zs.all (fun z => decide (0 ≤ z)) = false then (([], false), 15)
  else if 1048576 < zs.sum then (([], false), 11) else match stepL zs with | none => (([], false), 0) | some z => ((z, true), 0)
def Trip (w : World) (l : (List Int × Bool) × Int) (e : Ending) (w' : World) : Prop :=
  ∃ v, e = .returned (.tuple #[v, .bool l.1.2, .int .i64 l.2]) ∧ OI w' w.heap.size v l.1.1 ∧ Below w.heap.size w w'

set_option maxHeartbeats 1000000 in
theorem Next_any (va : Value) (xs : List Int) (w : World) (ha : RI w va xs) : Calls Try.prog 25 #[va] w (Trip w (nextL xs)) := by
  have hd := Lib.hid (Degree_any va xs w ha)
  have HA := Lib.hid ha
  have hlen := Lib.hid ha.len
  clear ha
  by_cases h0 : checkE xs xs.length = 0
  · obtain ⟨l1, l2, l3⟩ := checkE_zero h0
    have ED : Hid (degL xs = (xs.sum, 0)) := by show _ = _; simp [degL, h0]
    have L3 := Lib.hid l3
    have EM := Lib.hid (effL_min xs l1)
    have E0 := Lib.hid h0
    rw [ED.out] at hd
    clear l3 h0
    by_cases hm : minL xs < 0
    · have EN : Hid (nextL xs = (([], false), 15)) := by
        show _ = _
        have : decide (0 ≤ minL xs) = false := by simp; omega
        simp only [nextL, E0.out, ne_eq, not_true_eq_false, if_false, ← EM.out, this, if_true]
      rw [EN.out]
      go_enter Try.func25, Try.ntmps25
      go_wp2_with fail
      refine hd.out.mono ?_
      rintro e w1 ⟨rfl, hb1⟩
      go_wp2_with (go_at_call 68; refine (Min_any _ xs _ (HA.out.below hb1) l1).mono ?_; rintro e w' ⟨rfl, rfl⟩)
      go_ret3
      exact ⟨.slice none 0 0, rfl, OI.nil_ _ _, hb1⟩
    · by_cases hs : 1048576 < xs.sum
      · have EN : Hid (nextL xs = (([], false), 11)) := by
          show _ = _
          have : decide (0 ≤ minL xs) = true := by simp; omega
          simp [nextL, E0.out, ← EM.out, this, hs]
        rw [EN.out]
        go_enter Try.func25, Try.ntmps25
        go_wp2_with fail
        refine hd.out.mono ?_
        rintro e w1 ⟨rfl, hb1⟩
        go_wp2_with (go_at_call 68; refine (Min_any _ xs _ (HA.out.below hb1) l1).mono ?_; rintro e w' ⟨rfl, rfl⟩)
        go_ret3
        exact ⟨.slice none 0 0, rfl, OI.nil_ _ _, hb1⟩
      · have EN : Hid (nextL xs = match stepL xs with | none => (([], false), 0) | some z => ((z, true), 0)) := by
          show _ = _
          have : decide (0 ≤ minL xs) = true := by simp; omega
          simp [nextL, E0.out, ← EM.out, this, hs]
        rw [EN.out]
        have hbz : ∀ z ∈ xs, -1099511627776 ≤ z ∧ z ≤ 1099511627776 := by
          intro z hz; have := (inB_iff z).1 (List.all_eq_true.1 L3.out z hz); omega
        have HBZ := Lib.hid hbz
        clear hbz
        cases hst : stepL xs with
        | none =>
          have HS := Lib.hid hst
          clear hst
          go_enter Try.func25, Try.ntmps25
          go_wp2_with fail
          refine hd.out.mono ?_
          rintro e w1 ⟨rfl, hb1⟩
          go_wp2_with (first
            | (go_at_call 68; refine (Min_any _ xs _ (HA.out.below hb1) l1).mono ?_; rintro e w' ⟨rfl, rfl⟩)
            | (go_at_call 69; refine (CloneD_any _ xs _ (HA.out.below hb1) hlen.out).mono ?_; rintro e w2 ⟨v, rfl, ho2, hb2⟩; have HO := Lib.hid ho2; clear ho2)
            | (go_at_call 70; refine (step_any _ xs _ _ HO.out l1 HBZ.out).mono ?_; unfold StepPost; rw [HS.out]; rintro e w' ⟨rfl, rfl⟩))
          go_ret3
          exact ⟨.slice none 0 0, rfl, OI.nil_ _ _, hb1.trans (hb2.mono hb1.size)⟩
        | some zs' =>
          have HS := Lib.hid hst
          clear hst
          go_enter Try.func25, Try.ntmps25
          go_wp2_with fail
          refine hd.out.mono ?_
          rintro e w1 ⟨rfl, hb1⟩
          go_wp2_with (first
            | (go_at_call 68; refine (Min_any _ xs _ (HA.out.below hb1) l1).mono ?_; rintro e w' ⟨rfl, rfl⟩)
            | (go_at_call 69; refine (CloneD_any _ xs _ (HA.out.below hb1) hlen.out).mono ?_; rintro e w2 ⟨v, rfl, ho2, hb2⟩; have HO := Lib.hid ho2; clear ho2)
            | (go_at_call 70; refine (step_any _ xs _ _ HO.out l1 HBZ.out).mono ?_; unfold StepPost; rw [HS.out]; rintro e w3 ⟨rfl, ho3, hg3⟩; have HO3 := Lib.hid ho3; clear ho3))
          go_ret3
          have hb3 := below_own (hb1.trans (hb2.mono hb1.size)) (Nat.le_trans hb1.size hb2.size) (OV.mono HO.out hb1.size) hg3
          exact ⟨v, rfl, OV.mono HO3.out hb1.size, hb3⟩
  · have h0' : (checkE xs xs.length != 0) = true := by simp [h0]
    have ED : Hid (degL xs = (0, checkE xs xs.length)) := by show _ = _; simp [degL, h0]
    have EN : Hid (nextL xs = (([], false), checkE xs xs.length)) := by show _ = _; simp [nextL, h0]
    rw [ED.out] at hd
    rw [EN.out]
    clear h0
    go_enter Try.func25, Try.ntmps25
    go_wp2_with fail
    refine hd.out.mono ?_
    rintro e w1 ⟨rfl, hb1⟩
    go_wp2
    go_ret3
    exact ⟨.slice none 0 0, rfl, OI.nil_ _ _, hb1⟩
end Go.Proofs.Ytcmkllfocifnlaa
