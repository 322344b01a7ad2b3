/- Contracts of the checker's small functions.
   Contracts of slices.Clone, Min, Equal at ints.
   Contracts of the checker's effective, less, joined, applied.
   Contracts of the checker's less and applied.
   Contract of the checker's applied.
   Contract of the checker's burns. -/
import Derived.Test.YtgcnijmmjlfabaaGreatDoorK04
set_option maxRecDepth 100000
set_option maxHeartbeats 16000000
namespace Go.Proofs.YtgcnijmmjlfabaaGreatDoor
open Go.RowKit Go.Shelf

def joinsL (n : Nat) (es : List Tri) : List (List Int) := (List.range n).map fun v => (List.range n).map fun u => wgt es v u
def valsL (n : Nat) (es : List Tri) : List Int := (List.range n).map fun v => valK es v n
/-- The checker's graph in memory. -/
def GX (w : World) (gv : Value) (n : Nat) (es : List Tri) : Prop := ∃ (b : Nat) (vj vv : Value), gv = .pointer (some ⟨b, 0, none⟩) ∧ BL w b 72 [.int .i64 (n : Int), vj, vv] ∧ RR w vj (joinsL n es) ∧ RI w vv (valsL n es)
theorem GX.below {w w' : World} {gv : Value} {n : Nat} {es : List Tri} (h : GX w gv n es) (hb : Below w.heap.size w w') : GX w' gv n es := by
  obtain ⟨b, vj, vv, h1, h2, h3, h4⟩ := h
  exact ⟨b, vj, vv, h1, h2.bel hb, h3.below hb, RI.below h4 hb⟩
theorem kVertex_any (gv : Value) (n : Nat) (es : List Tri) (v : Int) (w : World) (hg : GX w gv n es) :
    Calls Tryz.prog 40 #[gv, .int .i64 v] w fun e w' => e = .returned (.bool (decide (0 ≤ v) && decide (v < n))) ∧ w = w' := by
  obtain ⟨b, vj, vv, rfl, hb, -, -⟩ := hg
  have c0 := hb.cell 0
  clear hb
  by_cases h0 : 0 ≤ v
  · have e : decide (0 ≤ v) = true := decide_eq_true h0
    rw [e, Bool.true_and]
    clear e
    go_enter Tryz.func40, Tryz.ntmps40
    go_wp2
    go_ret
    exact ⟨rfl, rfl⟩
  · have e : decide (0 ≤ v) = false := decide_eq_false h0
    rw [e, Bool.false_and]
    clear e
    go_enter Tryz.func40, Tryz.ntmps40
    go_wp2
    go_ret
    exact ⟨rfl, rfl⟩
theorem kProof_any (b : Bool) (w : World) :
    Calls Tryz.prog 107 #[.bool b] w fun e w' => e = .returned (.int .i64 (if b then 0 else 16)) ∧ w = w' := by
  cases b
  · go_enter Tryz.func107, Tryz.ntmps107
    go_wp2
    go_ret
    exact ⟨rfl, rfl⟩
  · go_enter Tryz.func107, Tryz.ntmps107
    go_wp2
    go_ret
    exact ⟨rfl, rfl⟩
theorem getD_of' {a : List Int} {j : Nat} {x : Int} (h : a[j]? = some x) : a.getD j 0 = x := by rw [List.getD_eq_getElem?_getD, h]; rfl
/-- Whether a vertex other than q is in debt. -/
def debtB (d : List Int) (q : Int) : Bool := (List.range d.length).any fun v => decide ((v : Int) ≠ q) && decide (d.getD v 0 < 0)
theorem any_range_succ {p : Nat → Bool} {k : Nat} : (List.range (k + 1)).any p = ((List.range k).any p || p k) := by rw [List.range_succ, List.any_append]; simp
theorem any_range_true {p : Nat → Bool} {k n : Nat} (h : k < n) (hp : p k = true) : (List.range n).any p = true := List.any_eq_true.2 ⟨k, List.mem_range.2 h, hp⟩
theorem kDebt_any (vd : Value) (d : List Int) (q : Int) (w : World) (hd : RI w vd d) (hlen : d.length ≤ 100000) :
    Calls Tryz.prog 110 #[vd, .int .i64 q] w fun e w' => e = .returned (.bool (debtB d q)) ∧ w = w' := by
  obtain ⟨A, c, rfl, -, -, hcell⟩ := hd.open_
  have HC := Lib.hid hcell
  clear hcell hd
  go_enter Tryz.func110, Tryz.ntmps110
  go_wp2_with fail
  go_loop [9] (fun i => ∃ k : Nat, k ≤ d.length ∧ i = .int .i64 (k : Int) ∧ Hid (((List.range k).any fun v => decide ((v : Int) ≠ q) && decide (d.getD v 0 < 0)) = false)) (fun i => d.length - (intOf i).toNat)
  case atStart => exact ⟨0, Nat.zero_le _, rfl, rfl⟩
  case round =>
    obtain ⟨k, hk, rfl, hA⟩ := hrel
    by_cases hlt : k < d.length
    · obtain ⟨ad, z, rfl, -, hz, hcl⟩ := HC.out k hlt
      have hzz := getD_of' hz.out
      have HStep : Hid (((List.range (k + 1)).any fun v => decide ((v : Int) ≠ q) && decide (d.getD v 0 < 0)) = (decide ((k : Int) ≠ q) && decide (z < 0))) := by
        show _ = _; rw [any_range_succ, hA.out, hzz]; rfl
      have HYes : Hid ((decide ((k : Int) ≠ q) && decide (z < 0)) = true → debtB d q = true) := fun h => any_range_true hlt (by rw [hzz]; exact h)
      clear HC hzz
      by_cases hq : (k : Int) = q
      · have t1 : ((k : Int) != q) = false := by simpa using hq
        have HS : Hid (((List.range (k + 1)).any fun v => decide ((v : Int) ≠ q) && decide (d.getD v 0 < 0)) = false) := by show _ = _; rw [HStep.out, decide_eq_false (by omega)]; rfl
        clear hq
        go_wp2
        go_round
        case rel => exact ⟨k + 1, by omega, by go_num, HS.out⟩
        case measure => simp [intOf]; omega
      · have t1 : ((k : Int) != q) = true := by simpa using hq
        by_cases hneg : z < 0
        · have HT : Hid (debtB d q = true) := HYes.out (by rw [decide_eq_true hq, decide_eq_true hneg]; rfl)
          clear hq
          go_wp2
          go_ret
          exact ⟨by rw [HT.out]; rfl, rfl⟩
        · have HS : Hid (((List.range (k + 1)).any fun v => decide ((v : Int) ≠ q) && decide (d.getD v 0 < 0)) = false) := by show _ = _; rw [HStep.out, decide_eq_false hneg, Bool.and_false]
          clear hq
          go_wp2
          go_round
          case rel => exact ⟨k + 1, by omega, by go_num, HS.out⟩
          case measure => simp [intOf]; omega
    · obtain rfl : k = d.length := by omega
      have HF : Hid (debtB d q = false) := hA.out
      go_wp2
      go_ret
      exact ⟨by rw [HF.out]; rfl, rfl⟩
end Go.Proofs.YtgcnijmmjlfabaaGreatDoor

namespace Go.Proofs.YtgcnijmmjlfabaaGreatDoor
open Go.RowKit Go.Shelf

theorem MinI_any (va : Value) (xs : List Int) (w : World) (ha : RI w va xs) (hn : 0 < xs.length) :
    Calls Tryz.prog 109 #[va] w fun e w' => e = .returned (.int .i64 (minTo xs (xs.length - 1))) ∧ w = w' := by
  obtain ⟨A, c, rfl, hlc, hc, hcell⟩ := ha.open_
  obtain ⟨ad, z, rfl, _, hz, hcl⟩ := hcell 0 hn
  have HA := Lib.hid hcell
  have hz0 : Hid (z = minTo xs 0) := by show _ = _; simp [minTo, List.getD_eq_getElem?_getD, hz.out]
  have hcl0 : w.cell? ad = some (.int .i64 z) := by rw [← hcl]; congr 1
  clear hcell ha hz
  go_enter Tryz.func109, Tryz.ntmps109
  go_wp2
  go_loopw [3, 4] (fun m i wr => ∃ k : Nat, 1 ≤ k ∧ k ≤ xs.length ∧ m = .int .i64 (minTo xs (k - 1)) ∧ i = .int .i64 (k : Int) ∧ wr = w) (fun _ i _ => xs.length - (intOf i).toNat)
  case atStart => exact ⟨1, Nat.le_refl _, hn, by rw [hz0.out], rfl, rfl⟩
  case round =>
    obtain ⟨k, hk1, hk, rfl, rfl, rfl⟩ := hrel
    by_cases hlt : k < xs.length
    · obtain ⟨ad', z', hA, _, hz', hcl'⟩ := HA.out k hlt
      obtain rfl := Option.some.inj hA
      obtain ⟨mm, hmm⟩ : ∃ mm, mm = minTo xs (k - 1) := ⟨_, rfl⟩
      have hmx := fun W => run_min2z (P := Tryz.prog) #[3, 3] 3 .i64 mm z' W
      have HM : Hid ((if z' < mm then z' else mm) = minTo xs k) := by
        obtain ⟨j, rfl⟩ : ∃ j, k = j + 1 := ⟨k - 1, by omega⟩
        show _ = _
        rw [hmm]
        simp [minTo, List.getD_eq_getElem?_getD, hz'.out]
      rw [HM.out] at hmx
      rw [← hmm]
      clear hz' hA hmm
      go_wp2
      go_roundw
      case rel => exact ⟨k + 1, by omega, by omega, by simp, by go_num, by trivial⟩
      case measure => simp [intOf]; omega
    · have hke : Hid (k = xs.length) := by show _ = _; omega
      go_wp2
      go_ret
      exact ⟨by rw [← hke.out]; rfl, rfl⟩

theorem EqualI_any (va vb : Value) (xs ys : List Int) (w : World) (ha : RI w va xs) (hb : RI w vb ys) :
    Calls Tryz.prog 66 #[va, vb] w (Quiet w (.bool (eqL xs ys))) := by
  obtain ⟨A, c, rfl, hlc, hc, hcell⟩ := ha.open_
  obtain ⟨A', c', rfl, hlc', hc', hcell'⟩ := hb.open_
  have HA := Lib.hid hcell
  have HB := Lib.hid hcell'
  clear hcell hcell' ha hb
  by_cases hl : xs.length = ys.length
  · have hl' : ((xs.length : Int) != ys.length) = false := by simp [hl]
    have HL := Lib.hid hl
    clear hl
    go_enter Tryz.func66, Tryz.ntmps66
    go_wp2
    go_loopw [13] (fun i wr => ∃ k m : Nat, k ≤ xs.length ∧ i = .int .i64 k ∧ Hid (eqL (xs.drop k) (ys.drop k) = eqL xs ys) ∧ wr = w.drewN m) (fun i _ => xs.length - (intOf i).toNat)
    case atStart => exact ⟨0, 0, Nat.zero_le _, rfl, rfl, rfl⟩
    case round =>
      obtain ⟨k, m, hk, rfl, he, rfl⟩ := hrel
      by_cases hlt : k < xs.length
      · obtain ⟨ad, z, rfl, _, hz, hcl⟩ := HA.out k hlt
        have hlt' : k < ys.length := by have := HL.out; omega
        obtain ⟨ad', z', rfl, _, hz', hcl'⟩ := HB.out k hlt'
        have HD := Lib.hid (drop_at hz)
        have HD' := Lib.hid (drop_at hz')
        clear HA HB
        go_wp2_with fail
        go_quiet (fail)
        go_wp2
        · have hne : z ≠ z' := by have : (z != z') = true := by assumption
                                  simpa using this
          go_ret
          refine ⟨ret_b ?_, m + nq, by simp⟩
          rw [← he.out, HD.out, HD'.out]
          simp [eqL, hne]
        · have heq : z = z' := by have : (z != z') = false := by assumption
                                  simpa using this
          go_roundw
          case rel => exact ⟨k + 1, m + nq, by omega, by go_num, by show _ = _; rw [← he.out, HD.out, HD'.out]; simp [eqL, heq], by simp⟩
          case measure => simp [intOf]; omega
      · go_wp2
        go_ret
        refine ⟨ret_b ?_, m, rfl⟩
        rw [← he.out, List.drop_of_length_le (by omega), List.drop_of_length_le (by have := HL.out; omega)]; rfl
  · have hl' : ((xs.length : Int) != ys.length) = true := by simp; omega
    have HL := Lib.hid hl
    clear hl
    go_enter Tryz.func66, Tryz.ntmps66
    go_wp2
    go_ret
    exact ⟨ret_b (eqL_len HL.out).symm, 0, rfl⟩

end Go.Proofs.YtgcnijmmjlfabaaGreatDoor

namespace Go.Proofs.YtgcnijmmjlfabaaGreatDoor
open Go.RowKit Go.Shelf

def effB (d : List Int) : Bool := d.all fun z => decide (0 ≤ z)
theorem eff_min {d : List Int} (h : 0 < d.length) : effB d = decide (minTo d (d.length - 1) ≥ 0) := by
  unfold effB
  by_cases c : minTo d (d.length - 1) ≥ 0
  · rw [decide_eq_true c, List.all_eq_true]
    intro z hz
    obtain ⟨k, hk, rfl⟩ := List.mem_iff_getElem.1 hz
    have := minTo_le d (d.length - 1) k (by omega)
    rw [List.getD_eq_getElem?_getD, List.getElem?_eq_getElem hk] at this
    simp only [Option.getD_some] at this
    exact decide_eq_true (by omega)
  · rw [decide_eq_false c]
    obtain ⟨j, hj, e⟩ := minTo_is d (d.length - 1)
    rw [List.all_eq_false]
    refine ⟨d[j], List.getElem_mem (by omega), ?_⟩
    rw [List.getD_eq_getElem?_getD, List.getElem?_eq_getElem (by omega)] at e
    simp only [Option.getD_some] at e
    simp; omega
theorem kEff_any (vd : Value) (d : List Int) (w : World) (hd : RI w vd d) :
    Calls Tryz.prog 68 #[vd] w fun e w' => e = .returned (.bool (effB d)) ∧ w = w' := by
  by_cases h0 : d.length = 0
  · have hn : d = [] := List.eq_nil_of_length_eq_zero h0
    subst hn
    obtain ⟨A, c, rfl, -⟩ := hd.open_
    clear hd h0
    go_enter Tryz.func68, Tryz.ntmps68
    go_wp2
    go_ret
    exact ⟨rfl, rfl⟩
  · have HE := Lib.hid (eff_min (d := d) (by omega))
    have HM := Lib.hid (MinI_any vd d w hd (by omega))
    obtain ⟨A, c, rfl, -⟩ := hd.open_
    have t : ((d.length : Int) == 0) = false := by rw [beq_eq_false_iff_ne]; omega
    clear hd h0
    generalize minTo d (d.length - 1) = m at *
    go_enter Tryz.func68, Tryz.ntmps68
    go_wp2_with fail
    refine HM.out.mono ?_
    rintro e w2 ⟨rfl, rfl⟩
    go_wp2
    go_ret
    exact ⟨by rw [HE.out]; rfl, rfl⟩
/-- A list of bools in memory. -/
def RB (w : World) (v : Value) (bs : List Bool) : Prop := RV w v (bs.map Value.bool)
theorem RB.open_ {w : World} {v : Value} {bs : List Bool} (h : RB w v bs) : ∃ A c, v = .slice A bs.length c ∧ bs.length ≤ c ∧
    ∀ k, k < bs.length → ∃ ad, A = some ad ∧ ad.block < w.heap.size ∧ w.cell? (ad.add k) = some (.bool (bs.getD k false)) := by
  obtain ⟨A, c, h1, h2, h3, h4⟩ := h
  simp only [List.length_map] at h1 h2 h3 h4
  refine ⟨A, c, h1, h2, fun k hk => ?_⟩
  obtain ⟨ad, e, hb, hc⟩ := h4 k hk
  exact ⟨ad, e, hb, hc.trans (by simp [List.getElem?_map, List.getElem?_eq_getElem hk, List.getD_eq_getElem?_getD])⟩
/-- How many single edges join v with the marked ones. -/
def mrkN (es : List Tri) (bs : List Bool) (v k : Nat) : Int := sumN k fun u => if bs.getD u false then wgt es v u else 0
theorem mrk_bd {n : Nat} {es : List Tri} (hE : Edges n es) (bs : List Bool) (v k : Nat) : 0 ≤ mrkN es bs v k ∧ mrkN es bs v k ≤ 50 * k := by
  induction k with
  | zero => simp [mrkN, sumN]
  | succ k ih =>
    have h1 : 0 ≤ wgt es v k ∧ wgt es v k ≤ 50 := by
      by_cases e : v = k
      · rw [e, wgt_self]; omega
      · exact wgt_le hE e
    have e : mrkN es bs v (k + 1) = mrkN es bs v k + if bs.getD k false then wgt es v k else 0 := rfl
    rw [e]
    split <;> omega
theorem joins_row {n : Nat} {es : List Tri} {v : Nat} (hv : v < n) : (joinsL n es)[v]? = some ((List.range n).map fun u => wgt es v u) := by
  simp [joinsL, hv]
theorem kJoined_any (gv vm : Value) (n v : Nat) (es : List Tri) (bs : List Bool) (w : World) (hg : GX w gv n es) (hm : RB w vm bs) (hE : Edges n es) (hn : n ≤ 12) (hv : v < n) (hbl : bs.length = n) :
    Calls Tryz.prog 114 #[gv, .int .i64 (v : Int), vm] w fun e w' => e = .returned (.int .i64 (mrkN es bs v n)) ∧ w = w' := by
  obtain ⟨b, vj, vv, rfl, hb, hrj, -⟩ := hg
  obtain ⟨A, c, rfl, -, hbc⟩ := hm.open_
  obtain ⟨Aj, cj, rfl, -, -, hrows⟩ := hrj.open_
  have hjl : (joinsL n es).length = n := by simp [joinsL]
  rw [hjl] at hb hrows
  obtain ⟨ad, row, A1, c1, rfl, -, hrow, hcl, hrr⟩ := hrows v hv
  obtain rfl : (List.range n).map (fun u => wgt es v u) = row := by
    have := hrow.out
    rw [joins_row hv] at this
    cases this; rfl
  have hrl : ((List.range n).map fun u => wgt es v u).length = n := by simp
  obtain ⟨A9, c9, he9, -, -, hc9⟩ := hrr.open_
  simp only [Value.slice.injEq, true_and] at he9
  obtain ⟨rfl, rfl⟩ := he9
  rw [hrl] at hcl hc9
  rw [hbl] at hbc ⊢
  have HC9 := Lib.hid hc9
  have HBc := Lib.hid hbc
  have HGet : Hid (∀ k z, k < n → ((List.range n).map fun u => wgt es v u)[k]? = some z → z = wgt es v k) := fun k z hk hz => by
    simp [hk] at hz; exact hz.symm
  have HBd : Hid (∀ k, 0 ≤ mrkN es bs v k ∧ mrkN es bs v k ≤ 50 * k) := mrk_bd hE bs v
  have HSu : Hid (∀ k, mrkN es bs v (k + 1) = mrkN es bs v k + if bs.getD k false then wgt es v k else 0) := fun k => rfl
  have c0 := hb.cell 1
  clear hrj hm hrows hrow hrr hc9 hbc hb hjl hrl hE hbl
  go_enter Tryz.func114, Tryz.ntmps114
  go_wp2_with fail
  go_loop [7, 18] (fun t i => ∃ k : Nat, k ≤ n ∧ t = .int .i64 (mrkN es bs v k) ∧ i = .int .i64 (k : Int)) (fun _ i => n - (intOf i).toNat)
  case atStart => exact ⟨0, Nat.zero_le _, rfl, rfl⟩
  case round =>
    obtain ⟨k, hk, rfl, rfl⟩ := hrel
    by_cases hlt : k < n
    · obtain ⟨ad1, z, rfl, -, hz, hcz⟩ := HC9.out k hlt
      obtain ⟨ad2, rfl, -, hcb⟩ := HBc.out k hlt
      have hzz := HGet.out k z hlt hz.out
      have hsu := HSu.out k
      have hb1 := HBd.out k
      have hb2 := HBd.out (k + 1)
      rw [← hzz] at hsu
      have HS := Lib.hid hsu
      clear HC9 HBc hz hzz
      generalize hx : mrkN es bs v k = x at *
      generalize hy : mrkN es bs v (k + 1) = y at *
      have HY := Lib.hid hy
      clear hx hy
      cases hbk : bs.getD k false
      · rw [hbk] at hcb hsu
        have hyx : Hid (y = x) := by simpa [Hid] using hsu
        clear hsu hbk
        go_wp2
        go_round
        case rel => exact ⟨k + 1, by omega, by rw [HY.out, hyx.out], by go_num⟩
        case measure => simp [intOf]; omega
      · rw [hbk] at hcb hsu
        have hyx : Hid (y = x + z) := by simpa [Hid] using hsu
        have hxz : 0 ≤ x + z ∧ x + z ≤ 50 * (k + 1) := by rw [← hyx.out]; push_cast at hb2; exact hb2
        clear hsu hbk
        go_wp2
        go_round
        case rel => exact ⟨k + 1, by omega, by rw [HY.out, hyx.out], by go_num⟩
        case measure => simp [intOf]; omega
    · obtain rfl : k = n := by omega
      go_wp2
      go_ret
      exact ⟨rfl, rfl⟩
end Go.Proofs.YtgcnijmmjlfabaaGreatDoor

namespace Go.Proofs.YtgcnijmmjlfabaaGreatDoor
open Go.RowKit Go.Shelf

theorem minus_at {a b : List Int} {n v : Nat} (ha : a.length = n) (hb : b.length = n) (hv : v < n) : (plusL a b (-1)).getD v 0 = a.getD v 0 - b.getD v 0 := by
  unfold plusL
  rw [List.getD_eq_getElem?_getD, List.getElem?_zipWith, List.getD_eq_getElem?_getD, List.getD_eq_getElem?_getD, List.getElem?_eq_getElem (by omega : v < a.length), List.getElem?_eq_getElem (by omega : v < b.length)]
  simp only [Option.getD_some]
  omega
theorem list_eq' {a b : List Int} {n : Nat} (ha : a.length = n) (hb : b.length = n) (h : ∀ v, v < n → a.getD v 0 = b.getD v 0) : a = b := by
  refine List.ext_getElem (by omega) fun v hv hv' => ?_
  have := h v (by omega)
  rw [List.getD_eq_getElem?_getD, List.getElem?_eq_getElem hv, List.getD_eq_getElem?_getD, List.getElem?_eq_getElem hv'] at this
  exact this
theorem getD_set' {l : List Int} {q v : Nat} {z : Int} (hq : q < l.length) : (l.set q z).getD v 0 = if v = q then z else l.getD v 0 := by
  simp only [List.getD_eq_getElem?_getD]
  by_cases e : v = q
  · subst e; rw [List.getElem?_set_self hq, if_pos rfl]; rfl
  · rw [List.getElem?_set_ne (fun h => e h.symm), if_neg e]
theorem kLess_any (va vb : Value) (n : Nat) (a b : List Int) (w : World) (ha : RI w va a) (hb : RI w vb b) (hal : a.length = n) (hbl : b.length = n) (hn : n ≤ 1000) (hba : Bd 100000000 a) (hbb : Bd 100000000 b) :
    Calls Tryz.prog 113 #[va, vb] w fun e w' => ∃ v, e = .returned v ∧ OI w' w.heap.size v (plusL a b (-1)) ∧ Below w.heap.size w w' := by
  have HCl := Lib.hid (CloneI_any va a w ha (by omega))
  obtain ⟨A, c, rfl, -⟩ := ha.open_
  obtain ⟨A2, c2, rfl, -, -, hcell⟩ := hb.open_
  have HC := Lib.hid hcell
  rw [hbl] at hcell ⊢
  rw [hal] at HCl ⊢
  have HC2 := Lib.hid hcell
  have HMin : Hid (∀ os : List Int, os.length = n → (∀ j, j < n → os.getD j 0 = a.getD j 0 - b.getD j 0) → os = plusL a b (-1)) := fun os h1 h2 =>
    list_eq' h1 (by simp [plusL, hal, hbl]) fun v hv => by rw [h2 v hv, minus_at hal hbl hv]
  have HBa := Lib.hid hba
  have HBb := Lib.hid hbb
  have HAl := Lib.hid hal
  clear ha hb hcell hba hbb HC hal hbl
  go_enter Tryz.func113, Tryz.ntmps113
  go_wp2_with fail
  refine HCl.out.mono ?_
  rintro e w1 ⟨v1, rfl, ho1, hb1⟩
  obtain ⟨Ao, co, rfl, -⟩ := (OI.ri ho1).open_
  rw [HAl.out] at ho1
  have HB1 := Lib.hid hb1
  have HO1 := Lib.hid ho1
  clear hb1 ho1
  simp only [HAl.out]
  go_wp2_with fail
  go_loopw [12] (fun i wr => ∃ (k : Nat) (os : List Int), k ≤ n ∧ i = .int .i64 (k : Int) ∧ Hid (os.length = n) ∧ Hid (∀ j, j < n → os.getD j 0 = if j < k then a.getD j 0 - b.getD j 0 else a.getD j 0) ∧ Hid (OI wr w.heap.size (.slice Ao n co) os) ∧ Hid (Below w.heap.size w wr)) (fun i _ => n - (intOf i).toNat)
  case atStart => exact ⟨0, a, Nat.zero_le _, rfl, HAl.out, fun j _ => by rw [if_neg (by omega)], HO1.out, HB1.out⟩
  case round =>
    obtain ⟨k, os, hk, rfl, hl, hg, ho, hb⟩ := hrel
    by_cases hlt : k < n
    · obtain ⟨ad2, z, rfl, hadb, hz, hcl⟩ := HC2.out k hlt
      have hzz : b.getD k 0 = z := getD_of' hz.out
      have hc2 := (hb.out.cell (p := ad2.add k) (by rw [block_of_add]; exact hadb)).trans hcl
      obtain ⟨g, cap, he, hgB, q1, q2, q3⟩ := OI.at_ ho.out (k := k) (by rw [hl.out]; exact hlt)
      rw [hl.out] at he q3
      simp only [Value.slice.injEq, true_and] at he
      obtain ⟨rfl, rfl⟩ := he
      have hgk := hg.out k hlt
      rw [if_neg (by omega)] at hgk
      have hba := HBa.out k
      have hbb := HBb.out k
      rw [hzz] at hbb
      rw [← hgk] at hba
      have HS := Lib.hid (q3 (os.getD k 0 - z)).1
      have HB2 := Lib.hid (hb.out.setCell (p := ⟨g, k, none⟩) hgB (.int .i64 (os.getD k 0 - z)))
      have HL2 : Hid ((os.set k (os.getD k 0 - z)).length = n) := by show _ = _; rw [List.length_set]; exact hl.out
      have HG2 : Hid (∀ j, j < n → (os.set k (os.getD k 0 - z)).getD j 0 = if j < k + 1 then a.getD j 0 - b.getD j 0 else a.getD j 0) := fun j hj => by
        rw [getD_set' (by rw [hl.out]; exact hlt)]
        by_cases e : j = k
        · rw [if_pos e, e, if_pos (by omega), hzz, hgk]
        · rw [if_neg e, hg.out j hj]
          by_cases e2 : j < k
          · rw [if_pos e2, if_pos (by omega)]
          · rw [if_neg e2, if_neg (by omega)]
      clear hcl hzz hz hadb q3 hgk hgB
      generalize os.getD k 0 = o at *
      go_wp2
      go_roundw
      case rel => exact ⟨k + 1, _, by omega, by go_num, HL2.out, HG2.out, HS.out, HB2.out⟩
      case measure => simp [intOf]; omega
    · obtain rfl : k = n := by omega
      have he := HMin.out os hl.out fun j hj => by rw [hg.out j hj, if_pos hj]
      have HE := Lib.hid he
      clear he
      go_wp2
      go_ret
      exact ⟨_, rfl, by rw [← HE.out]; exact ho.out, hb.out⟩
end Go.Proofs.YtgcnijmmjlfabaaGreatDoor

namespace Go.Proofs.YtgcnijmmjlfabaaGreatDoor
open Go.RowKit Go.Shelf

/-- What a script makes of the chips at v, the first k neighbours reckoned. -/
def appN (es : List Tri) (d s : List Int) (v k : Nat) : Int := d.getD v 0 + sumN k fun u => wgt es v u * (s.getD u 0 - s.getD v 0)
def appLk (n : Nat) (es : List Tri) (d s : List Int) : List Int := (List.range n).map fun v => appN es d s v n
theorem appN_succ (es : List Tri) (d s : List Int) (v k : Nat) : appN es d s v (k + 1) = appN es d s v k + wgt es v k * (s.getD k 0 - s.getD v 0) := by
  unfold appN; rw [sumN]; omega
theorem wgt50 {n : Nat} {es : List Tri} (hE : Edges n es) (v k : Nat) : 0 ≤ wgt es v k ∧ wgt es v k ≤ 50 := by
  by_cases e : v = k
  · rw [e, wgt_self]; omega
  · exact wgt_le hE e
theorem mul50 {m x S : Int} (hm : 0 ≤ m ∧ m ≤ 50) (hx : -S ≤ x ∧ x ≤ S) : -(50 * S) ≤ m * x ∧ m * x ≤ 50 * S := by
  have hS : 0 ≤ S := by omega
  have h1 := Int.mul_le_mul_of_nonneg_left hx.2 hm.1
  have h2 := Int.mul_le_mul_of_nonneg_left hx.1 hm.1
  have h3 := Int.mul_le_mul_of_nonneg_right hm.2 hS
  have h4 : m * -S = -(m * S) := by rw [Int.mul_neg]
  omega
theorem app_bd {n : Nat} {es : List Tri} (hE : Edges n es) {d s : List Int} (hd : Bd 20000000 d) (hs : Bd 2000000 s) (v k : Nat) : -(20000000 + 200000000 * (k : Int)) ≤ appN es d s v k ∧ appN es d s v k ≤ 20000000 + 200000000 * (k : Int) := by
  induction k with
  | zero =>
    have h1 := hd v
    have e : appN es d s v 0 = d.getD v 0 := Int.add_zero _
    rw [e]; omega
  | succ k ih =>
    rw [appN_succ]
    have h1 := hs k
    have h2 := hs v
    have h3 := mul50 (S := 4000000) (wgt50 hE v k) (x := s.getD k 0 - s.getD v 0) (by omega)
    generalize wgt es v k * (s.getD k 0 - s.getD v 0) = z at *
    push_cast
    omega
theorem kApp_any (gv vd vs : Value) (n : Nat) (es : List Tri) (d s : List Int) (w : World) (hg : GX w gv n es) (hd : RI w vd d) (hs : RI w vs s) (hE : Edges n es) (hn : n ≤ 12) (hdl : d.length = n) (hsl : s.length = n) (hdb : Bd 20000000 d) (hsb : Bd 2000000 s) :
    Calls Tryz.prog 108 #[gv, vd, vs] w fun e w' => ∃ v, e = .returned v ∧ OI w' w.heap.size v (appLk n es d s) ∧ Below w.heap.size w w' := by
  have HCl := Lib.hid (CloneI_any vd d w hd (by omega))
  obtain ⟨b, vj, vv, rfl, hb, hrj, -⟩ := hg
  obtain ⟨Aj, cj, rfl, -, -, hrows⟩ := hrj.open_
  have hjl : (joinsL n es).length = n := by simp [joinsL]
  rw [hjl] at hb hrows
  obtain ⟨A1, c1, rfl, -⟩ := hd.open_
  obtain ⟨A2, c2, rfl, -, -, hcs⟩ := hs.open_
  rw [hsl] at hcs ⊢
  rw [hdl] at HCl ⊢
  have HBl := Lib.hid hb
  have HRows := Lib.hid hrows
  have HCs := Lib.hid hcs
  have HRow : Hid (∀ v row, v < n → (joinsL n es)[v]? = some row → row.length = n ∧ ∀ k z, k < n → row[k]? = some z → z = wgt es v k) := fun v row hv hr => by
    rw [joins_row hv] at hr
    cases hr
    exact ⟨by simp, fun k z hk hz => by simp [hk] at hz; exact hz.symm⟩
  have HBd : Hid (∀ v k : Nat, -(20000000 + 200000000 * (k : Int)) ≤ appN es d s v k ∧ appN es d s v k ≤ 20000000 + 200000000 * (k : Int)) := app_bd hE hdb hsb
  have HW50 : Hid (∀ v k, 0 ≤ wgt es v k ∧ wgt es v k ≤ 50) := wgt50 hE
  have HSb := Lib.hid hsb
  have HDl := Lib.hid hdl
  have HA0 : Hid (∀ v, appN es d s v 0 = d.getD v 0) := fun v => Int.add_zero _
  have HSu : Hid (∀ v k, appN es d s v (k + 1) = appN es d s v k + wgt es v k * (s.getD k 0 - s.getD v 0)) := fun v k => appN_succ es d s v k
  have HFin : Hid (∀ os : List Int, os.length = n → (∀ j, j < n → os.getD j 0 = appN es d s j n) → os = appLk n es d s) := fun os h1 h2 =>
    list_eq' h1 (by simp [appLk]) fun v hv => by rw [h2 v hv]; unfold appLk; rw [List.getD_eq_getElem?_getD]; simp [hv]
  clear hb hrj hd hs hE hrows hcs hjl hdb hsb hdl hsl
  go_enter Tryz.func108, Tryz.ntmps108
  go_wp2_with fail
  refine HCl.out.mono ?_
  rintro e w1 ⟨v1, rfl, ho1, hb1⟩
  obtain ⟨Ao, co, rfl, -⟩ := (OI.ri ho1).open_
  rw [HDl.out] at ho1
  have HB1 := Lib.hid hb1
  have HO1 := Lib.hid ho1
  clear hb1 ho1
  simp only [HDl.out]
  go_wp2_with fail
  go_loopw [15] (fun i wr => ∃ (v : Nat) (os : List Int), v ≤ n ∧ i = .int .i64 (v : Int) ∧ Hid (os.length = n) ∧ Hid (∀ j, j < n → os.getD j 0 = if j < v then appN es d s j n else d.getD j 0) ∧ Hid (OI wr w.heap.size (.slice Ao n co) os) ∧ Hid (Below w.heap.size w wr)) (fun i _ => n - (intOf i).toNat)
  case atStart => exact ⟨0, d, Nat.zero_le _, rfl, HDl.out, fun j _ => by rw [if_neg (by omega)], HO1.out, HB1.out⟩
  case round =>
    obtain ⟨v, os, hv, rfl, hl, hgt, ho, hbw⟩ := hrel
    by_cases hlt : v < n
    · obtain ⟨adj, row, Ar, cr, rfl, hjb, hrow, hcj, hrr⟩ := HRows.out v hlt
      obtain ⟨hrl, hrv⟩ := HRow.out v row hlt hrow.out
      obtain ⟨A9, c9, he9, -, -, hc9⟩ := hrr.open_
      simp only [Value.slice.injEq, true_and] at he9
      obtain ⟨rfl, rfl⟩ := he9
      rw [hrl] at hcj hc9
      have HC9 := Lib.hid hc9
      have HRv := Lib.hid hrv
      have gb := HBl.out.bel hbw.out
      have g1 := gb.cell 1
      have g2 := (hbw.out.cell (p := adj.add v) (by rw [block_of_add]; exact hjb)).trans hcj
      obtain ⟨wo, rfl⟩ : ∃ wo, wo = wr := ⟨_, rfl⟩
      clear hrl hrv hc9 hcj gb hrr hrow hjb
      go_wp2_with fail
      clear g1 g2
      go_loopw [26] (fun i wr => ∃ (k : Nat) (os : List Int), k ≤ n ∧ i = .int .i64 (k : Int) ∧ Hid (os.length = n) ∧ Hid (∀ j, j < n → os.getD j 0 = if j < v then appN es d s j n else if j = v then appN es d s v k else d.getD j 0) ∧ Hid (OI wr w.heap.size (.slice Ao n co) os) ∧ Hid (Below w.heap.size w wr)) (fun i _ => n - (intOf i).toNat)
      case atStart => exact ⟨0, os, Nat.zero_le _, rfl, hl.out, fun j hj => by
        rw [hgt.out j hj]
        by_cases e : j < v
        · rw [if_pos e, if_pos e]
        · rw [if_neg e, if_neg e]
          by_cases e2 : j = v
          · rw [if_pos e2, HA0.out, e2]
          · rw [if_neg e2], ho.out, hbw.out⟩
      case round =>
        obtain ⟨k, os, hk, rfl, hlk, hgk, hok, hbk⟩ := hrel
        by_cases hkt : k < n
        · obtain ⟨ad9, z, rfl, h9b, hz, hcz⟩ := HC9.out k hkt
          have hzw := HRv.out k z hkt hz.out
          obtain ⟨ads, su, rfl, hsb1, hsu, hcsu⟩ := HCs.out k hkt
          obtain ⟨ads', sv, hea, hsb2, hsv, hcsv⟩ := HCs.out v hlt
          cases hea
          have r1 := (hbk.out.cell (p := ad9.add k) (by rw [block_of_add]; exact h9b)).trans hcz
          have r2 := (hbk.out.cell (p := ads.add k) (by rw [block_of_add]; exact hsb1)).trans hcsu
          have r3 := (hbk.out.cell (p := ads.add v) (by rw [block_of_add]; exact hsb2)).trans hcsv
          obtain ⟨g, cap, he, hgB, q1, q2, q3⟩ := OI.at_ hok.out (k := v) (by rw [hlk.out]; exact hlt)
          rw [hlk.out] at he q3
          simp only [Value.slice.injEq, true_and] at he
          obtain ⟨rfl, rfl⟩ := he
          have hgv := hgk.out v hlt
          rw [if_neg (by omega), if_pos rfl] at hgv
          have hsuu := getD_of' hsu.out
          have hsvv := getD_of' hsv.out
          have hstep := HSu.out v k
          rw [← hgv, ← hzw, hsuu, hsvv] at hstep
          have hb1 := HBd.out v k
          rw [← hgv] at hb1
          have hb2 := HBd.out v (k + 1)
          rw [hstep] at hb2
          have hz50 := HW50.out v k
          rw [← hzw] at hz50
          have hs1 := HSb.out k
          have hs2 := HSb.out v
          rw [hsuu] at hs1
          rw [hsvv] at hs2
          have hm := mul50 (S := 4000000) hz50 (x := su - sv) (by omega)
          have HS := Lib.hid (q3 (os.getD v 0 + z * (su - sv))).1
          have HB2 := Lib.hid (hbk.out.setCell (p := ⟨g, v, none⟩) hgB (.int .i64 (os.getD v 0 + z * (su - sv))))
          have HL2 : Hid ((os.set v (os.getD v 0 + z * (su - sv))).length = n) := by show _ = _; rw [List.length_set]; exact hlk.out
          have HG2 : Hid (∀ j, j < n → (os.set v (os.getD v 0 + z * (su - sv))).getD j 0 = if j < v then appN es d s j n else if j = v then appN es d s v (k + 1) else d.getD j 0) := fun j hj => by
            rw [getD_set' (by rw [hlk.out]; exact hlt)]
            by_cases e : j = v
            · rw [if_pos e, e, if_neg (by omega), if_pos rfl, hstep]
            · rw [if_neg e, hgk.out j hj, if_neg e, if_neg e]
          clear hcz hcsu hcsv hz hsu hsv hsuu hsvv hstep hzw hgv q3 h9b hsb1 hsb2 hgB
          generalize os.getD v 0 = o at *
          have hd1 : -4000000 ≤ su - sv ∧ su - sv ≤ 4000000 := by omega
          have w1 : IntKind.i64.wrap (su - sv) = su - sv := by simp (disch := omega) only [IntWalk.i64_in]
          generalize hdf : su - sv = df at *
          have w2 : IntKind.i64.wrap (z * df) = z * df := by simp (disch := omega) only [IntWalk.i64_in]
          generalize hpr : z * df = pr at *
          have w3 : IntKind.i64.wrap (o + pr) = o + pr := by
            have : (k : Int) ≤ 12 := by omega
            simp (disch := omega) only [IntWalk.i64_in]
          go_wp2_with fail
          refine wp_region_still_tail 17 (by kernel_rfl) (by kernel_rfl) ?_
          change wpStill _ _ wr.drew _ _ _
          simp only [List.take_succ_cons, List.take_zero, List.drop_succ_cons, List.drop_zero]
          repeat still_step
          refine wpStill_nil ?_
          change wpList _ _ _ _ _ wr.drew
          go_wp2
          go_roundw
          case rel => exact ⟨k + 1, _, by omega, by go_num, HL2.out, HG2.out, OI.below HS.out (Below.refl _ _).drew, HB2.out.drew⟩
          case measure => simp [intOf]; omega
        · obtain rfl : k = n := by omega
          have HG3 : Hid (∀ j, j < k → os.getD j 0 = if j < v + 1 then appN es d s j k else d.getD j 0) := fun j hj => by
            rw [hgk.out j hj]
            by_cases e : j < v
            · rw [if_pos e, if_pos (by omega)]
            · rw [if_neg e]
              by_cases e2 : j = v
              · rw [if_pos e2, if_pos (by omega), e2]
              · rw [if_neg e2, if_neg (by omega)]
          go_wp2
          go_roundw
          case rel => exact ⟨v + 1, _, by omega, by go_num, hlk.out, HG3.out, hok.out, hbk.out⟩
          case measure => simp [intOf]; omega
    · obtain rfl : v = n := by omega
      have he := HFin.out os hl.out fun j hj => by rw [hgt.out j hj, if_pos hj]
      have HE := Lib.hid he
      clear he
      go_wp2
      go_ret
      exact ⟨_, rfl, by rw [← HE.out]; exact ho.out, hbw.out⟩
end Go.Proofs.YtgcnijmmjlfabaaGreatDoor

namespace Go.Proofs.YtgcnijmmjlfabaaGreatDoor
open Go.RowKit Go.Shelf

/-- A list of bools of the call's own. -/
def OB (w : World) (B : Nat) (v : Value) (bs : List Bool) : Prop := OV w B 4 v (bs.map Value.bool)
theorem OB.below {w w' : World} {B : Nat} {v : Value} {bs : List Bool} (h : OB w B v bs) (hb : Below w.heap.size w w') : OB w' B v bs := OV.below h hb
theorem OB.rb {w : World} {B : Nat} {v : Value} {bs : List Bool} (h : OB w B v bs) : RB w v bs := OV.rv h
theorem OB.at_ {w : World} {B g n cap : Nat} {bs : List Bool} (h : OB w B (.slice (some ⟨g, 0, none⟩) n cap) bs) {k : Nat} (hk : k < bs.length) :
    B ≤ g ∧ w.cell? ⟨g, k, none⟩ = some (.bool (bs.getD k false)) ∧ w.frozen? ⟨g, k, none⟩ = false ∧ ∀ x : Bool, OB (w.setCell ⟨g, k, none⟩ (.bool x)) B (.slice (some ⟨g, 0, none⟩) n cap) (bs.set k x) := by
  obtain ⟨g', cap', he, h1, -, h3, h4, h5⟩ := OV.at_ h (k := k) (u := .bool (bs.getD k false)) (by simp [List.getElem?_map, List.getElem?_eq_getElem hk, List.getD_eq_getElem?_getD])
  simp only [Value.slice.injEq, Option.some.injEq, Addr.mk.injEq, and_true] at he
  obtain ⟨rfl, rfl, rfl⟩ := he
  refine ⟨h1, h3, h4, fun x => ?_⟩
  have := (h5 (.bool x)).1
  unfold OB
  rw [List.map_set]; exact this
/-- Whether an order burns what is not burnt yet. -/
def brnB (n : Nat) (es : List Tri) (d : List Int) : List Bool → List Int → Bool
  | _, [] => true
  | bs, v :: r => if decide (0 ≤ v) && decide (v < n) && !bs.getD v.toNat false && decide (d.getD v.toNat 0 < mrkN es bs v.toNat n) then brnB n es d (bs.set v.toNat true) r else false
def brnS (n q : Nat) : List Bool := (List.replicate n false).set q true
/-- Whether an order is a burning order of d for q. -/
def burnsB (n : Nat) (es : List Tri) (q : Nat) (d order : List Int) : Bool := brnB n es d (brnS n q) order && decide ((order.length : Int) = n - 1)
theorem kBurns_any (gv vd vo : Value) (n q : Nat) (es : List Tri) (d order : List Int) (w : World) (hg : GX w gv n es) (hd : RI w vd d) (ho : RI w vo order) (hE : Edges n es) (hn : n ≤ 12) (hq : q < n) (hdl : d.length = n) (hol : order.length ≤ 100000) :
    Calls Tryz.prog 111 #[gv, .int .i64 (q : Int), vd, vo] w fun e w' => e = .returned (.bool (burnsB n es q d order)) ∧ Below w.heap.size w w' := by
  have HG := Lib.hid hg
  obtain ⟨b, vj, vv, rfl, hb, -, -⟩ := hg
  obtain ⟨A1, c1, rfl, -, -, hcd⟩ := hd.open_
  obtain ⟨A2, c2, rfl, -, -, hco⟩ := ho.open_
  rw [hdl] at hcd ⊢
  have HCd := Lib.hid hcd
  have HCo := Lib.hid hco
  have HBl := Lib.hid hb
  have c0 := hb.cell 0
  have hmk := run_make_row' (P := Tryz.prog) 139 4 (.bool false) 1 Tryz.underlying139 bool_info rfl .i64 .i64 n (by omega) (by omega)
  have ho0 : OB (w.alloc (.cells (madeCells #[Value.bool false] n) 4)) w.heap.size (.slice (some ⟨w.heap.size, 0, none⟩) n n) (List.replicate n false) := own_falses w n (by omega)
  have hb0 := below_alloc w (.cells (madeCells #[Value.bool false] n) 4)
  obtain ⟨W1, hW1⟩ : ∃ W1, W1 = w.alloc (.cells (madeCells #[Value.bool false] n) 4) := ⟨_, rfl⟩
  rw [← hW1] at ho0 hb0
  obtain ⟨-, q1, q2, q3⟩ := ho0.at_ (k := q) (by simpa using hq)
  have HO2 : Hid (OB (W1.setCell ⟨w.heap.size, q, none⟩ (.bool true)) w.heap.size (.slice (some ⟨w.heap.size, 0, none⟩) n n) (brnS n q)) := q3 true
  have HB2 := Lib.hid (hb0.setCell (p := ⟨w.heap.size, q, none⟩) (Nat.le_refl _) (.bool true))
  have hWe : W1.setCell ⟨w.heap.size, q, none⟩ (.bool true) = w.alloc (.cells ((madeCells #[Value.bool false] n).setIfInBounds q (.bool true)) 4) := by rw [hW1]; simp [go_sem]
  have HW1 := Lib.hid hWe
  rw [show (List.replicate n false).getD q false = false by rw [List.getD_eq_getElem?_getD, List.getElem?_replicate]; split <;> rfl, hW1] at q1
  rw [hW1] at q2
  have HV : Hid (∀ (v : Int) (W : World), Below w.heap.size w W → Calls Tryz.prog 40 #[.pointer (some ⟨b, 0, none⟩), .int .i64 v] W fun e w' => e = .returned (.bool (decide (0 ≤ v) && decide (v < n))) ∧ w' = W) := fun v W h => (kVertex_any _ n es v W (HG.out.below h)).mono fun _ _ h => ⟨h.1, h.2.symm⟩
  have HJ : Hid (∀ (v : Nat) (vm : Value) (bs : List Bool) (W : World), Below w.heap.size w W → v < n → RB W vm bs → bs.length = n → Calls Tryz.prog 114 #[.pointer (some ⟨b, 0, none⟩), .int .i64 (v : Int), vm] W fun e w' => e = .returned (.int .i64 (mrkN es bs v n)) ∧ w' = W) := fun v vm bs W h h1 h2 h3 => (kJoined_any _ vm n v es bs W (HG.out.below h) h2 hE hn h1 h3).mono fun _ _ h => ⟨h.1, h.2.symm⟩
  have HFin : Hid (burnsB n es q d order = (brnB n es d (brnS n q) order && decide ((order.length : Int) = n - 1))) := rfl
  have HSl : Hid ((brnS n q).length = n) := by simp [Hid, brnS]
  clear hd ho hE hdl hcd hco hb hW1 hWe ho0 hb0 q3
  go_enter Tryz.func111, Tryz.ntmps111
  go_wp2_with fail
  rw [← HW1.out]
  clear hmk q1 q2
  go_loopw [22] (fun ii wr => ∃ (k : Nat) (bs : List Bool), k ≤ order.length ∧ ii = .int .i64 (k : Int) ∧ Hid (bs.length = n) ∧ Hid (OB wr w.heap.size (.slice (some ⟨w.heap.size, 0, none⟩) n n) bs) ∧ Hid (Below w.heap.size w wr) ∧ Hid (brnB n es d bs (order.drop k) = brnB n es d (brnS n q) order)) (fun i _ => order.length - (intOf i).toNat)
  case atStart => exact ⟨0, brnS n q, Nat.zero_le _, rfl, HSl.out, HO2.out, HB2.out, rfl⟩
  case round =>
    obtain ⟨k, bs, hk, rfl, hbl, hob, hbw, hbr⟩ := hrel
    have g0 := (HBl.out.bel hbw.out).cell 0
    by_cases hlt : k < order.length
    · obtain ⟨ado, v, rfl, hvb, hv, hcv⟩ := HCo.out k hlt
      have r1 := (hbw.out.cell (p := ado.add k) (by rw [block_of_add]; exact hvb)).trans hcv
      have hdr := drop_at hv
      have hb2 := hbr.out
      rw [hdr, brnB] at hb2
      have HV1 : Hid (∀ m, Calls Tryz.prog 40 #[.pointer (some ⟨b, 0, none⟩), .int .i64 v] (wr.drewN m) fun e w' => e = .returned (.bool (decide (0 ≤ v) && decide (v < n))) ∧ w' = wr.drewN m) := fun m => HV.out v _ (below_drewN hbw.out m)
      clear hcv hvb hdr
      by_cases hvx : 0 ≤ v ∧ v < n
      · obtain ⟨vn, rfl⟩ : ∃ vn : Nat, v = vn := ⟨v.toNat, by omega⟩
        have hvn : vn < n := by omega
        rw [decide_eq_true hvx.1, decide_eq_true hvx.2] at hb2
        rw [decide_eq_true hvx.1, decide_eq_true hvx.2] at HV1
        simp only [Int.toNat_natCast, Bool.true_and] at hb2
        obtain ⟨-, s1, s2, s3⟩ := hob.out.at_ (k := vn) (by rw [hbl.out]; exact hvn)
        obtain ⟨add, z, rfl, hzb, hz, hcz⟩ := HCd.out vn hvn
        have r2 := (hbw.out.cell (p := add.add vn) (by rw [block_of_add]; exact hzb)).trans hcz
        simp only [getD_of' hz.out] at hb2
        have HJ1 : Hid (∀ m, Calls Tryz.prog 114 #[.pointer (some ⟨b, 0, none⟩), .int .i64 (vn : Int), .slice (some ⟨w.heap.size, 0, none⟩) n n] (wr.drewN m) fun e w' => e = .returned (.int .i64 (mrkN es bs vn n)) ∧ w' = wr.drewN m) := fun m => HJ.out vn _ bs _ (below_drewN hbw.out m) hvn (OB.rb (OB.below hob.out (below_drewN (Below.refl wr.heap.size wr) m))) hbl.out
        clear hcz hz hzb hvx
        by_cases hbt : bs.getD vn false = true
        · rw [hbt] at s1
          simp only [hbt, Bool.not_true, Bool.false_and, Bool.false_eq_true, if_false] at hb2
          have HB := Lib.hid hb2
          have HR : Hid (burnsB n es q d order = false) := by show _ = _; rw [HFin.out, ← HB.out]; rfl
          clear hb2 hbt s3
          go_wp2_with fail
          go_quiet (first | (go_at_call 40; exact Calls.quiet_of_same (HV1.out _)))
          go_wp2
          go_ret
          exact ⟨by rw [HR.out]; rfl, below_drewN hbw.out _⟩
        · have hbt : bs.getD vn false = false := by simpa using hbt
          rw [hbt] at s1
          simp only [hbt, Bool.not_false, Bool.true_and] at hb2
          generalize mrkN es bs vn n = m at *
          by_cases hlm : z < m
          · rw [if_pos (by simpa using hlm)] at hb2
            have HB := Lib.hid hb2
            have hge : decide (z ≥ m) = false := decide_eq_false (by omega)
            have HS : Hid (∀ j, OB ((wr.drewN j).setCell ⟨w.heap.size, vn, none⟩ (.bool true)) w.heap.size (.slice (some ⟨w.heap.size, 0, none⟩) n n) (bs.set vn true)) := fun j => by
              obtain ⟨-, -, -, t3⟩ := (OB.below hob.out (below_drewN (Below.refl wr.heap.size wr) j)).at_ (k := vn) (by rw [hbl.out]; exact hvn)
              exact t3 true
            have HL2 : Hid ((bs.set vn true).length = n) := by show _ = _; rw [List.length_set]; exact hbl.out
            clear hb2 hbt s3 hge
            go_wp2_with fail
            go_quiet (first | (go_at_call 40; exact Calls.quiet_of_same (HV1.out _)) | (go_at_call 114; exact Calls.quiet_of_same (HJ1.out _)))
            have HB3 := Lib.hid ((below_drewN hbw.out nq).setCell (p := ⟨w.heap.size, vn, none⟩) (Nat.le_refl _) (.bool true))
            go_wp2
            go_roundw
            case rel => exact ⟨k + 1, _, by omega, by go_num, HL2.out, HS.out _, HB3.out, HB.out⟩
            case measure => simp [intOf]; omega
          · rw [if_neg (by simpa using hlm)] at hb2
            have HB := Lib.hid hb2
            have HR : Hid (burnsB n es q d order = false) := by show _ = _; rw [HFin.out, ← HB.out]; rfl
            clear hb2 hbt s3
            go_wp2_with fail
            go_quiet (first | (go_at_call 40; exact Calls.quiet_of_same (HV1.out _)) | (go_at_call 114; exact Calls.quiet_of_same (HJ1.out _)))
            go_wp2
            go_ret
            exact ⟨by rw [HR.out]; rfl, below_drewN hbw.out _⟩
      · have hvf : (decide (0 ≤ v) && decide (v < (n : Int))) = false := by
          by_cases h1 : 0 ≤ v
          · rw [decide_eq_false (show ¬ v < (n : Int) from fun h2 => hvx ⟨h1, h2⟩), Bool.and_false]
          · rw [decide_eq_false h1, Bool.false_and]
        rw [hvf] at HV1
        simp only [hvf, Bool.false_and, Bool.false_eq_true, if_false] at hb2
        have HB := Lib.hid hb2
        have HR : Hid (burnsB n es q d order = false) := by show _ = _; rw [HFin.out, ← HB.out]; rfl
        clear hb2 hvx hvf
        go_wp2_with fail
        go_quiet (first | (go_at_call 40; exact Calls.quiet_of_same (HV1.out _)))
        go_wp2
        go_ret
        exact ⟨by rw [HR.out]; rfl, below_drewN hbw.out _⟩
    · obtain rfl : k = order.length := by omega
      have hb2 := hbr.out
      rw [List.drop_of_length_le (Nat.le_refl _), brnB] at hb2
      have HR : Hid (burnsB n es q d order = decide ((order.length : Int) = n - 1)) := by show _ = _; rw [HFin.out, ← hb2, Bool.true_and]
      clear hb2
      go_wp2
      go_ret
      exact ⟨by rw [HR.out]; rfl, hbw.out⟩
end Go.Proofs.YtgcnijmmjlfabaaGreatDoor

