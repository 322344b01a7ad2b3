/- Contracts of the references' Lowest, Least, Verify of layer 35.
   Contracts of the references' Least and Verify of layer 35: they answer as the functions do.
   The law EquivalenceVerifies: what the function answers.
   From what the form hands over to the words of the walks: an argument that is two divisors and a script. -/
import Derived.Test.YtefggpdobjboeaaGreatG29
import Derived.Test.YtefggpdobjboeaaGreatG26
import Derived.Test.YtefggpdobjboeaaGreatG28
namespace Go.Proofs.YtefggpdobjboeaaGreat
open Go.RowKit Go.Shelf

/-- The least of the first number and the first k numbers. -/
def mnK (s : List Int) : Nat → Int
  | 0 => s.getD 0 0
  | k + 1 => min (mnK s k) (s.getD k 0)
theorem mnK_to (s : List Int) (k : Nat) : mnK s (k + 1) = minTo s k := by
  induction k with
  | zero => show min (s.getD 0 0) (s.getD 0 0) = s.getD 0 0; omega
  | succ k ih =>
    show min (mnK s (k + 1)) (s.getD (k + 1) 0) = if s.getD (k + 1) 0 < minTo s k then _ else _
    rw [ih]; split <;> omega
theorem mnK_bd {s : List Int} {B : Int} (h : Bd B s) (k : Nat) : -B ≤ mnK s k ∧ mnK s k ≤ B := by
  induction k with
  | zero => exact h 0
  | succ k ih => have := h k; show -B ≤ min _ _ ∧ min _ _ ≤ B; omega
def lowL (s : List Int) : List Int := s.map fun x => x - mnK s s.length
theorem lowL_eq (s : List Int) : lowL s = leastL s := by
  unfold lowL leastL
  by_cases h : s = []
  · rw [if_pos h, h]; rfl
  · rw [if_neg h]
    obtain ⟨m, hm⟩ : ∃ m, s.length = m + 1 := ⟨s.length - 1, by have := List.length_pos_iff.2 h; omega⟩
    rw [hm, mnK_to]; rfl
set_option maxRecDepth 100000 in
set_option maxHeartbeats 4000000 in
theorem rLowest_any (v : Value) (s : List Int) (w : World) (hv : RI w v s) (h100 : s.length ≤ 100) (hb : Bd 1000000000000000000 s) :
    Calls Tryz.prog 46 #[v] w fun e w' => ∃ v', e = .returned v' ∧ OI w' w.heap.size v' (leastL s) ∧ Below w.heap.size w w' := by
  rw [← lowL_eq]
  obtain ⟨A, c, rfl, hlc, hc, hcell⟩ := hv.open_
  obtain ⟨i0, hi, hz0, hz1, hz2⟩ := info_parts int_info
  have HC := Lib.hid hcell
  have HB := Lib.hid hb
  clear hcell hv hb
  go_enter Tryz.func46, Tryz.ntmps46
  go_wp2
  go_loopw [3, 4] (fun v i wr => ∃ k : Nat, k ≤ s.length ∧ i = .int .i64 (k : Int) ∧ Hid (OI wr w.heap.size v (s.take k |>.map fun x => x - mnK s s.length)) ∧ Below w.heap.size w wr) (fun _ i _ => s.length - (intOf i).toNat)
  case atStart => exact ⟨0, Nat.zero_le _, rfl, OI.nil_ _ _, Below.refl _ _⟩
  case round =>
    obtain ⟨k, hk, rfl, ho, hb⟩ := hrel
    by_cases hlt : k < s.length
    · obtain ⟨ad, z0, hA, hadb, hz, hcl⟩ := HC.out 0 (by omega)
      subst hA
      have hq0 : wr.cell? (ad.add 0) = some (.int .i64 z0) := (hb.cell (by rw [block_of_add]; exact hadb)).trans hcl
      have hm0 : Hid (z0 = mnK s 0) := by show _ = s.getD 0 0; rw [List.getD_eq_getElem?_getD, hz.out]; rfl
      have hpos : 0 < s.length := by omega
      clear hcl
      rw [show ad.add 0 = ad by simp [Addr.add]] at hq0
      go_wp2_with fail
      clear hq0
      go_loop [5, 6] (fun m j => ∃ t : Nat, t ≤ s.length ∧ m = .int .i64 (mnK s t) ∧ j = .int .i64 (t : Int)) (fun _ j => s.length - (intOf j).toNat)
      case atStart => exact ⟨0, Nat.zero_le _, by rw [hm0.out], rfl⟩
      case round =>
        obtain ⟨t, ht, rfl, rfl⟩ := hrel
        by_cases htl : t < s.length
        · obtain ⟨ad', y, hA, hadb', hy, hcl'⟩ := HC.out t htl
          obtain rfl := Option.some.inj hA
          have hq1 : wr.cell? (ad.add t) = some (.int .i64 y) := (hb.cell (by rw [block_of_add]; exact hadb')).trans hcl'
          have hs : mnK s (t + 1) = min (mnK s t) y := by show min _ (s.getD t 0) = _; rw [List.getD_eq_getElem?_getD, hy.out]; rfl
          have HS := Lib.hid hs
          clear hcl' hs hA
          generalize mnK s t = x at *
          go_wp2
          go_round
          case rel => exact ⟨t + 1, by omega, by rw [HS.out], by go_num⟩
          case measure => simp [intOf]; omega
        · obtain rfl : t = s.length := by omega
          obtain ⟨ad', y, hA, hadb', hy, hcl'⟩ := HC.out k hlt
          obtain rfl := Option.some.inj hA
          have hq1 : wr.cell? (ad.add k) = some (.int .i64 y) := (hb.cell (by rw [block_of_add]; exact hadb')).trans hcl'
          have hyb := HB.out k
          rw [List.getD_eq_getElem?_getD, hy.out] at hyb
          simp only [Option.getD_some] at hyb
          have hmb := mnK_bd HB.out s.length
          have HD : Hid ((s.take (k + 1)).map (fun x => x - mnK s s.length) = (s.take k).map (fun x => x - mnK s s.length) ++ [y - mnK s s.length]) := by
            show _ = _
            rw [List.take_add_one, hy.out]; simp
          have hlen : ((s.take k).map (fun x => x - mnK s s.length)).length = k := by simp; omega
          have hsz := hb.size
          clear hcl' hA hy
          generalize hx : mnK s s.length = x at *
          have HXX := Lib.hid hx
          clear hx
          have h1 := Lib.hid (RV.ones wr (.int .i64 (y - x)) 3)
          have ho1 := Lib.hid (ho.out.below (below_alloc wr (.cells #[.int .i64 (y - x)] 3)))
          clear ho
          generalize (s.take k).map (fun x' => x' - x) = os at *
          go_wp2_with (at_builtin; refine wpList_appendV _ rfl _ _ _ rfl 3 i0 _ 8 Tryz.underlying25 hi hz0 hz1 hz2 rfl w.heap.size _ _ rfl ho1.out _ _ rfl h1.out (one_ones rfl) (by simp; omega) (by simp; omega) (by simp; omega) ?_; intro v1 w1 hown1 hg1 hat1)
          have HO := Lib.hid hown1
          clear hown1
          go_wp2
          go_roundw
          case rel => exact ⟨k + 1, by omega, by go_num, by rw [HXX.out, HD.out]; show OI _ _ _ _; simpa [OI] using HO.out, below_own (hb.trans ((below_alloc wr _).mono hb.size)) (by simp; omega) ho1.out hg1⟩
          case measure => simp [intOf]; omega
    · obtain rfl : k = s.length := by omega
      have ho' := ho.out
      rw [List.take_of_length_le (Nat.le_refl _)] at ho'
      have HO := Lib.hid ho'
      clear ho ho'
      go_wp2
      go_ret
      exact ⟨_, rfl, HO.out, hb⟩
end Go.Proofs.YtefggpdobjboeaaGreat

namespace Go.Proofs.YtefggpdobjboeaaGreat
open Go.RowKit Go.Shelf

theorem bd_all {s : List Int} (h : s.all InB = true) : Bd 1048576 s := bd_mem (by decide) fun z hz => by
  have := List.all_eq_true.1 h z hz
  exact (inB_iff z).1 this
set_option maxRecDepth 100000 in
set_option maxHeartbeats 4000000 in
theorem rLeast_any (v : Value) (s : List Int) (w : World) (hv : RI w v s) :
    Calls Tryz.prog 31 #[v] w (Pair w (leastE s)) := by
  have HV := Lib.hid hv
  obtain ⟨A, c, rfl, hlc, hc, hcell⟩ := hv.open_
  by_cases h1 : 12 < s.length
  · have e1 : leastE s = ([], 5) := by unfold leastE; rw [if_pos h1]
    rw [e1]
    clear hv hcell e1
    go_enter Tryz.func31, Tryz.ntmps31
    go_wp2
    refine bodyPost_ret (results_tmp2 rfl _ _ _) rfl ?_
    exact ⟨_, rfl, OI.nil_ _ _, Below.refl _ _⟩
  · have HC := Lib.hid hcell
    have HE : Hid (leastE s = if s.all InB then (leastL s, 0) else ([], 2)) := by show _ = _; unfold leastE; rw [if_neg h1]
    clear hcell hv
    go_enter Tryz.func31, Tryz.ntmps31
    go_wp2
    go_loop [4] (fun i => ∃ k : Nat, k ≤ s.length ∧ i = .int .i64 (k : Int) ∧ Hid ((s.drop k).all InB = s.all InB)) (fun i => s.length - (intOf i).toNat)
    case atStart => exact ⟨0, Nat.zero_le _, rfl, rfl⟩
    case round =>
      obtain ⟨k, hk, rfl, hr⟩ := hrel
      by_cases hlt : k < s.length
      · obtain ⟨ad, z, rfl, _, hz, hcl⟩ := HC.out k hlt
        have HD := Lib.hid (drop_at hz)
        clear HC HV
        cases hb : InB z
        · have HB := Lib.hid hb
          go_wp2_with (go_at_call 55; refine (In15_any _ _).mono ?_; rintro e w' ⟨rfl, rfl⟩)
          refine bodyPost_ret (results_tmp2 rfl _ _ _) rfl ?_
          have h := hr.out
          rw [HD.out] at h
          simp only [List.all_cons, HB.out, Bool.false_and] at h
          rw [HE.out, ← h]
          exact ⟨_, rfl, OI.nil_ _ _, Below.refl _ _⟩
        · have HB := Lib.hid hb
          go_wp2_with (go_at_call 55; refine (In15_any _ _).mono ?_; rintro e w' ⟨rfl, rfl⟩)
          go_round
          case rel => exact ⟨k + 1, by omega, by go_num, by have := hr.out; rw [HD.out] at this; simpa [Hid, HB.out] using this⟩
          case measure => simp [intOf]; omega
      · have h := hr.out
        rw [List.drop_of_length_le (by omega)] at h
        have h' : s.all InB = true := h.symm
        have hL := rLowest_any _ s w HV.out (by omega) ((bd_all h').mono (by decide))
        have HL := Lib.hid hL
        have HE2 : Hid (leastE s = (leastL s, 0)) := by show _ = _; rw [HE.out, if_pos h']
        clear h h' hL HC
        go_wp2_with fail
        refine HL.out.mono ?_
        rintro e w1 ⟨v', rfl, ho, hb1⟩
        have HO := Lib.hid ho
        have HB1 := Lib.hid hb1
        clear ho hb1
        go_wp2
        refine bodyPost_ret (results_tmp2 rfl _ _ _) rfl ?_
        rw [HE2.out]
        exact ⟨_, rfl, HO.out, HB1.out⟩
/-- What the reference's Verify answers. -/
theorem verifyE_ref {n : Nat} {es : List Tri} {a b s : List Int} (hE : Edges n es) (hn1 : 1 ≤ n) (hn : n ≤ 12) (hgc : gcheckE n es = 0) (h1 : eGiven n es [a, b] = 0) (h2 : scrE n s = 0) : verifyE n es a b s = if appL n es a s = b then 0 else 16 := by
  obtain ⟨-, h4, h5⟩ := eGiven_ok h1
  have ca := h5 a (by simp)
  have cb := h5 b (by simp)
  have cs : checkE s n = 0 := by rw [← scrE_check hn1 hn]; exact h2
  have g3 : eGiven n es [a, b, s] = 0 := eGiven_of (by
    unfold eGiven
    rw [if_neg (by simpa using hgc), if_neg (by simp [h4])]; rfl) (fun z hz => by
      simp only [List.mem_cons, List.mem_nil_iff, or_false] at hz
      rcases hz with rfl | rfl | rfl
      · exact ca
      · exact cb
      · exact cs)
  obtain ⟨_, _, hal, hai⟩ := checkE_ok ca
  obtain ⟨_, _, hbl, hbi⟩ := checkE_ok cb
  have hal' : a.length = n := by omega
  have hbl' : b.length = n := by omega
  have hmv : moveE s es a = appL n es a s := by
    refine List.ext_getElem (by rw [moveE_len, appL_len es s hal']; exact hal') fun k hk hk' => ?_
    have hkm : k < n := by rw [moveE_len] at hk; omega
    have e := moveE_get (s := s) hal' hE.ends k
    rw [← lap_edges hE.ends] at e
    have e2 := appL_get es (d := a) s hal' hkm
    rw [List.getD_eq_getElem?_getD, List.getElem?_eq_getElem hk] at e
    rw [List.getD_eq_getElem?_getD, List.getElem?_eq_getElem hk'] at e2
    simp only [Option.getD_some] at e e2
    omega
  have f1 : fGiven n es a = 0 := by unfold fGiven; rw [if_neg (by simpa using hgc), ca]
  have f2 : fGiven n es s = 0 := by unfold fGiven; rw [if_neg (by simpa using hgc), cs]
  have hap : applyL n es a s = bndL (appL n es a s) := by
    unfold applyL
    rw [if_neg (by simpa using f1), if_neg (by simpa using f2), hmv]
  unfold verifyE
  rw [if_neg (by simpa using g3), hap]
  unfold bndL
  by_cases e : appL n es a s = b
  · rw [if_pos e, e, if_pos hbi, if_pos ⟨rfl, rfl⟩]
  · rw [if_neg e]
    by_cases hi : (appL n es a s).all InB = true
    · rw [if_pos hi, if_neg (fun h => e h.2)]
    · rw [if_neg hi, if_neg (fun h => by simp at h)]
theorem verifyE_bad1 {n : Int} {es : List Tri} {a b : List Int} (s : List Int) (h : eGiven n es [a, b] ≠ 0) : verifyE n es a b s = eGiven n es [a, b] := by
  have e : eGiven n es [a, b, s] = eGiven n es [a, b] := by
    by_cases h0 : eGiven n es [] = 0
    · rw [eGiven_good _ h0] at h
      rw [eGiven_good _ h0, eGiven_good _ h0]
      simp only [firstE_cons] at h ⊢
      have e0 : firstE n [] = 0 := rfl
      rw [e0] at h ⊢
      by_cases ha : checkE a n = 0
      · by_cases hb : checkE b n = 0
        · simp [ha, hb] at h
        · simp [ha, hb]
      · simp [ha]
    · rw [eGiven_bad [a, b, s] h0, eGiven_bad [a, b] h0]
  unfold verifyE
  rw [e, if_pos h]
theorem verifyE_bad2 {n : Nat} {es : List Tri} {a b s : List Int} (hn1 : 1 ≤ n) (hn : n ≤ 12) (h : eGiven n es [a, b] = 0) (h2 : scrE n s ≠ 0) : verifyE n es a b s = scrE n s := by
  have h0 : eGiven n es [] = 0 := by
    obtain ⟨h3, h4, -⟩ := eGiven_ok h
    unfold eGiven
    rw [if_neg (by simpa using h3), if_neg (by simp [h4])]; rfl
  obtain ⟨-, -, h5⟩ := eGiven_ok h
  have ca := h5 a (by simp)
  have cb := h5 b (by simp)
  have e : eGiven n es [a, b, s] = checkE s n := by
    rw [eGiven_good _ h0, firstE_cons, firstE_cons, firstE_cons, if_pos ca, if_pos cb]
    split
    · next h => rw [h]; rfl
    · rfl
  unfold verifyE
  rw [scrE_check hn1 hn] at h2 ⊢
  rw [e, if_pos h2]
set_option maxRecDepth 100000 in
set_option maxHeartbeats 4000000 in
theorem rVerify_any (g va vb vs : Value) (n : Int) (es : List Tri) (a b s : List Int) (w : World) (hg : GV w g n es) (ha : RI w va a) (hb : RI w vb b) (hs : RI w vs s) :
    Calls Tryz.prog 33 #[g, va, vb, vs] w fun e w' => e = .returned (.int .i64 (verifyE n es a b s)) ∧ Below w.heap.size w w' := by
  obtain ⟨A2, c2, rfl, -⟩ := hs.open_
  obtain ⟨A3, c3, rfl, -⟩ := ha.open_
  obtain ⟨A4, c4, rfl, -⟩ := hb.open_
  obtain ⟨A, c, rfl, -⟩ := hg.open_
  obtain ⟨W0, hW0⟩ : ∃ W0, W0 = w.alloc (.cells #[.int .i64 n, .slice A es.length c] 24) := ⟨_, rfl⟩
  have hb0 : Below w.heap.size w W0 := by rw [hW0]; exact below_alloc w _
  have hx0 : BL W0 w.heap.size 24 [.int .i64 n, .slice A es.length c] := by rw [hW0]; exact BL.new' w _ _
  have c0 := hx0.cell 0
  have c1 := hx0.cell 1
  have HX0 := Lib.hid hx0
  have HG0 := Lib.hid (hg.below hb0)
  have HB0 := Lib.hid hb0
  have HW0 := Lib.hid hW0
  rw [hW0] at c0 c1
  clear hg hx0 hW0
  have hj := rBothE_any _ _ _ n es a b W0 HG0.out (RI.below ha hb0) (RI.below hb hb0)
  have HS0 := Lib.hid (RI.below hs hb0)
  have HA0 := Lib.hid (RI.below ha hb0)
  have HV0 := Lib.hid (RI.below hb hb0)
  clear hs ha hb hb0
  by_cases h0 : eGiven n es [a, b] = 0
  · obtain ⟨hgc, -, h5⟩ := eGiven_ok h0
    have HG5 := Lib.hid h5
    obtain ⟨m, rfl, h1, h12, hE⟩ := gcheckE_zero hgc
    have HHE := Lib.hid hE
    have HGc := Lib.hid hgc
    have HH0 := Lib.hid h0
    rw [h0] at hj
    have HJ := Lib.hid hj
    clear hj h0 h5 hE hgc
    go_enter Tryz.func33, Tryz.ntmps33
    go_wp2_with fail
    rw [← HW0.out]
    refine HJ.out.mono ?_
    rintro e w1 ⟨rfl, hb1⟩
    have hx1 := HX0.out.bel hb1
    have d0 := hx1.cell 0
    have d1 := hx1.cell 1
    have hsc := rScript_any _ _ (m : Int) es s w1 (HG0.out.below hb1) (RI.below HS0.out hb1)
    have HX1 := Lib.hid hx1
    have HGb := Lib.hid hb1
    have HB1 := Lib.hid (HB0.out.trans (hb1.mono HB0.out.size))
    clear hb1
    clear c0 c1 hx1
    by_cases h2 : scrE (m : Int) s = 0
    · rw [h2] at hsc
      have HSc := Lib.hid hsc
      have hck : checkE s m = 0 := by rw [← scrE_check (by omega) (by omega)]; exact h2
      have hR := verifyE_ref HHE.out (by omega) (by omega) HGc.out HH0.out h2
      have HR := Lib.hid hR
      obtain ⟨_, _, hal, hai⟩ := checkE_ok (HG5.out a (by simp))
      obtain ⟨_, _, hbl, hbi⟩ := checkE_ok (HG5.out b (by simp))
      obtain ⟨_, _, hsl, hsi⟩ := checkE_ok hck
      have HLd : Hid (∀ w2, Below w1.heap.size w1 w2 → Calls Tryz.prog 73 #[.agg #[.int .i64 (m : Int), .slice A es.length c], .slice A3 a.length c3, .slice A4 b.length c4, .slice A2 s.length c2] w2 fun e w' => e = .returned (.bool (decide (appL m es a s = b))) ∧ Below w2.heap.size w2 w') := fun w2 h =>
        rLeads_any _ _ _ _ m es a b s w2 ((HG0.out.below HGb.out).below h) ((RI.below HA0.out HGb.out).below h) ((RI.below HV0.out HGb.out).below h) ((RI.below HS0.out HGb.out).below h) HHE.out (by omega) (by omega) (by omega) (by omega) (bd_all hai) (bd_all hsi)
      clear hsc h2 hck hR hal hai hbl hbi hsl hsi
      go_wp2_with fail
      refine HSc.out.mono ?_
      rintro e w2 ⟨rfl, hb2⟩
      have hx2 := HX1.out.bel hb2
      have q0 := hx2.cell 0
      have q1 := hx2.cell 1
      have hl2 := HLd.out w2 hb2
      have HB2 := Lib.hid (HB1.out.trans (hb2.mono HB1.out.size))
      clear hb2
      clear d0 d1 hx2
      by_cases e : appL m es a s = b
      · have HR2 : Hid (verifyE m es a b s = 0) := by show _ = _; rw [HR.out, if_pos e]
        rw [decide_eq_true e] at hl2
        have HL2 := Lib.hid hl2
        clear hl2 e
        go_wp2_with fail
        refine HL2.out.mono ?_
        rintro e w3 ⟨rfl, hb3⟩
        have HB3 := Lib.hid (HB2.out.trans (hb3.mono HB2.out.size))
        clear hb3
        clear q0 q1
        go_wp2
        go_ret
        exact ⟨ret_i HR2.out.symm, HB3.out⟩
      · have HR2 : Hid (verifyE m es a b s = 16) := by show _ = _; rw [HR.out, if_neg e]
        rw [decide_eq_false e] at hl2
        have HL2 := Lib.hid hl2
        clear hl2 e
        go_wp2_with fail
        refine HL2.out.mono ?_
        rintro e w3 ⟨rfl, hb3⟩
        have HB3 := Lib.hid (HB2.out.trans (hb3.mono HB2.out.size))
        clear hb3
        clear q0 q1
        go_wp2
        go_ret
        exact ⟨ret_i HR2.out.symm, HB3.out⟩
    · have hR := verifyE_bad2 (n := m) (by omega) (by omega) HH0.out h2
      obtain ⟨r, hr⟩ : ∃ r, r = scrE (m : Int) s := ⟨_, rfl⟩
      rw [← hr] at hsc hR h2
      have HR := Lib.hid hR
      have HSc := Lib.hid hsc
      have t : (r != 0) = true := by simpa using h2
      clear hr hsc hR h2
      go_wp2_with fail
      refine HSc.out.mono ?_
      rintro e w2 ⟨rfl, hb2⟩
      have HB2 := Lib.hid (HB1.out.trans (hb2.mono HB1.out.size))
      clear hb2
      clear d0 d1
      go_wp2
      go_ret
      exact ⟨ret_i HR.out.symm, HB2.out⟩
  · have hR := verifyE_bad1 s h0
    obtain ⟨r, hr⟩ : ∃ r, r = eGiven n es [a, b] := ⟨_, rfl⟩
    rw [← hr] at hj hR h0
    have HR := Lib.hid hR
    have HJ := Lib.hid hj
    have t : (r != 0) = true := by simpa using h0
    clear hr hj hR h0
    go_enter Tryz.func33, Tryz.ntmps33
    go_wp2_with fail
    rw [← HW0.out]
    refine HJ.out.mono ?_
    rintro e w1 ⟨rfl, hb1⟩
    have HB1 := Lib.hid (HB0.out.trans (hb1.mono HB0.out.size))
    clear hb1
    clear c0 c1
    go_wp2
    go_ret
    exact ⟨ret_i HR.out.symm, HB1.out⟩
end Go.Proofs.YtefggpdobjboeaaGreat

namespace Go.Proofs.YtefggpdobjboeaaGreat
open Go.RowKit Go.Shelf

set_option maxRecDepth 100000 in
set_option maxHeartbeats 8000000 in
theorem verifies_any (g va vb vs : Value) (n : Int) (es : List Tri) (a b s : List Int) (w : World) (hg : GV w g n es) (ha : RI w va a) (hb : RI w vb b) (hs : RI w vs s) :
    Calls Tryz.prog 7 #[g, .agg #[va, vb, vs]] w fun e w' => e = .returned (.bool true) ∧ Below w.heap.size w w' := by
  obtain ⟨A, c, rfl, -⟩ := hg.open_
  obtain ⟨A2, c2, rfl, -⟩ := RI.open_ ha
  obtain ⟨A3, c3, rfl, -⟩ := RI.open_ hb
  obtain ⟨A4, c4, rfl, -⟩ := RI.open_ hs
  obtain ⟨W0, hW0⟩ : ∃ W0, W0 = w.alloc (.cells #[.int .i64 n, .slice A es.length c] 24) := ⟨_, rfl⟩
  have hb0 : Below w.heap.size w W0 := by rw [hW0]; exact below_alloc w _
  have hz0 : W0.heap.size = w.heap.size + 1 := by rw [hW0]; simp
  obtain ⟨W1, hW1⟩ : ∃ W1, W1 = W0.alloc (.cells #[.slice A2 a.length c2, .slice A3 b.length c3, .slice A4 s.length c4] 66) := ⟨_, rfl⟩
  have hb1 : Below W0.heap.size W0 W1 := by rw [hW1]; exact below_alloc W0 _
  have hbx : BL W1 (w.heap.size + 1) 66 [.slice A2 a.length c2, .slice A3 b.length c3, .slice A4 s.length c4] := by rw [hW1, ← hz0]; exact BL.new' W0 _ _
  have hx0 : BL W0 w.heap.size 24 [.int .i64 n, .slice A es.length c] := by rw [hW0]; exact BL.new' w _ _
  have hc1 : GC w (.agg #[.int .i64 n, .slice A es.length c]) [.int .i64 n, .slice A es.length c] n es [(.slice A2 a.length c2, a), (.slice A3 b.length c3, b), (.slice A4 s.length c4, s)] W1 := by
    have hbb := hb0.trans (hb1.mono hb0.size)
    refine ⟨hg.below hbb, hx0.bel hb1, hbb, fun p hp => ?_⟩
    simp only [List.mem_cons, List.not_mem_nil, or_false] at hp
    rcases hp with rfl | rfl | rfl
    · exact RI.below ha hbb
    · exact RI.below hb hbb
    · exact RI.below hs hbb
  have q0 := hc1.x.cell 0
  have q1 := hc1.x.cell 1
  have hF := rFew_any _ n es W1 hc1.g
  rw [hW1, hW0] at q0 q1
  have HC1 := Lib.hid hc1
  have HBX := Lib.hid hbx
  have HW0 := Lib.hid hW0
  have HW1 := Lib.hid hW1
  have AW : Hid (∀ W, Calls Tryz.prog 10 #[] W fun e w' => e = .returned (.bool true) ∧ Below W.heap.size W w') := awake_any
  clear hg ha hb hs hb0 hz0 hb1 hbx hx0 hc1 hW0 hW1
  go_enter Tryz.func7, Tryz.ntmps7
  go_wp2_with fail
  rw [← HW0.out, ← HW1.out]
  by_cases hsm : fewB n es = false ∨ 100 < a.length ∨ 100 < b.length ∨ 100 < s.length
  · refine hF.mono ?_
    rintro e w2 ⟨rfl, hb2⟩
    have HC2 := Lib.hid (HC1.out.next hb2)
    have hx2 := HBX.out.bel hb2
    have p0 := hx2.cell 0
    have p1 := hx2.cell 1
    have p2 := hx2.cell 2
    clear hF hb2 hx2 q0 q1
    by_cases h1 : fewB n es = false
    · rw [h1]
      clear h1 hsm
      go_wp2_with fail
      refine (AW.out _).mono ?_
      rintro e w3 ⟨rfl, hb3⟩
      have HC3 := Lib.hid (HC2.out.next hb3)
      clear hb3
      go_wp2
      go_ret
      exact ⟨rfl, HC3.out.b⟩
    have h1 : fewB n es = true := by simpa using h1
    rw [h1] at hsm ⊢
    by_cases h2 : 100 < a.length
    · clear h1 hsm
      go_wp2_with fail
      refine (AW.out _).mono ?_
      rintro e w3 ⟨rfl, hb3⟩
      have HC3 := Lib.hid (HC2.out.next hb3)
      clear hb3
      go_wp2
      go_ret
      exact ⟨rfl, HC3.out.b⟩
    by_cases h3 : 100 < b.length
    · clear h1 hsm
      go_wp2_with fail
      refine (AW.out _).mono ?_
      rintro e w3 ⟨rfl, hb3⟩
      have HC3 := Lib.hid (HC2.out.next hb3)
      clear hb3
      go_wp2
      go_ret
      exact ⟨rfl, HC3.out.b⟩
    have h4 : 100 < s.length := by simpa [h2, h3] using hsm
    clear h1 hsm
    go_wp2_with fail
    refine (AW.out _).mono ?_
    rintro e w3 ⟨rfl, hb3⟩
    have HC3 := Lib.hid (HC2.out.next hb3)
    clear hb3
    go_wp2
    go_ret
    exact ⟨rfl, HC3.out.b⟩
  have h1 : fewB n es = true := by
    cases h : fewB n es
    · exact absurd (.inl h) hsm
    · rfl
  have h2 : a.length ≤ 100 := by omega
  have h3 : b.length ≤ 100 := by omega
  have h4 : s.length ≤ 100 := by omega
  rw [h1] at hF
  refine hF.mono ?_
  rintro e w2 ⟨rfl, hb2⟩
  have HC2 := Lib.hid (HC1.out.next hb2)
  have hx2 := HBX.out.bel hb2
  have p0 := hx2.cell 0
  have p1 := hx2.cell 1
  have p2 := hx2.cell 2
  have HX2 := Lib.hid hx2
  have HLe := Lib.hid (Least_any _ s w2 (HC2.out.r (.slice A4 s.length c4, s) (by simp)))
  clear hF hb2 hx2 q0 q1 h1 hsm
  go_wp2_with fail
  refine HLe.out.mono ?_
  rintro e w3 ⟨v5, rfl, ho5, hb3⟩
  have HC3 := Lib.hid ((HC2.out.next hb3).add ho5.rv)
  have hx3 := HX2.out.bel hb3
  have r2 := hx3.cell 2
  have HX3 := Lib.hid hx3
  have HLr := Lib.hid (rLeast_any _ s w3 (HC3.out.r (.slice A4 s.length c4, s) (by simp)))
  clear hb3 hx3 p0 p1 p2 ho5
  go_wp2_with fail
  refine HLr.out.mono ?_
  rintro e w4 ⟨v7, rfl, ho7, hb4⟩
  have HC4 := Lib.hid ((HC3.out.next hb4).add ho7.rv)
  have hx4 := HX3.out.bel hb4
  have HX4 := Lib.hid hx4
  clear hb4 hx4 r2 ho7
  have HV : Hid (∀ W, Below w4.heap.size w4 W → Calls Tryz.prog 32 #[.agg #[.int .i64 n, .slice A es.length c], .slice A2 a.length c2, .slice A3 b.length c3, .slice A4 s.length c4] W fun e w' => e = .returned (.int .i64 (verifyE n es a b s)) ∧ Below W.heap.size W w') := fun W h => by
    have hc := HC4.out.next h
    exact Verify_any _ _ _ _ n es a b s W hc.g (hc.r (.slice A2 a.length c2, a) (by simp)) (hc.r (.slice A3 b.length c3, b) (by simp)) (hc.r (.slice A4 s.length c4, s) (by simp))
  have HR : Hid (∀ W, Below w4.heap.size w4 W → Calls Tryz.prog 33 #[.agg #[.int .i64 n, .slice A es.length c], .slice A2 a.length c2, .slice A3 b.length c3, .slice A4 s.length c4] W fun e w' => e = .returned (.int .i64 (verifyE n es a b s)) ∧ Below W.heap.size W w') := fun W h => by
    have hc := HC4.out.next h
    exact rVerify_any _ _ _ _ n es a b s W hc.g (hc.r (.slice A2 a.length c2, a) (by simp)) (hc.r (.slice A3 b.length c3, b) (by simp)) (hc.r (.slice A4 s.length c4, s) (by simp))
  have HQ : Hid (∀ W, Below w4.heap.size w4 W → Calls Tryz.prog 13 #[v5, v7] W fun e w' => e = .returned (.bool true) ∧ Below W.heap.size W w') := fun W h => by
    have hc := HC4.out.next h
    have hq := EqualS_any v5 v7 (leastE s).1 (leastE s).1 W (hc.r (v5, (leastE s).1) (by simp)) (hc.r (v7, (leastE s).1) (by simp))
    rw [(eqL_iff _ _).2 rfl] at hq
    refine hq.mono ?_
    rintro e w' ⟨rfl, j, rfl⟩
    exact ⟨rfl, below_drewN (Below.refl _ _) j⟩
  have HK : Hid (∀ W, Below w4.heap.size w4 W → W.cell? ⟨w.heap.size, 0, none⟩ = some (.int .i64 n) ∧ W.cell? ⟨w.heap.size, 1, none⟩ = some (.slice A es.length c) ∧ W.cell? ⟨w.heap.size + 1, 0, none⟩ = some (.slice A2 a.length c2) ∧ W.cell? ⟨w.heap.size + 1, 1, none⟩ = some (.slice A3 b.length c3) ∧ W.cell? ⟨w.heap.size + 1, 2, none⟩ = some (.slice A4 s.length c4) ∧ Below w4.heap.size w4 W) := fun W h => by
    have x1 := (HC4.out.next h).x
    have x2 := HX4.out.bel h
    exact ⟨x1.cell 0, x1.cell 1, x2.cell 0, x2.cell 1, x2.cell 2, h⟩
  have HS0 := Lib.hid (HK.out w4.drew (Below.refl _ _).drew)
  obtain ⟨r, hr⟩ : ∃ r, r = verifyE n es a b s := ⟨_, rfl⟩
  obtain ⟨l2, hl2⟩ : ∃ l2, l2 = (leastE s).2 := ⟨_, rfl⟩
  rw [← hr] at HV HR
  rw [← hl2]
  clear hr hl2
  go_wp2_with fail
  go_region_held3 (fun W' : World => W'.cell? ⟨w.heap.size, 0, none⟩ = some (.int .i64 n) ∧ W'.cell? ⟨w.heap.size, 1, none⟩ = some (.slice A es.length c) ∧ W'.cell? ⟨w.heap.size + 1, 0, none⟩ = some (.slice A2 a.length c2) ∧ W'.cell? ⟨w.heap.size + 1, 1, none⟩ = some (.slice A3 b.length c3) ∧ W'.cell? ⟨w.heap.size + 1, 2, none⟩ = some (.slice A4 s.length c4) ∧ Below w4.heap.size w4 W')
    (first | exact HS0.out | exact HSa.out | exact HSb.out | exact HSc.out | exact HSd.out)
    (first
      | (go_at_call 32; refine (HV.out _ HS0.out.2.2.2.2.2).mono ?_; rintro e w6 ⟨rfl, hb6⟩; have HSa := Lib.hid (HK.out w6 (HS0.out.2.2.2.2.2.trans (hb6.mono HS0.out.2.2.2.2.2.size))); clear hb6)
      | (go_at_call 33; refine (HR.out _ HSa.out.2.2.2.2.2).mono ?_; rintro e w7 ⟨rfl, hb7⟩; have HSb := Lib.hid (HK.out w7 (HSa.out.2.2.2.2.2.trans (hb7.mono HSa.out.2.2.2.2.2.size))); clear hb7)
      | (go_at_call 13; refine (HQ.out _ HSb.out.2.2.2.2.2).mono ?_; rintro e w8 ⟨rfl, hb8⟩; have HSc := Lib.hid (HK.out w8 (HSb.out.2.2.2.2.2.trans (hb8.mono HSb.out.2.2.2.2.2.size))); clear hb8)
      | (go_at_call 10; refine (AW.out _).mono ?_; rintro e w9 ⟨rfl, hb9⟩; have HSd := Lib.hid (HK.out w9 (HSc.out.2.2.2.2.2.trans (hb9.mono HSc.out.2.2.2.2.2.size))); clear hb9))
  all_goals
    go_wp2
    go_ret
    exact ⟨rfl, (HC4.out.next HSd.out.2.2.2.2.2).b⟩
end Go.Proofs.YtefggpdobjboeaaGreat

namespace Go.Proofs.YtefggpdobjboeaaGreat
open Go.ChangeShapes Go.WideShapes Go.ChangeAt Go.RowKit Go.Shelf

set_option maxRecDepth 100000 in
theorem ints_ofd {H : Type} {enc : TypeId × Value → H} {W : World} {fuel : Nat} {v : Value} {x : DataW H × List MemPlace} (h : DataW.trod enc Tryz.prog W 0 (fun _ => true) true fuel 26 [v] = some x)
    (hs : ∀ elems spare, x.1 = .slice elems spare → (elems.length + spare.length) * 8 ≤ 140737488351232) : ∃ zs, RI W v zs := by
  rcases open_ints Tryz.underlying26 Tryz.underlying3 cellsInt_ h with ⟨hcs, -⟩ | ⟨a, len, cap, zs, hcs, _, hl, hm, hz, hx, hcell, _⟩
  · simp only [List.cons.injEq, and_true] at hcs
    subst hcs
    exact ⟨[], RI.nil_ W⟩
  · simp only [List.cons.injEq, and_true] at hcs
    subst hcs
    simp only [if_true] at hz
    have hreach := hs _ _ (by rw [hx])
    simp only [lits, List.length_map, List.length_take, List.length_drop] at hreach
    have hlen : (zs.take len).length = len := by rw [List.length_take]; omega
    refine ⟨zs.take len, ?_⟩
    have key := RI.mk_ (w := W) (A := some a) (c := cap) (zs := zs.take len) (by omega) (by omega) fun k z hk => ?_
    · rw [hlen] at key; exact key
    · have hk2 : k < (zs.take len).length := (List.getElem?_eq_some_iff.1 hk).1
      have hkz : k < zs.length := by omega
      have hc := hcell k hkz
      have e : zs.getD k 0 = z := by
        rw [List.getElem?_take, if_pos (by omega)] at hk
        rw [List.getD_eq_getElem?_getD, hk]; rfl
      rw [e] at hc
      exact ⟨a, rfl, by have := block_lt_of_cell' hc; rwa [block_of_add] at this, hc⟩
set_option maxRecDepth 100000 in
theorem open_proof {H : Type} {enc : TypeId × Value → H} {W : World} {base : Nat} {v : Value} {d : DataW H} {p : List MemPlace} (hv : Value.okWide Tryz.prog W .any base 66 v)
    (h : DataW.Trod enc Tryz.prog W 0 (fun _ => true) true 66 v d p)
    (hs : ∀ x y z, d = .agg [x, y, z] → (∀ elems spare, x = .slice elems spare → (elems.length + spare.length) * 8 ≤ 140737488351232) ∧ (∀ elems spare, y = .slice elems spare → (elems.length + spare.length) * 8 ≤ 140737488351232) ∧ ∀ elems spare, z = .slice elems spare → (elems.length + spare.length) * 8 ≤ 140737488351232) :
    ∃ v0 v1 v2 x0 x1 x2, v = .agg #[v0, v1, v2] ∧ RI W v0 x0 ∧ RI W v1 x1 ∧ RI W v2 x2 := by
  obtain ⟨v0, v1, v2, y0, y1, y2, n, rfl, rfl, -, h0, h1, h2⟩ := Go.Joins.open_agg3 Tryz.underlying66 (by kernel_rfl) (by kernel_rfl) hv h
  obtain ⟨s0, s1, s2⟩ := hs _ _ _ rfl
  obtain ⟨x0, r0⟩ := ints_ofd h0 s0
  obtain ⟨x1, r1⟩ := ints_ofd h1 s1
  obtain ⟨x2, r2⟩ := ints_of h2 s2
  exact ⟨v0, v1, v2, x0, x1, x2, rfl, r0, r1, r2⟩
set_option maxRecDepth 100000 in
theorem sized_proof {H : Type} {ts : List TypeId} {ds : List (DataW H)} (hsz : (DataW.weightsEach Tryz.prog ts ds).all (· ≤ reachBytes) = true) {j : Nat} {d : DataW H} (ht : ts[j]? = some 66) (hd : ds[j]? = some d) :
    ∀ x y z, d = .agg [x, y, z] → (∀ elems spare, x = .slice elems spare → (elems.length + spare.length) * 8 ≤ 140737488351232) ∧ (∀ elems spare, y = .slice elems spare → (elems.length + spare.length) * 8 ≤ 140737488351232) ∧ ∀ elems spare, z = .slice elems spare → (elems.length + spare.length) * 8 ≤ 140737488351232 := by
  intro x y z e
  subst e
  refine ⟨fun elems spare e => ?_, fun elems spare e => ?_, fun elems spare e => ?_⟩
  all_goals
    subst e
    have := List.all_eq_true.1 hsz _ (DataW.weights_mem_each ht hd ((elems.length + spare.length) * Tryz.prog.bytesOf 3) (by simp [DataW.weights, DataW.weightsEach, Tryz.underlying66, Tryz.underlying26, Tryz.underlying29]))
    have h2 := of_decide_eq_true this
    rw [bytesInt_] at h2
    simp only [reachBytes] at h2
    omega
end Go.Proofs.YtefggpdobjboeaaGreat
