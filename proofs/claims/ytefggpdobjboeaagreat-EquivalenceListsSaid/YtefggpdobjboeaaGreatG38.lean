/- Contracts of the references' Less, Times, Order, Of on decimal texts.
   Contracts of the references' Less, Times, Order, Of on decimal texts.
   Contract of the reference's Of: the decimal text of an int.
   Words for matrices of decimal texts; a call as a step of a region that draws; the reference's At.
   The two lists of superstable configurations are the same but for their order, and they are few. No program in sight. -/
import Derived.Test.YtefggpdobjboeaaGreatG37
import Derived.Test.YtefggpdobjboeaaGreatG34
namespace Go.Proofs.YtefggpdobjboeaaGreat
open Go.RowKit Go.Shelf

theorem p10_sq : (p10 15 - 1) * p10 15 = p10 30 - p10 15 := by
  have h : p10 30 = p10 15 * p10 15 := p10_add 15 15
  rw [h, Int.sub_mul, Int.one_mul]
theorem mul_sgn {l1 l2 out : List Int} {m1 m2 : Bool} (h : dval out = dval l1 * dval l2) : sgZ out (m1 != m2) = sgZ l1 m1 * sgZ l2 m2 := by
  cases m1 <;> cases m2
  · exact h
  · show - dval out = dval l1 * - dval l2
    rw [h, Int.mul_neg]
  · show - dval out = - dval l1 * dval l2
    rw [h, Int.neg_mul]
  · show dval out = - dval l1 * - dval l2
    rw [h, Int.neg_mul_neg]
set_option maxRecDepth 100000 in
set_option maxHeartbeats 8000000 in
theorem zTimes_any (va vb : Value) (x y : Int) (w : World) (ha : ZS va x) (hb : ZS vb y) (hx : B15 x) (hy : B15 y) :
    Calls Tryz.prog 142 #[va, vb] w fun e w' => ∃ v', e = .returned v' ∧ Below w.heap.size w w' ∧ ZS v' (x * y) := by
  obtain ⟨l1, m1, rfl, hd1, hc1, hm1, rfl⟩ := ha
  obtain ⟨l2, m2, rfl, hd2, hc2, hm2, rfl⟩ := hb
  have hn1 := b15_len hd1 hc1 hx
  have hn2 := b15_len hd2 hc2 hy
  have HG1 : Hid (∀ W, Calls Tryz.prog 168 #[.string ⟨(textL l1 m1).toArray⟩] W fun e w' => ∃ v, e = .returned v ∧ RI w' v l1 ∧ Below W.heap.size W w') := fun W => dDigits_any l1 m1 W hd1 hc1 (by omega)
  have HG2 : Hid (∀ W, Calls Tryz.prog 168 #[.string ⟨(textL l2 m2).toArray⟩] W fun e w' => ∃ v, e = .returned v ∧ RI w' v l2 ∧ Below W.heap.size W w') := fun W => dDigits_any l2 m2 W hd2 hc2 (by omega)
  have HM1 : Hid (∀ W, Calls Tryz.prog 98 #[.string ⟨(textL l1 m1).toArray⟩] W fun e w' => e = .returned (.bool m1) ∧ W = w') := fun W => zMinus_any l1 m1 W hd1 hm1
  have HM2 : Hid (∀ W, Calls Tryz.prog 98 #[.string ⟨(textL l2 m2).toArray⟩] W fun e w' => e = .returned (.bool m2) ∧ W = w') := fun W => zMinus_any l2 m2 W hd2 hm2
  have HMu : Hid (∀ (va vb : Value) (W : World), RI W va l1 → RI W vb l2 → Calls Tryz.prog 172 #[va, vb] W fun e w' => ∃ v, e = .returned v ∧ Below W.heap.size W w' ∧ ∃ out, RI w' v out ∧ out.length ≤ 1000 ∧ Dig out ∧ Can out ∧ dval out = dval l1 * dval l2) := fun va vb W h1 h2 =>
    (dMul_any va vb l1 l2 W h1 h2 hd1 hd2 (by omega) (by omega)).mono fun e w' h => by
      obtain ⟨v, h3, h4, out, h5, h6, h7, h8⟩ := h
      refine ⟨v, h3, h4, out, h5, ?_, h6, h7, h8⟩
      have b1 := dval_bd hd1
      have b2 := dval_bd hd2
      have b3 := p10_mono hn1
      have b4 := p10_mono hn2
      have b5 := Int.mul_le_mul (show dval l1 ≤ p10 15 - 1 by omega) (show dval l2 ≤ p10 15 by omega) b2.1 (by have := p10_pos 15; omega)
      have b6 := p10_pos 15
      have b7 := p10_sq
      have := can_len h6 h7 (k := 30) (by rw [h8]; generalize p10 15 = P at *; generalize p10 30 = R at *; generalize dval l1 * dval l2 = T at *; generalize (P - 1) * P = U at *; omega)
      omega
  have HD1 := Lib.hid (HG1.out w)
  clear hd1 hd2 hc1 hc2 hm1 hm2 hx hy hn1 hn2
  generalize ByteArray.mk (textL l1 m1).toArray = S1 at *
  generalize ByteArray.mk (textL l2 m2).toArray = S2 at *
  go_enter Tryz.func142, Tryz.ntmps142
  go_wp2_with fail
  refine HD1.out.mono ?_
  rintro e w1 ⟨v1, rfl, hr1, hb1⟩
  have HB1 := Lib.hid hb1
  have HR1 := Lib.hid hr1
  clear hr1 hb1
  go_wp2_with fail
  refine (HG2.out _).mono ?_
  rintro e w2 ⟨v2, rfl, hr2, hb2⟩
  have HA1 := Lib.hid (HMu.out v1 v2 w2 (RI.below HR1.out hb2) hr2)
  have HB2 := Lib.hid (HB1.out.trans (hb2.mono HB1.out.size))
  clear hb2
  clear hr2
  go_wp2_with fail
  refine HA1.out.mono ?_
  rintro e w3 ⟨v3, rfl, hb3, out, hr3, hl3, hd3, hc3, he3⟩
  have HTx := Lib.hid (zText_any v3 out (m1 != m2) w3 hr3 hd3 hl3)
  have HZ := Lib.hid (zs_text (m := (m1 != m2)) hd3 hc3)
  rw [mul_sgn he3] at HZ
  have HB3 := Lib.hid (HB2.out.trans (hb3.mono HB2.out.size))
  clear hb3
  clear hr3 hl3 hd3 hc3 he3
  obtain ⟨mm, hmm⟩ : ∃ mm, mm = (m1 != m2) := ⟨_, rfl⟩
  rw [← hmm] at HTx
  cases m1 <;> cases m2
  · obtain rfl : mm = false := by rw [hmm]; rfl
    clear hmm
    go_wp2_with fail
    refine (HM1.out _).mono ?_
    rintro e w4 ⟨rfl, rfl⟩
    go_wp2_with fail
    refine (HM2.out _).mono ?_
    rintro e w4 ⟨rfl, rfl⟩
    go_wp2_with fail
    refine HTx.out.mono ?_
    rintro e w4 ⟨rfl, hb4⟩
    have HB4 := Lib.hid (HB3.out.trans (hb4.mono HB3.out.size))
    clear hb4
    go_wp2
    go_ret
    exact ⟨_, rfl, HB4.out, HZ.out⟩
  · obtain rfl : mm = true := by rw [hmm]; rfl
    clear hmm
    go_wp2_with fail
    refine (HM1.out _).mono ?_
    rintro e w4 ⟨rfl, rfl⟩
    go_wp2_with fail
    refine (HM2.out _).mono ?_
    rintro e w4 ⟨rfl, rfl⟩
    go_wp2_with fail
    refine HTx.out.mono ?_
    rintro e w4 ⟨rfl, hb4⟩
    have HB4 := Lib.hid (HB3.out.trans (hb4.mono HB3.out.size))
    clear hb4
    go_wp2
    go_ret
    exact ⟨_, rfl, HB4.out, HZ.out⟩
  · obtain rfl : mm = true := by rw [hmm]; rfl
    clear hmm
    go_wp2_with fail
    refine (HM1.out _).mono ?_
    rintro e w4 ⟨rfl, rfl⟩
    go_wp2_with fail
    refine (HM2.out _).mono ?_
    rintro e w4 ⟨rfl, rfl⟩
    go_wp2_with fail
    refine HTx.out.mono ?_
    rintro e w4 ⟨rfl, hb4⟩
    have HB4 := Lib.hid (HB3.out.trans (hb4.mono HB3.out.size))
    clear hb4
    go_wp2
    go_ret
    exact ⟨_, rfl, HB4.out, HZ.out⟩
  · obtain rfl : mm = false := by rw [hmm]; rfl
    clear hmm
    go_wp2_with fail
    refine (HM1.out _).mono ?_
    rintro e w4 ⟨rfl, rfl⟩
    go_wp2_with fail
    refine (HM2.out _).mono ?_
    rintro e w4 ⟨rfl, rfl⟩
    go_wp2_with fail
    refine HTx.out.mono ?_
    rintro e w4 ⟨rfl, hb4⟩
    have HB4 := Lib.hid (HB3.out.trans (hb4.mono HB3.out.size))
    clear hb4
    go_wp2
    go_ret
    exact ⟨_, rfl, HB4.out, HZ.out⟩
end Go.Proofs.YtefggpdobjboeaaGreat

namespace Go.Proofs.YtefggpdobjboeaaGreat
open Go.RowKit Go.Shelf

/-- Whether a text is that of 0, as the walk asks it. -/
theorem zs_zero {S : ByteArray} {z : Int} (h : ZS (.string S) z) : (S.toList == [48]) = decide (z = 0) := by
  obtain ⟨l, m, he, hd, hc, hm, rfl⟩ := h
  simp only [Value.string.injEq] at he
  subst he
  rw [ByteArray.toList_mk]
  have := text_zero hd hc m hm
  by_cases e : sgZ l m = 0
  · rw [decide_eq_true e, this.2 e]; rfl
  · rw [decide_eq_false e]
    have h2 : textL l m ≠ [48] := fun h => e (this.1 h)
    simpa using h2
theorem zs_str {v : Value} {z : Int} (h : ZS v z) : ∃ S, v = .string S ∧ ZS (.string S) z ∧ (S.toList == [48]) = decide (z = 0) := by
  obtain ⟨l, m, rfl, h2⟩ := h
  have h3 : ZS (.string ⟨(textL l m).toArray⟩) z := ⟨l, m, rfl, h2⟩
  exact ⟨_, rfl, h3, zs_zero h3⟩
theorem zMinus2_any (v : Value) (z : Int) (w : World) (h : ZS v z) : Calls Tryz.prog 98 #[v] w fun e w' => e = .returned (.bool (decide (z < 0))) ∧ w = w' := by
  obtain ⟨l, m, rfl, hd, hc, hm, rfl⟩ := h
  rw [sgz_neg hd hc hm]
  exact zMinus_any l m w hd hm
set_option maxRecDepth 100000 in
set_option maxHeartbeats 4000000 in
theorem zOrder_any (va vb : Value) (x y : Int) (w : World) (ha : ZS va x) (hb : ZS vb y) (hx : B15 x) (hy : B15 y) :
    Calls Tryz.prog 56 #[va, vb] w fun e w' => e = .returned (.int .i64 (cmpI x y)) ∧ Below w.heap.size w w' := by
  have HL := Lib.hid (zLess_any va vb x y w ha hb hx hy)
  have HM : Hid (∀ (v : Value) (W : World), ZS v (x - y) → Calls Tryz.prog 98 #[v] W fun e w' => e = .returned (.bool (decide (x - y < 0))) ∧ W = w') := fun v W h => zMinus2_any v _ W h
  clear ha hb hx hy
  go_enter Tryz.func56, Tryz.ntmps56
  go_wp2_with fail
  refine HL.out.mono ?_
  rintro e w1 ⟨v1, rfl, hb1, hz1⟩
  obtain ⟨S, rfl, hz, h0⟩ := zs_str hz1
  have HB1 := Lib.hid hb1
  have HM1 := Lib.hid (HM.out _ w1 hz)
  have h48 : (ByteArray.mk #[48]).toList = [48] := ByteArray.toList_mk [48]
  clear hb1 hz1 hz
  rcases Int.lt_trichotomy x y with c | c | c
  · have HR : Hid (cmpI x y = -1) := sgn_lt c
    rw [decide_eq_false (by omega)] at h0
    rw [decide_eq_true (by omega)] at HM1
    clear c
    go_wp2_with fail
    refine HM1.out.mono ?_
    rintro e w2 ⟨rfl, rfl⟩
    go_wp2
    go_ret
    exact ⟨ret_i HR.out.symm, HB1.out⟩
  · have HR : Hid (cmpI x y = 0) := sgn_eq c
    rw [decide_eq_true (by omega)] at h0
    clear c
    go_wp2
    go_ret
    exact ⟨ret_i HR.out.symm, HB1.out⟩
  · have HR : Hid (cmpI x y = 1) := sgn_gt c
    rw [decide_eq_false (by omega)] at h0
    rw [decide_eq_false (by omega)] at HM1
    clear c
    go_wp2_with fail
    refine HM1.out.mono ?_
    rintro e w2 ⟨rfl, rfl⟩
    go_wp2
    go_ret
    exact ⟨ret_i HR.out.symm, HB1.out⟩
end Go.Proofs.YtefggpdobjboeaaGreat

namespace Go.Proofs.YtefggpdobjboeaaGreat
open Go.RowKit Go.Shelf

theorem of_step {l : List Int} {u n : Int} (hd : Dig l) (hu : 0 < u) (hv : dval l + p10 l.length * u = n) :
    Dig (l ++ [u % 10]) ∧ dval (l ++ [u % 10]) + p10 (l ++ [u % 10]).length * (u / 10) = n ∧ (u / 10 = 0 → Can (l ++ [u % 10])) := by
  refine ⟨hd.snoc (by omega) (by omega), ?_, fun h => .inr ?_⟩
  · rw [dval_snoc, len_append1, p10]
    have e : u = 10 * (u / 10) + u % 10 := by omega
    generalize u / 10 = q at *
    generalize u % 10 = r at *
    subst e
    rw [Int.mul_add] at hv
    grind
  · rw [len_append1, Nat.add_sub_cancel, getD_snoc_last]; omega
theorem of_len {l : List Int} {u n : Int} (hd : Dig l) (hu : 0 < u) (hv : dval l + p10 l.length * u = n) (hn : n < 1000000000000000) : l.length ≤ 14 := by
  have h1 := (dval_bd hd).1
  have h2 := Int.mul_le_mul_of_nonneg_left (show 1 ≤ u by omega) (show 0 ≤ p10 l.length by have := p10_pos l.length; omega)
  apply Classical.byContradiction
  intro h
  have h3 := p10_mono (a := 15) (b := l.length) (by omega)
  rw [p15] at h3
  omega
theorem neg_rem {u : Int} (h : 0 ≤ u) : (-u).tmod 10 = -(u % 10) := by rw [Int.neg_tmod, Int.tmod_eq_emod_of_nonneg h]
theorem neg_quo {u : Int} (h : 0 ≤ u) : (-u).tdiv 10 = -(u / 10) := by rw [Int.neg_tdiv, Int.tdiv_eq_ediv_of_nonneg h]
set_option maxRecDepth 100000 in
set_option maxHeartbeats 8000000 in
theorem zOf_any (n : Int) (w : World) (hb : B15 n) :
    Calls Tryz.prog 58 #[.int .i64 n] w fun e w' => ∃ v', e = .returned v' ∧ Below w.heap.size w w' ∧ ZS v' n := by
  obtain ⟨i0, hi, hz0, hz1, hz2⟩ := info_parts int_info
  have h48 : (ByteArray.mk #[]).toList = [] := ByteArray.toList_mk []
  have h45 : (ByteArray.mk #[45]).toList = [45] := ByteArray.toList_mk [45]
  have hb2 : -1000000000000000 < n ∧ n < 1000000000000000 := hb
  clear hb
  by_cases hn : 0 ≤ n
  · have hn0 : ¬ n < 0 := by omega
    obtain ⟨n0, hn0e⟩ : ∃ n0, n0 = n := ⟨_, rfl⟩
    have HN0 := Lib.hid hn0e
    clear hn0e
    go_enter Tryz.func58, Tryz.ntmps58
    go_wp2_with fail
    go_loopw [0, 4] (fun tt o wr => ∃ (u : Int) (l : List Int) (vo : Value), vo = o ∧ tt = .int .i64 u ∧ 0 ≤ u ∧ u ≤ n ∧ Hid (OI wr w.heap.size o l) ∧ Hid (Below w.heap.size w wr) ∧ Hid (Dig l) ∧ Hid (dval l + p10 l.length * u = n) ∧ Hid (u = 0 → Can l)) (fun t _ _ => (intOf t).natAbs)
    case atStart => exact ⟨n, [], _, rfl, rfl, hn, Int.le_refl _, OI.nil_ _ _, Below.refl _ _, dig_nil, by simp [Hid, dval, p10], fun _ => .inl rfl⟩
    case round =>
      obtain ⟨u, l, vo, rfl, rfl, hu0, hun, ho, hbw, hd, hv, hc⟩ := hrel
      by_cases hz : u = 0
      · subst hz
        have hvl : dval l = n := by have := hv.out; omega
        have hsg : sgZ l false = n := hvl
        have HT := Lib.hid (zText_any vo l false wr ho.out.rv hd.out (by
          have := can_len hd.out (hc.out rfl) (k := 15) (by rw [p15]; omega)
          omega))
        have HZ := Lib.hid (zs_text (m := false) hd.out (hc.out rfl))
        rw [hsg] at HZ
        clear hvl hsg
        go_wp2_with fail
        refine HT.out.mono ?_
        rintro e w2 ⟨rfl, hb2'⟩
        have HB2 := Lib.hid (hbw.out.trans (hb2'.mono hbw.out.size))
        clear hb2'
        go_wp2
        go_ret
        exact ⟨_, rfl, HB2.out, HZ.out⟩
      · have hu1 : 0 < u := by omega
        obtain ⟨s1, s2, s3⟩ := of_step hd.out hu1 hv.out
        have hl14 := of_len hd.out hu1 hv.out hb2.2
        have S1 := Lib.hid s1
        have S2 := Lib.hid s2
        have S3 := Lib.hid s3
        have hr := rem_at (s := u) hu0
        have hq := quo_at (s := u) hu0
        have hrn : ¬ u % 10 < 0 := by omega
        have hrb : 0 ≤ u % 10 ∧ u % 10 ≤ 9 := by omega
        have hqb : 0 ≤ u / 10 ∧ u / 10 ≤ u ∧ u / 10 < u := by omega
        clear s1 s2 s3
        obtain ⟨hov, hrv, hfin⟩ := OI.snoc ho.out (u%10) hbw.out
        have HOv := Lib.hid hov
        have HRv := Lib.hid hrv
        have HFin := Lib.hid hfin
        have hszB := hbw.out.size
        clear hov hrv hfin
        generalize u % 10 = r at *
        generalize u / 10 = q at *
        go_wp2_with (at_builtin; refine wpList_appendV _ rfl _ _ _ rfl 3 i0 _ 8 Tryz.underlying25 hi hz0 hz1 hz2 rfl w.heap.size _ _ rfl HOv.out _ _ rfl HRv.out (one_ones rfl) (by first | omega | (simp; omega)) (by first | omega | (simp; omega)) (by first | omega | (simp; omega)) ?_; intro v1 w3 hown hg hat; obtain ⟨hf1, hf2⟩ := HFin.out v1 w3 hown hg; have HF1 := Lib.hid hf1; have HF2 := Lib.hid hf2; clear hown hg hat hf1 hf2)
        go_wp2
        go_roundw
        case rel => exact ⟨q, _, _, rfl, rfl, hqb.1, by omega, HF1.out, HF2.out, S1.out, S2.out, S3.out⟩
        case measure => simp [intOf] <;> omega
  · have hn0 : n < 0 := by omega
    obtain ⟨N, rfl⟩ : ∃ N, n = -N := ⟨-n, by omega⟩
    go_enter Tryz.func58, Tryz.ntmps58
    go_wp2_with fail
    go_loopw [0, 4] (fun tt o wr => ∃ (u : Int) (l : List Int) (vo : Value), vo = o ∧ tt = .int .i64 (-u) ∧ 0 ≤ u ∧ u ≤ N ∧ Hid (OI wr w.heap.size o l) ∧ Hid (Below w.heap.size w wr) ∧ Hid (Dig l) ∧ Hid (dval l + p10 l.length * u = N) ∧ Hid (u = 0 → Can l)) (fun t _ _ => (intOf t).natAbs)
    case atStart => exact ⟨N, [], _, rfl, rfl, by omega, Int.le_refl _, OI.nil_ _ _, Below.refl _ _, dig_nil, by simp [Hid, dval, p10], fun _ => .inl rfl⟩
    case round =>
      obtain ⟨u, l, vo, rfl, rfl, hu0, hun, ho, hbw, hd, hv, hc⟩ := hrel
      by_cases hz : u = 0
      · subst hz
        have hvl : dval l = N := by have := hv.out; omega
        have hsg : sgZ l true = -N := by unfold sgZ; rw [if_pos rfl, hvl]
        have hll : 1 ≤ l.length := by
          rcases Nat.eq_zero_or_pos l.length with h | h
          · rw [List.eq_nil_of_length_eq_zero h] at hvl; simp [dval] at hvl; omega
          · exact h
        have HT := Lib.hid (zText_any vo l true wr ho.out.rv hd.out (by
          have := can_len hd.out (hc.out rfl) (k := 15) (by rw [p15]; omega)
          omega))
        have HZ := Lib.hid (zs_text (m := true) hd.out (hc.out rfl))
        obtain ⟨g, cap, rfl⟩ := OV.shape_ ho.out (by simpa using hll)
        simp only [List.length_map] at HT ⊢
        have hlne : ((l.length : Int) == 0) = false := by rw [beq_eq_false_iff_ne]; omega
        rw [hsg] at HZ
        clear hvl hsg
        go_wp2_with fail
        refine HT.out.mono ?_
        rintro e w2 ⟨rfl, hb2'⟩
        have HB2 := Lib.hid (hbw.out.trans (hb2'.mono hbw.out.size))
        clear hb2'
        go_wp2
        go_ret
        exact ⟨_, rfl, HB2.out, HZ.out⟩
      · have hu1 : 0 < u := by omega
        obtain ⟨s1, s2, s3⟩ := of_step hd.out hu1 hv.out
        have hl14 := of_len hd.out hu1 hv.out (by omega)
        have S1 := Lib.hid s1
        have S2 := Lib.hid s2
        have S3 := Lib.hid s3
        have hr := neg_rem hu0
        have hq := neg_quo hu0
        have hrb : 0 ≤ u % 10 ∧ u % 10 ≤ 9 := by omega
        have hqb : 0 ≤ u / 10 ∧ u / 10 ≤ u ∧ u / 10 < u := by omega
        clear s1 s2 s3
        obtain ⟨hov, hrv, hfin⟩ := OI.snoc ho.out (u%10) hbw.out
        have HOv := Lib.hid hov
        have HRv := Lib.hid hrv
        have HFin := Lib.hid hfin
        have hszB := hbw.out.size
        clear hov hrv hfin
        generalize u % 10 = r at *
        generalize u / 10 = q at *
        by_cases hr0 : r = 0
        · subst hr0
          go_wp2_with (at_builtin; refine wpList_appendV _ rfl _ _ _ rfl 3 i0 _ 8 Tryz.underlying25 hi hz0 hz1 hz2 rfl w.heap.size _ _ rfl HOv.out _ _ rfl HRv.out (one_ones rfl) (by first | omega | (simp; omega)) (by first | omega | (simp; omega)) (by first | omega | (simp; omega)) ?_; intro v1 w3 hown hg hat; obtain ⟨hf1, hf2⟩ := HFin.out v1 w3 hown hg; have HF1 := Lib.hid hf1; have HF2 := Lib.hid hf2; clear hown hg hat hf1 hf2)
          go_wp2
          go_roundw
          case rel => exact ⟨q, _, _, rfl, rfl, hqb.1, by omega, HF1.out, HF2.out, S1.out, S2.out, S3.out⟩
          case measure => simp [intOf] <;> omega
        · have hr1 : -r < 0 := by omega
          go_wp2_with (at_builtin; refine wpList_appendV _ rfl _ _ _ rfl 3 i0 _ 8 Tryz.underlying25 hi hz0 hz1 hz2 rfl w.heap.size _ _ rfl HOv.out _ _ rfl HRv.out (one_ones rfl) (by first | omega | (simp; omega)) (by first | omega | (simp; omega)) (by first | omega | (simp; omega)) ?_; intro v1 w3 hown hg hat; obtain ⟨hf1, hf2⟩ := HFin.out v1 w3 hown hg; have HF1 := Lib.hid hf1; have HF2 := Lib.hid hf2; clear hown hg hat hf1 hf2)
          go_wp2
          go_roundw
          case rel => exact ⟨q, _, _, rfl, rfl, hqb.1, by omega, HF1.out, HF2.out, S1.out, S2.out, S3.out⟩
          case measure => simp [intOf] <;> omega
end Go.Proofs.YtefggpdobjboeaaGreat

namespace Go.Proofs.YtefggpdobjboeaaGreat
open Go.RowKit Go.Shelf

/-- A call of a Go function by its contract, at a step of a region that draws its order. -/
theorem step_callZ {P : Program} {w : World} {ops : Array Oper} {o : Oper} {a : Act} {K : Act → World → Prop} {Q : Exit → Act → World → Prop} {E : Prop} (hgd : o.guard = none) {f : FuncId} {fn : Func} {xs : Array Operand} {ats : Array TypeId}
    (hop : o.op = .call { callee := .value (.func f), args := xs, argTypes := ats }) (hf : P.funcs[f]? = some fn) (hname : (fn.name == "runtime.NumGoroutine") = false) (hb : fn.body.isNone = false)
    (args : Array Value) (ha : xs.map a.eval = args) (R : Value → World → Prop) (hc : Calls P f args w fun e w' => ∃ v, e = .returned v ∧ R v w') (h : ∀ v w', R v w' → K (a.put o.dst v) w') :
    if Region.wanted o (yielded ops a.tmps) = true then Oper.wp P o a w K Q else E := by
  have hw : Region.wanted o (yielded ops a.tmps) = true := by simp [Region.wanted, hgd]
  rw [if_pos hw]
  have h1 : ¬ fn.name = "runtime.NumGoroutine" := by simpa using hname
  have h2 : ¬ fn.body = none := by cases hx : fn.body <;> simp_all
  have hrun : (execOp a.eval o).run P w = .ok (.enter f args) w := by
    subst ha
    unfold execOp
    simp [hop, resolve, Deferred.ofValue, invoke, callFunc, hf, h1, h2, Act.eval]
  unfold Oper.wp
  rw [hrun, Oper.upon_enter]
  refine hc.mono fun e w' hh => ?_
  obtain ⟨v, rfl, hr⟩ := hh
  exact h v w' hr
/-- The slice value v reads as texts of the integers zs. -/
def RZ (w : World) (v : Value) (zs : List Int) : Prop := ∃ us, RV w v us ∧ us.length = zs.length ∧ ∀ (k : Nat) (z : Int), zs[k]? = some z → ∃ u, us[k]? = some u ∧ ZS u z
def OZ (w : World) (B : Nat) (v : Value) (zs : List Int) : Prop := ∃ us, OV w B 96 v us ∧ us.length = zs.length ∧ ∀ (k : Nat) (z : Int), zs[k]? = some z → ∃ u, us[k]? = some u ∧ ZS u z
theorem RZ.below {w w' : World} {v : Value} {zs : List Int} (h : RZ w v zs) (hb : Below w.heap.size w w') : RZ w' v zs := by
  obtain ⟨us, h1, h2, h3⟩ := h
  exact ⟨us, h1.below hb, h2, h3⟩
theorem OZ.rz {w : World} {B : Nat} {v : Value} {zs : List Int} (h : OZ w B v zs) : RZ w v zs := by
  obtain ⟨us, h1, h2, h3⟩ := h
  exact ⟨us, h1.rv, h2, h3⟩
theorem OZ.below {w w' : World} {B : Nat} {v : Value} {zs : List Int} (h : OZ w B v zs) (hb : Below w.heap.size w w') : OZ w' B v zs := by
  obtain ⟨us, h1, h2, h3⟩ := h
  exact ⟨us, h1.below hb, h2, h3⟩
theorem OZ.mono {w : World} {B B' : Nat} {v : Value} {zs : List Int} (h : OZ w B v zs) (hB : B' ≤ B) : OZ w B' v zs := by
  obtain ⟨us, h1, h2, h3⟩ := h
  exact ⟨us, h1.mono hB, h2, h3⟩
theorem OZ.nil_ (w : World) (B : Nat) : OZ w B (.slice none 0 0) [] := ⟨[], OV.nil_ _ _ _, rfl, fun k z h => by simp at h⟩
theorem RZ.open_ {w : World} {v : Value} {zs : List Int} (h : RZ w v zs) : ∃ A c, v = .slice A zs.length c ∧ zs.length ≤ c ∧ zs.length ≤ 17592186044415 ∧
    ∀ k, k < zs.length → ∃ ad u, A = some ad ∧ ad.block < w.heap.size ∧ w.cell? (ad.add k) = some u ∧ ZS u (zs.getD k 0) := by
  obtain ⟨us, ⟨A, c, h1, h2, h3, h4⟩, hl, hu⟩ := h
  rw [hl] at h1 h2 h3 h4
  refine ⟨A, c, h1, h2, h3, fun k hk => ?_⟩
  obtain ⟨ad, e, hb, hc⟩ := h4 k hk
  obtain ⟨u, hu1, hr⟩ := hu k zs[k] (List.getElem?_eq_getElem hk)
  refine ⟨ad, u, e, hb, hc.trans hu1, ?_⟩
  rw [List.getD_eq_getElem?_getD, List.getElem?_eq_getElem hk]; exact hr
theorem OZ.snoc {W : World} {B : Nat} {o u : Value} {zs : List Int} {z : Int} (h : OZ W B o zs) (hz : ZS u z) :
    ∃ us : List Value, us.length = zs.length ∧ OV (W.alloc (.cells #[u] 96)) B 96 o us ∧ RV (W.alloc (.cells #[u] 96)) (.slice (some ⟨W.heap.size, 0, none⟩) 1 1) [u] ∧
      ∀ v1 w3, OV w3 B 96 v1 (us ++ [u]) → OZ w3 B v1 (zs ++ [z]) := by
  obtain ⟨us, h1, h2, h3⟩ := h
  refine ⟨us, h2, h1.below (below_alloc W _), RV.ones W _ _, fun v1 w3 hown => ⟨us ++ [u], hown, by simp [h2], fun k y hk => ?_⟩⟩
  by_cases hl : k < zs.length
  · rw [List.getElem?_append_left hl] at hk
    obtain ⟨u', h4, h5⟩ := h3 k y hk
    exact ⟨u', by rw [List.getElem?_append_left (by omega)]; exact h4, h5⟩
  · rw [List.getElem?_append_right (by omega)] at hk
    by_cases e : k = zs.length
    · subst e
      simp only [Nat.sub_self, List.getElem?_cons_zero, Option.some.injEq] at hk
      subst hk
      exact ⟨u, by rw [List.getElem?_append_right (by omega), h2]; simp, hz⟩
    · rw [List.getElem?_eq_none (by simp; omega)] at hk; cases hk
theorem str_info : (Tryz.prog.info? 96).map (fun i => (i.zero, i.size, i.bytes)) = some (some (.string ByteArray.empty), 1, 16) := by kernel_rfl
/-- A matrix value, row by row. -/
def MV (w : World) (v : Value) (r c : Nat) (zs : List Int) : Prop := ∃ vc, v = .agg #[.int .i64 (r : Int), .int .i64 (c : Int), vc] ∧ RZ w vc zs
/-- The same, its texts the call's own. -/
def MO (w : World) (B : Nat) (v : Value) (r c : Nat) (zs : List Int) : Prop := ∃ vc, v = .agg #[.int .i64 (r : Int), .int .i64 (c : Int), vc] ∧ OZ w B vc zs
theorem MO.mv {w : World} {B : Nat} {v : Value} {r c : Nat} {zs : List Int} (h : MO w B v r c zs) : MV w v r c zs := by
  obtain ⟨vc, h1, h2⟩ := h
  exact ⟨vc, h1, h2.rz⟩
theorem MV.below {w w' : World} {v : Value} {r c : Nat} {zs : List Int} (h : MV w v r c zs) (hb : Below w.heap.size w w') : MV w' v r c zs := by
  obtain ⟨vc, h1, h2⟩ := h
  exact ⟨vc, h1, h2.below hb⟩
set_option maxRecDepth 100000 in
set_option maxHeartbeats 4000000 in
theorem mAt_any (vm : Value) (r c : Nat) (zs : List Int) (i j : Nat) (w : World) (hm : MV w vm r c zs) (hk : i * c + j < zs.length) (hl : zs.length ≤ 1000) :
    Calls Tryz.prog 141 #[vm, .int .i64 (i : Int), .int .i64 (j : Int)] w fun e w' => ∃ v, e = .returned v ∧ Below w.heap.size w w' ∧ ZS v (zs.getD (i * c + j) 0) := by
  obtain ⟨vc, rfl, hz⟩ := hm
  obtain ⟨A, cap, rfl, hlc, hlb, hcell⟩ := hz.open_
  obtain ⟨ad, u, rfl, hadb, hcl, hzs⟩ := hcell (i * c + j) hk
  have hba := below_alloc w (.cells #[.int .i64 (r : Int), .int .i64 (c : Int), .slice (some ad) zs.length cap] 132)
  have hbx := BL.new' w #[.int .i64 (r : Int), .int .i64 (c : Int), .slice (some ad) zs.length cap] 132
  have c0 := hbx.cell 0
  have c1 := hbx.cell 1
  have c2 := hbx.cell 2
  have hcl2 := (hba.cell (by rw [block_of_add]; exact hadb)).trans hcl
  have HB := Lib.hid hba
  have HZ := Lib.hid hzs
  obtain ⟨k, hkk⟩ : ∃ k, k = i * c + j := ⟨_, rfl⟩
  rw [← hkk] at hcl2 hk
  have hp : (i : Int) * (c : Int) = ((i * c : Nat) : Int) := by simp
  obtain ⟨p, hpp⟩ : ∃ p, p = i * c := ⟨_, rfl⟩
  rw [← hpp] at hp hkk
  have hs : (p : Int) + (j : Int) = (k : Int) := by omega
  have hpb : p ≤ 1000 := by omega
  have hcb : (k : Int) < zs.length := by omega
  clear hcell hz hba hbx hcl hzs hadb hpp hkk
  go_enter Tryz.func141, Tryz.ntmps141
  go_wp2
  go_ret
  exact ⟨_, rfl, HB.out, HZ.out⟩
end Go.Proofs.YtefggpdobjboeaaGreat

namespace Go.Proofs.YtefggpdobjboeaaGreat
open Go.RowKit Go.Shelf

theorem enumK_ex {p : List Int → Bool} {f : List Int → List (List Int)} {v : Nat} {cs x : List Int} : ∀ fuel k, x ∈ enumK p f v cs fuel k → ∃ j : Nat, k ≤ j ∧ p (cs.set v (j : Int)) = true ∧ x ∈ f (cs.set v (j : Int)) := by
  intro fuel
  induction fuel with
  | zero => intro k h; simp [enumK] at h
  | succ fuel ih =>
    intro k h
    rw [enumK] at h
    by_cases hp : p (cs.set v (k : Int)) = true
    · rw [if_pos hp] at h
      rcases List.mem_append.1 h with h | h
      · exact ⟨k, Nat.le_refl _, hp, h⟩
      · obtain ⟨j, h1, h2⟩ := ih (k + 1) h
        exact ⟨j, by omega, h2⟩
    · rw [if_neg hp] at h; cases h
theorem enumK_mem {p : List Int → Bool} {f : List Int → List (List Int)} {v : Nat} {cs x : List Int} {j : Nat} (hx : x ∈ f (cs.set v (j : Int))) : ∀ fuel k, k ≤ j → j < k + fuel → (∀ i : Nat, i ≤ j → p (cs.set v (i : Int)) = true) → x ∈ enumK p f v cs fuel k := by
  intro fuel
  induction fuel with
  | zero => intro k h1 h2; omega
  | succ fuel ih =>
    intro k h1 h2 hp
    rw [enumK, if_pos (hp k h1)]
    by_cases e : k = j
    · subst e; exact List.mem_append_left _ hx
    · exact List.mem_append_right _ (ih (k + 1) (by omega) (by omega) hp)
theorem enumF_fix {p : List Int → Bool} {q : Nat} : ∀ (m v : Nat) (cs x : List Int), v + m ≤ cs.length → x ∈ enumF p q m v cs → x.length = cs.length ∧ ∀ u, u < v ∨ u = q → x.getD u 0 = cs.getD u 0 := by
  intro m
  induction m with
  | zero => intro v cs x _ h; simp only [enumF, List.mem_singleton] at h; subst h; exact ⟨rfl, fun _ _ => rfl⟩
  | succ m ih =>
    intro v cs x hl h
    rw [enumF] at h
    by_cases e : v = q
    · rw [if_pos e] at h
      obtain ⟨h1, h2⟩ := ih (v + 1) cs x (by omega) h
      exact ⟨h1, fun u hu => h2 u (by omega)⟩
    · rw [if_neg e] at h
      obtain ⟨j, -, -, hj⟩ := enumK_ex _ _ h
      obtain ⟨h1, h2⟩ := ih (v + 1) _ x (by simp; omega) hj
      refine ⟨by simpa using h1, fun u hu => ?_⟩
      rw [h2 u (by omega), getD_set (by omega), if_neg (by omega)]
theorem enumF_sound {p : List Int → Bool} {q : Nat} : ∀ (m v : Nat) (cs x : List Int), v + m = cs.length → p cs = true → (∀ u, u < v → 0 ≤ cs.getD u 0) → 0 ≤ cs.getD q 0 → x ∈ enumF p q m v cs → p x = true ∧ ∀ u, u < cs.length → 0 ≤ x.getD u 0 := by
  intro m
  induction m with
  | zero => intro v cs x hl hp h0 _ h; simp only [enumF, List.mem_singleton] at h; subst h; exact ⟨hp, fun u hu => h0 u (by omega)⟩
  | succ m ih =>
    intro v cs x hl hp h0 hq h
    rw [enumF] at h
    by_cases e : v = q
    · rw [if_pos e] at h
      exact ih (v + 1) cs x (by omega) hp (fun u hu => by
        by_cases c : u = v
        · rw [c, e]; exact hq
        · exact h0 u (by omega)) hq h
    · rw [if_neg e] at h
      obtain ⟨j, -, hpj, hj⟩ := enumK_ex _ _ h
      have := ih (v + 1) _ x (by simp; omega) hpj (fun u hu => by
        rw [getD_set (by omega)]; split
        · omega
        · exact h0 u (by omega)) (by rw [getD_set (by omega), if_neg (fun h => e h.symm)]; exact hq) hj
      simpa using this
theorem enumF_complete {p : List Int → Bool} {q n : Nat} {x : List Int} (hx : x.length = n) (hx0 : ∀ u, u < n → 0 ≤ x.getD u 0) (hx64 : ∀ u, u < n → x.getD u 0 < 64) (hdown : ∀ y : List Int, y.length = n → (∀ u, u < n → y.getD u 0 ≤ x.getD u 0) → p y = true) :
    ∀ (m v : Nat) (cs : List Int), v + m = n → cs.length = n → (∀ u, u < v ∨ u = q → x.getD u 0 = cs.getD u 0) → (∀ u, v ≤ u → u ≠ q → cs.getD u 0 = 0) → x ∈ enumF p q m v cs := by
  intro m
  induction m with
  | zero =>
    intro v cs hv hl h _
    simp only [enumF, List.mem_singleton]
    exact list_eq hx hl fun u hu => h u (.inl (by omega))
  | succ m ih =>
    intro v cs hv hl h hz
    rw [enumF]
    by_cases e : v = q
    · rw [if_pos e]
      exact ih (v + 1) cs (by omega) hl (fun u hu => h u (by omega)) fun u hu hne => hz u (by omega) hne
    · rw [if_neg e]
      have h0 := hx0 v (by omega)
      have h64 := hx64 v (by omega)
      refine enumK_mem (j := (x.getD v 0).toNat) ?_ 64 0 (by omega) (by omega) fun i hi => hdown _ (by simpa using hl) fun u hu => ?_
      · refine ih (v + 1) _ (by omega) (by simpa using hl) (fun u hu => ?_) fun u hu hne => ?_
        · rw [getD_set (by omega)]
          by_cases c : u = v
          · rw [if_pos c, c]; omega
          · rw [if_neg c]; exact h u (by omega)
        · rw [getD_set (by omega), if_neg (by omega)]; exact hz u (by omega) hne
      · rw [getD_set (by omega)]
        by_cases c : u = v
        · rw [if_pos c, c]; omega
        · rw [if_neg c]
          by_cases c2 : u < v ∨ u = q
          · rw [h u c2]; exact Int.le_refl _
          · rw [hz u (by omega) (by omega)]; exact hx0 u hu
theorem enumK_nodup {p : List Int → Bool} {f : List Int → List (List Int)} {v : Nat} {cs : List Int} (h1 : ∀ j : Nat, (f (cs.set v (j : Int))).Nodup) (h2 : ∀ (j : Nat) (x : List Int), x ∈ f (cs.set v (j : Int)) → x.getD v 0 = (j : Int)) : ∀ fuel k, (enumK p f v cs fuel k).Nodup := by
  intro fuel
  induction fuel with
  | zero => intro k; simp [enumK]
  | succ fuel ih =>
    intro k
    rw [enumK]
    split
    · refine List.nodup_append.2 ⟨h1 k, ih (k + 1), fun x hx y hy e => ?_⟩
      subst e
      obtain ⟨j, hj, -, hxj⟩ := enumK_ex _ _ hy
      have a := h2 k x hx
      have b := h2 j x hxj
      omega
    · simp
theorem enumF_nodup {p : List Int → Bool} {q : Nat} : ∀ (m v : Nat) (cs : List Int), v + m ≤ cs.length → (enumF p q m v cs).Nodup := by
  intro m
  induction m with
  | zero => intro v cs _; simp [enumF]
  | succ m ih =>
    intro v cs hl
    rw [enumF]
    split
    · exact ih (v + 1) cs (by omega)
    · refine enumK_nodup (fun j => ih (v + 1) _ (by simp; omega)) (fun j x hx => ?_) 64 0
      have := (enumF_fix m (v + 1) _ x (by simp; omega) hx).2 v (.inl (by omega))
      rw [this, getD_set (by omega), if_pos rfl]
theorem expand_nodup (x : List Int) (T : Nat) : (expand x T).Nodup := by
  unfold expand
  refine List.pairwise_map.2 (List.Pairwise.imp (fun {a b} h e => ?_) (List.nodup_range (n := T)))
  have := List.append_cancel_left e
  simp at this
  exact h (by omega)
theorem boxK_nodup (tops : List Int) (k : Nat) : (boxK tops k).Nodup := by
  induction k with
  | zero => simp [boxK]
  | succ k ih =>
    simp only [boxK, nextR, List.take_length]
    refine List.pairwise_flatMap.2 ⟨fun x _ => expand_nodup x _, List.Pairwise.imp (fun {a b} h x hx y hy e => ?_) ih⟩
    unfold expand at hx hy
    obtain ⟨s, -, rfl⟩ := List.mem_map.1 hx
    obtain ⟨t, -, e2⟩ := List.mem_map.1 hy
    rw [← e] at e2
    exact h (List.append_inj_left' e2 rfl).symm
theorem calms_nodup (n : Nat) (es : List Tri) : (calmsL n 0 es).Nodup := List.Pairwise.filter _ (boxK_nodup _ _)
theorem tight_down {n q : Nat} {w : Nat → Nat → Int} {x y : Nat → Int} (h : Tight n w q x) (hle : ∀ v, v < n → y v ≤ x v) : Tight n w q y := fun A hA hs => by
  obtain ⟨v, hv, hvA, hlt⟩ := h A hA hs
  exact ⟨v, hv, hvA, by have := hle v hv; omega⟩
theorem confs_iff {n : Nat} {es : List Tri} (hr : Rt n es) {x : List Int} : x ∈ confsL n 0 es ↔ x ∈ calmsL n 0 es := by
  have hn := hr.n1
  have hzl : (zerosL n).length = n := by simp [zerosL]
  rw [calms_iff hr]
  unfold confsL
  constructor
  · intro h
    obtain ⟨h1, h2⟩ := enumF_fix n 0 _ x (by omega) h
    obtain ⟨h3, h4⟩ := enumF_sound n 0 _ x (by omega) ((tightB_iff (by omega)).2 (zeros_red hr).tight) (fun u hu => by omega) (by rw [zerosL_get]; omega) h
    exact ⟨by omega, by rw [h2 0 (.inr rfl), zerosL_get], fun v hv => h4 v (by omega), (tightB_iff (by omega)).1 h3⟩
  · rintro ⟨h1, h2, h3, h4⟩
    refine enumF_complete h1 h3 (fun u hu => ?_) (fun y hy hle => (tightB_iff (by omega)).2 (tight_down h4 fun v hv => hle v hv)) n 0 _ (by omega) hzl (fun u hu => ?_) fun u _ _ => zerosL_get _ _
    · by_cases e : u = 0
      · rw [e, h2]; omega
      · have := tight_lt hr h4 hu e; omega
    · rw [zerosL_get]
      rcases hu with hu | hu
      · omega
      · rw [hu, h2]
theorem confs_perm {n : Nat} {es : List Tri} (hr : Rt n es) : (confsL n 0 es).Perm (calmsL n 0 es) := by
  have hzl : (zerosL n).length = n := by simp [zerosL]
  exact (List.perm_ext_iff_of_nodup (enumF_nodup n 0 _ (by omega)) (calms_nodup n es)).2 fun x => confs_iff hr
/-! How many. -/
def prodN : Nat → (Nat → Nat) → Nat
  | 0, _ => 1
  | k + 1, f => prodN k f * f k
theorem box_prod (tops : List Int) (k : Nat) : (boxK tops k).length = prodN k (cntT tops) := by
  induction k with
  | zero => rfl
  | succ k ih => rw [boxK_len, ih, prodN]
theorem four_mul (a b : Nat) : 4 * (a * b) ≤ (a + b) * (a + b) := by
  rcases Nat.le_total a b with h | h
  · obtain ⟨c, rfl⟩ := Nat.le.dest h
    grind
  · obtain ⟨c, rfl⟩ := Nat.le.dest h
    grind
theorem prod4 (a b c d : Nat) : 256 * (a * b * (c * d)) ≤ (a + b + (c + d)) * (a + b + (c + d)) * ((a + b + (c + d)) * (a + b + (c + d))) := by
  have h1 := four_mul a b
  have h2 := four_mul c d
  have h3 := four_mul (a + b) (c + d)
  have h4 := Nat.mul_le_mul h1 h2
  have h5 := Nat.mul_le_mul h3 h3
  have e : 16 * (4 * (a * b) * (4 * (c * d))) = 256 * (a * b * (c * d)) := by grind
  have e2 : 16 * ((a + b) * (a + b) * ((c + d) * (c + d))) = 4 * ((a + b) * (c + d)) * (4 * ((a + b) * (c + d))) := by grind
  calc 256 * (a * b * (c * d)) = 16 * (4 * (a * b) * (4 * (c * d))) := e.symm
    _ ≤ 16 * ((a + b) * (a + b) * ((c + d) * (c + d))) := Nat.mul_le_mul_left _ h4
    _ = _ := e2
    _ ≤ _ := h5
theorem five_dec : ∀ s, s < 34 → ∀ e, e < 34 - s → e * (s * s * (s * s)) ≤ 256 * 16384 := by decide +kernel
theorem prod5 {a b c d e : Nat} (h : a + b + c + d + e ≤ 33) : a * b * c * d * e ≤ 16384 := by
  have h1 := prod4 a b c d
  have h2 := five_dec (a + b + (c + d)) (by omega) e (by omega)
  have h3 := Nat.mul_le_mul_left e h1
  have e1 : e * (256 * (a * b * (c * d))) = 256 * (a * b * c * d * e) := by grind
  omega
/-- A product of at most five numbers whose sum is at most 33. -/
theorem prod_four {a b c d : Nat} (h : a + b + c + d ≤ 33) : a * b * c * d ≤ 16384 := by
  have h1 := prod4 a b c d
  have h2 : a + b + (c + d) ≤ 33 := by omega
  have h3 := Nat.mul_le_mul (Nat.mul_le_mul h2 h2) (Nat.mul_le_mul h2 h2)
  have e1 : a * b * (c * d) = a * b * c * d := by grind
  rw [e1] at h1
  generalize a * b * c * d = p at *
  omega
theorem prod_three {a b c : Nat} (h : a + b + c ≤ 33) : a * b * c ≤ 16384 := by
  have h1 := prod4 a b c 1
  have h2 : a + b + (c + 1) ≤ 34 := by omega
  have h3 := Nat.mul_le_mul (Nat.mul_le_mul h2 h2) (Nat.mul_le_mul h2 h2)
  have e1 : a * b * (c * 1) = a * b * c := by grind
  rw [e1] at h1
  generalize a * b * c = p at *
  omega
theorem prod_two {a b : Nat} (h : a + b ≤ 33) : a * b ≤ 16384 := by
  have h1 := four_mul a b
  have h3 := Nat.mul_le_mul h h
  generalize a * b = p at *
  omega
theorem prod_le {k : Nat} (hk : k ≤ 5) (f : Nat → Nat) (hs : (sumN k fun v => (f v : Int)) ≤ 33) : prodN k f ≤ 16384 := by
  match k, hk, hs with
  | 0, _, _ => simp [prodN]
  | 1, _, hs => simp only [prodN, sumN, Nat.one_mul] at *; omega
  | 2, _, hs => simp only [prodN, sumN, Nat.one_mul] at *; exact prod_two (by omega)
  | 3, _, hs => simp only [prodN, sumN, Nat.one_mul] at *; exact prod_three (by omega)
  | 4, _, hs => simp only [prodN, sumN, Nat.one_mul] at *; exact prod_four (by omega)
  | 5, _, hs => simp only [prodN, sumN, Nat.one_mul] at *; exact prod5 (by omega)
theorem ind_sum (n : Nat) (M : Int) {a : Nat} (ha : a < n) : (sumN n fun v => if v = a then M else 0) = M := by
  rw [sumN_one ha fun i _ hne => if_neg hne, if_pos rfl]
theorem deg_le (n : Nat) : ∀ es : List Tri, (∀ t ∈ es, 0 ≤ t.1 ∧ t.1 < n ∧ 0 ≤ t.2.1 ∧ t.2.1 < n ∧ 0 ≤ t.2.2) → (sumN n fun v => sumN n fun u => wgt es u v) ≤ 2 * multS es := by
  intro es
  induction es with
  | nil => intro _; rw [sumN_zero (f := fun v => sumN n fun u => wgt [] u v) fun i _ => sumN_zero fun u _ => rfl]; simp [multS]
  | cons t r ih =>
    intro h
    have h1 := ih fun s hs => h s (List.mem_cons_of_mem _ hs)
    obtain ⟨a0, a1, b0, b1, m0⟩ := h t (by simp)
    have e : ∀ v, (sumN n fun u => wgt (t :: r) u v) = (sumN n fun u => ew t u v) + sumN n fun u => wgt r u v := fun v => sumN_add n _ _
    simp only [e, sumN_add, multS_cons]
    have hb : ∀ v, v < n → (sumN n fun u => ew t u v) ≤ (if v = t.1.toNat then t.2.2 else 0) + if v = t.2.1.toNat then t.2.2 else 0 := fun v _ => by
      have hu : ∀ u, u < n → ew t u v ≤ (if u = t.2.1.toNat then (if v = t.1.toNat then t.2.2 else 0) else 0) + if u = t.1.toNat then (if v = t.2.1.toNat then t.2.2 else 0) else 0 := fun u _ => by
        unfold ew
        split
        · rename_i hc
          obtain ⟨hne, hc | hc⟩ := hc
          · (repeat' split) <;> omega
          · (repeat' split) <;> omega
        · (repeat' split) <;> omega
      have := sumN_mono hu
      rw [sumN_add, ind_sum n _ (by omega), ind_sum n _ (by omega)] at this
      exact this
    have := sumN_mono hb
    rw [sumN_add, ind_sum n _ (by omega), ind_sum n _ (by omega)] at this
    omega
theorem val_sum {n : Nat} {es : List Tri} (hr : Rt n es) : (sumN n fun v => valK es v n) ≤ 18 := by
  have h := deg_le n es fun t ht => by
    have := hr.ed.lo t ht
    have := hr.ed.mult t ht
    omega
  have := hr.m9
  have e : (sumN n fun v => valK es v n) = sumN n fun v => sumN n fun u => wgt es u v := sumN_congr fun v _ => by
    unfold valK
    refine sumN_congr fun u _ => ?_
    split
    · rename_i c; rw [c, wgt_self]
    · rfl
  omega
theorem prodN_shift (m : Nat) (f : Nat → Nat) : prodN (m + 1) f = f 0 * prodN m fun v => f (v + 1) := by
  induction m with
  | zero => simp [prodN]
  | succ m ih => rw [prodN, ih, prodN]; grind
theorem sumN_shift (m : Nat) (f : Nat → Int) : sumN (m + 1) f = f 0 + sumN m fun v => f (v + 1) := by
  induction m with
  | zero => simp [sumN]
  | succ m ih => rw [sumN, ih, sumN]; omega
theorem calms_few {n : Nat} {es : List Tri} (hr : Rt n es) : (calmsL n 0 es).length ≤ 16384 := by
  have hn := hr.n1
  have hn6 := hr.n6
  refine Nat.le_trans (List.length_filter_le _ _) ?_
  rw [box_prod]
  obtain ⟨m, rfl⟩ : ∃ m, n = m + 1 := ⟨n - 1, by omega⟩
  rw [prodN_shift]
  have h0 : cntT (topL (m + 1) es 0) 0 = 1 := by unfold cntT; rw [topL_get es 0 (by omega), if_pos rfl]; rfl
  rw [h0, Nat.one_mul]
  refine prod_le (by omega) _ ?_
  have hv := val_sum hr
  rw [sumN_shift] at hv
  have h1 := (valK_le hr.ed 0 (m + 1)).1
  have h2 : (sumN m fun v => ((cntT (topL (m + 1) es 0) (v + 1) : Nat) : Int)) = sumN m fun v => valK es (v + 1) (m + 1) := sumN_congr fun v hv => by
    unfold cntT
    rw [topL_get es 0 (by omega), if_neg (by omega)]
    have := (valK_le hr.ed (v + 1) (m + 1)).1
    omega
  omega
theorem cf_ok {m : Nat} {es : List Tri} (hr : Rt m es) : CfOk m es := by
  have hp := confs_perm hr
  have hn6 := hr.n6
  refine ⟨by rw [hp.length_eq]; exact calms_few hr, fun e => ?_, fun c hc => ?_⟩
  · have := off_calm hr (zeros_red hr)
    rw [← confs_iff hr, e] at this
    cases this
  · obtain ⟨h1, h2, h3⟩ := calm_bd hr ((confs_iff hr).1 hc)
    refine ⟨by have := hr.n1; omega, by omega, fun z hz => ?_⟩
    obtain ⟨v, hv, e⟩ := List.mem_iff_getElem.1 hz
    have := h2 v
    rw [List.getD_eq_getElem?_getD, List.getElem?_eq_getElem hv, e] at this
    simp only [Option.getD_some] at this
    omega
end Go.Proofs.YtefggpdobjboeaaGreat
