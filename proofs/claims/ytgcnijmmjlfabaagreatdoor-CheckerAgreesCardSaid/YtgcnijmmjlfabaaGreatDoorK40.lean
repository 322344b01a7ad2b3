/- Words for memory: a slice of ints that reads as a list; a slice of values; kept over whatever leaves old blocks alone.
   Contracts of the references' cut, digit, digits, order of decimal digits.
   Contract of the reference's Of for every int: its text.
   Two certificates that contradict one another: the mathematics (plain).
   Lines as words, and that no two contradict one another (plain).
   Contract of the reference's Numbers (layer 57): words, each behind a blank.
   The six texts of CheckerAgrees and that no two contradict one another (plain). -/
import Derived.Test.YtgcnijmmjlfabaaGreatDoorK27
set_option maxRecDepth 100000
set_option maxHeartbeats 16000000
namespace Go.Proofs.YtgcnijmmjlfabaaGreatDoor
open Go.RowKit

theorem RI.nil_ (w : World) : RI w (.slice none 0 0) [] := RV.nil_ w
end Go.Proofs.YtgcnijmmjlfabaaGreatDoor

namespace Go.Proofs.YtgcnijmmjlfabaaGreatDoor
open Go.RowKit Go.Shelf

theorem len_append1 (out : List Int) (z : Int) : (out ++ [z]).length = out.length + 1 := by simp
end Go.Proofs.YtgcnijmmjlfabaaGreatDoor

namespace Go.Proofs.YtgcnijmmjlfabaaGreatDoor
open Go.RowKit Go.Shelf

theorem of_step {l : List Int} {u n : Int} (hd : Dig l) (hu : 0 < u) (hv : dval l + p10 l.length * u = n) :
    Dig (l ++ [u % 10]) ∧ dval (l ++ [u % 10]) + p10 (l ++ [u % 10]).length * (u / 10) = n ∧ (u / 10 = 0 → Can (l ++ [u % 10])) := by
  refine ⟨hd.snoc (by omega) (by omega), ?_, fun h => .inr ?_⟩
  · rw [dval_snoc, len_append1, p10]
    have e : u = 10 * (u / 10) + u % 10 := by omega
    generalize u / 10 = q at *
    generalize u % 10 = r at *
    subst e
    rw [Int.mul_add] at hv
    grind
  · rw [len_append1, Nat.add_sub_cancel, getD_snoc_last]; omega
theorem neg_rem {u : Int} (h : 0 ≤ u) : (-u).tmod 10 = -(u % 10) := by rw [Int.neg_tmod, Int.tmod_eq_emod_of_nonneg h]
theorem neg_quo {u : Int} (h : 0 ≤ u) : (-u).tdiv 10 = -(u / 10) := by rw [Int.neg_tdiv, Int.tdiv_eq_ediv_of_nonneg h]
theorem p19w : p10 19 = 10000000000000000000 := by decide
theorem of_len19 {l : List Int} {u n : Int} (hd : Dig l) (hu : 0 < u) (hv : dval l + p10 l.length * u = n) (hn : n < 10000000000000000000) : l.length ≤ 18 := by
  have h1 := (dval_bd hd).1
  have h2 := Int.mul_le_mul_of_nonneg_left (show 1 ≤ u by omega) (show 0 ≤ p10 l.length by have := p10_pos l.length; omega)
  apply Classical.byContradiction
  intro h
  have h3 := p10_mono (a := 19) (b := l.length) (by omega)
  rw [p19w] at h3
  omega
theorem zOfW_any (n : Int) (w : World) (hb : -9223372036854775808 ≤ n ∧ n ≤ 9223372036854775807) :
    Calls Tryz.prog 38 #[.int .i64 n] w fun e w' => ∃ v', e = .returned v' ∧ Below w.heap.size w w' ∧ ZS v' n := by
  obtain ⟨i0, hi, hz0, hz1, hz2⟩ := info_parts int_info
  have h48 : (ByteArray.mk #[]).toList = [] := ByteArray.toList_mk []
  have h45 : (ByteArray.mk #[45]).toList = [45] := ByteArray.toList_mk [45]
  have hb2 : -9223372036854775808 ≤ n ∧ n ≤ 9223372036854775807 := hb
  clear hb
  by_cases hn : 0 ≤ n
  · have hn0 : ¬ n < 0 := by omega
    obtain ⟨n0, hn0e⟩ : ∃ n0, n0 = n := ⟨_, rfl⟩
    have HN0 := Lib.hid hn0e
    clear hn0e
    go_enter Tryz.func38, Tryz.ntmps38
    go_wp2_with fail
    go_loopw [0, 4] (fun tt o wr => ∃ (u : Int) (l : List Int) (vo : Value), vo = o ∧ tt = .int .i64 u ∧ 0 ≤ u ∧ u ≤ n ∧ Hid (OI wr w.heap.size o l) ∧ Hid (Below w.heap.size w wr) ∧ Hid (Dig l) ∧ Hid (dval l + p10 l.length * u = n) ∧ Hid (u = 0 → Can l)) (fun t _ _ => (intOf t).natAbs)
    case atStart => exact ⟨n, [], _, rfl, rfl, hn, Int.le_refl _, OI.nil_ _ _, Below.refl _ _, dig_nil, by simp [Hid, dval, p10], fun _ => .inl rfl⟩
    case round =>
      obtain ⟨u, l, vo, rfl, rfl, hu0, hun, ho, hbw, hd, hv, hc⟩ := hrel
      by_cases hz : u = 0
      · subst hz
        have hvl : dval l = n := by have := hv.out; omega
        have hsg : sgZ l false = n := hvl
        have HT := Lib.hid (zTextW_any vo l false wr ho.out.rv hd.out (by
          have := can_len hd.out (hc.out rfl) (k := 19) (by rw [p19w]; omega)
          omega))
        have HZ := Lib.hid (zs_text (m := false) hd.out (hc.out rfl))
        rw [hsg] at HZ
        clear hvl hsg
        go_wp2_with fail
        refine HT.out.mono ?_
        rintro e w2 ⟨rfl, hb2'⟩
        have HB2 := Lib.hid (hbw.out.trans (hb2'.mono hbw.out.size))
        clear hb2'
        go_wp2
        go_ret
        exact ⟨_, rfl, HB2.out, HZ.out⟩
      · have hu1 : 0 < u := by omega
        obtain ⟨s1, s2, s3⟩ := of_step hd.out hu1 hv.out
        have hl14 := of_len19 hd.out hu1 hv.out (by omega)
        have S1 := Lib.hid s1
        have S2 := Lib.hid s2
        have S3 := Lib.hid s3
        have hr := rem_at (s := u) hu0
        have hq := quo_at (s := u) hu0
        have hrn : ¬ u % 10 < 0 := by omega
        have hrb : 0 ≤ u % 10 ∧ u % 10 ≤ 9 := by omega
        have hqb : 0 ≤ u / 10 ∧ u / 10 ≤ u ∧ u / 10 < u := by omega
        clear s1 s2 s3
        obtain ⟨hov, hrv, hfin⟩ := OI.snoc ho.out (u%10) hbw.out
        have HOv := Lib.hid hov
        have HRv := Lib.hid hrv
        have HFin := Lib.hid hfin
        have hszB := hbw.out.size
        clear hov hrv hfin
        generalize u % 10 = r at *
        generalize u / 10 = q at *
        go_wp2_with (at_builtin; refine wpList_appendV _ rfl _ _ _ rfl 3 i0 _ 8 Tryz.underlying42 hi hz0 hz1 hz2 rfl w.heap.size _ _ rfl HOv.out _ _ rfl HRv.out (one_ones rfl) (by first | omega | (simp; omega)) (by first | omega | (simp; omega)) (by first | omega | (simp; omega)) ?_; intro v1 w3 hown hg hat; obtain ⟨hf1, hf2⟩ := HFin.out v1 w3 hown hg; have HF1 := Lib.hid hf1; have HF2 := Lib.hid hf2; clear hown hg hat hf1 hf2)
        go_wp2
        go_roundw
        case rel => exact ⟨q, _, _, rfl, rfl, hqb.1, by omega, HF1.out, HF2.out, S1.out, S2.out, S3.out⟩
        case measure => simp [intOf] <;> omega
  · have hn0 : n < 0 := by omega
    obtain ⟨N, rfl⟩ : ∃ N, n = -N := ⟨-n, by omega⟩
    go_enter Tryz.func38, Tryz.ntmps38
    go_wp2_with fail
    go_loopw [0, 4] (fun tt o wr => ∃ (u : Int) (l : List Int) (vo : Value), vo = o ∧ tt = .int .i64 (-u) ∧ 0 ≤ u ∧ u ≤ N ∧ Hid (OI wr w.heap.size o l) ∧ Hid (Below w.heap.size w wr) ∧ Hid (Dig l) ∧ Hid (dval l + p10 l.length * u = N) ∧ Hid (u = 0 → Can l)) (fun t _ _ => (intOf t).natAbs)
    case atStart => exact ⟨N, [], _, rfl, rfl, by omega, Int.le_refl _, OI.nil_ _ _, Below.refl _ _, dig_nil, by simp [Hid, dval, p10], fun _ => .inl rfl⟩
    case round =>
      obtain ⟨u, l, vo, rfl, rfl, hu0, hun, ho, hbw, hd, hv, hc⟩ := hrel
      by_cases hz : u = 0
      · subst hz
        have hvl : dval l = N := by have := hv.out; omega
        have hsg : sgZ l true = -N := by unfold sgZ; rw [if_pos rfl, hvl]
        have hll : 1 ≤ l.length := by
          rcases Nat.eq_zero_or_pos l.length with h | h
          · rw [List.eq_nil_of_length_eq_zero h] at hvl; simp [dval] at hvl; omega
          · exact h
        have HT := Lib.hid (zTextW_any vo l true wr ho.out.rv hd.out (by
          have := can_len hd.out (hc.out rfl) (k := 19) (by rw [p19w]; omega)
          omega))
        have HZ := Lib.hid (zs_text (m := true) hd.out (hc.out rfl))
        obtain ⟨g, cap, rfl⟩ := OV.shape_ ho.out (by simpa using hll)
        simp only [List.length_map] at HT ⊢
        have hlne : ((l.length : Int) == 0) = false := by rw [beq_eq_false_iff_ne]; omega
        rw [hsg] at HZ
        clear hvl hsg
        go_wp2_with fail
        refine HT.out.mono ?_
        rintro e w2 ⟨rfl, hb2'⟩
        have HB2 := Lib.hid (hbw.out.trans (hb2'.mono hbw.out.size))
        clear hb2'
        go_wp2
        go_ret
        exact ⟨_, rfl, HB2.out, HZ.out⟩
      · have hu1 : 0 < u := by omega
        obtain ⟨s1, s2, s3⟩ := of_step hd.out hu1 hv.out
        have hl14 := of_len19 hd.out hu1 hv.out (by omega)
        have S1 := Lib.hid s1
        have S2 := Lib.hid s2
        have S3 := Lib.hid s3
        have hr := neg_rem hu0
        have hq := neg_quo hu0
        have hrb : 0 ≤ u % 10 ∧ u % 10 ≤ 9 := by omega
        have hqb : 0 ≤ u / 10 ∧ u / 10 ≤ u ∧ u / 10 < u := by omega
        clear s1 s2 s3
        obtain ⟨hov, hrv, hfin⟩ := OI.snoc ho.out (u%10) hbw.out
        have HOv := Lib.hid hov
        have HRv := Lib.hid hrv
        have HFin := Lib.hid hfin
        have hszB := hbw.out.size
        clear hov hrv hfin
        generalize u % 10 = r at *
        generalize u / 10 = q at *
        by_cases hr0 : r = 0
        · subst hr0
          go_wp2_with (at_builtin; refine wpList_appendV _ rfl _ _ _ rfl 3 i0 _ 8 Tryz.underlying42 hi hz0 hz1 hz2 rfl w.heap.size _ _ rfl HOv.out _ _ rfl HRv.out (one_ones rfl) (by first | omega | (simp; omega)) (by first | omega | (simp; omega)) (by first | omega | (simp; omega)) ?_; intro v1 w3 hown hg hat; obtain ⟨hf1, hf2⟩ := HFin.out v1 w3 hown hg; have HF1 := Lib.hid hf1; have HF2 := Lib.hid hf2; clear hown hg hat hf1 hf2)
          go_wp2
          go_roundw
          case rel => exact ⟨q, _, _, rfl, rfl, hqb.1, by omega, HF1.out, HF2.out, S1.out, S2.out, S3.out⟩
          case measure => simp [intOf] <;> omega
        · have hr1 : -r < 0 := by omega
          go_wp2_with (at_builtin; refine wpList_appendV _ rfl _ _ _ rfl 3 i0 _ 8 Tryz.underlying42 hi hz0 hz1 hz2 rfl w.heap.size _ _ rfl HOv.out _ _ rfl HRv.out (one_ones rfl) (by first | omega | (simp; omega)) (by first | omega | (simp; omega)) (by first | omega | (simp; omega)) ?_; intro v1 w3 hown hg hat; obtain ⟨hf1, hf2⟩ := HFin.out v1 w3 hown hg; have HF1 := Lib.hid hf1; have HF2 := Lib.hid hf2; clear hown hg hat hf1 hf2)
          go_wp2
          go_roundw
          case rel => exact ⟨q, _, _, rfl, rfl, hqb.1, by omega, HF1.out, HF2.out, S1.out, S2.out, S3.out⟩
          case measure => simp [intOf] <;> omega
end Go.Proofs.YtgcnijmmjlfabaaGreatDoor

namespace Go.Proofs.YtgcnijmmjlfabaaGreatDoor
open Go.RowKit Go.Shelf

theorem app_get (n : Nat) (es : List Tri) (d s : List Int) {v : Nat} (hv : v < n) : (appLk n es d s).getD v 0 = appN es d s v n := by
  unfold appLk
  rw [List.getD_eq_getElem?_getD, List.getElem?_map, List.getElem?_range hv]; rfl
/-- The difference of two scripts' effects. -/
theorem app_diff (es : List Tri) (d s e : List Int) (v k : Nat) : appN es d s v k = appN es d e v k + sumN k fun u => wgt es v u * ((s.getD u 0 - e.getD u 0) - (s.getD v 0 - e.getD v 0)) := by
  unfold appN
  induction k with
  | zero => simp [sumN]
  | succ k ih =>
    rw [sumN, sumN, sumN]
    have h : wgt es v k * (s.getD k 0 - s.getD v 0) = wgt es v k * (e.getD k 0 - e.getD v 0) + wgt es v k * ((s.getD k 0 - e.getD k 0) - (s.getD v 0 - e.getD v 0)) := by
      rw [← Int.mul_add]; congr 1; omega
    rw [h]; omega
theorem sum_le_mrk {n : Nat} {es : List Tri} (hE : Edges n es) (t : Nat → Int) (bs : List Bool) (v : Nat) (M : Int) (k : Nat) (h : ∀ u, u < k → t u ≤ M ∧ (bs.getD u false = true → t u < M)) :
    (sumN k fun u => wgt es v u * (t u - M)) ≤ - mrkN es bs v k := by
  unfold mrkN
  induction k with
  | zero => simp [sumN]
  | succ k ih =>
    rw [sumN, sumN]
    have ih := ih (fun u hu => h u (by omega))
    obtain ⟨h1, h2⟩ := h k (by omega)
    have hw := (wgt50 hE v k).1
    have hp : wgt es v k * (t k - M) ≤ - (if bs.getD k false then wgt es v k else 0) := by
      by_cases hb : bs.getD k false = true
      · rw [if_pos hb]
        have h3 := h2 hb
        have h4 : wgt es v k * (t k - M) ≤ wgt es v k * (-1) := Int.mul_le_mul_of_nonneg_left (by omega) hw
        omega
      · rw [if_neg hb]
        have h4 : wgt es v k * (t k - M) ≤ wgt es v k * 0 := Int.mul_le_mul_of_nonneg_left (by omega) hw
        omega
    omega
theorem mx_at (t : Nat → Int) : ∀ n, 1 ≤ n → ∃ v, v < n ∧ ∀ u, u < n → t u ≤ t v
  | 0, h => by omega
  | 1, _ => ⟨0, by omega, fun u hu => by obtain rfl : u = 0 := by omega
                                         exact Int.le_refl _⟩
  | n + 2, _ => by
    obtain ⟨v, hv, h⟩ := mx_at t (n + 1) (by omega)
    by_cases c : t (n + 1) ≤ t v
    · exact ⟨v, by omega, fun u hu => by
        by_cases e : u = n + 1
        · subst e; exact c
        · exact h u (by omega)⟩
    · exact ⟨n + 1, by omega, fun u hu => by
        by_cases e : u = n + 1
        · subst e; exact Int.le_refl _
        · have := h u (by omega); omega⟩
/-- Along a burning order no vertex has the greatest difference. -/
theorem burn_less {n : Nat} {es : List Tri} (hE : Edges n es) (x y : List Int) (t : Nat → Int) (M : Int) (hM : ∀ u, u < n → t u ≤ M) (hy : ∀ v, v < n → 0 ≤ y.getD v 0)
    (hxy : ∀ v, v < n → y.getD v 0 = x.getD v 0 + sumN n fun u => wgt es v u * (t u - t v)) :
    ∀ (order : List Int) (bs : List Bool), bs.length = n → (∀ u, u < n → bs.getD u false = true → t u < M) → brnB n es x bs order = true → bs.count false = order.length → ∀ u, u < n → t u < M
  | [], bs, hl, hb, _, hc, u, hu => by
    refine hb u hu ?_
    rw [List.length_nil, List.count_eq_zero] at hc
    rw [List.getD_eq_getElem?_getD, List.getElem?_eq_getElem (by omega)]
    cases hx : bs[u] with
    | true => rfl
    | false => exact absurd (hx ▸ List.getElem_mem (by omega)) hc
  | v :: r, bs, hl, hb, h, hc, u, hu => by
    rw [brnB] at h
    by_cases c : (decide (0 ≤ v) && decide (v < n) && !bs.getD v.toNat false && decide (x.getD v.toNat 0 < mrkN es bs v.toNat n)) = true
    · rw [if_pos c] at h
      simp only [Bool.and_eq_true, decide_eq_true_eq, Bool.not_eq_true'] at c
      obtain ⟨⟨⟨c1, c2⟩, c3⟩, c4⟩ := c
      have hvn : v.toNat < n := by omega
      have hlt : t v.toNat < M := by
        by_cases e : t v.toNat = M
        · exfalso
          have h1 := hxy _ hvn
          have h2 := hy _ hvn
          have h3 := sum_le_mrk hE t bs v.toNat M n (fun u hu => ⟨hM u hu, hb u hu⟩)
          rw [e] at h1
          omega
        · have := hM _ hvn; omega
      refine burn_less hE x y t M hM hy hxy r (bs.set v.toNat true) (by simpa using hl) (fun u hu hbu => ?_) h ?_ u hu
      · rw [getDB_set (by omega)] at hbu
        by_cases e : u = v.toNat
        · rw [e]; exact hlt
        · rw [if_neg e] at hbu; exact hb u hu hbu
      · rw [List.count_set (by omega)]
        have hg : bs[v.toNat]'(by omega) = false := by
          rw [List.getD_eq_getElem?_getD, List.getElem?_eq_getElem (by omega)] at c3; exact c3
        rw [hg, hc]; simp
    · rw [if_neg c] at h; cases h
theorem brnS_count {n q : Nat} (hq : q < n) : (brnS n q).count false + 1 = n := by
  unfold brnS
  rw [List.count_set (by simpa using hq)]
  simp; omega
/-- A divisor that a script makes effective has no certificate that it is not winnable. -/
theorem agree_core {n q : Nat} {es : List Tri} (hE : Edges n es) {d s e order : List Int} (hq : q < n) (h1 : effB (appLk n es d s) = true) (h2 : (appLk n es d e).getD q 0 < 0)
    (h3 : burnsB n es q (appLk n es d e) order = true) : False := by
  unfold burnsB at h3
  rw [Bool.and_eq_true, decide_eq_true_eq] at h3
  obtain ⟨h4, h5⟩ := h3
  have hy : ∀ v, v < n → 0 ≤ (appLk n es d s).getD v 0 := fun v hv => by
    unfold effB at h1
    rw [List.all_eq_true] at h1
    have hl : v < (appLk n es d s).length := by simp [appLk]; exact hv
    rw [List.getD_eq_getElem?_getD, List.getElem?_eq_getElem hl]
    have := h1 _ (List.getElem_mem hl)
    simpa using this
  obtain ⟨t, ht⟩ : ∃ t : Nat → Int, ∀ u, s.getD u 0 - e.getD u 0 = t u := ⟨_, fun u => rfl⟩
  have hxy : ∀ v, v < n → (appLk n es d s).getD v 0 = (appLk n es d e).getD v 0 + sumN n fun u => wgt es v u * (t u - t v) := fun v hv => by
    rw [app_get n es d s hv, app_get n es d e hv, app_diff es d s e v n]
    simp only [ht]
  obtain ⟨m, hm, hmax⟩ := mx_at t n (by omega)
  by_cases c : t q = t m
  · have a1 := hxy q hq
    have a2 := hy q hq
    have a3 := sum_le_mrk hE t [] q (t q) n (fun u hu => ⟨by rw [c]; exact hmax u hu, fun h => by simp at h⟩)
    have a4 : mrkN es [] q n = 0 := by
      unfold mrkN
      have : ∀ k, sumN k (fun u => if ([] : List Bool).getD u false then wgt es q u else 0) = 0 := fun k => by
        induction k with
        | zero => rfl
        | succ k ih => rw [sumN, ih]; simp
      exact this n
    omega
  · have := burn_less hE (appLk n es d e) (appLk n es d s) t (t m) hmax hy hxy order (brnS n q) (by simp [brnS]) (fun u hu hb => ?_) h4 (by have := brnS_count hq; omega) m hm
    · exact absurd this (by omega)
    · unfold brnS at hb
      rw [getDB_set (by simpa using hq)] at hb
      by_cases e1 : u = q
      · subst e1; have := hmax u hu; omega
      · rw [if_neg e1, List.getD_eq_getElem?_getD, List.getElem?_replicate] at hb
        split at hb <;> simp at hb
theorem sum_nonneg : ∀ (l : List Int), (∀ x ∈ l, 0 ≤ x) → 0 ≤ l.sum
  | [], _ => by simp
  | x :: l, h => by
    rw [List.sum_cons]
    have := sum_nonneg l (fun y hy => h y (by simp [hy]))
    have := h x (by simp)
    omega
theorem mem_lst : ∀ (m d : Nat) (e : List Int), e.length = m + 1 → (∀ x ∈ e, 0 ≤ x) → e.sum = d → e ∈ eflL m d
  | 0, d, e, hl, _, hs => by
    match e, hl with
    | [x], _ => simp at hs; simp [eflL, hs]
  | m + 1, d, e, hl, h0, hs => by
    match e, hl with
    | x :: r, hl =>
      have hx := h0 x (by simp)
      have hr := sum_nonneg r (fun y hy => h0 y (by simp [hy]))
      rw [List.sum_cons] at hs
      rw [eflL, List.mem_flatMap]
      refine ⟨x.toNat, by rw [List.mem_range]; omega, ?_⟩
      rw [List.mem_map]
      refine ⟨r, mem_lst m (d - x.toNat) r (by simpa using hl) (fun y hy => h0 y (by simp [hy])) (by omega), ?_⟩
      rw [Int.toNat_of_nonneg hx]
end Go.Proofs.YtgcnijmmjlfabaaGreatDoor

namespace Go.Proofs.YtgcnijmmjlfabaaGreatDoor
open Go.RowKit Go.Shelf

theorem dgsW_chrs {l : List Int} (h : Dig l) : dgsW (chrs l) = l := by
  unfold dgsW chrs
  rw [← List.map_reverse, List.reverse_reverse, List.map_map]
  conv => rhs; rw [← List.map_id l]
  refine List.map_congr_left fun d hd => ?_
  obtain ⟨h0, h9⟩ := h.mem hd
  show ((UInt8.ofNat (48 + d).toNat).toNat : Int) - 48 = d
  rw [chr_nat h0 h9]; omega
theorem chrs_dg {l : List Int} (h : Dig l) : (chrs l).all isDg = true := by
  rw [List.all_eq_true]
  intro c hc
  unfold chrs at hc
  obtain ⟨d, hd, rfl⟩ := List.mem_map.1 hc
  obtain ⟨h0, h9⟩ := h.mem (List.mem_reverse.1 hd)
  unfold isDg
  rw [chr_nat h0 h9]
  simp; omega
theorem chrs_ne45 {l : List Int} (h : Dig l) {c : UInt8} {r : List UInt8} (e : chrs l = c :: r) : c ≠ 45 := by
  intro h45
  have := chrs_dg h
  rw [e, h45, List.all_cons] at this
  simp [isDg] at this
/-- A text of digits is a canonical word, and worth what they are. -/
theorem text_can {l : List Int} {m : Bool} (hd : Dig l) (hc : Can l) (hm : l = [] → m = false) : canB (textL l m) = true ∧ wv (textL l m) = sgZ l m := by
  by_cases h : l = []
  · rw [hm h, h]; exact ⟨rfl, rfl⟩
  · have hl : chrs l ≠ [] := by simpa [chrs] using h
    have hv := decV_dval (chrs l) 0 (chrs_dg hd)
    rw [dgsW_chrs hd, Int.natCast_zero, Int.zero_mul, Int.zero_add] at hv
    have h48 : (chrs l).getD 0 0 ≠ 48 := by
      rcases hc with hc | hc
      · exact absurd hc h
      · have e : (chrs l).getD 0 0 = UInt8.ofNat (48 + l.getD (l.length - 1) 0).toNat := by
          have hlt : l.length - 1 < l.length := by have := List.length_pos_iff.2 h; omega
          unfold chrs
          rw [List.getD_eq_getElem?_getD, List.getElem?_map, List.getElem?_reverse (by omega), List.getD_eq_getElem?_getD, Nat.sub_zero]
          rw [List.getElem?_eq_getElem hlt]
          rfl
        rw [e]
        intro e2
        have e3 := congrArg UInt8.toNat e2
        rw [chr_nat (hd _).1 (hd _).2] at e3
        have h48 : (48 : UInt8).toNat = 48 := rfl
        rw [h48] at e3
        have := (hd (l.length - 1)).1
        omega
    obtain ⟨c, r, e⟩ : ∃ c r, chrs l = c :: r := by
      cases hx : chrs l with
      | nil => exact absurd hx hl
      | cons c r => exact ⟨c, r, rfl⟩
    have h45 := chrs_ne45 hd e
    cases m
    · have et : textL l false = chrs l := by unfold textL; rw [if_neg h]; rfl
      have eg : magW (chrs l) = chrs l := by rw [e]; simp [magW, h45]
      have em : minW (chrs l) = false := by rw [e]; simp [minW, h45]
      rw [et]
      constructor
      · unfold canB; rw [eg, em, chrs_dg hd, decide_eq_true hl, decide_eq_true h48]; rfl
      · unfold wv; rw [eg, em, hv]; rfl
    · have et : textL l true = 45 :: chrs l := by unfold textL; rw [if_neg h]; rfl
      have eg : magW (45 :: chrs l) = chrs l := by simp [magW]
      have em : minW (45 :: chrs l) = true := rfl
      rw [et]
      constructor
      · unfold canB; rw [eg, em, chrs_dg hd, decide_eq_true hl, decide_eq_true h48]; rfl
      · unfold wv; rw [eg, em, hv]; rfl
/-- A word has no blank in it. -/
def no32 (s : List UInt8) : Prop := ∀ c ∈ s, c ≠ 32
theorem can_no32 {s : List UInt8} (h : canB s = true) : no32 s ∧ s ≠ [58] := by
  obtain ⟨h1, h2, -⟩ := canB_parts h
  rw [List.all_eq_true] at h2
  constructor
  · intro c hc e
    cases s with
    | nil => cases hc
    | cons a r =>
      by_cases ha : a = 45
      · subst ha
        rcases List.mem_cons.1 hc with h3 | h3
        · rw [h3] at e; cases e
        · have := h2 c (by simpa [magW] using h3)
          rw [e] at this; simp [isDg] at this
      · have := h2 c (by simpa [magW, ha] using hc)
        rw [e] at this; simp [isDg] at this
  · intro e
    rw [e] at h2
    have := h2 58 (by simp [magW])
    simp [isDg] at this
theorem split_word {p : List UInt8} (h : no32 p) : splitL 32 p = [p] := by
  induction p with
  | nil => rfl
  | cons x r ih =>
    rw [splitL, if_neg (h x (List.mem_cons_self ..)), ih (fun c hc => h c (List.mem_cons_of_mem _ hc))]; rfl
theorem split_cons {p : List UInt8} (h : no32 p) (r : List UInt8) : splitL 32 (p ++ 32 :: r) = p :: splitL 32 r := by
  induction p with
  | nil => rw [List.nil_append, splitL, if_pos rfl]
  | cons x q ih =>
    rw [List.cons_append, splitL, if_neg (h x (List.mem_cons_self ..)), ih (fun c hc => h c (List.mem_cons_of_mem _ hc))]; rfl
/-- Words, each behind a blank. -/
def blkL (ws : List (List UInt8)) : List UInt8 := ws.flatMap fun w => 32 :: w
theorem blk_append (a b : List (List UInt8)) : blkL (a ++ b) = blkL a ++ blkL b := by unfold blkL; rw [List.flatMap_append]
theorem split_blk : ∀ (ws : List (List UInt8)) (p : List UInt8), no32 p → (∀ w ∈ ws, no32 w) → splitL 32 (p ++ blkL ws) = p :: ws
  | [], p, h, _ => by rw [show blkL [] = [] from rfl, List.append_nil]; exact split_word h
  | w :: ws, p, h, hw => by
    rw [show blkL (w :: ws) = 32 :: (w ++ blkL ws) from rfl, split_cons h, split_blk ws w (hw w (List.mem_cons_self ..)) (fun x hx => hw x (List.mem_cons_of_mem _ hx))]
/-- A line with a claim and a certificate. -/
def lnT (K : List UInt8) (wa wb : List (List UInt8)) : List UInt8 := K ++ blkL (wa ++ [58] :: wb)
theorem idxG_append {v : List UInt8} : ∀ (a b : List (List UInt8)), (∀ w ∈ a, v ≠ w) → idxG v (a ++ v :: b) = a.length
  | [], b, _ => by rw [List.nil_append, idxG, if_pos rfl]; rfl
  | w :: a, b, h => by
    have ih := idxG_append a b (fun x hx => h x (List.mem_cons_of_mem _ hx))
    rw [List.cons_append, idxG, if_neg (h w (List.mem_cons_self ..)), ih, if_neg (by omega), List.length_cons]; push_cast; rfl
theorem line_parts {m i : Nat} {es : List Tri} {K : List UInt8} {wa wb : List (List UInt8)} (hK : no32 K) (hK2 : K ≠ [58]) (hi : idxG K kwL = i) (ha : ∀ w ∈ wa, canB w = true) (hb : ∀ w ∈ wb, canB w = true) (h : lineE m es (lnT K wa wb) = 0) :
    numsE wa = 0 ∧ numsE wb = 0 ∧ clmE m es i (numsV wa) (numsV wb) = 0 := by
  have hs : splitL 32 (lnT K wa wb) = K :: (wa ++ [58] :: wb) := by
    refine split_blk _ _ hK fun w hw => ?_
    rcases List.mem_append.1 hw with hw | hw
    · exact (can_no32 (ha w hw)).1
    · rcases List.mem_cons.1 hw with hw | hw
      · rw [hw]; intro c hc; rw [List.mem_singleton.1 hc]; decide
      · exact (can_no32 (hb w hw)).1
  have hx : idxG [58] (K :: (wa ++ [58] :: wb)) = ((wa.length + 1 : Nat) : Int) := by
    have := idxG_append (v := [58]) (K :: wa) wb (fun w hw => by
      rcases List.mem_cons.1 hw with hw | hw
      · rw [hw]; exact Ne.symm hK2
      · exact Ne.symm (can_no32 (ha w hw)).2)
    rw [List.cons_append] at this
    rw [this]; simp
  unfold lineE at h
  rw [hs, hx, show (K :: (wa ++ [58] :: wb)).getD 0 [] = K from rfl, hi, if_neg (by omega), Int.toNat_natCast, Int.toNat_natCast] at h
  unfold wrdE at h
  have t1 : ((K :: (wa ++ [58] :: wb)).take (wa.length + 1)).drop 1 = wa := by simp
  have t2 : (K :: (wa ++ [58] :: wb)).drop (wa.length + 1 + 1) = wb := by
    rw [List.drop_succ_cons, List.drop_append, List.drop_of_length_le (by omega), List.nil_append, show wa.length + 1 - wa.length = 1 by omega]; rfl
  rw [t1, t2] at h
  by_cases c1 : numsE wa = 4 ∨ numsE wb = 4
  · rw [if_pos c1] at h; cases h
  · rw [if_neg c1] at h
    by_cases c2 : numsE wa ≠ 0 ∨ numsE wb ≠ 0
    · rw [if_pos c2] at h; cases h
    · rw [if_neg c2] at h
      exact ⟨by omega, by omega, h⟩
theorem clm_parts {m i : Nat} {es : List Tri} {l pf : List Int} (h : clmE m es i l pf = 0) :
    fillE m (kq i) (kn i) (kb i) (kf i) l = 0 ∧ provesE m es i (fQ (kq i) l) (fQ (kn i) (l1L (kq i) l)) (fA m (kb i) (kf i) (l2L (kq i) (kn i) l)) (fB m (kb i) (kf i) (l2L (kq i) (kn i) l)) (fF (kf i) (l2L (kq i) (kn i) l)) pf = 0 := by
  unfold clmE at h
  by_cases c1 : fillE m (kq i) (kn i) (kb i) (kf i) l ≠ 0
  · rw [if_pos c1] at h; exact absurd h c1
  · rw [if_neg c1] at h
    by_cases c2 : rightE m (kq i) (kn i) (kl i) (fQ (kq i) l) (fQ (kn i) (l1L (kq i) l)) (fF (kf i) (l2L (kq i) (kn i) l)) ≠ 0
    · rw [if_pos c2] at h; exact absurd h c2
    · rw [if_neg c2] at h; exact ⟨by omega, h⟩
theorem loses_parts {n : Nat} {es : List Tri} {d l : List Int} (h : losesE n es d l = 0) : ∃ (q : Nat) (e o : List Int), q < n ∧ (appLk n es d e).getD q 0 < 0 ∧ burnsB n es q (appLk n es d e) o = true := by
  unfold losesE at h
  by_cases c1 : (l.length : Int) ≠ 2 * n
  · rw [if_pos c1] at h; cases h
  · rw [if_neg c1] at h
    by_cases c2 : (decide (0 ≤ l.getD 0 0) && decide (l.getD 0 0 < n)) = false
    · rw [if_pos c2] at h; cases h
    · rw [if_neg c2] at h
      split at h
      next c3 =>
        simp only [Bool.and_eq_true, decide_eq_true_eq, Bool.not_eq_false] at c3 c2
        exact ⟨(l.getD 0 0).toNat, _, _, by omega, c3.1.1, c3.2⟩
      next => cases h
theorem effB_nonneg {l : List Int} (h : effB l = true) : ∀ x ∈ l, 0 ≤ x := fun x hx => by
  unfold effB at h
  rw [List.all_eq_true] at h
  simpa using h x hx
/-- Winnable and unwinnable. -/
theorem agree_win {m : Nat} {es : List Tri} (hE : Edges m es) {d a b : List Int} (h1 : clmE m es 1 d a = 0) (h2 : clmE m es 2 d b = 0) : False := by
  obtain ⟨-, p1⟩ := clm_parts h1
  obtain ⟨-, p2⟩ := clm_parts h2
  have p1' : leadsE m es d a effB = 0 := p1
  have p2' : losesE m es d b = 0 := p2
  unfold leadsE at p1'
  by_cases c1 : (a.length : Int) ≠ m
  · rw [if_pos c1] at p1'; cases p1'
  · rw [if_neg c1] at p1'
    split at p1'
    next c2 =>
      obtain ⟨q, e, o, hq, h3, h4⟩ := loses_parts p2'
      exact agree_core hE hq c2 h3 h4
    next => cases p1'
/-- A rank of at least N + 1 and of at most N. -/
theorem agree_rank {m : Nat} {es : List Tri} (hE : Edges m es) (hm1 : 1 ≤ m) {x y : Int} {d a b : List Int} (hx : 0 ≤ x) (hxy : x = y + 1) (h1 : clmE m es 3 (x :: d) a = 0) (h2 : clmE m es 4 (y :: d) b = 0) : False := by
  obtain ⟨-, p1⟩ := clm_parts h1
  obtain ⟨-, p2⟩ := clm_parts h2
  have p1' : coversE m es x.toNat d a = 0 := p1
  have p2' : belowE m es y d b = 0 := p2
  unfold belowE at p2'
  by_cases c1 : (b.length : Int) ≠ 3 * m
  · rw [if_pos c1] at p2'; cases p2'
  rw [if_neg c1] at p2'
  by_cases c2 : (decide (0 ≤ b.getD m 0) && decide (b.getD m 0 < m)) = false
  · rw [if_pos c2] at p2'; cases p2'
  rw [if_neg c2] at p2'
  by_cases c3 : effB (b.take m) = false ∨ (b.take m).sum ≠ y + 1
  · rw [if_pos c3] at p2'; cases p2'
  rw [if_neg c3] at p2'
  obtain ⟨q, e, o, hq, h3, h4⟩ := loses_parts p2'
  have hef : effB (b.take m) = true := by
    cases hh : effB (b.take m)
    · exact absurd (Or.inl hh) c3
    · rfl
  have hsum : (b.take m).sum = y + 1 := Classical.byContradiction fun hh => c3 (Or.inr hh)
  have hmem : b.take m ∈ dvsL m x.toNat := by
    rw [dvs_lst _ hm1]
    exact mem_lst (m - 1) x.toNat _ (by simp; omega) (effB_nonneg hef) (by omega)
  obtain ⟨j, hj, hje⟩ := List.mem_iff_getElem.1 hmem
  unfold coversE at p1'
  by_cases c4 : (a.length : Int) ≠ ((cntN x.toNat (m - 1) : Nat) : Int) * m
  · rw [if_pos c4] at p1'; cases p1'
  rw [if_neg c4] at p1'
  split at p1'
  next c5 =>
    rw [List.all_eq_true] at c5
    have c6 := c5 j (List.mem_range.2 hj)
    rw [List.getD_eq_getElem?_getD, List.getElem?_eq_getElem hj, hje] at c6
    unfold coverAt at c6
    exact agree_core hE hq c6 h3 h4
  next => cases p1'
theorem kw_no32 : ∀ i, i < 9 → no32 (kwL.getD i []) ∧ kwL.getD i [] ≠ [58] ∧ idxG (kwL.getD i []) kwL = i := by
  unfold no32; decide
/-- No two lines are accepted that contradict one another. -/
theorem agree_lines {m : Nat} {es : List Tri} (hE : Edges m es) (hm1 : 1 ≤ m) {wd wa wb : List (List UInt8)} (hd : ∀ w ∈ wd, canB w = true) (ha : ∀ w ∈ wa, canB w = true) (hb : ∀ w ∈ wb, canB w = true) :
    ¬ (lineE m es (lnT (kwL.getD 1 []) wd wa) = 0 ∧ lineE m es (lnT (kwL.getD 2 []) wd wb) = 0) ∧
    ¬ (lineE m es (lnT (kwL.getD 3 []) ([49] :: wd) wa) = 0 ∧ lineE m es (lnT (kwL.getD 4 []) ([48] :: wd) wb) = 0) ∧
    ¬ (lineE m es (lnT (kwL.getD 3 []) ([48] :: wd) wa) = 0 ∧ lineE m es (lnT (kwL.getD 4 []) ([45, 49] :: wd) wb) = 0) := by
  have c49 : ∀ w ∈ [49] :: wd, canB w = true := fun w hw => by
    rcases List.mem_cons.1 hw with h | h
    · rw [h]; rfl
    · exact hd w h
  have c48 : ∀ w ∈ [48] :: wd, canB w = true := fun w hw => by
    rcases List.mem_cons.1 hw with h | h
    · rw [h]; rfl
    · exact hd w h
  have c45 : ∀ w ∈ [45, 49] :: wd, canB w = true := fun w hw => by
    rcases List.mem_cons.1 hw with h | h
    · rw [h]; rfl
    · exact hd w h
  obtain ⟨a1, a2, a3⟩ := kw_no32 1 (by decide)
  obtain ⟨b1, b2, b3⟩ := kw_no32 2 (by decide)
  obtain ⟨e1, e2, e3⟩ := kw_no32 3 (by decide)
  obtain ⟨f1, f2, f3⟩ := kw_no32 4 (by decide)
  refine ⟨fun ⟨h1, h2⟩ => ?_, fun ⟨h1, h2⟩ => ?_, fun ⟨h1, h2⟩ => ?_⟩
  · exact agree_win hE (line_parts a1 a2 a3 hd ha h1).2.2 (line_parts b1 b2 b3 hd hb h2).2.2
  · exact agree_rank hE hm1 (x := 1) (y := 0) (by decide) (by decide) (line_parts e1 e2 e3 c49 ha h1).2.2 (line_parts f1 f2 f3 c48 hb h2).2.2
  · exact agree_rank hE hm1 (x := 0) (y := -1) (by decide) (by decide) (line_parts e1 e2 e3 c48 ha h1).2.2 (line_parts f1 f2 f3 c45 hb h2).2.2
end Go.Proofs.YtgcnijmmjlfabaaGreatDoor

namespace Go.Proofs.YtgcnijmmjlfabaaGreatDoor
open Go.RowKit Go.Shelf

/-- A value that holds canonical words, each behind a blank. -/
def WSt (v : Value) (n : Nat) : Prop := ∃ ws : List (List UInt8), v = .string ⟨(blkL ws).toArray⟩ ∧ (∀ x ∈ ws, canB x = true) ∧ (blkL ws).length ≤ 21 * n
theorem wst_text {v : Value} {z : Int} (h : ZS v z) (hb : -9223372036854775808 ≤ z ∧ z ≤ 9223372036854775807) : ∃ t : List UInt8, v = .string ⟨t.toArray⟩ ∧ canB t = true ∧ t.length ≤ 20 := by
  obtain ⟨l, m, rfl, hd, hc, hm, rfl⟩ := h
  have hv : dval l < p10 19 := by
    rw [p19w]
    unfold sgZ at hb
    split at hb <;> omega
  have hl := can_len hd hc hv
  refine ⟨textL l m, rfl, (text_can hd hc hm).1, ?_⟩
  have hch : (chrs l).length = l.length := by simp [chrs]
  unfold textL
  split
  · simp
  · split <;> simp [hch] <;> omega
theorem rNumW_any (v : Value) (l : List Int) (w : World) (hr : RI w v l) (hl : l.length ≤ 200) (hb : ∀ x ∈ l, -9223372036854775808 ≤ x ∧ x ≤ 9223372036854775807) :
    Calls Tryz.prog 21 #[v] w fun e w' => (∃ v', e = .returned v' ∧ WSt v' 200) ∧ Below w.heap.size w w' := by
  obtain ⟨A, c, rfl, hlc, -, hcell⟩ := id hr |>.open_
  have HCe := Lib.hid hcell
  have HBd := Lib.hid hb
  clear hr hcell hb
  go_enter Tryz.func21, Tryz.ntmps21
  go_wp2_with fail
  go_loopw [3, 4] (fun s i wr => ∃ (k : Nat) (vs : Value), vs = s ∧ k ≤ l.length ∧ i = .int .i64 (k : Int) ∧ Hid (WSt vs k) ∧ Hid (Below w.heap.size w wr)) (fun _ i _ => l.length - (intOf i).toNat)
  case atStart => exact ⟨0, _, rfl, Nat.zero_le _, rfl, (show WSt _ 0 from ⟨[], rfl, fun x hx => (by cases hx), (by simp [blkL])⟩), Below.refl _ _⟩
  case round =>
    obtain ⟨k, vs, rfl, hk, rfl, hs, hw⟩ := hrel
    by_cases hlt : k < l.length
    · obtain ⟨ws, rfl, hws, hwl⟩ := hs.out
      obtain ⟨ad, x, rfl, hab, hx, hck⟩ := HCe.out k hlt
      have hck2 := (hw.out.cell (p := ad.add k) (by rw [block_of_add]; exact hab)).trans hck
      have hxb := HBd.out _ (List.mem_of_getElem? hx.out)
      have HOf := Lib.hid (zOfW_any x wr hxb)
      have HXb := Lib.hid hxb
      clear hx hxb hck hab hs
      have HWs : Hid (∀ x ∈ ws, canB x = true) := hws
      have HWl : Hid ((blkL ws).length ≤ 21 * k) := hwl
      have hg1 : (k : Int) < (l.length : Int) := by omega
      clear hws hwl
      obtain ⟨P0, hP0⟩ : ∃ P, P = ByteArray.mk (blkL ws).toArray := ⟨_, rfl⟩
      rw [← hP0]
      have HP0 := Lib.hid hP0
      clear hP0
      go_wp2_with fail
      refine HOf.out.mono ?_
      rintro e w2 ⟨v2, rfl, hb2, hz⟩
      have HW2 := Lib.hid (hw.out.trans (hb2.mono hw.out.size))
      obtain ⟨t, rfl, ht, htl⟩ := wst_text hz HXb.out
      have hadd1 := fun W => run_string_add_lists (P := Tryz.prog) W [32] t (by simp) (by omega)
      have hadd2 := fun W => run_string_add_lists (P := Tryz.prog) W (blkL ws) (32 :: t) (by have := HWl.out; omega) (by rw [List.length_cons]; omega)
      rw [List.singleton_append] at hadd1
      have HN : Hid (WSt (.string ⟨(blkL ws ++ 32 :: t).toArray⟩) (k + 1)) := by
        have he : blkL (ws ++ [t]) = blkL ws ++ 32 :: t := by rw [blk_append]; simp [blkL]
        refine ⟨ws ++ [t], by rw [he], fun x hx => ?_, ?_⟩
        · rcases List.mem_append.1 hx with h | h
          · exact HWs.out x h
          · rw [List.mem_singleton.1 h]; exact ht
        · rw [he, List.length_append, List.length_cons]; have := HWl.out; omega
      rw [← HP0.out] at hadd2
      have h32 : ByteArray.mk [32].toArray = ByteArray.mk #[32] := rfl
      rw [h32] at hadd1
      generalize ByteArray.mk (blkL ws ++ 32 :: t).toArray = P3 at *
      generalize ByteArray.mk (32 :: t).toArray = P2 at *
      generalize ByteArray.mk t.toArray = P1 at *
      clear hck2 hb2 hz ht htl HOf h32
      go_wp2
      go_roundw
      case rel => exact ⟨k + 1, _, rfl, by omega, by go_num, HN.out, HW2.out⟩
      case measure => simp [intOf]; omega
    · have hR : Hid (WSt vs 200) := by
        obtain ⟨ws, h1, h2, h3⟩ := hs.out
        exact ⟨ws, h1, h2, by omega⟩
      have hg1 : ¬ (k : Int) < (l.length : Int) := by omega
      clear hs
      go_wp2
      go_ret
      exact ⟨⟨vs, rfl, hR.out⟩, hw.out⟩
end Go.Proofs.YtgcnijmmjlfabaaGreatDoor

namespace Go.Proofs.YtgcnijmmjlfabaaGreatDoor
open Go.RowKit Go.Shelf

def agK1 (i : Nat) : List UInt8 := ([[119, 105, 110, 110, 97, 98, 108, 101], [114, 97, 110, 107, 108, 101, 97, 115, 116, 32, 49], [114, 97, 110, 107, 108, 101, 97, 115, 116, 32, 48]] : List (List UInt8)).getD i []
def agK2 (i : Nat) : List UInt8 := ([[117, 110, 119, 105, 110, 110, 97, 98, 108, 101], [114, 97, 110, 107, 109, 111, 115, 116, 32, 48], [114, 97, 110, 107, 109, 111, 115, 116, 32, 45, 49]] : List (List UInt8)).getD i []
/-- A line that the law asks about. -/
def agL (K : List UInt8) (wd wa : List (List UInt8)) : List UInt8 := K ++ blkL wd ++ [32, 58] ++ blkL wa
theorem agL_eq (K : List UInt8) (wd wa : List (List UInt8)) : agL K wd wa = lnT K wd wa := by
  unfold agL lnT
  rw [blk_append]
  show _ = K ++ (blkL wd ++ (32 :: ([58] ++ blkL wa)))
  simp
theorem agL_cons (K x : List UInt8) (wd wa : List (List UInt8)) : agL (K ++ 32 :: x) wd wa = lnT K (x :: wd) wa := by
  rw [← agL_eq]
  unfold agL
  show _ = K ++ ((32 :: x) ++ blkL wd) ++ _ ++ _
  simp
theorem agree_at {m : Nat} {es : List Tri} (hE : Edges m es) (hm1 : 1 ≤ m) {wd wa wb : List (List UInt8)} (hd : ∀ w ∈ wd, canB w = true) (ha : ∀ w ∈ wa, canB w = true) (hb : ∀ w ∈ wb, canB w = true) {i : Nat} (hi : i < 3) :
    ¬ (lineE m es (agL (agK1 i) wd wa) = 0 ∧ lineE m es (agL (agK2 i) wd wb) = 0) := by
  obtain ⟨h0, h1, h2⟩ := agree_lines hE hm1 hd ha hb
  rcases (by omega : i = 0 ∨ i = 1 ∨ i = 2) with rfl | rfl | rfl
  · rw [agL_eq, agL_eq]; exact h0
  · rw [show agK1 1 = kwL.getD 3 [] ++ 32 :: [49] from rfl, show agK2 1 = kwL.getD 4 [] ++ 32 :: [48] from rfl, agL_cons, agL_cons]; exact h1
  · rw [show agK1 2 = kwL.getD 3 [] ++ 32 :: [48] from rfl, show agK2 2 = kwL.getD 4 [] ++ 32 :: [45, 49] from rfl, agL_cons, agL_cons]; exact h2
theorem lineE_of {n : Int} {es : List Tri} {s : List UInt8} (h : LineE n es s = 0) : lineE n.toNat es s = 0 := by
  unfold LineE at h
  split at h
  · rename_i h1; exact absurd h h1
  · split at h
    · cases h
    · exact h
/-- Of the two lines one is not accepted. -/
theorem agree_not {m : Nat} {es : List Tri} (hE : Edges m es) (hm1 : 1 ≤ m) {wd wa wb : List (List UInt8)} (hd : ∀ w ∈ wd, canB w = true) (ha : ∀ w ∈ wa, canB w = true) (hb : ∀ w ∈ wb, canB w = true) {i : Nat} (hi : i < 3) :
    LineE m es (agL (agK1 i) wd wa) = 0 → LineE m es (agL (agK2 i) wd wb) ≠ 0 := fun h1 h2 =>
  agree_at hE hm1 hd ha hb hi ⟨by simpa using lineE_of h1, by simpa using lineE_of h2⟩
end Go.Proofs.YtgcnijmmjlfabaaGreatDoor

