/- Contract of the references' taken of decimal digits.
   Contract of the references' multiplied of decimal digits.
   Contracts of the references' text, Minus, Turned.
   Contracts of the references' Minus, Turned, Plus, Less, Times, Order on decimal texts.
   Contracts of the references' Less, Times, Order, Of on decimal texts. -/
import Derived.Test.YtefggpdobjboeaaGreatG36
namespace Go.Proofs.YtefggpdobjboeaaGreat
open Go.RowKit Go.Shelf

/-- A round of taken. -/
theorem tak_step {a b out : List Int} {i : Nat} {c z q : Int} (hl : out.length = i) (hd : Dig out) (hv : dval out - p10 i * c = dval (a.take i) - dval (b.take i)) (hz0 : 0 ≤ z) (hz9 : z ≤ 9) (he : z = a.getD i 0 - b.getD i 0 - c + 10 * q) :
    (out ++ [z]).length = i + 1 ∧ Dig (out ++ [z]) ∧ dval (out ++ [z]) - p10 (i + 1) * q = dval (a.take (i + 1)) - dval (b.take (i + 1)) := by
  refine ⟨by simp [hl], hd.snoc hz0 hz9, ?_⟩
  rw [dval_snoc, dval_take_succ, dval_take_succ, hl, p10, he]
  grind
theorem tak_done {a b out : List Int} {c : Int} (hl : out.length = a.length) (hd : Dig out) (hda : Dig a) (hdb : Dig b) (hcb : Can b) (hle : dval b ≤ dval a) (hc0 : 0 ≤ c) (hc1 : c ≤ 1) (hv : dval out - p10 a.length * c = dval (a.take a.length) - dval (b.take a.length)) : dval out = dval a - dval b := by
  have hlen : b.length ≤ a.length := by
    apply Classical.byContradiction
    intro h
    have := len_lt hda hdb hcb (by omega)
    omega
  rw [List.take_of_length_le (Nat.le_refl _), List.take_of_length_le hlen] at hv
  have := dval_bd hd
  rw [hl] at this
  have : c = 0 := by
    apply Classical.byContradiction
    intro h
    obtain rfl : c = 1 := by omega
    omega
  subst this
  omega
set_option maxRecDepth 100000 in
set_option maxHeartbeats 8000000 in
theorem dTaken_any (va vb : Value) (a b : List Int) (w : World) (ha : RI w va a) (hb : RI w vb b) (hda : Dig a) (hdb : Dig b) (hcb : Can b) (hle : dval b ≤ dval a) (hla : a.length ≤ 100) :
    Calls Tryz.prog 171 #[va, vb] w fun e w' => ∃ v, e = .returned v ∧ Below w.heap.size w w' ∧ ∃ out, RI w' v out ∧ Dig out ∧ Can out ∧ dval out = dval a - dval b := by
  obtain ⟨i0, hi, hz0, hz1, hz2⟩ := info_parts int_info
  have HRb := Lib.hid hb
  obtain ⟨A, c, rfl, -, -, hcell⟩ := ha.open_
  obtain ⟨A', c', rfl, -⟩ := hb.open_
  have HC := Lib.hid hcell
  have HDa := Lib.hid hda
  have HDb := Lib.hid hdb
  have HDone : Hid (∀ (out : List Int) (c : Int), out.length = a.length → Dig out → 0 ≤ c → c ≤ 1 → dval out - p10 a.length * c = dval (a.take a.length) - dval (b.take a.length) → dval out = dval a - dval b) :=
    fun out c h1 h2 h3 h4 h5 => tak_done h1 h2 hda hdb hcb hle h3 h4 h5
  clear ha hb hda hdb hcb hle hcell
  go_enter Tryz.func171, Tryz.ntmps171
  go_wp2_with fail
  go_loopw [5, 6, 7] (fun o cc ii wr => ∃ (i : Nat) (c : Int) (out : List Int) (vo : Value), vo = o ∧ cc = .int .i64 c ∧ ii = .int .i64 (i : Int) ∧ 0 ≤ c ∧ c ≤ 1 ∧ i ≤ a.length ∧ Hid (OI wr w.heap.size o out) ∧ Hid (Below w.heap.size w wr) ∧ Hid (out.length = i) ∧ Hid (Dig out) ∧ Hid (dval out - p10 i * c = dval (a.take i) - dval (b.take i))) (fun _ _ i _ => a.length - (intOf i).toNat)
  case atStart => exact ⟨0, 0, [], _, rfl, rfl, rfl, by omega, by omega, Nat.zero_le _, OI.nil_ _ _, Below.refl _ _, rfl, dig_nil, by simp [Hid, dval]⟩
  case round =>
    obtain ⟨i, cy, out, vo, rfl, rfl, rfl, hc0, hc1, hia, ho, hbw, hl, hd, hv⟩ := hrel
    by_cases hlt : i < a.length
    · obtain ⟨ad, x, rfl, hadb, hx, hcl⟩ := HC.out i hlt
      have hcw := (hbw.out.cell (by rw [block_of_add]; exact hadb)).trans hcl
      have hax := HDa.out i
      rw [getD_of hx.out] at hax
      have hbx := HDb.out i
      have HDg : Hid (∀ n, Calls Tryz.prog 189 #[.slice A' b.length c', .int .i64 (i : Int)] (wr.drewN n) fun e w' => e = .returned (.int .i64 (b.getD i 0)) ∧ w' = wr.drewN n) := fun n => (dDigit_any _ b i _ (RI.below HRb.out (below_drewN hbw.out n))).mono fun _ _ h => ⟨h.1, h.2.symm⟩
      have hol : out.length ≤ 100 := by have := hl.out; omega
      have HSt : Hid (∀ z q : Int, 0 ≤ z → z ≤ 9 → z = x - b.getD i 0 - cy + 10 * q → (out ++ [z]).length = i + 1 ∧ Dig (out ++ [z]) ∧ dval (out ++ [z]) - p10 (i + 1) * q = dval (a.take (i + 1)) - dval (b.take (i + 1))) := fun z q h0 h9 he =>
        tak_step hl.out hd.out hv.out h0 h9 (by rw [getD_of hx.out]; exact he)
      clear hcl
      generalize b.getD i 0 = y at *
      by_cases hneg : x - y - cy < 0
      · obtain ⟨s1, s2, s3⟩ := HSt.out (x - y - cy + 10) 1 (by omega) (by omega) (by omega)
        have S1 := Lib.hid s1
        have S2 := Lib.hid s2
        have S3 := Lib.hid s3
        clear s1 s2 s3
        go_wp2_with fail
        go_quiet (first | (go_at_call 189; exact Calls.quiet_of_same (HDg.out _)))
        have HOd := Lib.hid (OI.below ho.out (below_drewN (Below.refl wr.heap.size wr) nq))
        have HBd := Lib.hid (below_drewN hbw.out nq)
        have hszw := hbw.out.size
        obtain ⟨hov, hrv, hfin⟩ := OI.snoc HOd.out (x-y-cy+10) HBd.out
        have HOv := Lib.hid hov
        have HRv := Lib.hid hrv
        have HFin := Lib.hid hfin
        have hszB := HBd.out.size
        clear hov hrv hfin
        go_wp2_with (at_builtin; refine wpList_appendV _ rfl _ _ _ rfl 3 i0 _ 8 Tryz.underlying25 hi hz0 hz1 hz2 rfl w.heap.size _ _ rfl HOv.out _ _ rfl HRv.out (one_ones rfl) (by first | omega | (simp; omega)) (by first | omega | (simp; omega)) (by first | omega | (simp; omega)) ?_; intro v1 w3 hown hg hat; obtain ⟨hf1, hf2⟩ := HFin.out v1 w3 hown hg; have HF1 := Lib.hid hf1; have HF2 := Lib.hid hf2; clear hown hg hat hf1 hf2)
        go_wp2
        go_roundw
        case rel => exact ⟨i + 1, 1, _, _, rfl, rfl, by go_num, by omega, by omega, by omega, HF1.out, HF2.out, S1.out, S2.out, S3.out⟩
        case measure => simp [intOf] <;> omega
      · obtain ⟨s1, s2, s3⟩ := HSt.out (x - y - cy) 0 (by omega) (by omega) (by omega)
        have S1 := Lib.hid s1
        have S2 := Lib.hid s2
        have S3 := Lib.hid s3
        clear s1 s2 s3
        go_wp2_with fail
        go_quiet (first | (go_at_call 189; exact Calls.quiet_of_same (HDg.out _)))
        have HOd := Lib.hid (OI.below ho.out (below_drewN (Below.refl wr.heap.size wr) nq))
        have HBd := Lib.hid (below_drewN hbw.out nq)
        have hszw := hbw.out.size
        obtain ⟨hov, hrv, hfin⟩ := OI.snoc HOd.out (x-y-cy) HBd.out
        have HOv := Lib.hid hov
        have HRv := Lib.hid hrv
        have HFin := Lib.hid hfin
        have hszB := HBd.out.size
        clear hov hrv hfin
        go_wp2_with (at_builtin; refine wpList_appendV _ rfl _ _ _ rfl 3 i0 _ 8 Tryz.underlying25 hi hz0 hz1 hz2 rfl w.heap.size _ _ rfl HOv.out _ _ rfl HRv.out (one_ones rfl) (by first | omega | (simp; omega)) (by first | omega | (simp; omega)) (by first | omega | (simp; omega)) ?_; intro v1 w3 hown hg hat; obtain ⟨hf1, hf2⟩ := HFin.out v1 w3 hown hg; have HF1 := Lib.hid hf1; have HF2 := Lib.hid hf2; clear hown hg hat hf1 hf2)
        go_wp2
        go_roundw
        case rel => exact ⟨i + 1, 0, _, _, rfl, rfl, by go_num, by omega, by omega, by omega, HF1.out, HF2.out, S1.out, S2.out, S3.out⟩
        case measure => simp [intOf] <;> omega
    · obtain rfl : i = a.length := by omega
      have hdv := HDone.out out cy hl.out hd.out hc0 hc1 hv.out
      have HDv := Lib.hid hdv
      have hlen : out.length ≤ 1000 := by have := hl.out; omega
      have HCu := Lib.hid (dCut_any vo out wr ho.out.rv hlen)
      clear hdv hlen
      go_wp2_with fail
      refine HCu.out.mono ?_
      rintro e w2 ⟨v2, rfl, rfl, n, hr2, hn, hz, hl2⟩
      obtain ⟨k1, k2, k3, -⟩ := cut_ok hd.out hn hz hl2
      have HR2 := Lib.hid hr2
      have K1 := Lib.hid k1
      have K2 := Lib.hid k2
      have K3 := Lib.hid k3
      clear hr2 hn hz hl2 k1 k2 k3
      go_wp2
      go_ret
      exact ⟨_, rfl, hbw.out, _, HR2.out, K1.out, K2.out, K3.out.trans HDv.out⟩
end Go.Proofs.YtefggpdobjboeaaGreat

namespace Go.Proofs.YtefggpdobjboeaaGreat
open Go.RowKit Go.Shelf

theorem mul_small {x y : Int} (hx : 0 ≤ x ∧ x ≤ 9) (hy : 0 ≤ y ∧ y ≤ 9) : 0 ≤ x * y ∧ x * y ≤ 81 := by
  have h1 := Int.mul_nonneg hx.1 hy.1
  have h2 := Int.mul_le_mul hx.2 hy.2 hy.1 (by decide : (0 : Int) ≤ 9)
  omega
/-- A round of multiplied. -/
theorem mul_step {a b out : List Int} {i k N : Nat} {c s : Int} (hl : out.length = N) (hj : i + k < N) (hd : Dig out) (hc0 : 0 ≤ c) (hc9 : c ≤ 9) (hda : Dig a) (hdb : Dig b)
    (hv : dval out + p10 (i + k) * c = dval (a.take i) * dval b + p10 i * (a.getD i 0 * dval (b.take k))) (hs : s = c + (out.getD (i + k) 0 + a.getD i 0 * b.getD k 0)) :
    0 ≤ s ∧ s ≤ 99 ∧ (out.set (i + k) (s % 10)).length = N ∧ Dig (out.set (i + k) (s % 10)) ∧
      dval (out.set (i + k) (s % 10)) + p10 (i + (k + 1)) * (s / 10) = dval (a.take i) * dval b + p10 i * (a.getD i 0 * dval (b.take (k + 1))) := by
  have h1 := hd (i + k)
  have h2 := mul_small (hda i) (hdb k)
  have hsb : 0 ≤ s ∧ s ≤ 99 := by omega
  refine ⟨hsb.1, hsb.2, by simp [hl], hd.set _ (by omega) (by omega), ?_⟩
  rw [dval_set (by omega), dval_take_succ]
  rw [show i + (k + 1) = (i + k) + 1 by omega, p10]
  have e : s = 10 * (s / 10) + s % 10 := by omega
  generalize s / 10 = q at *
  generalize s % 10 = r at *
  rw [e] at hs
  have e2 : p10 (i + k) * (10 * q + r) = p10 (i + k) * (c + (out.getD (i + k) 0 + a.getD i 0 * b.getD k 0)) := by rw [hs]
  have e3 : p10 i * p10 k = p10 (i + k) := (p10_add i k).symm
  generalize out.getD (i + k) 0 = o at *
  generalize a.getD i 0 = x at *
  generalize b.getD k 0 = y at *
  generalize p10 (i + k) = P at *
  generalize dval (a.take i) * dval b = T at *
  rw [Int.mul_add, Int.mul_add, ← Int.mul_assoc, show x * (p10 k * y) = p10 k * (x * y) by grind, ← Int.mul_assoc (p10 i) (p10 k), e3]
  rw [Int.mul_add, Int.mul_add, Int.mul_add] at e2
  grind
/-- Behind the last digit nothing is carried. -/
theorem mul_end {a b out : List Int} {i : Nat} {c : Int} (hd : Dig out) (hda : Dig a) (hdb : Dig b) (hc0 : 0 ≤ c) (hv : dval out + p10 (i + (b.length + 1)) * c = dval (a.take i) * dval b + p10 i * (a.getD i 0 * dval (b.take (b.length + 1)))) : c = 0 := by
  rw [show b.take (b.length + 1) = b from List.take_of_length_le (by omega)] at hv
  have e : dval (a.take i) * dval b + p10 i * (a.getD i 0 * dval b) = dval (a.take (i + 1)) * dval b := by rw [dval_take_succ]; grind
  rw [e] at hv
  have h1 := dval_bd (hda.take (i + 1))
  have h2 := dval_bd hdb
  have h3 := dval_bd hd
  have h4 : p10 (a.take (i + 1)).length ≤ p10 (i + 1) := p10_mono (by rw [List.length_take]; omega)
  have h5 : dval (a.take (i + 1)) * dval b < p10 (i + 1) * p10 b.length := by
    have k1 := Int.mul_le_mul_of_nonneg_right (show dval (a.take (i + 1)) ≤ p10 (i + 1) - 1 by omega) h2.1
    have k2 := Int.mul_le_mul_of_nonneg_left (show dval b ≤ p10 b.length by omega) (show 0 ≤ p10 (i + 1) - 1 by have := p10_pos (i + 1); omega)
    have k3 := p10_pos b.length
    have k4 : (p10 (i + 1) - 1) * p10 b.length = p10 (i + 1) * p10 b.length - p10 b.length := by grind
    omega
  rw [← p10_add, show i + 1 + b.length = i + (b.length + 1) by omega] at h5
  apply Classical.byContradiction
  intro h
  have h6 := Int.mul_le_mul_of_nonneg_left (show 1 ≤ c by omega) (show 0 ≤ p10 (i + (b.length + 1)) by have := p10_pos (i + (b.length + 1)); omega)
  omega
theorem mul_row {a b out : List Int} {i k : Nat} (hk : b.length ≤ k) (hv : dval out + p10 (i + k) * 0 = dval (a.take i) * dval b + p10 i * (a.getD i 0 * dval (b.take k))) : dval out = dval (a.take (i + 1)) * dval b := by
  rw [show b.take k = b from List.take_of_length_le hk, Int.mul_zero, Int.add_zero] at hv
  rw [hv, dval_take_succ]; grind
set_option maxRecDepth 100000 in
set_option maxHeartbeats 8000000 in
theorem dMul_any (va vb : Value) (a b : List Int) (w : World) (ha : RI w va a) (hb : RI w vb b) (hda : Dig a) (hdb : Dig b) (hla : a.length ≤ 100) (hlb : b.length ≤ 100) :
    Calls Tryz.prog 172 #[va, vb] w fun e w' => ∃ v, e = .returned v ∧ Below w.heap.size w w' ∧ ∃ out, RI w' v out ∧ Dig out ∧ Can out ∧ dval out = dval a * dval b := by
  have HRb := Lib.hid hb
  obtain ⟨A, c, rfl, -, -, hcell⟩ := ha.open_
  obtain ⟨A', c', rfl, -⟩ := hb.open_
  have HC := Lib.hid hcell
  have HDa := Lib.hid hda
  have HDb := Lib.hid hdb
  obtain ⟨N, hN⟩ : ∃ N, N = a.length + b.length := ⟨_, rfl⟩
  have hN2 : ((a.length : Int) + (b.length : Int)) = (N : Int) := by omega
  have hmk := run_make_row' (P := Tryz.prog) 25 3 (.int .i64 0) 8 Tryz.underlying25 int_info rfl .i64 .i64 N (by omega) (by omega)
  have HO0 := Lib.hid (own_zeros w N (by omega))
  have HB0 := Lib.hid (below_alloc w (.cells (madeCells #[Value.int .i64 0] N) 3))
  obtain ⟨W1, hW1⟩ : ∃ W1, W1 = w.alloc (.cells (madeCells #[Value.int .i64 0] N) 3) := ⟨_, rfl⟩
  rw [← hW1] at HO0 HB0
  have HW1 := Lib.hid hW1
  have HN := Lib.hid hN
  clear ha hb hda hdb hcell hW1 hN
  go_enter Tryz.func172, Tryz.ntmps172
  go_wp2_with fail
  rw [← HW1.out]
  clear hmk
  go_loopw [6] (fun ii wr => ∃ (i : Nat) (out : List Int), ii = .int .i64 (i : Int) ∧ i ≤ a.length ∧ Hid (OI wr w.heap.size (.slice (some ⟨w.heap.size, 0, none⟩) N N) out) ∧ Hid (Below w.heap.size w wr) ∧ Hid (out.length = N) ∧ Hid (Dig out) ∧ Hid (dval out = dval (a.take i) * dval b)) (fun i _ => a.length - (intOf i).toNat)
  case atStart => exact ⟨0, List.replicate N 0, rfl, Nat.zero_le _, HO0.out, HB0.out, by simp [Hid], fun k => by rw [show (List.replicate N (0 : Int)).getD k 0 = 0 from zerosL_get N k]; omega, by simp [Hid, dval_zeros, dval]⟩
  case round =>
    obtain ⟨i, out, rfl, hi, ho, hbw, hl, hd, hv⟩ := hrel
    by_cases hlt : i < a.length
    · obtain ⟨ad, x, rfl, hadb, hx, hcl⟩ := HC.out i hlt
      have HCl := Lib.hid hcl
      have HAd := Lib.hid hadb
      clear hcl hadb
      go_wp2_with fail
      go_loopw [7, 8] (fun cc kk wr => ∃ (k : Nat) (c : Int) (out : List Int), cc = .int .i64 c ∧ kk = .int .i64 (k : Int) ∧ 0 ≤ c ∧ c ≤ 9 ∧ k ≤ b.length + 1 ∧ Hid (OI wr w.heap.size (.slice (some ⟨w.heap.size, 0, none⟩) N N) out) ∧ Hid (Below w.heap.size w wr) ∧ Hid (out.length = N) ∧ Hid (Dig out) ∧ Hid (dval out + p10 (i + k) * c = dval (a.take i) * dval b + p10 i * (x * dval (b.take k)))) (fun _ k _ => b.length + 1 - (intOf k).toNat)
      case atStart => exact ⟨0, 0, out, rfl, rfl, by omega, by omega, Nat.zero_le _, ho.out, hbw.out, hl.out, hd.out, by show _ = _; rw [hv.out]; simp [dval]⟩
      case round =>
        obtain ⟨k, cy, os, rfl, rfl, hc0, hc9, hk1, hos, hbs, hls, hds, hvs⟩ := hrel
        by_cases hgo : k < b.length ∨ 0 < cy
        · have hkb : k ≤ b.length := by
            apply Classical.byContradiction
            intro h
            obtain rfl : k = b.length + 1 := by omega
            have := mul_end hds.out HDa.out HDb.out hc0 (by rw [getD_of hx.out]; exact hvs.out)
            omega
          obtain ⟨j, hj⟩ : ∃ j, j = i + k := ⟨_, rfl⟩
          have hjN : j < N := by have := HN.out; omega
          have hji : (i : Int) + (k : Int) = (j : Int) := by omega
          have HSt := mul_step (s := cy + (os.getD (i + k) 0 + a.getD i 0 * b.getD k 0)) hls.out (by omega) hds.out hc0 hc9 HDa.out HDb.out (by rw [getD_of hx.out]; exact hvs.out) rfl
          rw [← hj, getD_of hx.out] at HSt
          obtain ⟨s1, s2, s3, s4, s5⟩ := HSt
          obtain ⟨-, -, q1, q2, q3⟩ := OI.at' hos.out (show j < os.length by rw [hls.out]; exact hjN)
          have hcw := (hbs.out.cell (by rw [block_of_add]; exact HAd.out)).trans HCl.out
          have hx9 := HDa.out i
          rw [getD_of hx.out] at hx9
          have hy9 := HDb.out k
          have hm81 := mul_small hx9 hy9
          have ho9 := hds.out j
          have HDg : Hid (∀ n, Calls Tryz.prog 189 #[.slice A' b.length c', .int .i64 (k : Int)] (wr.drewN n) fun e w' => e = .returned (.int .i64 (b.getD k 0)) ∧ w' = wr.drewN n) := fun n => (dDigit_any _ b k _ (RI.below HRb.out (below_drewN hbs.out n))).mono fun _ _ h => ⟨h.1, h.2.symm⟩
          have S3 := Lib.hid s3
          have S4 := Lib.hid s4
          have S5 := Lib.hid s5
          have HOd : Hid (os.getD j 0 = os.getD j 0) := rfl
          have HQ : Hid (∀ (n : Nat) (z : Int), (wr.drewN n).cell? ⟨w.heap.size, j, none⟩ = some (.int .i64 (os.getD j 0)) ∧ (wr.drewN n).frozen? ⟨w.heap.size, j, none⟩ = false ∧ OI ((wr.drewN n).setCell ⟨w.heap.size, j, none⟩ (.int .i64 z)) w.heap.size (.slice (some ⟨w.heap.size, 0, none⟩) N N) (os.set j z) ∧ Below w.heap.size w ((wr.drewN n).setCell ⟨w.heap.size, j, none⟩ (.int .i64 z))) := fun n z => by
            obtain ⟨-, -, r1, r2, r3⟩ := OI.at' (OI.below hos.out (below_drewN (Below.refl wr.heap.size wr) n)) (show j < os.length by rw [hls.out]; exact hjN)
            exact ⟨r1, r2, (r3 z).1, (below_drewN hbs.out n).setCell (p := ⟨w.heap.size, j, none⟩) (Nat.le_refl _) _⟩
          clear s3 s4 s5 q3 HOd
          generalize os.getD j 0 = o at *
          generalize b.getD k 0 = y at *
          generalize hxy : x * y = z at *
          have HJ := Lib.hid hj
          clear hj
          have hr := rem_at (s := cy + (o + z)) (by omega)
          have hq := quo_at (s := cy + (o + z)) (by omega)
          by_cases g1 : k < b.length
          · clear hgo
            go_wp2_with fail
            go_quiet (first | (go_at_call 189; exact Calls.quiet_of_same (HDg.out _)))
            obtain ⟨r1, r2, r3, r4⟩ := HQ.out nq ((cy + (o + z)) % 10)
            have R3 := Lib.hid r3
            have R4 := Lib.hid r4
            clear r3 r4
            go_wp2
            go_roundw
            case rel => exact ⟨k + 1, _, _, rfl, by go_num, by omega, by omega, by omega, R3.out, R4.out, S3.out, S4.out, S5.out⟩
            case measure => simp [intOf] <;> omega
          · have g2 : 0 < cy := by omega
            clear hgo
            go_wp2_with fail
            go_quiet (first | (go_at_call 189; exact Calls.quiet_of_same (HDg.out _)))
            obtain ⟨r1, r2, r3, r4⟩ := HQ.out nq ((cy + (o + z)) % 10)
            have R3 := Lib.hid r3
            have R4 := Lib.hid r4
            clear r3 r4
            go_wp2
            go_roundw
            case rel => exact ⟨k + 1, _, _, rfl, by go_num, by omega, by omega, by omega, R3.out, R4.out, S3.out, S4.out, S5.out⟩
            case measure => simp [intOf] <;> omega
        · have g1 : ¬ k < b.length := fun h => hgo (.inl h)
          have g2 : ¬ 0 < cy := fun h => hgo (.inr h)
          obtain rfl : cy = 0 := by omega
          have hrow := mul_row (a := a) (b := b) (out := os) (i := i) (k := k) (by omega) (by rw [getD_of hx.out]; exact hvs.out)
          have HRow := Lib.hid hrow
          clear hgo hrow
          go_wp2
          go_roundw
          case rel => exact ⟨i + 1, _, by go_num, by omega, hos.out, hbs.out, hls.out, hds.out, HRow.out⟩
          case measure => simp [intOf] <;> omega
    · obtain rfl : i = a.length := by omega
      have hlen : out.length ≤ 1000 := by have := hl.out; have := HN.out; omega
      have HCu := Lib.hid (dCut_any _ out wr ho.out.rv hlen)
      have HLo : Hid (out.length = N) := hl.out
      rw [HLo.out] at HCu
      clear hlen
      go_wp2_with fail
      refine HCu.out.mono ?_
      rintro e w2 ⟨v2, rfl, rfl, n, hr2, hn, hz, hl2⟩
      obtain ⟨k1, k2, k3, -⟩ := cut_ok hd.out (by rw [HLo.out]; exact hn) hz hl2
      have HR2 := Lib.hid hr2
      have K1 := Lib.hid k1
      have K2 := Lib.hid k2
      have K3 := Lib.hid k3
      clear hr2 hn hz hl2 k1 k2 k3
      go_wp2
      go_ret
      exact ⟨_, rfl, hbw.out, _, HR2.out, K1.out, K2.out, by rw [K3.out, hv.out, List.take_of_length_le (Nat.le_refl _)]⟩
end Go.Proofs.YtefggpdobjboeaaGreat

namespace Go.Proofs.YtefggpdobjboeaaGreat
open Go.RowKit Go.Shelf

theorem chrs_succ {l : List Int} {i : Nat} {d : Int} (h : l[i]? = some d) : chrs (l.take (i + 1)) = UInt8.ofNat (48 + d).toNat :: chrs (l.take i) := by
  unfold chrs
  rw [List.take_add_one, h]
  simp
set_option maxRecDepth 100000 in
set_option maxHeartbeats 4000000 in
theorem zText_any (va : Value) (l : List Int) (m : Bool) (w : World) (ha : RI w va l) (hd : Dig l) (hl : l.length ≤ 1000) :
    Calls Tryz.prog 101 #[va, .bool m] w fun e w' => e = .returned (.string ⟨(textL l m).toArray⟩) ∧ Below w.heap.size w w' := by
  obtain ⟨A, c, rfl, -, -, hcell⟩ := ha.open_
  have HC := Lib.hid hcell
  have HD := Lib.hid hd
  clear ha hd hcell
  by_cases h0 : l = []
  · subst h0
    go_enter Tryz.func101, Tryz.ntmps101
    go_wp2
    go_ret
    exact ⟨rfl, Below.refl _ _⟩
  · have hlen : 1 ≤ l.length := List.length_pos_iff.2 h0
    have hne : ((l.length : Int) == 0) = false := by rw [beq_eq_false_iff_ne]; omega
    have H0 := Lib.hid h0
    clear h0
    go_enter Tryz.func101, Tryz.ntmps101
    go_wp2_with fail
    go_loopw [5, 6] (fun s ii wr => ∃ i : Nat, s = .string ⟨(chrs (l.take i)).toArray⟩ ∧ ii = .int .i64 (i : Int) ∧ i ≤ l.length ∧ Hid (Below w.heap.size w wr)) (fun _ i _ => l.length - (intOf i).toNat)
    case atStart => exact ⟨0, rfl, rfl, Nat.zero_le _, Below.refl _ _⟩
    case round =>
      obtain ⟨i, rfl, rfl, hi, hb⟩ := hrel
      by_cases hlt : i < l.length
      · obtain ⟨ad, d, rfl, hadb, hx, hcl⟩ := HC.out i hlt
        have hcw := (hb.out.cell (by rw [block_of_add]; exact hadb)).trans hcl
        have hd9 := HD.out i
        rw [getD_of hx.out] at hd9
        have hcs := chrs_succ hx.out
        have HCs := Lib.hid hcs
        have hw8 : IntKind.u8.wrap (48 + d) = 48 + d := by simp (disch := omega) only [IntWalk.u8_in]
        have hcv := run_convert_bytes_back (P := Tryz.prog) (wr.alloc (.cells #[.int .u8 (48 + d)] 5)) 171 9 5 ⟨wr.heap.size, 0, none⟩ 1 [UInt8.ofNat (48 + d).toNat] Tryz.underlying171 Tryz.underlying5 Tryz.underlying9 (fun j hj => by
          simp only [List.length_singleton] at hj
          obtain rfl : j = 0 := by omega
          have e : ((UInt8.ofNat (48 + d).toNat).toNat : Int) = 48 + d := by rw [chr_nat hd9.1 hd9.2]; omega
          have hc1 := (show BL (wr.alloc (.cells #[.int .u8 (48 + d)] 5)) wr.heap.size 5 [.int .u8 (48 + d)] from BL.new' wr _ _).cell 0
          rw [show ((⟨wr.heap.size, 0, none⟩ : Addr).add 0) = ⟨wr.heap.size, 0, none⟩ from rfl, hc1]
          show some (Value.int .u8 (48 + d)) = some (.int .u8 ((UInt8.ofNat (48 + d).toNat).toNat : Int))
          rw [e])
        have hsl : (chrs (l.take i)).length ≤ 1000 := by unfold chrs; simp; omega
        have hadd := fun W => run_string_add_lists (P := Tryz.prog) W [UInt8.ofNat (48 + d).toNat] (chrs (l.take i)) (by simp) (by omega)
        simp only [List.length_singleton] at hcv
        rw [← List.singleton_append] at hcs
        rw [← hcs] at hadd
        have hba := below_alloc wr (.cells #[.int .u8 (48 + d)] 5)
        have HB2 := Lib.hid (hb.out.trans (hba.mono hb.out.size))
        have HS2 : Hid (ByteArray.mk (chrs (l.take (i + 1))).toArray = ByteArray.mk (chrs (l.take (i + 1))).toArray) := rfl
        clear hcl hcs hsl hba HCs
        generalize ByteArray.mk (chrs (l.take i)).toArray = S1 at *
        generalize hs2 : ByteArray.mk (chrs (l.take (i + 1))).toArray = S2 at *
        generalize ByteArray.mk [UInt8.ofNat (48 + d).toNat].toArray = B1 at *
        have HS3 := Lib.hid hs2
        clear hs2 HS2
        go_wp2
        go_roundw
        case rel => exact ⟨i + 1, by rw [← HS3.out], by go_num, by omega, HB2.out⟩
        case measure => simp [intOf] <;> omega
      · obtain rfl : i = l.length := by omega
        have HT : Hid (textL l m = if m then 45 :: chrs l else chrs l) := by show _ = _; unfold textL; rw [if_neg H0.out]
        rw [List.take_of_length_le (Nat.le_refl _)]
        have hsl : (chrs l).length ≤ 1000 := by unfold chrs; simp; omega
        have hadd := fun W => run_string_add_lists (P := Tryz.prog) W [45] (chrs l) (by simp) (by omega)
        rw [List.singleton_append] at hadd
        clear hsl
        cases m
        · have HS1 : Hid (ByteArray.mk (textL l false).toArray = ByteArray.mk (chrs l).toArray) := by show _ = _; rw [HT.out, if_neg (by decide)]
          clear hadd HT
          generalize ByteArray.mk (chrs l).toArray = S1 at *
          go_wp2
          go_ret
          exact ⟨by rw [HS1.out]; rfl, hb.out⟩
        · have HS1 : Hid (ByteArray.mk (textL l true).toArray = ByteArray.mk (45 :: chrs l).toArray) := by show _ = _; rw [HT.out, if_pos rfl]
          have h45 : ByteArray.mk [45].toArray = ByteArray.mk #[45] := rfl
          rw [h45] at hadd
          clear HT h45
          generalize ByteArray.mk (chrs l).toArray = S1 at *
          generalize ByteArray.mk (45 :: chrs l).toArray = S2 at *
          go_wp2
          go_ret
          exact ⟨by rw [HS1.out]; rfl, hb.out⟩
end Go.Proofs.YtefggpdobjboeaaGreat

namespace Go.Proofs.YtefggpdobjboeaaGreat
open Go.RowKit Go.Shelf

theorem zs_text {l : List Int} {m : Bool} (hd : Dig l) (hc : Can l) : ZS (.string ⟨(textL l m).toArray⟩) (sgZ l m) := by
  by_cases e : l = []
  · subst e
    exact ⟨[], false, by simp [textL], hd, hc, fun _ => rfl, by cases m <;> simp [sgZ, dval]⟩
  · exact ⟨l, m, rfl, hd, hc, fun h => absurd h e, rfl⟩
theorem sgz_neg {l : List Int} {m : Bool} (hd : Dig l) (hc : Can l) (hm : l = [] → m = false) : decide (sgZ l m < 0) = m := by
  have := dval_bd hd
  cases m
  · exact decide_eq_false (by unfold sgZ; simp; omega)
  · refine decide_eq_true ?_
    have h1 : dval l ≠ 0 := fun h => by have := hm (can_nil hd hc h); cases this
    unfold sgZ; simp; omega
theorem sgz_not (l : List Int) (m : Bool) : sgZ l (!m) = - sgZ l m := by cases m <;> simp [sgZ]
set_option maxRecDepth 100000 in
set_option maxHeartbeats 4000000 in
theorem zMinus_any (l : List Int) (m : Bool) (w : World) (hd : Dig l) (hm : l = [] → m = false) :
    Calls Tryz.prog 98 #[.string ⟨(textL l m).toArray⟩] w fun e w' => e = .returned (.bool m) ∧ w = w' := by
  have hp := text_pos l m
  have hmin := text_minus hd m hm
  generalize textL l m = bs at *
  have hbj : bs[0]? = some (bs.getD 0 0) := by rw [List.getD_eq_getElem?_getD, List.getElem?_eq_getElem hp]; rfl
  obtain ⟨b, hb⟩ : ∃ b, b = bs.getD 0 0 := ⟨_, rfl⟩
  rw [← hb] at hbj hmin
  obtain ⟨S, hS⟩ : ∃ S, S = ByteArray.mk bs.toArray := ⟨_, rfl⟩
  have hix : ∀ W : World, (Instr.index 96 (.string S) (.int .i64 0)).run Tryz.prog W = .ok (.int .u8 (b.toNat : Int)) W := fun W => by
    obtain ⟨hj, e⟩ := List.getElem?_eq_some_iff.1 hbj
    rw [run_index_string _ _ _ _ _ Tryz.underlying96, dif_pos (by subst hS; simp [ByteArray.size]; omega)]
    subst hS
    simp [ByteArray.getElem_eq_getElem_data, e]
  rw [← hS]
  have hbm : ((b.toNat : Int) == 45) = m := by
    rw [← hmin]
    by_cases e : b = 45
    · rw [e]; rfl
    · have h1 : (b == 45) = false := by simpa using e
      rw [h1, beq_eq_false_iff_ne]
      intro h
      exact e (UInt8.toNat_inj.1 (by have : (45 : UInt8).toNat = 45 := rfl; omega))
  clear hS hb hbj hp hmin
  generalize (b.toNat : Int) = z at *
  go_enter Tryz.func98, Tryz.ntmps98
  go_wp2
  go_ret
  exact ⟨by rw [← hbm]; rfl, rfl⟩
set_option maxRecDepth 100000 in
set_option maxHeartbeats 4000000 in
theorem zTurned_any (v : Value) (z : Int) (w : World) (hv : ZS v z) (hb : B15 z) :
    Calls Tryz.prog 140 #[v] w fun e w' => ∃ v', e = .returned v' ∧ Below w.heap.size w w' ∧ ZS v' (-z) := by
  obtain ⟨l, m, rfl, hd, hc, hm, rfl⟩ := hv
  have hlen := b15_len hd hc hb
  have HD := Lib.hid (dDigits_any l m w hd hc (by omega))
  have HM : Hid (∀ W, Calls Tryz.prog 98 #[.string ⟨(textL l m).toArray⟩] W fun e w' => e = .returned (.bool m) ∧ W = w') := fun W => zMinus_any l m W hd hm
  have HT : Hid (∀ (va : Value) (W : World), RI W va l → Calls Tryz.prog 101 #[va, .bool !m] W fun e w' => e = .returned (.string ⟨(textL l (!m)).toArray⟩) ∧ Below W.heap.size W w') := fun va W h => zText_any va l (!m) W h hd (by omega)
  have HR := Lib.hid (zs_text (m := !m) hd hc)
  rw [sgz_not] at HR
  clear hd hc hm hb hlen
  generalize ByteArray.mk (textL l m).toArray = S at *
  generalize ByteArray.mk (textL l (!m)).toArray = S2 at *
  go_enter Tryz.func140, Tryz.ntmps140
  go_wp2_with fail
  refine HD.out.mono ?_
  rintro e w1 ⟨v1, rfl, hr1, hb1⟩
  have HB1 := Lib.hid hb1
  have HT1 := Lib.hid (HT.out v1 w1 hr1)
  clear hr1 hb1
  go_wp2_with fail
  refine (HM.out _).mono ?_
  rintro e w2 ⟨rfl, rfl⟩
  go_wp2_with fail
  refine HT1.out.mono ?_
  rintro e w2 ⟨rfl, hb2⟩
  have HB2 := Lib.hid (HB1.out.trans (hb2.mono HB1.out.size))
  clear hb2
  go_wp2
  go_ret
  exact ⟨_, rfl, HB2.out, HR.out⟩
theorem plus_same {l1 l2 out : List Int} {m : Bool} (h : dval out = dval l1 + dval l2) : sgZ out m = sgZ l1 m + sgZ l2 m := by cases m <;> simp [sgZ] <;> omega
theorem plus_less {l1 l2 out : List Int} {m1 m2 : Bool} (hne : m1 ≠ m2) (h : dval out = dval l2 - dval l1) : sgZ out m2 = sgZ l1 m1 + sgZ l2 m2 := by cases m1 <;> cases m2 <;> simp [sgZ] at * <;> omega
theorem plus_more {l1 l2 out : List Int} {m1 m2 : Bool} (hne : m1 ≠ m2) (h : dval out = dval l1 - dval l2) : sgZ out m1 = sgZ l1 m1 + sgZ l2 m2 := by cases m1 <;> cases m2 <;> simp [sgZ] at * <;> omega
set_option maxRecDepth 100000 in
set_option maxHeartbeats 8000000 in
theorem zPlus_any (va vb : Value) (x y : Int) (w : World) (ha : ZS va x) (hb : ZS vb y) (hx : B15 x) (hy : B15 y) :
    Calls Tryz.prog 139 #[va, vb] w fun e w' => ∃ v', e = .returned v' ∧ Below w.heap.size w w' ∧ ZS v' (x + y) := by
  obtain ⟨l1, m1, rfl, hd1, hc1, hm1, rfl⟩ := ha
  obtain ⟨l2, m2, rfl, hd2, hc2, hm2, rfl⟩ := hb
  have hn1 := b15_len hd1 hc1 hx
  have hn2 := b15_len hd2 hc2 hy
  have HG1 : Hid (∀ W, Calls Tryz.prog 168 #[.string ⟨(textL l1 m1).toArray⟩] W fun e w' => ∃ v, e = .returned v ∧ RI w' v l1 ∧ Below W.heap.size W w') := fun W => dDigits_any l1 m1 W hd1 hc1 (by omega)
  have HG2 : Hid (∀ W, Calls Tryz.prog 168 #[.string ⟨(textL l2 m2).toArray⟩] W fun e w' => ∃ v, e = .returned v ∧ RI w' v l2 ∧ Below W.heap.size W w') := fun W => dDigits_any l2 m2 W hd2 hc2 (by omega)
  have HM1 : Hid (∀ W, Calls Tryz.prog 98 #[.string ⟨(textL l1 m1).toArray⟩] W fun e w' => e = .returned (.bool m1) ∧ W = w') := fun W => zMinus_any l1 m1 W hd1 hm1
  have HM2 : Hid (∀ W, Calls Tryz.prog 98 #[.string ⟨(textL l2 m2).toArray⟩] W fun e w' => e = .returned (.bool m2) ∧ W = w') := fun W => zMinus_any l2 m2 W hd2 hm2
  have HAd : Hid (∀ (va vb : Value) (W : World), RI W va l1 → RI W vb l2 → Calls Tryz.prog 169 #[va, vb] W fun e w' => ∃ v, e = .returned v ∧ Below W.heap.size W w' ∧ ∃ out, RI w' v out ∧ out.length ≤ 1000 ∧ Dig out ∧ Can out ∧ dval out = dval l1 + dval l2) := fun va vb W h1 h2 =>
    (dAdded_any va vb l1 l2 W h1 h2 hd1 hd2 hc1 hc2 (by omega) (by omega)).mono fun e w' h => by
      obtain ⟨v, h3, h4, out, h5, h6, h7, h8⟩ := h
      refine ⟨v, h3, h4, out, h5.rv, ?_, h6, h7, h8⟩
      have b1 := (dval_bd hd1).2
      have b2 := (dval_bd hd2).2
      have b3 := p10_mono hn1
      have b4 := p10_mono hn2
      have b5 := p10_pos 15
      have := can_len h6 h7 (k := 16) (by rw [h8, p10]; omega)
      omega
  have HOr : Hid (∀ (va vb : Value) (W : World), RI W va l1 → RI W vb l2 → Calls Tryz.prog 170 #[va, vb] W fun e w' => e = .returned (.int .i64 (cmpI (dval l1) (dval l2))) ∧ Below W.heap.size W w') := fun va vb W h1 h2 => dOrder_any va vb l1 l2 W h1 h2 hd1 hd2 hc1 hc2
  have HT1 : Hid (dval l2 ≤ dval l1 → ∀ (va vb : Value) (W : World), RI W va l1 → RI W vb l2 → Calls Tryz.prog 171 #[va, vb] W fun e w' => ∃ v, e = .returned v ∧ Below W.heap.size W w' ∧ ∃ out, RI w' v out ∧ out.length ≤ 1000 ∧ Dig out ∧ Can out ∧ dval out = dval l1 - dval l2) := fun hle va vb W h1 h2 =>
    (dTaken_any va vb l1 l2 W h1 h2 hd1 hd2 hc2 hle (by omega)).mono fun e w' h => by
      obtain ⟨v, h3, h4, out, h5, h6, h7, h8⟩ := h
      refine ⟨v, h3, h4, out, h5, ?_, h6, h7, h8⟩
      have b1 := (dval_bd hd1).2
      have b2 := (dval_bd hd2).1
      have b3 := p10_mono hn1
      have := can_len h6 h7 (k := 15) (by rw [h8]; omega)
      omega
  have HT2 : Hid (dval l1 ≤ dval l2 → ∀ (va vb : Value) (W : World), RI W va l2 → RI W vb l1 → Calls Tryz.prog 171 #[va, vb] W fun e w' => ∃ v, e = .returned v ∧ Below W.heap.size W w' ∧ ∃ out, RI w' v out ∧ out.length ≤ 1000 ∧ Dig out ∧ Can out ∧ dval out = dval l2 - dval l1) := fun hle va vb W h1 h2 =>
    (dTaken_any va vb l2 l1 W h1 h2 hd2 hd1 hc1 hle (by omega)).mono fun e w' h => by
      obtain ⟨v, h3, h4, out, h5, h6, h7, h8⟩ := h
      refine ⟨v, h3, h4, out, h5, ?_, h6, h7, h8⟩
      have b1 := (dval_bd hd2).2
      have b2 := (dval_bd hd1).1
      have b3 := p10_mono hn2
      have := can_len h6 h7 (k := 15) (by rw [h8]; omega)
      omega
  have HD1 := Lib.hid (HG1.out w)
  clear hd1 hd2 hc1 hc2 hm1 hm2 hx hy hn1 hn2
  generalize ByteArray.mk (textL l1 m1).toArray = S1 at *
  generalize ByteArray.mk (textL l2 m2).toArray = S2 at *
  go_enter Tryz.func139, Tryz.ntmps139
  go_wp2_with fail
  refine HD1.out.mono ?_
  rintro e w1 ⟨v1, rfl, hr1, hb1⟩
  have HB1 := Lib.hid hb1
  have HR1 := Lib.hid hr1
  clear hr1 hb1
  go_wp2_with fail
  refine (HG2.out _).mono ?_
  rintro e w2 ⟨v2, rfl, hr2, hb2⟩
  have HR1b := Lib.hid (RI.below HR1.out hb2)
  have HR2 := Lib.hid hr2
  have HB2 := Lib.hid (HB1.out.trans (hb2.mono HB1.out.size))
  clear hb2
  clear hr2
  go_wp2_with fail
  refine (HM1.out _).mono ?_
  rintro e w3 ⟨rfl, rfl⟩
  go_wp2_with fail
  refine (HM2.out _).mono ?_
  rintro e w3 ⟨rfl, rfl⟩
  by_cases hmm : m1 = m2
  · subst hmm
    have HA1 := Lib.hid (HAd.out v1 v2 w2 HR1b.out HR2.out)
    go_wp2_with fail
    refine HA1.out.mono ?_
    rintro e w3 ⟨v3, rfl, hb3, out, hr3, hl3, hd3, hc3, he3⟩
    have HTx := Lib.hid (zText_any v3 out m1 w3 hr3 hd3 hl3)
    have HZ := Lib.hid (zs_text (m := m1) hd3 hc3)
    rw [plus_same he3] at HZ
    have HB3 := Lib.hid (HB2.out.trans (hb3.mono HB2.out.size))
    clear hb3
    clear hr3 hl3 hd3 hc3 he3
    go_wp2_with fail
    refine (HM1.out _).mono ?_
    rintro e w4 ⟨rfl, rfl⟩
    go_wp2_with fail
    refine HTx.out.mono ?_
    rintro e w4 ⟨rfl, hb4⟩
    have HB4 := Lib.hid (HB3.out.trans (hb4.mono HB3.out.size))
    clear hb4
    go_wp2
    go_ret
    exact ⟨_, rfl, HB4.out, HZ.out⟩
  · have hmf : (m1 == m2) = false := by simpa using hmm
    have HNe := Lib.hid hmm
    have HO1 := Lib.hid (HOr.out v1 v2 w2 HR1b.out HR2.out)
    clear hmm
    obtain ⟨k, hk⟩ : ∃ k, k = cmpI (dval l1) (dval l2) := ⟨_, rfl⟩
    rw [← hk] at HO1
    by_cases hlt : dval l1 < dval l2
    · rw [sgn_lt hlt] at hk
      subst hk
      have HLt := Lib.hid (HT2.out (by omega))
      clear hlt
      go_wp2_with fail
      refine HO1.out.mono ?_
      rintro e w3 ⟨rfl, hb3⟩
      have HA1 := Lib.hid (HLt.out v2 v1 w3 (RI.below HR2.out hb3) (RI.below HR1b.out hb3))
      have HB3 := Lib.hid (HB2.out.trans (hb3.mono HB2.out.size))
      clear hb3
      go_wp2_with fail
      refine HA1.out.mono ?_
      rintro e w4 ⟨v3, rfl, hb4, out, hr3, hl3, hd3, hc3, he3⟩
      have HTx := Lib.hid (zText_any v3 out m2 w4 hr3 hd3 hl3)
      have HZ := Lib.hid (zs_text (m := m2) hd3 hc3)
      rw [plus_less HNe.out he3] at HZ
      have HB4 := Lib.hid (HB3.out.trans (hb4.mono HB3.out.size))
      clear hb4
      clear hr3 hl3 hd3 hc3 he3
      go_wp2_with fail
      refine (HM2.out _).mono ?_
      rintro e w5 ⟨rfl, rfl⟩
      go_wp2_with fail
      refine HTx.out.mono ?_
      rintro e w5 ⟨rfl, hb5⟩
      have HB5 := Lib.hid (HB4.out.trans (hb5.mono HB4.out.size))
      clear hb5
      go_wp2
      go_ret
      exact ⟨_, rfl, HB5.out, HZ.out⟩
    · have hk0 : 0 ≤ k := by
        rw [hk]; unfold cmpI; rw [if_neg hlt]; split <;> omega
      have HLt := Lib.hid (HT1.out (by omega))
      clear hlt hk
      go_wp2_with fail
      refine HO1.out.mono ?_
      rintro e w3 ⟨rfl, hb3⟩
      have HA1 := Lib.hid (HLt.out v1 v2 w3 (RI.below HR1b.out hb3) (RI.below HR2.out hb3))
      have HB3 := Lib.hid (HB2.out.trans (hb3.mono HB2.out.size))
      clear hb3
      go_wp2_with fail
      refine HA1.out.mono ?_
      rintro e w4 ⟨v3, rfl, hb4, out, hr3, hl3, hd3, hc3, he3⟩
      have HTx := Lib.hid (zText_any v3 out m1 w4 hr3 hd3 hl3)
      have HZ := Lib.hid (zs_text (m := m1) hd3 hc3)
      rw [plus_more HNe.out he3] at HZ
      have HB4 := Lib.hid (HB3.out.trans (hb4.mono HB3.out.size))
      clear hb4
      clear hr3 hl3 hd3 hc3 he3
      go_wp2_with fail
      refine (HM1.out _).mono ?_
      rintro e w5 ⟨rfl, rfl⟩
      go_wp2_with fail
      refine HTx.out.mono ?_
      rintro e w5 ⟨rfl, hb5⟩
      have HB5 := Lib.hid (HB4.out.trans (hb5.mono HB4.out.size))
      clear hb5
      go_wp2
      go_ret
      exact ⟨_, rfl, HB5.out, HZ.out⟩
end Go.Proofs.YtefggpdobjboeaaGreat

namespace Go.Proofs.YtefggpdobjboeaaGreat
open Go.RowKit Go.Shelf

theorem B15.neg {x : Int} (h : B15 x) : B15 (-x) := by unfold B15 at *; omega
set_option maxRecDepth 100000 in
set_option maxHeartbeats 4000000 in
theorem zLess_any (va vb : Value) (x y : Int) (w : World) (ha : ZS va x) (hb : ZS vb y) (hx : B15 x) (hy : B15 y) :
    Calls Tryz.prog 97 #[va, vb] w fun e w' => ∃ v', e = .returned v' ∧ Below w.heap.size w w' ∧ ZS v' (x - y) := by
  have HT := Lib.hid (zTurned_any vb y w hb hy)
  have HP : Hid (∀ (v : Value) (W : World), ZS v (-y) → Calls Tryz.prog 139 #[va, v] W fun e w' => ∃ v', e = .returned v' ∧ Below W.heap.size W w' ∧ ZS v' (x - y)) := fun v W h => by
    have := zPlus_any va v x (-y) W ha h hx hy.neg
    rwa [show x + -y = x - y by omega] at this
  clear ha hb hx hy
  go_enter Tryz.func97, Tryz.ntmps97
  go_wp2_with fail
  refine HT.out.mono ?_
  rintro e w1 ⟨v1, rfl, hb1, hz1⟩
  have HP1 := Lib.hid (HP.out v1 w1 hz1)
  have HB1 := Lib.hid hb1
  clear hb1 hz1
  go_wp2_with fail
  refine HP1.out.mono ?_
  rintro e w2 ⟨v2, rfl, hb2, hz2⟩
  have HZ := Lib.hid hz2
  have HB2 := Lib.hid (HB1.out.trans (hb2.mono HB1.out.size))
  clear hb2
  clear hz2
  go_wp2
  go_ret
  exact ⟨_, rfl, HB2.out, HZ.out⟩
end Go.Proofs.YtefggpdobjboeaaGreat
