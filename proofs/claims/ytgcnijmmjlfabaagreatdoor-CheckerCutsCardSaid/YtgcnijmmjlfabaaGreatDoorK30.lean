/- Contract of the reference's grouped. -/
import Derived.Test.YtgcnijmmjlfabaaGreatDoorK29
import Derived.Test.YtgcnijmmjlfabaaGreatDoorK00
set_option maxRecDepth 100000
set_option maxHeartbeats 16000000
namespace Go.Proofs.YtgcnijmmjlfabaaGreatDoor
open Go.RowKit Go.Shelf

/-- A part of a slice, as the walk takes it. -/
theorem sub_lh {W : World} {A : Option Addr} {c : Nat} {l : List Int} (h : RI W (.slice A l.length c) l) (hc : l.length ≤ c) (lo hi : Nat) (h1 : lo ≤ hi) (h2 : hi ≤ l.length) :
    ∃ P : Option Addr, RI W (.slice P (hi - lo) (c - lo)) ((l.take hi).drop lo) ∧ ∀ W' : World, (Instr.slice 42 (.slice A l.length c) (some (.int .i64 (lo : Int))) (some (.int .i64 (hi : Int))) none).run Tryz.prog W' = .ok (.slice P (hi - lo) (c - lo)) W' := by
  refine ⟨if c = lo then A else A.map (·.add lo), ?_, fun W' => ?_⟩
  · by_cases e : c = lo
    · rw [if_pos e]; exact RI.emp (m := hi - lo) (by simp; omega) (by omega) (by omega)
    · rw [if_neg e]
      by_cases e2 : lo = hi
      · exact RI.emp (m := hi - lo) (by simp; omega) (by omega) (by omega)
      · obtain ⟨A', c', he, -, -, hcl⟩ := h.open_
        simp only [Value.slice.injEq, true_and] at he
        obtain ⟨rfl, rfl⟩ := he
        obtain ⟨ad, -, rfl, -⟩ := hcl 0 (by omega)
        exact RI.sub h h1 h2
  · rw [run_slice_lh W' 42 A l.length c Tryz.underlying42 .i64 .i64 (lo : Int) (hi : Int) (by omega) (by omega) (by omega)]
    simp [go_sem]
theorem sub_h {W : World} {A : Option Addr} {c : Nat} {l : List Int} (h : RI W (.slice A l.length c) l) (hc : l.length ≤ c) (hi : Nat) (h2 : hi ≤ l.length) :
    RI W (.slice A hi c) ((l.take hi).drop 0) ∧ ∀ W' : World, (Instr.slice 42 (.slice A l.length c) none (some (.int .i64 (hi : Int))) none).run Tryz.prog W' = .ok (.slice A hi c) W' := by
  refine ⟨?_, fun W' => ?_⟩
  · by_cases e2 : hi = 0
    · exact RI.emp (m := 0) (by simp; omega) rfl e2
    · obtain ⟨A', c', he, -, -, hcl⟩ := h.open_
      simp only [Value.slice.injEq, true_and] at he
      obtain ⟨rfl, rfl⟩ := he
      obtain ⟨ad, -, rfl, -⟩ := hcl 0 (by omega)
      have := RI.pre h h2
      rwa [List.drop_zero]
  · rw [run_slice_h W' 42 A l.length c Tryz.underlying42 .i64 (hi : Int) (by omega) (by omega)]
    by_cases e : c = 0
    · subst e; simp [go_sem]
    · simp [go_sem, e, Addr.add]
theorem sub_l {W : World} {A : Option Addr} {c : Nat} {l : List Int} (h : RI W (.slice A l.length c) l) (hc : l.length ≤ c) (lo : Nat) (h2 : lo ≤ l.length) :
    ∃ P : Option Addr, RI W (.slice P (l.length - lo) (c - lo)) ((l.take l.length).drop lo) ∧ ∀ W' : World, (Instr.slice 42 (.slice A l.length c) (some (.int .i64 (lo : Int))) none none).run Tryz.prog W' = .ok (.slice P (l.length - lo) (c - lo)) W' := by
  obtain ⟨P, h3, -⟩ := sub_lh h hc lo l.length h2 (Nat.le_refl _)
  refine ⟨if c = lo then A else A.map (·.add lo), ?_, fun W' => ?_⟩
  · by_cases e : c = lo
    · rw [if_pos e]; exact RI.emp (m := l.length - lo) (by simp) (by omega) (by omega)
    · rw [if_neg e]
      by_cases e2 : lo = l.length
      · exact RI.emp (m := l.length - lo) (by simp) (by omega) (by omega)
      · obtain ⟨A', c', he, -, -, hcl⟩ := h.open_
        simp only [Value.slice.injEq, true_and] at he
        obtain ⟨rfl, rfl⟩ := he
        obtain ⟨ad, -, rfl, -⟩ := hcl 0 (by omega)
        exact RI.sub h h2 (Nat.le_refl _)
  · rw [run_slice_l W' 42 A l.length c Tryz.underlying42 .i64 (lo : Int) (by omega) (by omega)]
    simp [go_sem]
theorem red_snoc {n : Nat} (es : List Tri) {i k : Nat} (hi : i < n) (hk : k < n) : (redL n es).take (i * n + (k + 1)) = (redL n es).take (i * n + k) ++ [redC n es i k] := by
  have h := pos_lt hi hk
  rw [← Nat.add_assoc, List.take_add_one, List.getElem?_eq_getElem (by rw [redL_len]; exact h)]
  have h2 := redL_at (es := es) h
  rw [List.getD_eq_getElem?_getD, List.getElem?_eq_getElem (by rw [redL_len]; exact h), pos_div hk, pos_mod hk] at h2
  have h3 : (redL n es)[i * n + k]'(by rw [redL_len]; exact h) = redC n es i k := h2
  rw [h3]; rfl
theorem rGrouped_any (g va vb vf vl : Value) (n : Nat) (kk Q N : Int) (es : List Tri) (fs l : List Int) (w : World) (hg : GV w g ((n + 1 : Nat) : Int) es) (hf : RI w vf fs) (hl : RI w vl l) (hE : Edges (n + 1) es) (hn : n ≤ 11) (hfl : fs.length ≤ 100000) (hlb : Bd 1048576 l) :
    Calls Tryz.prog 92 #[g, .agg #[.int .i64 kk, .int .i64 Q, .int .i64 N, va, vb, vf], vl] w fun e w' => e = .returned (.int .i64 (groupedE n es fs l)) ∧ Below w.heap.size w w' := by
  obtain ⟨i0, hi, hz0, hz1, hz2⟩ := info_parts int_info
  obtain ⟨gn, hgn⟩ : ∃ gn : Int, gn = ((n + 1 : Nat) : Int) := ⟨_, rfl⟩
  rw [← hgn] at hg
  obtain ⟨A, c, rfl, -⟩ := hg.open_
  obtain ⟨W0, hW0⟩ : ∃ W0, W0 = (w.alloc (.cells #[.int .i64 gn, .slice A es.length c] 24)).alloc (.cells #[.int .i64 kk, .int .i64 Q, .int .i64 N, va, vb, vf] 91) := ⟨_, rfl⟩
  have hb0 : Below w.heap.size w W0 := by rw [hW0]; exact (below_alloc w _).alloc (by simp) _
  have hxg : BL W0 w.heap.size 24 [.int .i64 gn, .slice A es.length c] := by rw [hW0]; exact (BL.new' w _ _).alloc _
  have hxc : BL W0 (w.heap.size + 1) 91 [.int .i64 kk, .int .i64 Q, .int .i64 N, va, vb, vf] := by
    rw [hW0]
    have := BL.new' (w.alloc (.cells #[.int .i64 gn, .slice A es.length c] 24)) #[.int .i64 kk, .int .i64 Q, .int .i64 N, va, vb, vf] 91
    rwa [World.size_alloc] at this
  have HXg := Lib.hid hxg
  have HXc := Lib.hid hxc
  have HG0 := Lib.hid (hg.below hb0)
  have HB0 := Lib.hid hb0
  have HW0 := Lib.hid hW0
  clear hg hxg hxc hW0
  have hl0 := RI.below hl hb0
  have HF0 := Lib.hid (RI.below hf hb0)
  obtain ⟨A2, e2, rfl, hlc, -, -⟩ := hl0.open_
  have g0 := HXg.out.cell 0
  obtain ⟨m1, hm1⟩ : ∃ m1, m1 = n * n := ⟨_, rfl⟩
  have hm121 : m1 ≤ 121 := by rw [hm1]; exact Nat.le_trans (Nat.mul_le_mul hn hn) (by decide)
  have q1 : (n : Int) * (n : Int) = (m1 : Int) := by rw [hm1]; push_cast; rfl
  have p4 : 4 * (n : Int) * (n : Int) = ((4 * m1 : Nat) : Int) := by rw [Int.mul_assoc, q1]; push_cast; rfl
  have p3 : 3 * (n : Int) * (n : Int) = ((3 * m1 : Nat) : Int) := by rw [Int.mul_assoc, q1]; push_cast; rfl
  have p2 : 2 * (n : Int) * (n : Int) = ((2 * m1 : Nat) : Int) := by rw [Int.mul_assoc, q1]; push_cast; rfl
  obtain ⟨m4, hm4⟩ : ∃ m4, m4 = 4 * m1 := ⟨_, rfl⟩
  obtain ⟨m3, hm3⟩ : ∃ m3, m3 = 3 * m1 := ⟨_, rfl⟩
  obtain ⟨m2, hm2⟩ : ∃ m2, m2 = 2 * m1 := ⟨_, rfl⟩
  rw [← hm4] at p4
  rw [← hm3] at p3
  rw [← hm2] at p2
  have j1 : IntKind.i64.wrap ((n : Int) * (n : Int)) = (m1 : Int) := by rw [q1]; simp (disch := omega) only [IntWalk.i64_in]
  have j2 : IntKind.i64.wrap (2 * (n : Int) * (n : Int)) = (m2 : Int) := by rw [p2]; simp (disch := omega) only [IntWalk.i64_in]
  have j3 : IntKind.i64.wrap (3 * (n : Int) * (n : Int)) = (m3 : Int) := by rw [p3]; simp (disch := omega) only [IntWalk.i64_in]
  have j4 : IntKind.i64.wrap (4 * (n : Int) * (n : Int)) = (m4 : Int) := by rw [p4]; simp (disch := omega) only [IntWalk.i64_in]
  have hgn1 : gn - 1 = (n : Int) := by omega
  have hi0 : gn ≤ 12 := by omega
  have hnn : 4 * n * n = m4 := by rw [hm4, hm1, Nat.mul_assoc]
  by_cases hpn : l.length = m4
  · have t : ((l.length : Int) != (m4 : Int)) = false := by rw [bne_eq_false_iff_eq]; omega
    have hls := fun j (hj : j < 4) => sqP_len (n := n) (pf := l) (j := j) (by omega) hj
    have hbs := fun j => sqP_bd (n := n) hlb (by decide) j
    obtain ⟨s0r, sl0⟩ := sub_h hl0 hlc m1 (by omega)
    obtain ⟨P1, s1r, sl1⟩ := sub_lh hl0 hlc m1 m2 (by omega) (by omega)
    obtain ⟨P2, s2r, sl2⟩ := sub_lh hl0 hlc m2 m3 (by omega) (by omega)
    obtain ⟨P3, s3r, sl3⟩ := sub_l hl0 hlc m3 (by omega)
    have e0 : (l.take m1).drop 0 = sqP n l 0 := by unfold sqP; rw [Nat.zero_mul, Nat.zero_add, Nat.one_mul, hm1]
    have e1 : (l.take m2).drop m1 = sqP n l 1 := by unfold sqP; rw [hm2, hm1, Nat.one_mul]
    have e2' : (l.take m3).drop m2 = sqP n l 2 := by unfold sqP; rw [hm3, hm2, hm1]
    have e3 : (l.take l.length).drop m3 = sqP n l 3 := by unfold sqP; rw [hpn, hm4, hm3, hm1]
    rw [e0] at s0r
    rw [e1] at s1r
    rw [e2'] at s2r
    rw [e3] at s3r
    have HR0 := Lib.hid s0r
    have HR1 := Lib.hid s1r
    have HR2 := Lib.hid s2r
    have HR3 := Lib.hid s3r
    have HT01 : Hid (∀ W : World, Below W0.heap.size W0 W → Calls Tryz.prog 131 #[.int .i64 (n : Int), .slice A2 m1 e2, .slice P1 (m2 - m1) (e2 - m1)] W fun e w' => ∃ v, e = .returned v ∧ OI w' W.heap.size v (tmsL n (sqP n l 0) (sqP n l 1)) ∧ Below W.heap.size W w') := fun W h =>
      rTimes_any _ _ n _ _ 1048576 1048576 W (RI.below HR0.out h) (RI.below HR1.out h) hn (hls 0 (by decide)) (hls 1 (by decide)) (hbs 0) (hbs 1) (by decide) (by decide)
    have HT23 : Hid (∀ W : World, Below W0.heap.size W0 W → Calls Tryz.prog 131 #[.int .i64 (n : Int), .slice P2 (m3 - m2) (e2 - m2), .slice P3 (l.length - m3) (e2 - m3)] W fun e w' => ∃ v, e = .returned v ∧ OI w' W.heap.size v (tmsL n (sqP n l 2) (sqP n l 3)) ∧ Below W.heap.size W w') := fun W h =>
      rTimes_any _ _ n _ _ 1048576 1048576 W (RI.below HR2.out h) (RI.below HR3.out h) hn (hls 2 (by decide)) (hls 3 (by decide)) (hbs 2) (hbs 3) (by decide) (by decide)
    have HT0r : Hid (∀ (v : Value) (W : World), Below W0.heap.size W0 W → RI W v (redL n es) → Calls Tryz.prog 131 #[.int .i64 (n : Int), .slice A2 m1 e2, v] W fun e w' => ∃ v, e = .returned v ∧ OI w' W.heap.size v (tmsL n (sqP n l 0) (redL n es)) ∧ Below W.heap.size W w') := fun v W h hv =>
      rTimes_any _ _ n _ _ 1048576 600 W (RI.below HR0.out h) hv hn (hls 0 (by decide)) (redL_len n es) (hbs 0) (redL_bd hE hn) (by decide) (by decide)
    have hb3 : Bd (1200000000 * 11) (tmsL n (sqP n l 0) (redL n es)) := tmsL_bd ((hbs 0).mono (by decide)) (redL_bd hE hn) (by decide : (0 : Int) ≤ 2000000) (by decide) (by decide) hn
    have HTx2 : Hid (∀ (v : Value) (W : World), Below W0.heap.size W0 W → RI W v (tmsL n (sqP n l 0) (redL n es)) → Calls Tryz.prog 131 #[.int .i64 (n : Int), v, .slice P2 (m3 - m2) (e2 - m2)] W fun e w' => ∃ v, e = .returned v ∧ OI w' W.heap.size v (tmsL n (tmsL n (sqP n l 0) (redL n es)) (sqP n l 2)) ∧ Below W.heap.size W w') := fun v W h hv =>
      rTimes_any _ _ n _ _ (1200000000 * 11) 1048576 W hv (RI.below HR2.out h) hn (tmsL_len n _ _) (hls 2 (by decide)) hb3 (hbs 2) (by decide) (by decide)
    have HDn : Hid (∀ (v : Value) (x : List Int) (W : World), RI W v x → x.length = n * n → Calls Tryz.prog 130 #[.int .i64 (n : Int), v, .slice none 0 0] W fun e w' => e = .returned (.bool (diaB n x [])) ∧ Below W.heap.size W w') := fun v x W hv hx =>
      rDiag_any v _ n x [] W hv (RI.emp (m := 0) rfl rfl rfl) hn hx (by simp)
    have HDl : Hid (∀ (v : Value) (W : World), Below W0.heap.size W0 W → RI W v (tmsL n (tmsL n (sqP n l 0) (redL n es)) (sqP n l 2)) → Calls Tryz.prog 130 #[.int .i64 (n : Int), v, vf] W fun e w' => e = .returned (.bool (diaB n (tmsL n (tmsL n (sqP n l 0) (redL n es)) (sqP n l 2)) fs)) ∧ Below W.heap.size W w') := fun v W h hv =>
      rDiag_any v _ n _ fs W hv (RI.below HF0.out h) hn (tmsL_len n _ _) hfl
    have HVl : Hid (∀ (v : Nat) (W : World), Below W0.heap.size W0 W → Calls Tryz.prog 128 #[.agg #[.int .i64 gn, .slice A es.length c], .int .i64 ((v : Int) + 1)] W fun e w' => e = .returned (.int .i64 (valK es (v + 1) (n + 1))) ∧ Below W.heap.size W w') := fun v W h => by
      have := rVal_any (.agg #[.int .i64 gn, .slice A es.length c]) (n + 1) (v + 1) es W (by rw [← hgn]; exact HG0.out.below h) hE (by omega)
      exact this
    have HJ : Hid (∀ (u v : Nat) (W : World), Below W0.heap.size W0 W → u ≠ v → Calls Tryz.prog 129 #[.agg #[.int .i64 gn, .slice A es.length c], .int .i64 ((u : Int) + 1), .int .i64 ((v : Int) + 1)] W fun e w' => e = .returned (.int .i64 (wgt es (u + 1) (v + 1))) ∧ Below W.heap.size W w') := fun u v W h h1 => by
      have h2 := between_any (.agg #[.int .i64 gn, .slice A es.length c]) gn es ((u + 1 : Nat) : Int) ((v + 1 : Nat) : Int) W (HG0.out.below h)
      rw [btw_wgt hE (show u + 1 ≠ v + 1 by omega)] at h2
      exact h2
    have HWb : Hid (∀ u v : Nat, 0 ≤ wgt es v u ∧ wgt es v u ≤ 50) := fun u v => wgt50 hE v u
    have HSn : Hid (∀ i k, i < n → k < n → (redL n es).take (i * n + (k + 1)) = (redL n es).take (i * n + k) ++ [redC n es i k]) := fun i k h1 h2 => red_snoc es h1 h2
    have HRd : Hid (∀ i k, i ≠ k → redC n es i k = - wgt es (i + 1) (k + 1)) := fun i k h => by show _ = _; unfold redC; rw [if_neg h]
    have HRe : Hid (∀ i, redC n es i i = valK es (i + 1) (n + 1)) := fun i => by show _ = _; unfold redC; rw [if_pos rfl]
    have HRl : Hid (∀ p, ((redL n es).take p).length ≤ 121) := fun p => by rw [List.length_take, redL_len, ← hm1]; omega
    have HRn : Hid ((redL n es).take (n * n) = redL n es) := by show _ = _; rw [List.take_of_length_le (by rw [redL_len]; omega)]
    have HX1 := Lib.hid (tmsL_len n (sqP n l 0) (sqP n l 1))
    have HX2 := Lib.hid (tmsL_len n (sqP n l 2) (sqP n l 3))
    have HSp : Hid (groupedE n es fs l = if (diaB n (tmsL n (sqP n l 0) (sqP n l 1)) [] && diaB n (tmsL n (sqP n l 2) (sqP n l 3)) [] && diaB n (tmsL n (tmsL n (sqP n l 0) (redL n es)) (sqP n l 2)) fs) = true then 0 else 16) := by
      show _ = _; unfold groupedE; rw [if_neg (by omega)]
    clear hf hl hE hfl hlb hl0 hb0 hls hbs s0r s1r s2r s3r e0 e1 e2' e3 hb3 hpn hnn
    generalize tmsL n (tmsL n (sqP n l 0) (redL n es)) (sqP n l 2) = x3 at *
    generalize tmsL n (sqP n l 0) (redL n es) = xr at *
    generalize tmsL n (sqP n l 0) (sqP n l 1) = x1 at *
    generalize tmsL n (sqP n l 2) (sqP n l 3) = x2 at *
    have HDn1 := Lib.hid (fun v W h => HDn.out v x1 W h HX1.out)
    have HDn2 := Lib.hid (fun v W h => HDn.out v x2 W h HX2.out)
    clear HDn
    generalize diaB n x1 [] = d1 at *
    generalize diaB n x2 [] = d2 at *
    generalize diaB n x3 fs = d3 at *
    generalize groupedE n es fs l = GE at *
    have r2 : 2 * (m1 : Int) = (m2 : Int) := by omega
    have r3 : 3 * (m1 : Int) = (m3 : Int) := by omega
    have r4 : 4 * (m1 : Int) = (m4 : Int) := by omega
    have b4 : m4 ≤ 484 := by omega
    have b3 : m3 ≤ 484 := by omega
    have b2 : m2 ≤ 484 := by omega
    clear p2 p3 p4 hgn hm1 hm2 hm3 hm4
    go_enter Tryz.func92, Tryz.ntmps92
    go_upto_region 1 with fail
    rw [← HW0.out]
    go_wp2_with fail
    clear g0
    go_loopw [8, 9] (fun o ii wr => ∃ (i : Nat) (vo : Value), vo = o ∧ i ≤ n ∧ ii = .int .i64 ((i : Int) + 1) ∧ Hid (OI wr W0.heap.size o ((redL n es).take (i * n))) ∧ Hid (Below W0.heap.size W0 wr)) (fun _ ii _ => n + 1 - (intOf ii).toNat)
    case atStart => exact ⟨0, _, rfl, Nat.zero_le _, rfl, by rw [Nat.zero_mul, List.take_zero]; exact OI.nil_ _ _, Below.refl _ _⟩
    case round =>
      obtain ⟨i, vo, rfl, hin, rfl, hol, hb⟩ := hrel
      have g0 := (HXg.out.bel hb.out).cell 0
      by_cases hlt : i < n
      · have hg1 : (i : Int) + 1 < gn := by omega
        go_wp2_with fail
        clear g0
        go_loopw [8, 10] (fun o jj wr => ∃ (k : Nat) (vo : Value), vo = o ∧ k ≤ n ∧ jj = .int .i64 ((k : Int) + 1) ∧ Hid (OI wr W0.heap.size o ((redL n es).take (i * n + k))) ∧ Hid (Below W0.heap.size W0 wr)) (fun _ jj _ => n + 1 - (intOf jj).toNat)
        case atStart => exact ⟨0, _, rfl, Nat.zero_le _, rfl, hol.out, hb.out⟩
        case round =>
          obtain ⟨k, vo, rfl, hkn, rfl, hol, hb⟩ := hrel
          have g0 := (HXg.out.bel hb.out).cell 0
          have g1 := (HXg.out.bel hb.out).cell 1
          by_cases hlk : k < n
          · have hg2 : (k : Int) + 1 < gn := by omega
            have HSk := Lib.hid (HSn.out i k hlt hlk)
            have hrl := HRl.out (i * n + k)
            generalize (redL n es).take (i * n + k) = acc at *
            by_cases hik : i = k
            · subst hik
              have t1 : (((i : Int) + 1) == ((i : Int) + 1)) = true := by simp
              rw [HRe.out i] at HSk
              have HV1 := Lib.hid (HVl.out i wr hb.out)
              generalize valK es (i + 1) (n + 1) = z at *
              go_wp2_with fail
              refine HV1.out.mono ?_
              rintro e w1 ⟨rfl, hb1⟩
              have HO1 := Lib.hid (OI.below hol.out hb1)
              have HB1 := Lib.hid (hb.out.trans (hb1.mono hb.out.size))
              clear hb1
              clear hol HV1 g0 g1
              obtain ⟨hov, hrv, hfin⟩ := OI.snoc HO1.out z HB1.out
              have HOv := Lib.hid hov
              have HRv := Lib.hid hrv
              have HFin := Lib.hid hfin
              have hszB := HB1.out.size
              clear hov hrv hfin
              go_wp2_with (at_builtin; refine wpList_appendV _ rfl _ _ _ rfl 3 i0 _ 8 Tryz.underlying42 hi hz0 hz1 hz2 rfl W0.heap.size _ _ rfl HOv.out _ _ rfl HRv.out (one_ones rfl) (by first | omega | (simp; omega)) (by first | omega | (simp; omega)) (by first | omega | (simp; omega)) ?_; intro v3 w3 hown hg hat; obtain ⟨hf1, hf2⟩ := HFin.out v3 w3 hown hg; have HF1 := Lib.hid hf1; have HF2 := Lib.hid hf2; clear hown hg hat hf1 hf2)
              go_wp2
              go_roundw
              case rel => exact ⟨i + 1, _, rfl, by omega, by go_num, by rw [HSk.out]; exact HF1.out, HF2.out⟩
              case measure => simp [intOf]; omega
            · have t1 : (((i : Int) + 1) == ((k : Int) + 1)) = false := by rw [beq_eq_false_iff_ne]; omega
              rw [HRd.out i k hik] at HSk
              have HJ1 := Lib.hid (HJ.out i k wr hb.out hik)
              have hwb := HWb.out (k + 1) (i + 1)
              generalize wgt es (i + 1) (k + 1) = z at *
              go_wp2_with fail
              refine HJ1.out.mono ?_
              rintro e w1 ⟨rfl, hb1⟩
              have HO1 := Lib.hid (OI.below hol.out hb1)
              have HB1 := Lib.hid (hb.out.trans (hb1.mono hb.out.size))
              clear hb1
              clear hol HJ1 g0 g1 hik
              obtain ⟨hov, hrv, hfin⟩ := OI.snoc HO1.out (-z) HB1.out
              have HOv := Lib.hid hov
              have HRv := Lib.hid hrv
              have HFin := Lib.hid hfin
              have hszB := HB1.out.size
              clear hov hrv hfin
              go_wp2_with (at_builtin; refine wpList_appendV _ rfl _ _ _ rfl 3 i0 _ 8 Tryz.underlying42 hi hz0 hz1 hz2 rfl W0.heap.size _ _ rfl HOv.out _ _ rfl HRv.out (one_ones rfl) (by first | omega | (simp; omega)) (by first | omega | (simp; omega)) (by first | omega | (simp; omega)) ?_; intro v3 w3 hown hg hat; obtain ⟨hf1, hf2⟩ := HFin.out v3 w3 hown hg; have HF1 := Lib.hid hf1; have HF2 := Lib.hid hf2; clear hown hg hat hf1 hf2)
              go_wp2
              go_roundw
              case rel => exact ⟨k + 1, _, rfl, by omega, by go_num, by rw [HSk.out]; exact HF1.out, HF2.out⟩
              case measure => simp [intOf]; omega
          · obtain rfl : n = k := by omega
            have hg2 : ¬ ((n : Int) + 1 < gn) := by omega
            have HO2 : Hid (OI wr W0.heap.size vo ((redL n es).take ((i + 1) * n))) := by rw [Nat.succ_mul]; exact hol.out
            clear hol
            go_wp2
            go_roundw
            case rel => exact ⟨i + 1, _, rfl, by omega, by go_num, HO2.out, hb.out⟩
            case measure => simp [intOf]; omega
      · obtain rfl : n = i := by omega
        have hg1 : ¬ ((n : Int) + 1 < gn) := by omega
        have hm := hol.out
        rw [HRn.out] at hm
        have HM := Lib.hid hm
        clear hm hol
        go_wp2_with fail
        go_quiet (fail)
        have HB2 := Lib.hid (below_drewN hb.out nq)
        have HM2 := Lib.hid (RI.below HM.out.ri (below_drewN (Below.refl wr.heap.size wr) nq))
        obtain ⟨w2, hw2⟩ : ∃ w2, w2 = wr.drewN nq := ⟨_, rfl⟩
        rw [← hw2] at HB2 HM2 ⊢
        clear hw2 sl0 sl1 sl2 sl3 g0
        have HB2d := Lib.hid HB2.out.drew
        have HK : Hid (∀ W : World, Below w2.drew.heap.size w2.drew W → W.cell? ⟨w.heap.size + 1, 5, none⟩ = some vf) := fun W hW => (HXc.out.bel (HB2d.out.trans (hW.mono HB2d.out.size))).cell 5
        have hw0 : ∀ W : World, Below w2.drew.heap.size w2.drew W → Below W0.heap.size W0 W := fun W hW => HB2d.out.trans (hW.mono HB2d.out.size)
        have HS0 := Lib.hid (HK.out w2.drew (Below.refl _ _))
        have HT0 := Lib.hid (HT01.out w2.drew HB2d.out)
        have HT2 : Hid (∀ W : World, Below w2.drew.heap.size w2.drew W → _) := fun W hW => HT23.out W (hw0 W hW)
        have HTr : Hid (∀ W : World, Below w2.drew.heap.size w2.drew W → _) := fun W hW => HT0r.out vo W (hw0 W hW) (RI.below (RI.below HM2.out (Below.refl _ _).drew) hW)
        have HTx : Hid (∀ (v : Value) (W : World), Below w2.drew.heap.size w2.drew W → RI W v xr → _) := fun v W hW hv => HTx2.out v W (hw0 W hW) hv
        have HDx : Hid (∀ (v : Value) (W : World), Below w2.drew.heap.size w2.drew W → RI W v x3 → _) := fun v W hW hv => HDl.out v W (hw0 W hW) hv
        have HBf := Lib.hid (HB0.out.trans (HB2d.out.mono HB0.out.size))
        clear HT01 HT23 HT0r HTx2 HDl hw0 HSn HRd HRe HRl HRn HVl HJ HWb HM HM2
        cases d1
        · go_wp2_with fail
          refine wp_region_held_drew (S := (fun W' : World => W'.cell? ⟨w.heap.size + 1, 5, none⟩ = some vf)) (by kernel_rfl) HS0.out (fun hHeld => ?_)
          refine tkY (v := ?_) 0 (some 84) rfl (.inl ⟨by rfl, ?_⟩) ?_
          rotate_left
          · (intro w hSw; (try dsimp only at hSw); go_simp; try with_reducible rfl)
          try simp only [Act.put, tk1, tk2, tk3]
          refine tkY (v := ?_) 1 (some 85) rfl (.inl ⟨by rfl, ?_⟩) ?_
          rotate_left
          · (intro w hSw; (try dsimp only at hSw); go_simp; try with_reducible rfl)
          try simp only [Act.put, tk1, tk2, tk3]
          refine tkY (v := ?_) 2 (some 86) rfl (.inl ⟨by rfl, ?_⟩) ?_
          rotate_left
          · (intro w hSw; (try dsimp only at hSw); go_simp; try with_reducible rfl)
          try simp only [Act.put, tk1, tk2, tk3]
          refine tkY (v := ?_) 3 (some 87) rfl (.inl ⟨by rfl, ?_⟩) ?_
          rotate_left
          · (intro w hSw; (try dsimp only at hSw); go_simp; try with_reducible rfl)
          try simp only [Act.put, tk1, tk2, tk3]
          refine wpAnyH_ready (rs := [4]) (by kernel_rfl) (by simp) ?_
          refine AllReadyH.cons (o := { dst := some 88, op := _, type := _, pos := _, after := _, guard := _ }) rfl (fun K hK => ?_) AllReadyH.nil
          go_simp
          (with_reducible refine HT0.out.mono ?_); rintro e w1 ⟨s1, rfl, hr1, hb1⟩; have HB1 := Lib.hid hb1; have HS1 := Lib.hid (HK.out w1 HB1.out); have HD1 := Lib.hid (HDn1.out s1 w1 hr1.ri); clear hb1 hr1
          clear hHeld
          refine hK.out _ _ HS1.out (fun hHeld => ?_)
          clear hK K
          try simp only [Act.put, tk1, tk2, tk3]
          refine wpAnyH_ready (rs := [5]) (by kernel_rfl) (by simp) ?_
          refine AllReadyH.cons (o := { dst := some 89, op := _, type := _, pos := _, after := _, guard := _ }) rfl (fun K hK => ?_) AllReadyH.nil
          go_simp
          (with_reducible refine HD1.out.mono ?_); rintro e w3 ⟨rfl, hb3⟩; have HB3 := Lib.hid (HB1.out.trans (hb3.mono HB1.out.size)); have HS3 := Lib.hid (HK.out w3 HB3.out); have HT3 := Lib.hid (HT2.out w3 HB3.out); clear hb3
          clear hHeld
          refine hK.out _ _ HS3.out (fun hHeld => ?_)
          clear hK K
          try simp only [Act.put, tk1, tk2, tk3]
          refine tkY (v := ?_) 6 (some 90) rfl (.inl ⟨by rfl, ?_⟩) ?_
          rotate_left
          · (intro w hSw; (try dsimp only at hSw); go_simp; try with_reducible rfl)
          try simp only [Act.put, tk1, tk2, tk3]
          refine tkY (v := ?_) 7 (some 91) rfl (.inl ⟨by rfl, ?_⟩) ?_
          rotate_left
          · (intro w hSw; (try dsimp only at hSw); go_simp; try with_reducible rfl)
          try simp only [Act.put, tk1, tk2, tk3]
          refine tkY (v := undef) 8 (some 92) rfl (.inr ⟨by rfl, rfl⟩) ?_
          try simp only [Act.put, tk1, tk2, tk3]
          refine tkY (v := undef) 9 (some 93) rfl (.inr ⟨by rfl, rfl⟩) ?_
          try simp only [Act.put, tk1, tk2, tk3]
          refine tkY (v := undef) 10 (some 94) rfl (.inr ⟨by rfl, rfl⟩) ?_
          try simp only [Act.put, tk1, tk2, tk3]
          refine tkY (v := undef) 11 (some 95) rfl (.inr ⟨by rfl, rfl⟩) ?_
          try simp only [Act.put, tk1, tk2, tk3]
          refine tkY (v := undef) 12 (some 96) rfl (.inr ⟨by rfl, rfl⟩) ?_
          try simp only [Act.put, tk1, tk2, tk3]
          refine tkY (v := undef) 13 (some 97) rfl (.inr ⟨by rfl, rfl⟩) ?_
          try simp only [Act.put, tk1, tk2, tk3]
          refine tkY (v := undef) 14 (some 98) rfl (.inr ⟨by rfl, rfl⟩) ?_
          try simp only [Act.put, tk1, tk2, tk3]
          refine tkY (v := ?_) 15 (some 99) rfl (.inl ⟨by rfl, ?_⟩) ?_
          rotate_left
          · (intro w hSw; (try dsimp only at hSw); go_simp; try with_reducible rfl)
          try simp only [Act.put, tk1, tk2, tk3]
          refine tkY (v := ?_) 16 (some 100) rfl (.inl ⟨by rfl, ?_⟩) ?_
          rotate_left
          · (intro w hSw; (try dsimp only at hSw); go_simp; try with_reducible rfl)
          try simp only [Act.put, tk1, tk2, tk3]
          refine tkY (v := undef) 17 (some 101) rfl (.inr ⟨by rfl, rfl⟩) ?_
          try simp only [Act.put, tk1, tk2, tk3]
          refine tkY (v := undef) 18 (some 102) rfl (.inr ⟨by rfl, rfl⟩) ?_
          try simp only [Act.put, tk1, tk2, tk3]
          refine tkY (v := undef) 19 (some 103) rfl (.inr ⟨by rfl, rfl⟩) ?_
          try simp only [Act.put, tk1, tk2, tk3]
          refine tkY (v := undef) 20 (some 104) rfl (.inr ⟨by rfl, rfl⟩) ?_
          try simp only [Act.put, tk1, tk2, tk3]
          refine tkY (v := undef) 21 (some 105) rfl (.inr ⟨by rfl, rfl⟩) ?_
          try simp only [Act.put, tk1, tk2, tk3]
          refine tkY (v := undef) 22 (some 106) rfl (.inr ⟨by rfl, rfl⟩) ?_
          try simp only [Act.put, tk1, tk2, tk3]
          refine tkY (v := undef) 23 (some 107) rfl (.inr ⟨by rfl, rfl⟩) ?_
          try simp only [Act.put, tk1, tk2, tk3]
          refine tkY (v := undef) 24 (some 108) rfl (.inr ⟨by rfl, rfl⟩) ?_
          try simp only [Act.put, tk1, tk2, tk3]
          refine tkY (v := undef) 25 (some 109) rfl (.inr ⟨by rfl, rfl⟩) ?_
          try simp only [Act.put, tk1, tk2, tk3]
          refine tkY (v := undef) 26 (some 110) rfl (.inr ⟨by rfl, rfl⟩) ?_
          try simp only [Act.put, tk1, tk2, tk3]
          refine tkY (v := undef) 27 (some 111) rfl (.inr ⟨by rfl, rfl⟩) ?_
          try simp only [Act.put, tk1, tk2, tk3]
          refine tkY (v := undef) 28 (some 112) rfl (.inr ⟨by rfl, rfl⟩) ?_
          try simp only [Act.put, tk1, tk2, tk3]
          refine tkY (v := ?_) 29 (some 113) rfl (.inl ⟨by rfl, ?_⟩) ?_
          rotate_left
          · (intro w hSw; (try dsimp only at hSw); go_simp; try with_reducible rfl)
          try simp only [Act.put, tk1, tk2, tk3]
          refine wpAnyH_done (by kernel_rfl) ?_ _
          go_wp2
          go_ret
          exact ⟨ret_i (by rw [HSp.out] <;> rfl), HBf.out.trans (HB3.out.mono HBf.out.size)⟩
        · cases d2
          · go_wp2_with fail
            refine wp_region_held_drew (S := (fun W' : World => W'.cell? ⟨w.heap.size + 1, 5, none⟩ = some vf)) (by kernel_rfl) HS0.out (fun hHeld => ?_)
            refine tkY (v := ?_) 0 (some 84) rfl (.inl ⟨by rfl, ?_⟩) ?_
            rotate_left
            · (intro w hSw; (try dsimp only at hSw); go_simp; try with_reducible rfl)
            try simp only [Act.put, tk1, tk2, tk3]
            refine tkY (v := ?_) 1 (some 85) rfl (.inl ⟨by rfl, ?_⟩) ?_
            rotate_left
            · (intro w hSw; (try dsimp only at hSw); go_simp; try with_reducible rfl)
            try simp only [Act.put, tk1, tk2, tk3]
            refine tkY (v := ?_) 2 (some 86) rfl (.inl ⟨by rfl, ?_⟩) ?_
            rotate_left
            · (intro w hSw; (try dsimp only at hSw); go_simp; try with_reducible rfl)
            try simp only [Act.put, tk1, tk2, tk3]
            refine tkY (v := ?_) 3 (some 87) rfl (.inl ⟨by rfl, ?_⟩) ?_
            rotate_left
            · (intro w hSw; (try dsimp only at hSw); go_simp; try with_reducible rfl)
            try simp only [Act.put, tk1, tk2, tk3]
            refine wpAnyH_ready (rs := [4]) (by kernel_rfl) (by simp) ?_
            refine AllReadyH.cons (o := { dst := some 88, op := _, type := _, pos := _, after := _, guard := _ }) rfl (fun K hK => ?_) AllReadyH.nil
            go_simp
            (with_reducible refine HT0.out.mono ?_); rintro e w1 ⟨s1, rfl, hr1, hb1⟩; have HB1 := Lib.hid hb1; have HS1 := Lib.hid (HK.out w1 HB1.out); have HD1 := Lib.hid (HDn1.out s1 w1 hr1.ri); clear hb1 hr1
            clear hHeld
            refine hK.out _ _ HS1.out (fun hHeld => ?_)
            clear hK K
            try simp only [Act.put, tk1, tk2, tk3]
            refine wpAnyH_ready (rs := [5]) (by kernel_rfl) (by simp) ?_
            refine AllReadyH.cons (o := { dst := some 89, op := _, type := _, pos := _, after := _, guard := _ }) rfl (fun K hK => ?_) AllReadyH.nil
            go_simp
            (with_reducible refine HD1.out.mono ?_); rintro e w3 ⟨rfl, hb3⟩; have HB3 := Lib.hid (HB1.out.trans (hb3.mono HB1.out.size)); have HS3 := Lib.hid (HK.out w3 HB3.out); have HT3 := Lib.hid (HT2.out w3 HB3.out); clear hb3
            clear hHeld
            refine hK.out _ _ HS3.out (fun hHeld => ?_)
            clear hK K
            try simp only [Act.put, tk1, tk2, tk3]
            refine tkY (v := ?_) 6 (some 90) rfl (.inl ⟨by rfl, ?_⟩) ?_
            rotate_left
            · (intro w hSw; (try dsimp only at hSw); go_simp; try with_reducible rfl)
            try simp only [Act.put, tk1, tk2, tk3]
            refine tkY (v := ?_) 7 (some 91) rfl (.inl ⟨by rfl, ?_⟩) ?_
            rotate_left
            · (intro w hSw; (try dsimp only at hSw); go_simp; try with_reducible rfl)
            try simp only [Act.put, tk1, tk2, tk3]
            refine tkY (v := ?_) 8 (some 92) rfl (.inl ⟨by rfl, ?_⟩) ?_
            rotate_left
            · (intro w hSw; (try dsimp only at hSw); go_simp; try with_reducible rfl)
            try simp only [Act.put, tk1, tk2, tk3]
            refine tkY (v := ?_) 9 (some 93) rfl (.inl ⟨by rfl, ?_⟩) ?_
            rotate_left
            · (intro w hSw; (try dsimp only at hSw); go_simp; try with_reducible rfl)
            try simp only [Act.put, tk1, tk2, tk3]
            refine tkY (v := ?_) 10 (some 94) rfl (.inl ⟨by rfl, ?_⟩) ?_
            rotate_left
            · (intro w hSw; (try dsimp only at hSw); go_simp; try with_reducible rfl)
            try simp only [Act.put, tk1, tk2, tk3]
            refine tkY (v := ?_) 11 (some 95) rfl (.inl ⟨by rfl, ?_⟩) ?_
            rotate_left
            · (intro w hSw; (try dsimp only at hSw); go_simp; try with_reducible rfl)
            try simp only [Act.put, tk1, tk2, tk3]
            refine wpAnyH_ready (rs := [12]) (by kernel_rfl) (by simp) ?_
            refine AllReadyH.cons (o := { dst := some 96, op := _, type := _, pos := _, after := _, guard := _ }) rfl (fun K hK => ?_) AllReadyH.nil
            go_simp
            (with_reducible refine HT3.out.mono ?_); rintro e w4 ⟨s4, rfl, hr4, hb4⟩; have HB4 := Lib.hid (HB3.out.trans (hb4.mono HB3.out.size)); have HS4 := Lib.hid (HK.out w4 HB4.out); have HD4 := Lib.hid (HDn2.out s4 w4 hr4.ri); clear hb4 hr4
            clear hHeld
            refine hK.out _ _ HS4.out (fun hHeld => ?_)
            clear hK K
            try simp only [Act.put, tk1, tk2, tk3]
            refine wpAnyH_ready (rs := [13]) (by kernel_rfl) (by simp) ?_
            refine AllReadyH.cons (o := { dst := some 97, op := _, type := _, pos := _, after := _, guard := _ }) rfl (fun K hK => ?_) AllReadyH.nil
            go_simp
            (with_reducible refine HD4.out.mono ?_); rintro e w5 ⟨rfl, hb5⟩; have HB5 := Lib.hid (HB4.out.trans (hb5.mono HB4.out.size)); have HS5 := Lib.hid (HK.out w5 HB5.out); have HT5 := Lib.hid (HTr.out w5 HB5.out); clear hb5
            clear hHeld
            refine hK.out _ _ HS5.out (fun hHeld => ?_)
            clear hK K
            try simp only [Act.put, tk1, tk2, tk3]
            refine tkY (v := ?_) 14 (some 98) rfl (.inl ⟨by rfl, ?_⟩) ?_
            rotate_left
            · (intro w hSw; (try dsimp only at hSw); go_simp; try with_reducible rfl)
            try simp only [Act.put, tk1, tk2, tk3]
            refine tkY (v := ?_) 15 (some 99) rfl (.inl ⟨by rfl, ?_⟩) ?_
            rotate_left
            · (intro w hSw; (try dsimp only at hSw); go_simp; try with_reducible rfl)
            try simp only [Act.put, tk1, tk2, tk3]
            refine tkY (v := ?_) 16 (some 100) rfl (.inl ⟨by rfl, ?_⟩) ?_
            rotate_left
            · (intro w hSw; (try dsimp only at hSw); go_simp; try with_reducible rfl)
            try simp only [Act.put, tk1, tk2, tk3]
            refine tkY (v := undef) 17 (some 101) rfl (.inr ⟨by rfl, rfl⟩) ?_
            try simp only [Act.put, tk1, tk2, tk3]
            refine tkY (v := undef) 18 (some 102) rfl (.inr ⟨by rfl, rfl⟩) ?_
            try simp only [Act.put, tk1, tk2, tk3]
            refine tkY (v := undef) 19 (some 103) rfl (.inr ⟨by rfl, rfl⟩) ?_
            try simp only [Act.put, tk1, tk2, tk3]
            refine tkY (v := undef) 20 (some 104) rfl (.inr ⟨by rfl, rfl⟩) ?_
            try simp only [Act.put, tk1, tk2, tk3]
            refine tkY (v := undef) 21 (some 105) rfl (.inr ⟨by rfl, rfl⟩) ?_
            try simp only [Act.put, tk1, tk2, tk3]
            refine tkY (v := undef) 22 (some 106) rfl (.inr ⟨by rfl, rfl⟩) ?_
            try simp only [Act.put, tk1, tk2, tk3]
            refine tkY (v := undef) 23 (some 107) rfl (.inr ⟨by rfl, rfl⟩) ?_
            try simp only [Act.put, tk1, tk2, tk3]
            refine tkY (v := undef) 24 (some 108) rfl (.inr ⟨by rfl, rfl⟩) ?_
            try simp only [Act.put, tk1, tk2, tk3]
            refine tkY (v := undef) 25 (some 109) rfl (.inr ⟨by rfl, rfl⟩) ?_
            try simp only [Act.put, tk1, tk2, tk3]
            refine tkY (v := undef) 26 (some 110) rfl (.inr ⟨by rfl, rfl⟩) ?_
            try simp only [Act.put, tk1, tk2, tk3]
            refine tkY (v := undef) 27 (some 111) rfl (.inr ⟨by rfl, rfl⟩) ?_
            try simp only [Act.put, tk1, tk2, tk3]
            refine tkY (v := undef) 28 (some 112) rfl (.inr ⟨by rfl, rfl⟩) ?_
            try simp only [Act.put, tk1, tk2, tk3]
            refine tkY (v := ?_) 29 (some 113) rfl (.inl ⟨by rfl, ?_⟩) ?_
            rotate_left
            · (intro w hSw; (try dsimp only at hSw); go_simp; try with_reducible rfl)
            try simp only [Act.put, tk1, tk2, tk3]
            refine wpAnyH_done (by kernel_rfl) ?_ _
            go_wp2
            go_ret
            exact ⟨ret_i (by rw [HSp.out] <;> rfl), HBf.out.trans (HB5.out.mono HBf.out.size)⟩
          · go_wp2_with fail
            go_region_held3 (fun W' : World => W'.cell? ⟨w.heap.size + 1, 5, none⟩ = some vf) (first | exact HS0.out | exact HS1.out | exact HS3.out | exact HS4.out | exact HS5.out | exact HS6.out | exact HS7.out | exact HS8.out)
              (first
                | (go_at_call 131; (with_reducible refine HT0.out.mono ?_); rintro e w1 ⟨s1, rfl, hr1, hb1⟩; have HB1 := Lib.hid hb1; have HS1 := Lib.hid (HK.out w1 HB1.out); have HD1 := Lib.hid (HDn1.out s1 w1 hr1.ri); clear hb1 hr1)
                | (go_at_call 130; (with_reducible refine HD1.out.mono ?_); rintro e w3 ⟨rfl, hb3⟩; have HB3 := Lib.hid (HB1.out.trans (hb3.mono HB1.out.size)); have HS3 := Lib.hid (HK.out w3 HB3.out); have HT3 := Lib.hid (HT2.out w3 HB3.out); clear hb3)
                | (go_at_call 131; (with_reducible refine HT3.out.mono ?_); rintro e w4 ⟨s4, rfl, hr4, hb4⟩; have HB4 := Lib.hid (HB3.out.trans (hb4.mono HB3.out.size)); have HS4 := Lib.hid (HK.out w4 HB4.out); have HD4 := Lib.hid (HDn2.out s4 w4 hr4.ri); clear hb4 hr4)
                | (go_at_call 130; (with_reducible refine HD4.out.mono ?_); rintro e w5 ⟨rfl, hb5⟩; have HB5 := Lib.hid (HB4.out.trans (hb5.mono HB4.out.size)); have HS5 := Lib.hid (HK.out w5 HB5.out); have HT5 := Lib.hid (HTr.out w5 HB5.out); clear hb5)
                | (go_at_call 131; (with_reducible refine HT5.out.mono ?_); rintro e w6 ⟨s6, rfl, hr6, hb6⟩; have HB6 := Lib.hid (HB5.out.trans (hb6.mono HB5.out.size)); have HS6 := Lib.hid (HK.out w6 HB6.out); have HT6 := Lib.hid (HTx.out s6 w6 HB6.out hr6.ri); clear hb6 hr6)
                | (go_at_call 131; (with_reducible refine HT6.out.mono ?_); rintro e w7 ⟨s7, rfl, hr7, hb7⟩; have HB7 := Lib.hid (HB6.out.trans (hb7.mono HB6.out.size)); have HS7 := Lib.hid (HK.out w7 HB7.out); have HD7 := Lib.hid (HDx.out s7 w7 HB7.out hr7.ri); clear hb7 hr7)
                | (go_at_call 130; (with_reducible refine HD7.out.mono ?_); rintro e w8 ⟨rfl, hb8⟩; have HB8 := Lib.hid (HB7.out.trans (hb8.mono HB7.out.size)); have HS8 := Lib.hid (HK.out w8 HB8.out); clear hb8))
            all_goals
              cases d3
              all_goals
                go_wp2
                go_ret
                exact ⟨ret_i (by rw [HSp.out] <;> rfl), HBf.out.trans (HB8.out.mono HBf.out.size)⟩
  · have t : ((l.length : Int) != (m4 : Int)) = true := by rw [bne_iff_ne]; omega
    have HR : Hid (groupedE n es fs l = 8) := by show _ = _; unfold groupedE; rw [if_pos (by omega)]
    clear hf hl hE hfl hlb hl0 hb0 hpn hnn p2 p3 p4 hgn
    have r4 : 4 * (m1 : Int) = (m4 : Int) := by omega
    have b4 : m4 ≤ 484 := by omega
    clear hm1 hm2 hm3 hm4
    go_enter Tryz.func92, Tryz.ntmps92
    go_upto_region 1 with fail
    rw [← HW0.out]
    go_wp2
    go_ret
    exact ⟨ret_i HR.out.symm, HB0.out⟩
end Go.Proofs.YtgcnijmmjlfabaaGreatDoor

