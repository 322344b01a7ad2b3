/- Contract of the reference's below. -/
import Derived.Test.YtgcnijmmjlfabaaGreatDoorH26
namespace Go.Proofs.YtgcnijmmjlfabaaGreatDoor
open Go.RowKit Go.Shelf

set_option maxRecDepth 100000 in
set_option maxHeartbeats 4000000 in
theorem rTotW_any (v : Value) (zs : List Int) (w : World) (hv : RI w v zs) (h100 : zs.length ≤ 100) (hb : Bd 2000000 zs) :
    Calls Tryz.prog 127 #[v] w fun e w' => e = .returned (.int .i64 zs.sum) ∧ w = w' := by
  obtain ⟨A, c, rfl, hlc, hc, hcell⟩ := hv.open_
  have HC := Lib.hid hcell
  have HBd := Lib.hid hb
  clear hcell hv hb
  go_enter Tryz.func127, Tryz.ntmps127
  go_wp2
  go_loop [3, 4] (fun s i => ∃ k : Nat, k ≤ zs.length ∧ s = .int .i64 (zs.take k).sum ∧ i = .int .i64 (k : Int)) (fun _ i => zs.length - (intOf i).toNat)
  case atStart => exact ⟨0, Nat.zero_le _, rfl, rfl⟩
  case round =>
    obtain ⟨k, hk, rfl, rfl⟩ := hrel
    by_cases hlt : k < zs.length
    · obtain ⟨ad, z, rfl, _, hz, hcl⟩ := HC.out k hlt
      have h1 := sum_take_bd (by decide) HBd.out k
      have h2 := HBd.out k
      rw [List.getD_eq_getElem?_getD, hz.out] at h2
      simp only [Option.getD_some] at h2
      have HS : Hid ((zs.take (k + 1)).sum = (zs.take k).sum + z) := by show _ = _; rw [List.take_add_one, hz.out, List.sum_append]; simp
      clear HC hz
      generalize (zs.take k).sum = x at *
      go_wp2
      go_round
      case rel => exact ⟨k + 1, by omega, by rw [HS.out], by go_num⟩
      case measure => simp [intOf]; omega
    · have HS : Hid ((zs.take k).sum = zs.sum) := by show _ = _; rw [List.take_of_length_le (by omega)]
      go_wp2
      go_ret
      exact ⟨ret_i HS.out, rfl⟩
set_option maxRecDepth 100000 in
set_option maxHeartbeats 16000000 in
theorem rBelow_any (g va vb vf vl : Value) (n : Nat) (kk Q N : Int) (es : List Tri) (d l : List Int) (w : World) (hg : GV w g n es) (ha : RI w va d) (hl : RI w vl l) (hE : Edges n es) (hn1 : 1 ≤ n) (hn : n ≤ 12) (hdl : d.length = n) (hdb : Bd 1048576 d) (hlb : Bd 1048576 l) (hN : -1 ≤ N ∧ N ≤ 12) (hll : l.length ≤ 100000) :
    Calls Tryz.prog 90 #[g, .agg #[.int .i64 kk, .int .i64 Q, .int .i64 N, va, vb, vf], vl] w fun e w' => e = .returned (.int .i64 (belowE n es N d l)) ∧ Below w.heap.size w w' := by
  obtain ⟨A, c, rfl, -⟩ := hg.open_
  obtain ⟨W0, hW0⟩ : ∃ W0, W0 = (w.alloc (.cells #[.int .i64 (n:Int), .slice A es.length c] 24)).alloc (.cells #[.int .i64 kk, .int .i64 Q, .int .i64 N, va, vb, vf] 91) := ⟨_, rfl⟩
  have hb0 : Below w.heap.size w W0 := by rw [hW0]; exact (below_alloc w _).alloc (by simp) _
  have hxg : BL W0 w.heap.size 24 [.int .i64 (n:Int), .slice A es.length c] := by rw [hW0]; exact (BL.new' w _ _).alloc _
  have hxc : BL W0 (w.heap.size + 1) 91 [.int .i64 kk, .int .i64 Q, .int .i64 N, va, vb, vf] := by
    rw [hW0]
    have := BL.new' (w.alloc (.cells #[.int .i64 (n:Int), .slice A es.length c] 24)) #[.int .i64 kk, .int .i64 Q, .int .i64 N, va, vb, vf] 91
    rwa [World.size_alloc] at this
  have HXg := Lib.hid hxg
  have HXc := Lib.hid hxc
  have HG0 := Lib.hid (hg.below hb0)
  have HB0 := Lib.hid hb0
  have HW0 := Lib.hid hW0
  clear hg hxg hxc hW0
  have hl0 := RI.below hl hb0
  have HA0 := Lib.hid (RI.below ha hb0)
  obtain ⟨A2, e2, rfl, hlc, -, hcl⟩ := hl0.open_
  have g0 := HXg.out.cell 0
  by_cases hpn : (l.length : Int) = 3 * n
  · have t : ((l.length : Int) != 3 * (n : Int)) = false := by simpa using hpn
    obtain ⟨adl, q, rfl, hqb, hq, hcq⟩ := hcl n (by omega)
    have hqq := getD_of' hq.out
    have hpre := RI.pre hl0 (j := n) (by omega)
    have hsuf := RI.suf hl0 (i := n) (by omega)
    have hel : (l.take n).length = n := by simp; omega
    have hdl2 : (l.drop n).length = 2 * n := by simp; omega
    have hb8 : Bd 1048576 (l.take n) := by have := hlb.sub (by decide) 0 n; rwa [List.drop_zero] at this
    have hdb8 : Bd 1048576 (l.drop n) := by have := hlb.sub (by decide) n l.length; rwa [List.take_of_length_le (Nat.le_refl _)] at this
    have HE := Lib.hid hpre
    have HS0 := Lib.hid hsuf
    have HV : Hid (∀ (W : World), Below W0.heap.size W0 W → Calls Tryz.prog 101 #[.agg #[.int .i64 (n : Int), .slice A es.length c], .int .i64 q] W fun e w' => e = .returned (.bool (vtxB n q)) ∧ Below W.heap.size W w') := fun W h => rVertex_any _ n es q W (HG0.out.below h)
    have HPd : Hid (∀ W, Below W0.heap.size W0 W → Calls Tryz.prog 86 #[.slice (some adl) n e2] W fun e w' => e = .returned (.bool (effB (l.take n))) ∧ w' = W) := fun W h => (rPaid_any _ (l.take n) W (RI.below HE.out h) (by omega)).mono fun e w' ⟨h1, h2⟩ => ⟨h1, h2.symm⟩
    have HTt : Hid (∀ W, Below W0.heap.size W0 W → Calls Tryz.prog 127 #[.slice (some adl) n e2] W fun e w' => e = .returned (.int .i64 (l.take n).sum) ∧ w' = W) := fun W h => (rTotW_any _ (l.take n) W (RI.below HE.out h) (by omega) (hb8.mono (by decide))).mono fun e w' ⟨h1, h2⟩ => ⟨h1, h2.symm⟩
    have HPl : Hid (∀ W, Below W0.heap.size W0 W → Calls Tryz.prog 93 #[va, .slice (some adl) n e2, .int .i64 (-1)] W fun e w' => ∃ v, e = .returned v ∧ OI w' W.heap.size v (plusL d (l.take n) (-1)) ∧ Below W.heap.size W w') := fun W h =>
      rPlus_any _ _ d (l.take n) (-1) W (RI.below HA0.out h) (RI.below HE.out h) (by rw [hdl, hel]) (by omega) (fun j _ => by
        have q1 := hdb j
        have q2 := hb8 j
        omega)
    have HLo : Hid (∀ (v : Value) (W : World), Below W0.heap.size W0 W → RI W v (plusL d (l.take n) (-1)) → Calls Tryz.prog 88 #[.agg #[.int .i64 (n : Int), .slice A es.length c], v, .slice (some (adl.add n)) (l.length - n) (e2 - n)] W fun e w' => e = .returned (.int .i64 (losesE n es (plusL d (l.take n) (-1)) (l.drop n))) ∧ Below W.heap.size W w') := fun v W h h2 =>
      rLoses_any _ v _ n es _ (l.drop n) W (HG0.out.below h) h2 (RI.below HS0.out h) hE hn1 hn (plus_len2 (-1) hdl hel) (fun j => by
        by_cases hj : j < n
        · rw [minus_at hdl hel hj]
          have q1 := hdb j
          have q2 := hb8 j
          omega
        · rw [List.getD_eq_getElem?_getD, List.getElem?_eq_none (by rw [plus_len2 (-1) hdl hel]; omega)]; simp) hdb8 hdl2
    have hsumb := sum_take_bd (B := 1048576) (by decide) hlb n
    have HSpec : Hid (belowE n es N d l = if vtxB n q = false then 2 else if effB (l.take n) = false ∨ (l.take n).sum ≠ N + 1 then 16 else losesE n es (plusL d (l.take n) (-1)) (l.drop n)) := by
      show _ = _; unfold belowE; rw [if_neg (by omega), hqq]; rfl
    have k1 : (n : Int) ≤ (e2 : Int) := by omega
    have k2 : (n : Int) < (l.length : Int) := by omega
    have k3 : (l.length : Int) ≤ (e2 : Int) := by omega
    have k6 : (n : Int) ≤ (l.length : Int) := by omega
    have k7 : n ≤ l.length := by omega
    have k4 : e2 ≠ n := by omega
    have k5 : IntKind.i64.wrap (3 * (n : Int)) = 3 * (n : Int) := by simp (disch := omega) only [IntWalk.i64_in]
    have HKs : Hid (∀ W : World, Below W0.heap.size W0 W → (W.cell? ⟨w.heap.size, 0, none⟩ = some (.int .i64 (n : Int)) ∧ W.cell? ⟨w.heap.size, 1, none⟩ = some (.slice A es.length c) ∧ W.cell? (adl.add n) = some (.int .i64 q)) ∧ (W.cell? ⟨w.heap.size + 1, 2, none⟩ = some (.int .i64 N) ∧ W.cell? ⟨w.heap.size + 1, 3, none⟩ = some va)) := fun W hW =>
      ⟨⟨(HXg.out.bel hW).cell 0, (HXg.out.bel hW).cell 1, (hW.cell (p := adl.add n) (by rw [block_of_add]; exact hqb)).trans hcq⟩, (HXc.out.bel hW).cell 2, (HXc.out.bel hW).cell 3⟩
    have HVa := Lib.hid (HV.out W0.drew (Below.refl _ _).drew)
    have HK0 := Lib.hid (HKs.out W0.drew (Below.refl _ _).drew).1
    clear ha hl hE hdl hdb hlb hl0 hcl hpn hqb hq hcq hqq hpre hsuf hel hdl2 hb8 hdb8 hb0
    generalize vtxB n q = vt at *
    generalize effB (l.take n) = ef at *
    generalize losesE n es (plusL d (l.take n) (-1)) (l.drop n) = LE at *
    generalize plusL d (l.take n) (-1) = x at *
    generalize (l.take n).sum = s at *
    generalize belowE n es N d l = BE at *
    generalize l.length = L at *
    go_enter Tryz.func90, Tryz.ntmps90
    go_upto_region 1 with fail
    rw [← HW0.out]
    go_wp2_with fail
    go_region_held3 (fun W : World => W.cell? ⟨w.heap.size, 0, none⟩ = some (.int .i64 (n : Int)) ∧ W.cell? ⟨w.heap.size, 1, none⟩ = some (.slice A es.length c) ∧ W.cell? (adl.add n) = some (.int .i64 q)) (first | exact HK0.out | exact HSb.out)
      (first | (go_at_call 101; refine HVa.out.mono ?_; rintro e w1 ⟨rfl, hb1⟩; have HB1 := Lib.hid ((Below.refl W0.heap.size W0).drew.trans hb1); have HSb := Lib.hid (HKs.out w1 HB1.out).1; clear hb1))
    clear HK0 HSb HVa g0
    have HBf := Lib.hid (HB0.out.trans (HB1.out.mono HB0.out.size))
    cases vt
    · have HR : Hid (BE = 2) := by show _ = _; rw [HSpec.out, if_pos rfl]
      go_wp2
      go_ret
      exact ⟨ret_i HR.out.symm, HBf.out⟩
    · rw [if_neg (by simp)] at HSpec
      have HPn : Hid (∀ m, Calls Tryz.prog 86 #[.slice (some adl) n e2] (w1.drewN m) fun e w' => e = .returned (.bool ef) ∧ w' = w1.drewN m) := fun m => HPd.out _ (below_drewN HB1.out m)
      have HTn : Hid (∀ m, Calls Tryz.prog 127 #[.slice (some adl) n e2] (w1.drewN m) fun e w' => e = .returned (.int .i64 s) ∧ w' = w1.drewN m) := fun m => HTt.out _ (below_drewN HB1.out m)
      obtain ⟨⟨y0, y1, y2⟩, y3, y4⟩ := HKs.out w1 HB1.out
      cases ef
      · have HR : Hid (BE = 16) := by show _ = _; rw [HSpec.out, if_pos (.inl rfl)]
        go_wp2_with fail
        go_quiet (first | (go_at_call 86; exact Calls.quiet_of_same (HPn.out _)) | (go_at_call 127; exact Calls.quiet_of_same (HTn.out _)))
        go_wp2
        go_ret
        exact ⟨ret_i HR.out.symm, below_drewN HBf.out _⟩
      · by_cases hs : s = N + 1
        · have t2 : (s != N + 1) = false := by simpa using hs
          have HR : Hid (BE = LE) := by show _ = _; rw [HSpec.out, if_neg (by simp [hs])]
          clear hs
          go_wp2_with fail
          go_quiet (first | (go_at_call 86; exact Calls.quiet_of_same (HPn.out _)) | (go_at_call 127; exact Calls.quiet_of_same (HTn.out _)))
          clear HPn HTn HPd HTt y0 y1 y2 y3 y4
          have HB2 := Lib.hid (below_drewN HB1.out nq)
          obtain ⟨w2, hw2⟩ : ∃ w2, w2 = w1.drewN nq := ⟨_, rfl⟩
          rw [← hw2] at HB2 ⊢
          clear hw2
          have HPx := Lib.hid (HPl.out w2.drew HB2.out.drew)
          have HK2 : Hid (∀ W, Below w2.drew.heap.size w2.drew W → (W.cell? ⟨w.heap.size, 0, none⟩ = some (.int .i64 (n : Int)) ∧ W.cell? ⟨w.heap.size, 1, none⟩ = some (.slice A es.length c) ∧ W.cell? ⟨w.heap.size + 1, 3, none⟩ = some va)) := fun W hW => by
            have h := HKs.out W (HB2.out.drew.trans (hW.mono HB2.out.drew.size))
            exact ⟨h.1.1, h.1.2.1, h.2.2⟩
          have HLx : Hid (∀ (v : Value) (W : World), Below w2.drew.heap.size w2.drew W → RI W v x → Calls Tryz.prog 88 #[.agg #[.int .i64 (n : Int), .slice A es.length c], v, .slice (some (adl.add n)) (L - n) (e2 - n)] W fun e w' => e = .returned (.int .i64 LE) ∧ Below W.heap.size W w') := fun v W h1 h2 =>
            HLo.out v W (HB2.out.drew.trans (h1.mono HB2.out.drew.size)) h2
          have HS2 := Lib.hid (HK2.out w2.drew (Below.refl _ _))
          go_wp2_with fail
          go_region_held3 (fun W : World => W.cell? ⟨w.heap.size, 0, none⟩ = some (.int .i64 (n : Int)) ∧ W.cell? ⟨w.heap.size, 1, none⟩ = some (.slice A es.length c) ∧ W.cell? ⟨w.heap.size + 1, 3, none⟩ = some va) (first | exact HS2.out | exact HSa.out | exact HSb.out)
            (first
              | (go_at_call 93; (with_reducible refine HPx.out.mono ?_); rintro e w6 ⟨v6, rfl, ho6, hb6⟩; have HBa := Lib.hid hb6; have HSa := Lib.hid (HK2.out w6 hb6); have HLy := Lib.hid (HLx.out v6 w6 hb6 ho6.ri); clear ho6 hb6)
              | (go_at_call 88; (with_reducible refine HLy.out.mono ?_); rintro e w7 ⟨rfl, hb7⟩; have HBb := Lib.hid (HBa.out.trans (hb7.mono HBa.out.size)); have HSb := Lib.hid (HK2.out w7 HBb.out); clear hb7))
          all_goals
            have HBz := Lib.hid (HB0.out.trans ((HB2.out.drew.trans (HBb.out.mono HB2.out.drew.size)).mono HB0.out.size))
            go_wp2
            go_ret
            exact ⟨ret_i HR.out.symm, HBz.out⟩
        · have t2 : (s != N + 1) = true := by simpa using hs
          have HR : Hid (BE = 16) := by show _ = _; rw [HSpec.out, if_pos (.inr hs)]
          clear hs
          go_wp2_with fail
          go_quiet (first | (go_at_call 86; exact Calls.quiet_of_same (HPn.out _)) | (go_at_call 127; exact Calls.quiet_of_same (HTn.out _)))
          go_wp2
          go_ret
          exact ⟨ret_i HR.out.symm, below_drewN HBf.out _⟩
  · have t : ((l.length : Int) != 3 * (n : Int)) = true := by simpa using hpn
    have HR : Hid (belowE n es N d l = 8) := by show _ = _; unfold belowE; rw [if_pos hpn]
    clear ha hl hE hdl hdb hlb hl0 hcl hpn hb0
    go_enter Tryz.func90, Tryz.ntmps90
    go_upto_region 1 with fail
    rw [← HW0.out]
    go_wp2
    go_ret
    exact ⟨ret_i HR.out.symm, HB0.out⟩
end Go.Proofs.YtgcnijmmjlfabaaGreatDoor

