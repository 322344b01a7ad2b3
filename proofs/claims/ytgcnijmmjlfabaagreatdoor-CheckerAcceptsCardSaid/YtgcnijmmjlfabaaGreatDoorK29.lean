/- Contract of the reference's settles. -/
import Derived.Test.YtgcnijmmjlfabaaGreatDoorK28
set_option maxRecDepth 100000
set_option maxHeartbeats 16000000
namespace Go.Proofs.YtgcnijmmjlfabaaGreatDoor
open Go.RowKit Go.Shelf

theorem debt_eff {s : List Int} {q : Nat} (hq : s.getD q 0 = 0) : effB s = !debtB s (q : Int) := by
  cases h : debtB s (q : Int)
  · unfold debtB at h
    rw [List.any_eq_false] at h
    show effB s = true
    unfold effB
    rw [List.all_eq_true]
    intro z hz
    obtain ⟨k, hk, rfl⟩ := List.mem_iff_getElem.1 hz
    have := h k (List.mem_range.2 hk)
    rw [List.getD_eq_getElem?_getD, List.getElem?_eq_getElem hk] at this
    by_cases e : k = q
    · subst e
      rw [List.getD_eq_getElem?_getD, List.getElem?_eq_getElem hk] at hq
      have hq' : s[k] = 0 := hq
      rw [hq']; decide
    · have e' : (k : Int) ≠ (q : Int) := by omega
      simp only [Option.getD_some, Bool.and_eq_true, decide_eq_true_eq, not_and] at this
      have := this e'
      simp; omega
  · unfold debtB at h
    rw [List.any_eq_true] at h
    obtain ⟨k, hk, h2⟩ := h
    have hk := List.mem_range.1 hk
    rw [Bool.and_eq_true, decide_eq_true_eq, decide_eq_true_eq, List.getD_eq_getElem?_getD, List.getElem?_eq_getElem hk] at h2
    show effB s = false
    unfold effB
    rw [List.all_eq_false]
    exact ⟨s[k], List.getElem_mem hk, by have := h2.2; simp at this ⊢; omega⟩
theorem eqL_dec (x y : List Int) : eqL x y = decide (x = y) := by
  by_cases h : x = y
  · rw [decide_eq_true h]; exact (eqL_iff x y).2 h
  · rw [decide_eq_false h, Bool.eq_false_iff]; exact fun e => h ((eqL_iff x y).1 e)
theorem rSettles_any (g va vb vf vl : Value) (n q : Nat) (kk N : Int) (es : List Tri) (a b l : List Int) (w : World) (hg : GV w g n es) (ha : RI w va a) (hbv : RI w vb b) (hl : RI w vl l) (hE : Edges n es) (hn : n ≤ 12) (hq : q < n) (hal : a.length = n) (hbl : b.length = n) (hab : Bd 1048576 a) (hlb : Bd 1048576 l) (hll : l.length ≤ 100000) :
    Calls Tryz.prog 91 #[g, .agg #[.int .i64 kk, .int .i64 (q : Int), .int .i64 N, va, vb, vf], vl] w fun e w' => e = .returned (.int .i64 (settlesE n es q a b l)) ∧ Below w.heap.size w w' := by
  obtain ⟨Q, hQ⟩ : ∃ Q : Int, Q = (q : Int) := ⟨_, rfl⟩
  rw [← hQ]
  obtain ⟨A, c, rfl, -⟩ := hg.open_
  obtain ⟨W0, hW0⟩ : ∃ W0, W0 = (w.alloc (.cells #[.int .i64 (n:Int), .slice A es.length c] 24)).alloc (.cells #[.int .i64 kk, .int .i64 Q, .int .i64 N, va, vb, vf] 91) := ⟨_, rfl⟩
  have hb0 : Below w.heap.size w W0 := by rw [hW0]; exact (below_alloc w _).alloc (by simp) _
  have hxg : BL W0 w.heap.size 24 [.int .i64 (n:Int), .slice A es.length c] := by rw [hW0]; exact (BL.new' w _ _).alloc _
  have hxc : BL W0 (w.heap.size + 1) 91 [.int .i64 kk, .int .i64 Q, .int .i64 N, va, vb, vf] := by
    rw [hW0]
    have := BL.new' (w.alloc (.cells #[.int .i64 (n:Int), .slice A es.length c] 24)) #[.int .i64 kk, .int .i64 Q, .int .i64 N, va, vb, vf] 91
    rwa [World.size_alloc] at this
  have HXg := Lib.hid hxg
  have HXc := Lib.hid hxc
  have HG0 := Lib.hid (hg.below hb0)
  have HB0 := Lib.hid hb0
  have HW0 := Lib.hid hW0
  clear hg hxg hxc hW0
  subst hQ
  have hl0 := RI.below hl hb0
  have HA0 := Lib.hid (RI.below ha hb0)
  have HBv0 := Lib.hid (RI.below hbv hb0)
  obtain ⟨A2, e2, rfl, hlc, -, hcl⟩ := hl0.open_
  have g0 := HXg.out.cell 0
  by_cases hpn : l.length < n
  · have HR : Hid (settlesE n es q a b l = 8) := by show _ = _; unfold settlesE; rw [if_pos hpn]
    clear ha hbv hl hE hal hbl hab hlb hl0 hcl hb0
    go_enter Tryz.func91, Tryz.ntmps91
    go_upto_region 1 with fail
    rw [← HW0.out]
    go_wp2
    go_ret
    exact ⟨ret_i HR.out.symm, HB0.out⟩
  have hpn' : n ≤ l.length := by omega
  have k0 : ¬ ((l.length : Int) < (n : Int)) := by omega
  obtain ⟨adl, -, rfl, -⟩ := hcl q (by omega)
  obtain ⟨Pt, hPt⟩ : ∃ Pt : Option Addr, Pt = if e2 = n then some adl else some (adl.add n) := ⟨_, rfl⟩
  have hpre := RI.pre hl0 (j := n) (by omega)
  have hsuf : RI W0 (.slice Pt (l.length - n) (e2 - n)) (l.drop n) := by
    rw [hPt]
    by_cases h : e2 = n
    · rw [if_pos h]; exact RI.emp (m := l.length - n) (by simp) (by omega) (by omega)
    · rw [if_neg h]; exact RI.suf hl0 (i := n) (by omega)
  have hslice : ∀ W : World, (Instr.slice 42 (.slice (some adl) l.length e2) (some (.int .i64 (n : Int))) none none).run Tryz.prog W = .ok (.slice Pt (l.length - n) (e2 - n)) W := fun W => by
    rw [run_slice_l W 42 (some adl) l.length e2 Tryz.underlying42 .i64 (n : Int) (by omega) (by omega), hPt]
    simp [go_sem]
  have hsl : (l.take n).length = n := by simp; omega
  have hol : (l.drop n).length = l.length - n := by simp
  have hsb : Bd 1048576 (l.take n) := by have := hlb.sub (by decide) 0 n; rwa [List.drop_zero] at this
  have HSp0 : Hid (settlesE n es q a b l = if (l.drop n).length ≠ firedN (l.take n) then 8
      else if (l.take n).getD q 0 ≠ 0 then 16 else if effB (l.take n) = false then 16 else if debtB a q = true then 16 else if debtB b q = true then 16
      else if eqL (appLk n es a (l.take n)) b = false then 16
      else if topB n es q b = true then 16 else if ordB n es b (posB (l.take n)) (l.drop n) = true then 0 else 16) := by show _ = _; unfold settlesE; rw [if_neg hpn]
  have HSl := Lib.hid hsl
  have HOl := Lib.hid hol
  have HS := Lib.hid hpre
  have HO := Lib.hid hsuf
  have HDs : Hid (∀ W : World, Below W0.heap.size W0 W → Calls Tryz.prog 95 #[.slice (some adl) n e2, .int .i64 (q : Int)] W fun e w' => e = .returned (.bool (debtB (l.take n) q)) ∧ w' = W) := fun W h => (rDebt_any _ _ q W (RI.below HS.out h) (by omega)).mono fun e w' ⟨h1, h2⟩ => ⟨h1, h2.symm⟩
  have HDa : Hid (∀ W : World, Below W0.heap.size W0 W → Calls Tryz.prog 95 #[va, .int .i64 (q : Int)] W fun e w' => e = .returned (.bool (debtB a q)) ∧ w' = W) := fun W h => (rDebt_any _ _ q W (RI.below HA0.out h) (by omega)).mono fun e w' ⟨h1, h2⟩ => ⟨h1, h2.symm⟩
  have HDb : Hid (∀ W : World, Below W0.heap.size W0 W → Calls Tryz.prog 95 #[vb, .int .i64 (q : Int)] W fun e w' => e = .returned (.bool (debtB b q)) ∧ w' = W) := fun W h => (rDebt_any _ _ q W (RI.below HBv0.out h) (by omega)).mono fun e w' ⟨h1, h2⟩ => ⟨h1, h2.symm⟩
  have HLd : Hid (∀ W : World, Below W0.heap.size W0 W → Calls Tryz.prog 85 #[.agg #[.int .i64 (n : Int), .slice A es.length c], va, vb, .slice (some adl) n e2] W fun e w' => e = .returned (.bool (eqL (appLk n es a (l.take n)) b)) ∧ Below W.heap.size W w') := fun W h => by
    rw [eqL_dec, ← appL_eq es (l.take n) hal]
    exact rLeads_any _ va vb _ n es a b (l.take n) W (HG0.out.below h) (RI.below HA0.out h) (RI.below HBv0.out h) (RI.below HS.out h) hE hn hal hbl hsl hab hsb
  have HVl : Hid (∀ (v : Nat) (W : World), Below W0.heap.size W0 W → Calls Tryz.prog 128 #[.agg #[.int .i64 (n : Int), .slice A es.length c], .int .i64 (v : Int)] W fun e w' => e = .returned (.int .i64 (valK es v n)) ∧ Below W.heap.size W w') := fun v W h => rVal_any _ n v es W (HG0.out.below h) hE hn
  have HV : Hid (∀ (v : Int) (W : World), Below W0.heap.size W0 W → Calls Tryz.prog 101 #[.agg #[.int .i64 (n : Int), .slice A es.length c], .int .i64 v] W fun e w' => e = .returned (.bool (vtxB n v)) ∧ Below W.heap.size W w') := fun v W h => rVertex_any _ n es v W (HG0.out.below h)
  have HJ : Hid (∀ (u v : Nat) (W : World), Below W0.heap.size W0 W → u ≠ v → Calls Tryz.prog 129 #[.agg #[.int .i64 (n : Int), .slice A es.length c], .int .i64 (u : Int), .int .i64 (v : Int)] W fun e w' => e = .returned (.int .i64 (wgt es v u)) ∧ Below W.heap.size W w') := fun u v W h h1 => by
    rw [← btw_wgt' hE h1]; exact between_any _ (n : Int) es (u : Int) (v : Int) W (HG0.out.below h)
  have HMb : Hid (∀ bs v k, 0 ≤ mrkN es bs v k ∧ mrkN es bs v k ≤ 50 * (k : Int)) := fun bs v k => mrk_bd hE bs v k
  have HWb : Hid (∀ u v : Nat, 0 ≤ wgt es v u ∧ wgt es v u ≤ 50) := fun u v => wgt50 hE v u
  have hmk := run_make_row' (P := Tryz.prog) 139 4 (.bool false) 1 Tryz.underlying139 bool_info rfl .i64 .i64 n (by omega) (by omega)
  have HDE : Hid ((l.take n).getD q 0 = 0 → effB (l.take n) = !debtB (l.take n) (q : Int)) := debt_eff
  have hbl' := Lib.hid hbl
  obtain ⟨adb, hAdb⟩ : ∃ adb : Addr, ∃ cb, vb = .slice (some adb) n cb := by
    obtain ⟨Ab, cb, e, -, -, hcb⟩ := HBv0.out.open_
    obtain ⟨adb, -, rfl, -⟩ := hcb q (by omega)
    exact ⟨adb, cb, by rw [e, hbl]⟩
  obtain ⟨cb, rfl⟩ := hAdb
  have HCb : Hid (∀ k, k < n → ∃ z, b.getD k 0 = z ∧ adb.block < W0.heap.size ∧ W0.cell? (adb.add k) = some (.int .i64 z)) := fun k hk => by
    obtain ⟨Ab, cb', e, -, -, hcb⟩ := HBv0.out.open_
    simp only [Value.slice.injEq] at e
    obtain ⟨rfl, -, rfl⟩ := e
    obtain ⟨ad', z, he, h1, h2, h3⟩ := hcb k (by omega)
    cases he
    exact ⟨z, getD_of' h2.out, h1, h3⟩
  have HCs : Hid (∀ k, k < n → ∃ z, (l.take n)[k]? = some z ∧ (l.take n).getD k 0 = z ∧ adl.block < W0.heap.size ∧ W0.cell? (adl.add k) = some (.int .i64 z)) := fun k hk => by
    obtain ⟨ad', z, he, h1, h2, h3⟩ := hcl k (by omega)
    cases he
    have : (l.take n)[k]? = some z := by rw [List.getElem?_take_of_lt hk, h2.out]
    exact ⟨z, this, getD_of' this, h1, h3⟩
  have HCo : Hid (∀ k, k < (l.drop n).length → ∃ (ado : Addr) (z : Int), Pt = some ado ∧ ado.block < W0.heap.size ∧ Hid ((l.drop n)[k]? = some z) ∧ W0.cell? (ado.add k) = some (.int .i64 z)) := fun k hk => by
    obtain ⟨Ao, co, e, -, -, hco⟩ := HO.out.open_
    simp only [Value.slice.injEq] at e
    obtain ⟨rfl, -, -⟩ := e
    exact hco k hk
  have HFd : Hid (∀ k z, (l.take n)[k]? = some z → firedN ((l.take n).take (k + 1)) = firedN ((l.take n).take k) + if 0 < z then 1 else 0) := fun k z h => fired_succ h
  have HFl : Hid (∀ k, firedN ((l.take n).take k) ≤ k) := fun k => fired_le _ k
  have HFn : Hid (firedN ((l.take n).take n) = firedN (l.take n)) := by show _ = _; rw [List.take_of_length_le (by omega)]
  have HF0 : Hid (firedN ((l.take n).take 0) = 0) := rfl
  have k1 : (n : Int) ≤ (e2 : Int) := by omega
  have hll2 : l.length - n ≤ 100000 := by omega
  clear ha hbv hl hE hal hbl hab hlb hl0 hcl hpn hb0 hpre hsuf hsl hol hsb hPt
  generalize l.take n = s at *
  generalize l.drop n = od at *
  generalize settlesE n es q a b l = SE at *
  go_enter Tryz.func91, Tryz.ntmps91
  go_upto_region 1 with fail
  rw [← HW0.out]
  go_wp2_with fail
  go_quiet (fail)
  have HB1 := Lib.hid (below_drewN (Below.refl W0.heap.size W0) nq)
  obtain ⟨W1, hW1⟩ : ∃ W1, W1 = W0.drewN nq := ⟨_, rfl⟩
  rw [← hW1] at HB1 ⊢
  clear hW1 hslice g0 k0
  generalize l.length - n = m6 at *
  generalize e2 - n = c6 at *
  have g0 := (HXg.out.bel HB1.out).cell 0
  have HBf := Lib.hid (HB0.out.trans (HB1.out.mono HB0.out.size))
  go_wp2_with fail
  go_loop [9, 10] (fun ff ii => ∃ k : Nat, k ≤ n ∧ ff = .int .i64 ((firedN (s.take k) : Nat) : Int) ∧ ii = .int .i64 (k : Int)) (fun _ ii => n - (intOf ii).toNat)
  case atStart => exact ⟨0, Nat.zero_le _, by rw [HF0.out]; rfl, rfl⟩
  case round =>
    obtain ⟨k, hk, rfl, rfl⟩ := hrel
    have hfl := HFl.out k
    by_cases hlt : k < n
    · obtain ⟨z, hz, -, hab, hcz⟩ := HCs.out k hlt
      have r1 := (HB1.out.cell (p := adl.add k) (by rw [block_of_add]; exact hab)).trans hcz
      have hfs := HFd.out k z hz
      clear hz hcz hab
      by_cases hp : 0 < z
      · rw [if_pos hp] at hfs
        have HFs := Lib.hid hfs
        clear hfs
        generalize firedN (s.take k) = f at *
        go_wp2
        go_round
        case rel => exact ⟨k + 1, by omega, by rw [HFs.out]; push_cast; rfl, by go_num⟩
        case measure => simp [intOf]; omega
      · rw [if_neg hp, Nat.add_zero] at hfs
        have HFs := Lib.hid hfs
        clear hfs
        generalize firedN (s.take k) = f at *
        go_wp2
        go_round
        case rel => exact ⟨k + 1, by omega, by rw [HFs.out]; rfl, by go_num⟩
        case measure => simp [intOf]; omega
    · obtain rfl : k = n := by omega
      rw [HFn.out] at hfl ⊢
      clear HFd HFl HFn HF0
      by_cases hlen : m6 = firedN s
      · have t : ((m6 : Int) != (firedN s : Int)) = false := by rw [bne_eq_false_iff_eq]; omega
        rw [if_neg (by rw [HOl.out]; simpa using hlen)] at HSp0
        generalize firedN s = fs at *
        clear hlen
        obtain ⟨z, -, hzz, hab, hcz⟩ := HCs.out q hq
        have r1 := (HB1.out.cell (p := adl.add q) (by rw [block_of_add]; exact hab)).trans hcz
        have x1 := (HXc.out.bel HB1.out).cell 1
        have x3 := (HXc.out.bel HB1.out).cell 3
        have x4 := (HXc.out.bel HB1.out).cell 4
        have g1 := (HXg.out.bel HB1.out).cell 1
        rw [hzz] at HSp0 HDE
        have hqi : (q : Int) < (k : Int) := by omega
        by_cases hz0 : z = 0
        · have t0 : (z != 0) = false := by rw [bne_eq_false_iff_eq]; exact hz0
          have hde := HDE.out hz0
          rw [if_neg (by rw [hz0]; simp), hde] at HSp0
          clear hde HDE hz0
          generalize debtB s (q : Int) = ds at *
          generalize debtB a (q : Int) = da at *
          generalize debtB b (q : Int) = db at *
          go_wp2_with fail
          refine (HDs.out W1 HB1.out).mono ?_
          rintro e w2 ⟨rfl, rfl⟩
          cases ds
          · rw [if_neg (by simp)] at HSp0
            go_wp2_with fail
            refine (HDa.out w2 HB1.out).mono ?_
            rintro e w3 ⟨rfl, rfl⟩
            cases da
            · rw [if_neg (by simp)] at HSp0
              go_wp2_with fail
              refine (HDb.out w3 HB1.out).mono ?_
              rintro e w2 ⟨rfl, rfl⟩
              cases db
              · rw [if_neg (by simp)] at HSp0
                generalize eqL (appLk k es a s) b = lb at *
                go_wp2_with fail
                refine (HLd.out w2 HB1.out).mono ?_
                rintro e w4 ⟨rfl, hb4⟩
                have HB4 := Lib.hid (HB1.out.trans (hb4.mono HB1.out.size))
                clear hb4 r1 x1 x3 x4 g0 g1
                have HBf4 := Lib.hid (HB0.out.trans (HB4.out.mono HB0.out.size))
                cases lb
                · rw [if_pos rfl] at HSp0
                  go_wp2
                  go_ret
                  exact ⟨ret_i HSp0.out.symm, HBf4.out⟩
                · rw [if_neg (by simp)] at HSp0
                  clear HDs HDa HDb HLd HBf HB1
                  have g0 := (HXg.out.bel HB4.out).cell 0
                  have ho0 : OB (w4.alloc (.cells (madeCells #[Value.bool false] k) 4)) w4.heap.size (.slice (some ⟨w4.heap.size, 0, none⟩) k k) (List.replicate k false) := own_falses w4 k (by omega)
                  have hb5 := below_alloc w4 (.cells (madeCells #[Value.bool false] k) 4)
                  obtain ⟨W5, hW5⟩ : ∃ W5, W5 = w4.alloc (.cells (madeCells #[Value.bool false] k) 4) := ⟨_, rfl⟩
                  rw [← hW5] at ho0 hb5
                  have HO0 := Lib.hid ho0
                  have HB5 := Lib.hid hb5
                  have HW5 := Lib.hid hW5
                  clear ho0 hb5 hW5
                  go_wp2_with fail
                  rw [← HW5.out]
                  clear hmk g0 HW5
                  go_loopw [12] (fun ii wr => ∃ (v : Nat) (ls : List Bool), v ≤ k ∧ ii = .int .i64 (v : Int) ∧ Hid (ls.length = k) ∧ Hid (OB wr w4.heap.size (.slice (some ⟨w4.heap.size, 0, none⟩) k k) ls) ∧ Hid (Below w4.heap.size w4 wr) ∧ Hid (∀ j, j < v → ls.getD j false = (posB s).getD j false) ∧ Hid ((List.range v).any (fun v => decide ((v : Int) ≠ q) && decide (b.getD v 0 ≥ valK es v k)) = false)) (fun ii _ => k - (intOf ii).toNat)
                  case atStart => exact ⟨0, _, Nat.zero_le _, rfl, by simp [Hid], HO0.out, HB5.out, fun j hj => absurd hj (by omega), rfl⟩
                  case round =>
                    obtain ⟨v, ls, hv, rfl, hlsl, hob, hbw, hpos, hany⟩ := hrel
                    have HBw := Lib.hid (HB4.out.trans (hbw.out.mono HB4.out.size))
                    have g0 := (HXg.out.bel HBw.out).cell 0
                    by_cases hlt : v < k
                    · obtain ⟨z, hzk, -, hab, hcz⟩ := HCs.out v hlt
                      have r1 := (HBw.out.cell (p := adl.add v) (by rw [block_of_add]; exact hab)).trans hcz
                      obtain ⟨pb, hpb⟩ : ∃ pb, decide (0 < z) = pb := ⟨_, rfl⟩
                      obtain ⟨-, s1, s2, s3⟩ := hob.out.at_ (k := v) (by rw [hlsl.out]; exact hlt)
                      have HS1 := Lib.hid (s3 pb)
                      have HB6 := Lib.hid (hbw.out.setCell (p := ⟨w4.heap.size, v, none⟩) (Nat.le_refl _) (.bool pb))
                      have HL2 : Hid ((ls.set v pb).length = k) := by show _ = _; rw [List.length_set]; exact hlsl.out
                      have HP2 : Hid (∀ j, j < v + 1 → (ls.set v pb).getD j false = (posB s).getD j false) := fun j hj => by
                        rw [getDB_set (by rw [hlsl.out]; exact hlt)]
                        by_cases e : j = v
                        · subst e; rw [if_pos rfl, posB_at hzk, hpb]
                        · rw [if_neg e]; exact hpos.out j (by omega)
                      obtain ⟨zb, hzb, hbb, hcb⟩ := HCb.out v hlt
                      have hs := any_range_succ (p := fun v => decide ((v : Int) ≠ q) && decide (b.getD v 0 ≥ valK es v k)) (k := v)
                      rw [hany.out, Bool.false_or, hzb] at hs
                      have hT := fun h => any_range_true (p := fun v => decide ((v : Int) ≠ q) && decide (b.getD v 0 ≥ valK es v k)) hlt h
                      rw [hzb] at hT
                      obtain ⟨w6, hw6⟩ : ∃ w6, w6 = wr.setCell ⟨w4.heap.size, v, none⟩ (.bool pb) := ⟨_, rfl⟩
                      rw [← hw6] at HS1 HB6
                      have HW6 := Lib.hid hw6
                      have HBx := Lib.hid (HB4.out.trans (HB6.out.mono HB4.out.size))
                      have r2 := (HBx.out.cell (p := adb.add v) (by rw [block_of_add]; exact hbb)).trans hcb
                      clear hzk hab hcz hpos hany hob hw6 s3 hzb hbb hcb
                      have y0 := (HXg.out.bel HBx.out).cell 0
                      have y1 := (HXg.out.bel HBx.out).cell 1
                      have y2 := (HXc.out.bel HBx.out).cell 1
                      have y3 := (HXc.out.bel HBx.out).cell 4
                      by_cases hvq : v = q
                      · have t2 : ((v : Int) != (q : Int)) = false := by rw [bne_eq_false_iff_eq, hvq]
                        rw [decide_eq_false (by rw [hvq]; simp), Bool.false_and] at hs
                        have HA2 := Lib.hid hs
                        clear hs hT hvq
                        go_wp2_with fail
                        rw [← HW6.out]
                        go_quiet (fail)
                        have HBn := Lib.hid (below_drewN HB6.out nq)
                        have HSn := Lib.hid (OB.below HS1.out (below_drewN (Below.refl w6.heap.size w6) nq))
                        go_wp2
                        go_roundw
                        case rel => exact ⟨v + 1, _, by omega, by go_num, HL2.out, HSn.out, HBn.out, HP2.out, HA2.out⟩
                        case measure => simp [intOf]; omega
                      · have t2 : ((v : Int) != (q : Int)) = true := by rw [bne_iff_ne]; omega
                        have hvq' : decide ((v : Int) ≠ (q : Int)) = true := decide_eq_true (by omega)
                        rw [hvq', Bool.true_and] at hs hT
                        have HVw := Lib.hid (HVl.out v w6.drew HBx.out.drew)
                        generalize valK es v k = vv at *
                        have HKv : Hid (∀ W : World, Below w6.drew.heap.size w6.drew W → (W.cell? ⟨w.heap.size, 0, none⟩ = some (.int .i64 (k : Int)) ∧ W.cell? ⟨w.heap.size, 1, none⟩ = some (.slice A es.length c) ∧ W.cell? ⟨w.heap.size + 1, 1, none⟩ = some (.int .i64 (q : Int)) ∧ W.cell? ⟨w.heap.size + 1, 4, none⟩ = some (.slice (some adb) k cb) ∧ W.cell? (adb.add v) = some (.int .i64 zb))) := fun W hW =>
                          ⟨(hW.cell (p := ⟨w.heap.size, 0, none⟩) (block_lt_of_cell y0)).trans y0, (hW.cell (p := ⟨w.heap.size, 1, none⟩) (block_lt_of_cell y1)).trans y1, (hW.cell (p := ⟨w.heap.size + 1, 1, none⟩) (block_lt_of_cell y2)).trans y2, (hW.cell (p := ⟨w.heap.size + 1, 4, none⟩) (block_lt_of_cell y3)).trans y3, (hW.cell (p := adb.add v) (block_lt_of_cell r2)).trans r2⟩
                        have HK0 := Lib.hid (HKv.out _ (Below.refl _ _))
                        clear y0 y1 y2 y3 r2
                        by_cases hge : vv ≤ zb
                        · have hd : decide (vv ≤ zb) = true := decide_eq_true hge
                          have HR : Hid (SE = 16) := by show _ = _; rw [HSp0.out, if_pos (show topB k es q b = true from hT (decide_eq_true hge))]
                          clear hs hT
                          go_wp2_with fail
                          rw [← HW6.out]
                          go_region_held3 (fun W : World => W.cell? ⟨w.heap.size, 0, none⟩ = some (.int .i64 (k : Int)) ∧ W.cell? ⟨w.heap.size, 1, none⟩ = some (.slice A es.length c) ∧ W.cell? ⟨w.heap.size + 1, 1, none⟩ = some (.int .i64 (q : Int)) ∧ W.cell? ⟨w.heap.size + 1, 4, none⟩ = some (.slice (some adb) k cb) ∧ W.cell? (adb.add v) = some (.int .i64 zb)) (first | exact HK0.out | exact HKa.out)
                            (first | (go_at_call 128; (with_reducible refine HVw.out.mono ?_); rintro e w7 ⟨rfl, hb7⟩; have HKa := Lib.hid (HKv.out w7 hb7); have HB7 := Lib.hid hb7; clear hb7))
                          all_goals
                            have HBz := Lib.hid (HB0.out.trans ((HBx.out.drew.trans (HB7.out.mono HBx.out.drew.size)).mono HB0.out.size))
                            go_wp2
                            go_ret
                            exact ⟨ret_i HR.out.symm, HBz.out⟩
                        · have hd : decide (vv ≤ zb) = false := decide_eq_false hge
                          rw [decide_eq_false (show ¬ zb ≥ vv from hge)] at hs
                          have HA2 := Lib.hid hs
                          clear hs hT
                          go_wp2_with fail
                          rw [← HW6.out]
                          go_region_held3 (fun W : World => W.cell? ⟨w.heap.size, 0, none⟩ = some (.int .i64 (k : Int)) ∧ W.cell? ⟨w.heap.size, 1, none⟩ = some (.slice A es.length c) ∧ W.cell? ⟨w.heap.size + 1, 1, none⟩ = some (.int .i64 (q : Int)) ∧ W.cell? ⟨w.heap.size + 1, 4, none⟩ = some (.slice (some adb) k cb) ∧ W.cell? (adb.add v) = some (.int .i64 zb)) (first | exact HK0.out | exact HKa.out)
                            (first | (go_at_call 128; (with_reducible refine HVw.out.mono ?_); rintro e w7 ⟨rfl, hb7⟩; have HKa := Lib.hid (HKv.out w7 hb7); have HB7 := Lib.hid hb7; clear hb7))
                          all_goals
                            have HBn := Lib.hid (HB6.out.drew.trans (HB7.out.mono HB6.out.drew.size))
                            have HSn := Lib.hid (OB.below HS1.out ((Below.refl w6.heap.size w6).drew.trans HB7.out))
                            go_wp2
                            go_roundw
                            case rel => exact ⟨v + 1, _, by omega, by go_num, HL2.out, HSn.out, HBn.out, HP2.out, HA2.out⟩
                            case measure => simp [intOf]; omega
                    · obtain rfl : v = k := by omega
                      rw [if_neg (by unfold topB; rw [hany.out]; simp)] at HSp0
                      have hls : ls = posB s := pos_end (by rw [hlsl.out, HSl.out]) (fun j hj => hpos.out j (by rw [← HSl.out]; exact hj))
                      have HO1 := Lib.hid hob.out
                      rw [hls] at HO1
                      have HP0 : Hid ((posB s).length = v) := by show _ = _; rw [posB_len]; exact HSl.out
                      clear hany hpos hob hls hlsl
                      go_wp2_with fail
                      clear g0
                      go_loopw [13] (fun ii w9 => ∃ (i : Nat) (ls : List Bool), i ≤ m6 ∧ ii = .int .i64 (i : Int) ∧ Hid (ls.length = v) ∧ Hid (OB w9 w4.heap.size (.slice (some ⟨w4.heap.size, 0, none⟩) v v) ls) ∧ Hid (Below w4.heap.size w4 w9) ∧ Hid (ordB v es b ls (od.drop i) = ordB v es b (posB s) od)) (fun ii _ => m6 - (intOf ii).toNat)
                      case atStart => exact ⟨0, posB s, Nat.zero_le _, rfl, HP0.out, HO1.out, hbw.out, rfl⟩
                      case round =>
                        obtain ⟨i, ls, hi, rfl, hll3, hob, hbx, hbr⟩ := hrel
                        have HBw := Lib.hid (HB4.out.trans (hbx.out.mono HB4.out.size))
                        have HBz := Lib.hid (HB0.out.trans (HBw.out.mono HB0.out.size))
                        by_cases hlt : i < m6
                        · obtain ⟨ado, x, hPt, hab, hx, hcx⟩ := HCo.out i (by rw [HOl.out]; exact hlt)
                          subst hPt
                          have r1 := (HBw.out.cell (p := ado.add i) (by rw [block_of_add]; exact hab)).trans hcx
                          have hdr := drop_at hx
                          have hb2 := hbr.out
                          rw [hdr, ordB] at hb2
                          have HV1 := Lib.hid (HV.out x wr HBw.out)
                          have g0 := (HXg.out.bel HBw.out).cell 0
                          have g1 := (HXg.out.bel HBw.out).cell 1
                          clear hcx hab hdr hx
                          go_wp2_with fail
                          refine HV1.out.mono ?_
                          rintro e w7 ⟨rfl, hb7⟩
                          have HB7 := Lib.hid (hbx.out.trans (hb7.mono hbx.out.size))
                          have HBw7 := Lib.hid (HB4.out.trans (HB7.out.mono HB4.out.size))
                          have HBz7 := Lib.hid (HB0.out.trans (HBw7.out.mono HB0.out.size))
                          have hob7 := OB.below hob.out hb7
                          clear hb7 HV1 g0 g1 r1 hob
                          by_cases hvx : 0 ≤ x ∧ x < v
                          · obtain ⟨xn, rfl⟩ : ∃ xn : Nat, x = xn := ⟨x.toNat, by omega⟩
                            have hxn : xn < v := by omega
                            have hvt : vtxB v (xn : Int) = true := by unfold vtxB; rw [decide_eq_true hvx.1, decide_eq_true hvx.2]; rfl
                            rw [hvt]
                            rw [decide_eq_true hvx.1, decide_eq_true hvx.2] at hb2
                            simp only [Int.toNat_natCast, Bool.true_and] at hb2
                            obtain ⟨-, s1, s2, s3⟩ := hob7.at_ (k := xn) (by rw [hll3.out]; exact hxn)
                            clear hvx hvt
                            by_cases hbt : ls.getD xn false = true
                            · rw [hbt] at s1
                              rw [if_pos hbt] at hb2
                              have HS := Lib.hid (s3 false)
                              have HB8 := Lib.hid (HB7.out.setCell (p := ⟨w4.heap.size, xn, none⟩) (Nat.le_refl _) (.bool false))
                              have HL8 : Hid ((ls.set xn false).length = v) := by show _ = _; rw [List.length_set]; exact hll3.out
                              have HF8 : Hid ((ls.set xn false).getD xn false = false) := by show _ = _; rw [getDB_set (by rw [hll3.out]; exact hxn), if_pos rfl]
                              obtain ⟨zb, hzb, hbb, hcb⟩ := HCb.out xn hxn
                              rw [hzb] at hb2
                              have HBr := Lib.hid hb2
                              obtain ⟨w8, hw8⟩ : ∃ w8, w8 = w7.setCell ⟨w4.heap.size, xn, none⟩ (.bool false) := ⟨_, rfl⟩
                              rw [← hw8] at HS HB8
                              have HW8 := Lib.hid hw8
                              have HBx8 := Lib.hid (HB4.out.trans (HB8.out.mono HB4.out.size))
                              have g0 := (HXg.out.bel HBx8.out).cell 0
                              clear s3 hb2 hbt hob7 hw8 hzb
                              generalize ls.set xn false = ls8 at *
                              go_wp2_with fail
                              rw [← HW8.out]
                              clear g0 s1 s2
                              go_loopw [15, 16] (fun nn uu wr => ∃ (u : Nat) (y : Int), u ≤ v ∧ nn = .int .i64 y ∧ uu = .int .i64 (u : Int) ∧ Hid (y = mrkN es ls8 xn u) ∧ Hid (Below w8.heap.size w8 wr)) (fun _ uu _ => v - (intOf uu).toNat)
                              case atStart => exact ⟨0, 0, Nat.zero_le _, rfl, rfl, rfl, Below.refl _ _⟩
                              case round =>
                                obtain ⟨u, y, hu, rfl, rfl, hy, hbi⟩ := hrel
                                have HBi := Lib.hid (HBx8.out.trans (hbi.out.mono HBx8.out.size))
                                have HBi4 := Lib.hid (HB8.out.trans (hbi.out.mono HB8.out.size))
                                have g0 := (HXg.out.bel HBi.out).cell 0
                                have g1 := (HXg.out.bel HBi.out).cell 1
                                have hobi := OB.below HS.out hbi.out
                                have hxb := HMb.out ls8 xn u
                                rw [← hy.out] at hxb
                                by_cases hun : u < v
                                · obtain ⟨-, p1, -, -⟩ := hobi.at_ (k := u) (by rw [HL8.out]; exact hun)
                                  have hms := mrk_succ es ls8 xn u
                                  by_cases hbu : ls8.getD u false = true
                                  · have huv : u ≠ xn := fun e => by rw [e, HF8.out] at hbu; cases hbu
                                    rw [hbu] at p1
                                    rw [if_pos hbu] at hms
                                    have HJ1 := Lib.hid (HJ.out u xn _ HBi.out huv)
                                    have hwb := HWb.out u xn
                                    have HX2 : Hid (y + wgt es xn u = mrkN es ls8 xn (u + 1)) := by show _ = _; rw [hy.out, hms]
                                    clear hms hbu huv hobi
                                    generalize wgt es xn u = yy at *
                                    go_wp2_with fail
                                    refine HJ1.out.mono ?_
                                    rintro e w2 ⟨rfl, hb2⟩
                                    have HBi2 := Lib.hid (hbi.out.trans (hb2.mono hbi.out.size))
                                    clear hb2 g0 g1 p1 HJ1
                                    go_wp2
                                    go_roundw
                                    case rel => exact ⟨u + 1, _, by omega, rfl, by go_num, HX2.out, HBi2.out⟩
                                    case measure => simp [intOf]; omega
                                  · have hbu : ls8.getD u false = false := by simpa using hbu
                                    rw [hbu] at p1
                                    rw [hbu] at hms
                                    have HX2 : Hid (y = mrkN es ls8 xn (u + 1)) := by show _ = _; rw [hy.out, hms]; simp
                                    clear hms hbu hobi
                                    go_wp2
                                    go_roundw
                                    case rel => exact ⟨u + 1, _, by omega, rfl, by go_num, HX2.out, hbi.out⟩
                                    case measure => simp [intOf]; omega
                                · obtain rfl : u = v := by omega
                                  have r2 := (HBi.out.cell (p := adb.add xn) (by rw [block_of_add]; exact hbb)).trans hcb
                                  have x4 := (HXc.out.bel HBi.out).cell 4
                                  have HOi := Lib.hid hobi
                                  have hb3 := HBr.out
                                  rw [← hy.out] at hb3
                                  clear hobi
                                  by_cases hlm : zb < y
                                  · rw [if_pos hlm] at hb3
                                    have HR : Hid (SE = 16) := by show _ = _; rw [HSp0.out, ← hb3]; rfl
                                    have HBe := Lib.hid (HB0.out.trans (HBi.out.mono HB0.out.size))
                                    clear hb3
                                    go_wp2
                                    go_ret
                                    exact ⟨ret_i HR.out.symm, HBe.out⟩
                                  · rw [if_neg hlm] at hb3
                                    have HN := Lib.hid hb3
                                    clear hb3
                                    go_wp2
                                    go_roundw
                                    case rel => exact ⟨i + 1, _, by omega, by go_num, HL8.out, HOi.out, HBi4.out, HN.out⟩
                                    case measure => simp [intOf]; omega
                            · have hbt : ls.getD xn false = false := by simpa using hbt
                              rw [hbt] at s1
                              rw [if_neg (by rw [hbt]; simp)] at hb2
                              have HR : Hid (SE = 16) := by show _ = _; rw [HSp0.out, ← hb2]; rfl
                              clear s3 hb2 hbt hob7
                              go_wp2
                              go_ret
                              exact ⟨ret_i HR.out.symm, HBz7.out⟩
                          · have hvf : (decide (0 ≤ x) && decide (x < (v : Int))) = false := by
                              by_cases h1 : 0 ≤ x
                              · rw [decide_eq_false (show ¬ x < (v : Int) from fun h2 => hvx ⟨h1, h2⟩), Bool.and_false]
                              · rw [decide_eq_false h1, Bool.false_and]
                            have hvt : vtxB v x = false := hvf
                            rw [hvt]
                            rw [hvf, Bool.false_and, if_neg (by simp)] at hb2
                            have HR : Hid (SE = 16) := by show _ = _; rw [HSp0.out, ← hb2]; rfl
                            clear hb2 hvf hvt hvx hob7
                            go_wp2
                            go_ret
                            exact ⟨ret_i HR.out.symm, HBz7.out⟩
                        · have hb2 := hbr.out
                          rw [List.drop_of_length_le (by rw [HOl.out]; omega), ordB] at hb2
                          have HR : Hid (SE = 0) := by show _ = _; rw [HSp0.out, ← hb2]; rfl
                          clear hb2 hob
                          go_wp2
                          go_ret
                          exact ⟨ret_i HR.out.symm, HBz.out⟩
              · rw [if_pos rfl] at HSp0
                go_wp2
                go_ret
                exact ⟨ret_i HSp0.out.symm, HBf.out⟩
            · rw [if_pos rfl] at HSp0
              go_wp2
              go_ret
              exact ⟨ret_i HSp0.out.symm, HBf.out⟩
          · rw [if_pos (show (!true) = false from rfl)] at HSp0
            go_wp2
            go_ret
            exact ⟨ret_i HSp0.out.symm, HBf.out⟩
        · rw [if_pos hz0] at HSp0
          have t2 : (z != 0) = true := by rw [bne_iff_ne]; exact hz0
          go_wp2
          go_ret
          exact ⟨ret_i HSp0.out.symm, HBf.out⟩
      · have t : ((m6 : Int) != (firedN s : Int)) = true := by rw [bne_iff_ne]; omega
        rw [if_pos (by rw [HOl.out]; simpa using hlen)] at HSp0
        go_wp2
        go_ret
        exact ⟨ret_i HSp0.out.symm, HBf.out⟩
end Go.Proofs.YtgcnijmmjlfabaaGreatDoor

