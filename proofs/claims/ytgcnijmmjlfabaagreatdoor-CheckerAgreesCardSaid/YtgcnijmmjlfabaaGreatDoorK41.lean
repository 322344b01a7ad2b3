/- The law CheckerAgrees: it answers true. -/
import Derived.Test.YtgcnijmmjlfabaaGreatDoorK40
import Derived.Test.YtgcnijmmjlfabaaGreatDoorK00
set_option maxRecDepth 100000
set_option maxHeartbeats 16000000
namespace Go.Proofs.YtgcnijmmjlfabaaGreatDoor
open Go.RowKit Go.Shelf

/-- What stands behind the three texts of numbers. -/
def AgCut (W0 : World) (s p : Value) (wx : World) : Prop := ∃ (b : Nat) (A B : Value), p = .pointer (some ⟨b, 0, none⟩) ∧ WSt s 200 ∧ WSt A 200 ∧ WSt B 200 ∧ BL wx b 47 [A, B] ∧ Below W0.heap.size W0 wx
theorem WSt.str {v : Value} {n : Nat} (h : WSt v n) : ∃ Z, v = .string Z := by
  obtain ⟨ws, rfl, -⟩ := h
  exact ⟨_, rfl⟩
theorem few_six8 {n : Int} {es : List Tri} (hf : fewB n es = true) (h0 : ofE n es = 0) : ∃ m : Nat, n = m ∧ 1 ≤ m ∧ m ≤ 6 ∧ Edges m es := by
  obtain ⟨hgc, -⟩ := ofE_ok h0
  have h6 := (fewB_sm hf hgc).1
  obtain ⟨m, rfl, hm1, -, hE⟩ := gcheckE_zero hgc
  exact ⟨m, rfl, hm1, by omega, hE⟩
theorem agreesLaw_any (g vd va vb : Value) (n : Int) (es : List Tri) (d x y : List Int) (w : World) (hg : GV w g n es) (hd : RI w vd d) (ha : RI w va x) (hb : RI w vb y)
    (Bd : ∀ z ∈ d, -9223372036854775808 ≤ z ∧ z ≤ 9223372036854775807) (Bx : ∀ z ∈ x, -9223372036854775808 ≤ z ∧ z ≤ 9223372036854775807) (By : ∀ z ∈ y, -9223372036854775808 ≤ z ∧ z ≤ 9223372036854775807) (hlv : LV w) :
    Calls Tryz.prog 6 #[g, vd, .agg #[va, vb]] w fun e w' => e = .returned (.bool true) ∧ Below w.heap.size w w' := by
  obtain ⟨A, c, rfl, -⟩ := hg.open_
  obtain ⟨A1, c1, rfl, -⟩ := RI.open_ hd
  obtain ⟨A2, c2, rfl, -⟩ := RI.open_ ha
  obtain ⟨A3, c3, rfl, -⟩ := RI.open_ hb
  obtain ⟨W0, hW0⟩ : ∃ W0, W0 = w.alloc (.cells #[.int .i64 n, .slice A es.length c] 24) := ⟨_, rfl⟩
  have hb0 : Below w.heap.size w W0 := by rw [hW0]; exact below_alloc w _
  have hz0 : W0.heap.size = w.heap.size + 1 := by rw [hW0]; simp
  obtain ⟨W1, hW1⟩ : ∃ W1, W1 = W0.alloc (.cells #[.slice A2 x.length c2, .slice A3 y.length c3] 44) := ⟨_, rfl⟩
  have hb1 : Below W0.heap.size W0 W1 := by rw [hW1]; exact below_alloc W0 _
  have hbx : BL W1 (w.heap.size + 1) 44 [.slice A2 x.length c2, .slice A3 y.length c3] := by rw [hW1, ← hz0]; exact BL.new' W0 _ _
  have hx0 : BL W1 w.heap.size 24 [.int .i64 n, .slice A es.length c] := by
    have : BL W0 w.heap.size 24 [.int .i64 n, .slice A es.length c] := by rw [hW0]; exact BL.new' w _ _
    exact this.bel hb1
  have hbb := hb0.trans (hb1.mono hb0.size)
  have HX := Lib.hid hx0
  have HP := Lib.hid hbx
  have HBw := Lib.hid hbb
  have HG := Lib.hid (hg.below hbb)
  have HD := Lib.hid (RI.below hd hbb)
  have HA := Lib.hid (RI.below ha hbb)
  have HB := Lib.hid (RI.below hb hbb)
  have HLV := Lib.hid (hlv.below hbb)
  have HBd := Lib.hid Bd
  have HBx := Lib.hid Bx
  have HBy := Lib.hid By
  have HW0 := Lib.hid hW0
  have HW1 := Lib.hid hW1
  have HZ1 : Hid (w.heap.size + 1 < W1.heap.size) := hbx.lt
  have c0 := hx0.cell 0
  have c1' := hx0.cell 1
  have HJ := Lib.hid (rJoined_any _ n es W1 HG.out)
  have HAw : Hid (∀ W, Below W1.heap.size W1 W → Calls Tryz.prog 9 #[] W fun e w' => e = .returned (.bool true) ∧ Below W.heap.size W w') := fun W h => awake58_any W (HLV.out.below h)
  clear hg hd ha hb Bd Bx By hlv hb0 hz0 hb1 hbx hx0 hbb hW0 hW1
  go_enter Tryz.func6, Tryz.ntmps6
  go_upto_region 1 with fail
  rw [← HW0.out, ← HW1.out]
  have HE : Hid (eGiven n es [] = 0 → ofE n es = 0) := fun h => h
  generalize eGiven n es [] = ej at *
  go_wp2_with fail
  refine HJ.out.mono ?_
  rintro e w2 ⟨rfl, hb2⟩
  have HB2 := Lib.hid hb2
  clear hb2 HJ c0 c1'
  by_cases hj : ej ≠ 0
  · have t1 : (ej != 0) = true := by simpa using hj
    clear hj HE
    go_wp2_with fail
    refine (HAw.out _ HB2.out).mono ?_
    rintro e w9 ⟨rfl, hb9⟩
    have HB9 := Lib.hid (HBw.out.trans ((HB2.out.trans (hb9.mono HB2.out.size)).mono HBw.out.size))
    clear hb9
    go_wp2
    go_ret
    exact ⟨rfl, HB9.out⟩
  have hj0 : ej = 0 := by omega
  have HOf := Lib.hid (HE.out hj0)
  have t1 : (ej != 0) = false := by simpa using hj0
  have HF := Lib.hid (rFew8_any _ n es w2 (HG.out.below HB2.out))
  have c0 := (HX.out.bel HB2.out).cell 0
  have c1' := (HX.out.bel HB2.out).cell 1
  have HFs : Hid (fewB n es = true → ∃ m : Nat, n = m ∧ 1 ≤ m ∧ m ≤ 6 ∧ Edges m es) := fun h => few_six8 h HOf.out
  clear hj hj0 HE
  generalize fewB n es = fb at *
  go_wp2_with fail
  refine HF.out.mono ?_
  rintro e w3 ⟨rfl, hb3⟩
  have HB3 := Lib.hid (HB2.out.trans (hb3.mono HB2.out.size))
  clear hb3 HF c0 c1'
  cases fb
  · clear HFs
    go_wp2_with fail
    refine (HAw.out _ HB3.out).mono ?_
    rintro e w9 ⟨rfl, hb9⟩
    have HB9 := Lib.hid (HBw.out.trans ((HB3.out.trans (hb9.mono HB3.out.size)).mono HBw.out.size))
    clear hb9
    go_wp2
    go_ret
    exact ⟨rfl, HB9.out⟩
  have HFm := Lib.hid (HFs.out (by first | rfl | trivial))
  clear HFs
  by_cases hl1 : 12 < d.length
  · have g1 : (12 : Int) < (d.length : Int) := by omega
    clear hl1
    go_wp2_with fail
    refine (HAw.out _ HB3.out).mono ?_
    rintro e w9 ⟨rfl, hb9⟩
    have HB9 := Lib.hid (HBw.out.trans ((HB3.out.trans (hb9.mono HB3.out.size)).mono HBw.out.size))
    clear hb9
    go_wp2
    go_ret
    exact ⟨rfl, HB9.out⟩
  have g1 : ¬ (12 : Int) < (d.length : Int) := by omega
  have p0 := (HP.out.bel HB3.out).cell 0
  have p1 := (HP.out.bel HB3.out).cell 1
  by_cases hl2 : 200 < x.length
  · have g2 : (200 : Int) < (x.length : Int) := by omega
    clear hl2 hl1
    go_wp2_with fail
    refine (HAw.out _ HB3.out).mono ?_
    rintro e w9 ⟨rfl, hb9⟩
    have HB9 := Lib.hid (HBw.out.trans ((HB3.out.trans (hb9.mono HB3.out.size)).mono HBw.out.size))
    clear hb9
    go_wp2
    go_ret
    exact ⟨rfl, HB9.out⟩
  have g2 : ¬ (200 : Int) < (x.length : Int) := by omega
  by_cases hl3 : 200 < y.length
  · have g3 : (200 : Int) < (y.length : Int) := by omega
    clear hl3 hl2 hl1
    go_wp2_with fail
    refine (HAw.out _ HB3.out).mono ?_
    rintro e w9 ⟨rfl, hb9⟩
    have HB9 := Lib.hid (HBw.out.trans ((HB3.out.trans (hb9.mono HB3.out.size)).mono HBw.out.size))
    clear hb9
    go_wp2
    go_ret
    exact ⟨rfl, HB9.out⟩
  have g3 : ¬ (200 : Int) < (y.length : Int) := by omega
  have HN1 : Hid (∀ W, Below W1.heap.size W1 W → Calls Tryz.prog 21 #[.slice A1 d.length c1] W fun e w' => (∃ v', e = .returned v' ∧ WSt v' 200) ∧ Below W.heap.size W w') := fun W h => rNumW_any _ d W (RI.below HD.out h) (by omega) HBd.out
  have HN2 : Hid (∀ W, Below W1.heap.size W1 W → Calls Tryz.prog 21 #[.slice A2 x.length c2] W fun e w' => (∃ v', e = .returned v' ∧ WSt v' 200) ∧ Below W.heap.size W w') := fun W h => rNumW_any _ x W (RI.below HA.out h) (by omega) HBx.out
  have HN3 : Hid (∀ W, Below W1.heap.size W1 W → Calls Tryz.prog 21 #[.slice A3 y.length c3] W fun e w' => (∃ v', e = .returned v' ∧ WSt v' 200) ∧ Below W.heap.size W w') := fun W h => rNumW_any _ y W (RI.below HB.out h) (by omega) HBy.out
  clear hl1 hl2 hl3
  go_upto_region 3 with fail
  have HS0 : Hid (w3.drew.cell? ⟨w.heap.size + 1, 0, none⟩ = some (.slice A2 x.length c2) ∧ w3.drew.cell? ⟨w.heap.size + 1, 1, none⟩ = some (.slice A3 y.length c3) ∧ Below W1.heap.size W1 w3.drew) := ⟨p0, p1, HB3.out.drew⟩
  have HSn : Hid (∀ W W' : World, Below W1.heap.size W1 W → Below W.heap.size W W' → W'.cell? ⟨w.heap.size + 1, 0, none⟩ = some (.slice A2 x.length c2) ∧ W'.cell? ⟨w.heap.size + 1, 1, none⟩ = some (.slice A3 y.length c3) ∧ Below W1.heap.size W1 W') := fun W W' h h' =>
    have hq := h.trans (h'.mono h.size)
    ⟨(HP.out.bel hq).cell 0, (HP.out.bel hq).cell 1, hq⟩
  clear p0 p1
  go_cut [7, 8] from 38 to 46 (fun s p wx => Hid (AgCut W1 s p wx))
  case first =>
    -- REGION
    refine wp_region_held_drew (S := (fun W' : World => W'.cell? ⟨w.heap.size + 1, 0, none⟩ = some (.slice A2 x.length c2) ∧ W'.cell? ⟨w.heap.size + 1, 1, none⟩ = some (.slice A3 y.length c3) ∧ Below W1.heap.size W1 W')) (by kernel_rfl) HS0.out (fun hHeld => ?_)
    have HBc := Lib.hid HS0.out.2.2
    refine tkY (v := ?_) 0 (some 38) rfl (.inl ⟨by rfl, ?_⟩) ?_
    rotate_left
    · (intro w hSw; (try dsimp only at hSw); go_simp; try with_reducible rfl)
    try simp only [Act.put, tk1, tk2, tk3]
    refine tkY (v := ?_) 2 (some 40) rfl (.inl ⟨by rfl, ?_⟩) ?_
    rotate_left
    · (intro w hSw; (try dsimp only at hSw); go_simp; try with_reducible rfl)
    try simp only [Act.put, tk1, tk2, tk3]
    refine tkY (v := ?_) 3 (some 41) rfl (.inl ⟨by rfl, ?_⟩) ?_
    rotate_left
    · (intro w hSw; (try dsimp only at hSw); go_simp; try with_reducible rfl)
    try simp only [Act.put, tk1, tk2, tk3]
    refine tkY (v := ?_) 5 (some 43) rfl (.inl ⟨by rfl, ?_⟩) ?_
    rotate_left
    · (intro w hSw; (try dsimp only at hSw); go_simp; try with_reducible rfl)
    try simp only [Act.put, tk1, tk2, tk3]
    refine tkY (v := ?_) 6 (some 44) rfl (.inl ⟨by rfl, ?_⟩) ?_
    rotate_left
    · (intro w hSw; (try dsimp only at hSw); go_simp; try with_reducible rfl)
    try simp only [Act.put, tk1, tk2, tk3]
    refine wpAnyH_ready (rs := [1, 9]) (by kernel_rfl) (by simp) ?_
    refine (AllReadyH.cons (o := { dst := some 39, op := _, type := _, pos := _, after := _, guard := _ }) rfl (fun K hK => ?_) (AllReadyH.cons (o := { dst := some 8, op := _, type := _, pos := _, after := _, guard := _ }) rfl (fun K hK => ?_) AllReadyH.nil))
    · skip
      go_simp
      (with_reducible refine (HN1.out _ HBc.out).mono ?_)
      rintro e q1 ⟨⟨v1, rfl, hv1⟩, hq1⟩
      obtain ⟨Z1, rfl⟩ := hv1.str
      have HV1 := Lib.hid hv1
      have HBn := Lib.hid (HBc.out.trans (hq1.mono HBc.out.size))
      clear HBc hv1 hq1
      have HBc := HBn
      clear HBn
      clear hHeld
      refine hK.out _ _ (HSn.out _ _ HBc.out (Below.refl _ _)) (fun hHeld => ?_)
      clear hK K
      try simp only [Act.put, tk1, tk2, tk3]
      refine wpAnyH_ready (rs := [4, 9]) (by kernel_rfl) (by simp) ?_
      refine (AllReadyH.cons (o := { dst := some 42, op := _, type := _, pos := _, after := _, guard := _ }) rfl (fun K hK => ?_) (AllReadyH.cons (o := { dst := some 8, op := _, type := _, pos := _, after := _, guard := _ }) rfl (fun K hK => ?_) AllReadyH.nil))
      · skip
        go_simp
        (with_reducible refine (HN2.out _ HBc.out).mono ?_)
        rintro e q2 ⟨⟨v2, rfl, hv2⟩, hq2⟩
        obtain ⟨Z2, rfl⟩ := hv2.str
        have HV2 := Lib.hid hv2
        have HBn := Lib.hid (HBc.out.trans (hq2.mono HBc.out.size))
        clear HBc hv2 hq2
        have HBc := HBn
        clear HBn
        clear hHeld
        refine hK.out _ _ (HSn.out _ _ HBc.out (Below.refl _ _)) (fun hHeld => ?_)
        clear hK K
        try simp only [Act.put, tk1, tk2, tk3]
        refine wpAnyH_ready (rs := [7, 9]) (by kernel_rfl) (by simp) ?_
        refine (AllReadyH.cons (o := { dst := some 45, op := _, type := _, pos := _, after := _, guard := _ }) rfl (fun K hK => ?_) (AllReadyH.cons (o := { dst := some 8, op := _, type := _, pos := _, after := _, guard := _ }) rfl (fun K hK => ?_) AllReadyH.nil))
        · skip
          go_simp
          (with_reducible refine (HN3.out _ HBc.out).mono ?_)
          rintro e q3 ⟨⟨v3, rfl, hv3⟩, hq3⟩
          obtain ⟨Z3, rfl⟩ := hv3.str
          have HV3 := Lib.hid hv3
          have HBn := Lib.hid (HBc.out.trans (hq3.mono HBc.out.size))
          clear HBc hv3 hq3
          have HBc := HBn
          clear HBn
          clear hHeld
          refine hK.out _ _ (HSn.out _ _ HBc.out (Below.refl _ _)) (fun hHeld => ?_)
          clear hK K
          try simp only [Act.put, tk1, tk2, tk3]
          refine tkY (v := ?_) 8 (some 46) rfl (.inl ⟨by rfl, ?_⟩) ?_
          rotate_left
          · (intro w hSw; (try dsimp only at hSw); go_simp; try with_reducible rfl)
          try simp only [Act.put, tk1, tk2, tk3]
          refine wpAnyH_ready (rs := [9]) (by kernel_rfl) (by simp) ?_
          refine (AllReadyH.cons (o := { dst := some 8, op := _, type := _, pos := _, after := _, guard := _ }) rfl (fun K hK => ?_) AllReadyH.nil)
          have HB0 : Hid (W1.heap.size ≤ (q3).heap.size) := HBc.out.size
          go_simp
          have HBn : Hid (Below W1.heap.size W1 ((q3).alloc (.cells #[.string ⟨#[]⟩, .string ⟨#[]⟩] 47))) := HBc.out.alloc HBc.out.size (.cells #[.string ⟨#[]⟩, .string ⟨#[]⟩] 47)
          have HY : Hid (BL ((q3).alloc (.cells #[.string ⟨#[]⟩, .string ⟨#[]⟩] 47)) (q3).heap.size 47 [.string ⟨#[]⟩, .string ⟨#[]⟩]) := BL.new' _ _ _
          have HBa := HBc
          clear HBc
          have HBc := HBn
          clear HBn
          clear hHeld
          refine hK.out _ _ (HSn.out _ _ HBc.out (Below.refl _ _)) (fun hHeld => ?_)
          clear hK K
          try simp only [Act.put, tk1, tk2, tk3]
          refine tkY (v := ?_) 10 (some 7) rfl (.inl ⟨by rfl, ?_⟩) ?_
          rotate_left
          · (intro w hSw; (try dsimp only at hSw); go_simp; try with_reducible rfl)
          try simp only [Act.put, tk1, tk2, tk3]
          have y0 := HY.out.cell 0
          have y1 := HY.out.cell 1
          have y2 := HY.out.frozen 0
          have y3 := HY.out.frozen 1
          refine wpAnyH_ready (rs := [11]) (by kernel_rfl) (by simp) ?_
          refine AllReadyH.cons (o := { dst := none, op := _, type := _, pos := _, after := _, guard := _ }) rfl (fun K hK => ?_) AllReadyH.nil
          go_simp
          have HYn : Hid (BL ((q3).alloc (.cells #[.string Z2, .string Z3] 47)) (q3).heap.size 47 [.string Z2, .string Z3]) := BL.new' _ _ _
          have HBn := Lib.hid (HBa.out.alloc HBa.out.size (.cells #[.string Z2, .string Z3] 47))
          clear y0 y1 y2 y3
          clear hHeld
          refine hK.out _ _ (HSn.out _ _ HBn.out (Below.refl _ _)) (fun hHeld => ?_)
          clear hK K
          try simp only [Act.put, tk1, tk2, tk3]
          refine wpAnyH_done (by kernel_rfl) ?_ _
          go_wp2_with fail
          go_meet
          exact (show AgCut _ _ _ _ from ⟨_, _, _, rfl, HV1.out, HV2.out, HV3.out, HYn.out, HBn.out⟩)
        · skip
          have HB0 : Hid (W1.heap.size ≤ (q2).heap.size) := HBc.out.size
          go_simp
          have HBn : Hid (Below W1.heap.size W1 ((q2).alloc (.cells #[.string ⟨#[]⟩, .string ⟨#[]⟩] 47))) := HBc.out.alloc HBc.out.size (.cells #[.string ⟨#[]⟩, .string ⟨#[]⟩] 47)
          have HY : Hid (BL ((q2).alloc (.cells #[.string ⟨#[]⟩, .string ⟨#[]⟩] 47)) (q2).heap.size 47 [.string ⟨#[]⟩, .string ⟨#[]⟩]) := BL.new' _ _ _
          have HBa := HBc
          clear HBc
          have HBc := HBn
          clear HBn
          clear hHeld
          refine hK.out _ _ (HSn.out _ _ HBc.out (Below.refl _ _)) (fun hHeld => ?_)
          clear hK K
          try simp only [Act.put, tk1, tk2, tk3]
          refine wpAnyH_ready (rs := [7]) (by kernel_rfl) (by simp) ?_
          refine (AllReadyH.cons (o := { dst := some 45, op := _, type := _, pos := _, after := _, guard := _ }) rfl (fun K hK => ?_) AllReadyH.nil)
          go_simp
          (with_reducible refine (HN3.out _ HBc.out).mono ?_)
          rintro e q3 ⟨⟨v3, rfl, hv3⟩, hq3⟩
          obtain ⟨Z3, rfl⟩ := hv3.str
          have HV3 := Lib.hid hv3
          have HBn := Lib.hid (HBc.out.trans (hq3.mono HBc.out.size))
          have HYn := Lib.hid (HY.out.bel hq3)
          clear HY
          have HY := HYn
          clear HYn
          clear HBc hv3 hq3
          have HBc := HBn
          clear HBn
          clear hHeld
          refine hK.out _ _ (HSn.out _ _ HBc.out (Below.refl _ _)) (fun hHeld => ?_)
          clear hK K
          try simp only [Act.put, tk1, tk2, tk3]
          refine tkY (v := ?_) 8 (some 46) rfl (.inl ⟨by rfl, ?_⟩) ?_
          rotate_left
          · (intro w hSw; (try dsimp only at hSw); go_simp; try with_reducible rfl)
          try simp only [Act.put, tk1, tk2, tk3]
          refine tkY (v := ?_) 10 (some 7) rfl (.inl ⟨by rfl, ?_⟩) ?_
          rotate_left
          · (intro w hSw; (try dsimp only at hSw); go_simp; try with_reducible rfl)
          try simp only [Act.put, tk1, tk2, tk3]
          have y0 := HY.out.cell 0
          have y1 := HY.out.cell 1
          have y2 := HY.out.frozen 0
          have y3 := HY.out.frozen 1
          refine wpAnyH_ready (rs := [11]) (by kernel_rfl) (by simp) ?_
          refine AllReadyH.cons (o := { dst := none, op := _, type := _, pos := _, after := _, guard := _ }) rfl (fun K hK => ?_) AllReadyH.nil
          go_simp
          have HYn := Lib.hid ((HY.out.set 0 (.string Z2)).set 1 (.string Z3))
          have HBn := Lib.hid ((HBc.out.setCell (p := ⟨_, 0, none⟩) (show W1.heap.size ≤ _ from HB0.out) (.string Z2)).setCell (p := ⟨_, 1, none⟩) (show W1.heap.size ≤ _ from HB0.out) (.string Z3))
          clear y0 y1 y2 y3
          clear hHeld
          refine hK.out _ _ (HSn.out _ _ HBn.out (Below.refl _ _)) (fun hHeld => ?_)
          clear hK K
          try simp only [Act.put, tk1, tk2, tk3]
          refine wpAnyH_done (by kernel_rfl) ?_ _
          go_wp2_with fail
          go_meet
          exact (show AgCut _ _ _ _ from ⟨_, _, _, rfl, HV1.out, HV2.out, HV3.out, HYn.out, HBn.out⟩)
      · skip
        have HB0 : Hid (W1.heap.size ≤ (q1).heap.size) := HBc.out.size
        go_simp
        have HBn : Hid (Below W1.heap.size W1 ((q1).alloc (.cells #[.string ⟨#[]⟩, .string ⟨#[]⟩] 47))) := HBc.out.alloc HBc.out.size (.cells #[.string ⟨#[]⟩, .string ⟨#[]⟩] 47)
        have HY : Hid (BL ((q1).alloc (.cells #[.string ⟨#[]⟩, .string ⟨#[]⟩] 47)) (q1).heap.size 47 [.string ⟨#[]⟩, .string ⟨#[]⟩]) := BL.new' _ _ _
        have HBa := HBc
        clear HBc
        have HBc := HBn
        clear HBn
        clear hHeld
        refine hK.out _ _ (HSn.out _ _ HBc.out (Below.refl _ _)) (fun hHeld => ?_)
        clear hK K
        try simp only [Act.put, tk1, tk2, tk3]
        refine wpAnyH_ready (rs := [4]) (by kernel_rfl) (by simp) ?_
        refine (AllReadyH.cons (o := { dst := some 42, op := _, type := _, pos := _, after := _, guard := _ }) rfl (fun K hK => ?_) AllReadyH.nil)
        go_simp
        (with_reducible refine (HN2.out _ HBc.out).mono ?_)
        rintro e q2 ⟨⟨v2, rfl, hv2⟩, hq2⟩
        obtain ⟨Z2, rfl⟩ := hv2.str
        have HV2 := Lib.hid hv2
        have HBn := Lib.hid (HBc.out.trans (hq2.mono HBc.out.size))
        have HYn := Lib.hid (HY.out.bel hq2)
        clear HY
        have HY := HYn
        clear HYn
        clear HBc hv2 hq2
        have HBc := HBn
        clear HBn
        clear hHeld
        refine hK.out _ _ (HSn.out _ _ HBc.out (Below.refl _ _)) (fun hHeld => ?_)
        clear hK K
        try simp only [Act.put, tk1, tk2, tk3]
        refine wpAnyH_ready (rs := [7]) (by kernel_rfl) (by simp) ?_
        refine (AllReadyH.cons (o := { dst := some 45, op := _, type := _, pos := _, after := _, guard := _ }) rfl (fun K hK => ?_) AllReadyH.nil)
        go_simp
        (with_reducible refine (HN3.out _ HBc.out).mono ?_)
        rintro e q3 ⟨⟨v3, rfl, hv3⟩, hq3⟩
        obtain ⟨Z3, rfl⟩ := hv3.str
        have HV3 := Lib.hid hv3
        have HBn := Lib.hid (HBc.out.trans (hq3.mono HBc.out.size))
        have HYn := Lib.hid (HY.out.bel hq3)
        clear HY
        have HY := HYn
        clear HYn
        clear HBc hv3 hq3
        have HBc := HBn
        clear HBn
        clear hHeld
        refine hK.out _ _ (HSn.out _ _ HBc.out (Below.refl _ _)) (fun hHeld => ?_)
        clear hK K
        try simp only [Act.put, tk1, tk2, tk3]
        refine tkY (v := ?_) 8 (some 46) rfl (.inl ⟨by rfl, ?_⟩) ?_
        rotate_left
        · (intro w hSw; (try dsimp only at hSw); go_simp; try with_reducible rfl)
        try simp only [Act.put, tk1, tk2, tk3]
        refine tkY (v := ?_) 10 (some 7) rfl (.inl ⟨by rfl, ?_⟩) ?_
        rotate_left
        · (intro w hSw; (try dsimp only at hSw); go_simp; try with_reducible rfl)
        try simp only [Act.put, tk1, tk2, tk3]
        have y0 := HY.out.cell 0
        have y1 := HY.out.cell 1
        have y2 := HY.out.frozen 0
        have y3 := HY.out.frozen 1
        refine wpAnyH_ready (rs := [11]) (by kernel_rfl) (by simp) ?_
        refine AllReadyH.cons (o := { dst := none, op := _, type := _, pos := _, after := _, guard := _ }) rfl (fun K hK => ?_) AllReadyH.nil
        go_simp
        have HYn := Lib.hid ((HY.out.set 0 (.string Z2)).set 1 (.string Z3))
        have HBn := Lib.hid ((HBc.out.setCell (p := ⟨_, 0, none⟩) (show W1.heap.size ≤ _ from HB0.out) (.string Z2)).setCell (p := ⟨_, 1, none⟩) (show W1.heap.size ≤ _ from HB0.out) (.string Z3))
        clear y0 y1 y2 y3
        clear hHeld
        refine hK.out _ _ (HSn.out _ _ HBn.out (Below.refl _ _)) (fun hHeld => ?_)
        clear hK K
        try simp only [Act.put, tk1, tk2, tk3]
        refine wpAnyH_done (by kernel_rfl) ?_ _
        go_wp2_with fail
        go_meet
        exact (show AgCut _ _ _ _ from ⟨_, _, _, rfl, HV1.out, HV2.out, HV3.out, HYn.out, HBn.out⟩)
    · skip
      have HB0 : Hid (W1.heap.size ≤ (w3.drew).heap.size) := HBc.out.size
      go_simp
      have HBn : Hid (Below W1.heap.size W1 ((w3.alloc (.cells #[.string ⟨#[]⟩, .string ⟨#[]⟩] 47)).drew)) := HBc.out.alloc HBc.out.size (.cells #[.string ⟨#[]⟩, .string ⟨#[]⟩] 47)
      have HY : Hid (BL ((w3.alloc (.cells #[.string ⟨#[]⟩, .string ⟨#[]⟩] 47)).drew) w3.heap.size 47 [.string ⟨#[]⟩, .string ⟨#[]⟩]) := BL.new' _ _ _
      have HBa := HBc
      clear HBc
      have HBc := HBn
      clear HBn
      clear hHeld
      refine hK.out _ _ (HSn.out _ _ HBc.out (Below.refl _ _)) (fun hHeld => ?_)
      clear hK K
      try simp only [Act.put, tk1, tk2, tk3]
      refine wpAnyH_ready (rs := [1]) (by kernel_rfl) (by simp) ?_
      refine (AllReadyH.cons (o := { dst := some 39, op := _, type := _, pos := _, after := _, guard := _ }) rfl (fun K hK => ?_) AllReadyH.nil)
      go_simp
      (with_reducible refine (HN1.out _ HBc.out).mono ?_)
      rintro e q1 ⟨⟨v1, rfl, hv1⟩, hq1⟩
      obtain ⟨Z1, rfl⟩ := hv1.str
      have HV1 := Lib.hid hv1
      have HBn := Lib.hid (HBc.out.trans (hq1.mono HBc.out.size))
      have HYn := Lib.hid (HY.out.bel hq1)
      clear HY
      have HY := HYn
      clear HYn
      clear HBc hv1 hq1
      have HBc := HBn
      clear HBn
      clear hHeld
      refine hK.out _ _ (HSn.out _ _ HBc.out (Below.refl _ _)) (fun hHeld => ?_)
      clear hK K
      try simp only [Act.put, tk1, tk2, tk3]
      refine wpAnyH_ready (rs := [4]) (by kernel_rfl) (by simp) ?_
      refine (AllReadyH.cons (o := { dst := some 42, op := _, type := _, pos := _, after := _, guard := _ }) rfl (fun K hK => ?_) AllReadyH.nil)
      go_simp
      (with_reducible refine (HN2.out _ HBc.out).mono ?_)
      rintro e q2 ⟨⟨v2, rfl, hv2⟩, hq2⟩
      obtain ⟨Z2, rfl⟩ := hv2.str
      have HV2 := Lib.hid hv2
      have HBn := Lib.hid (HBc.out.trans (hq2.mono HBc.out.size))
      have HYn := Lib.hid (HY.out.bel hq2)
      clear HY
      have HY := HYn
      clear HYn
      clear HBc hv2 hq2
      have HBc := HBn
      clear HBn
      clear hHeld
      refine hK.out _ _ (HSn.out _ _ HBc.out (Below.refl _ _)) (fun hHeld => ?_)
      clear hK K
      try simp only [Act.put, tk1, tk2, tk3]
      refine wpAnyH_ready (rs := [7]) (by kernel_rfl) (by simp) ?_
      refine (AllReadyH.cons (o := { dst := some 45, op := _, type := _, pos := _, after := _, guard := _ }) rfl (fun K hK => ?_) AllReadyH.nil)
      go_simp
      (with_reducible refine (HN3.out _ HBc.out).mono ?_)
      rintro e q3 ⟨⟨v3, rfl, hv3⟩, hq3⟩
      obtain ⟨Z3, rfl⟩ := hv3.str
      have HV3 := Lib.hid hv3
      have HBn := Lib.hid (HBc.out.trans (hq3.mono HBc.out.size))
      have HYn := Lib.hid (HY.out.bel hq3)
      clear HY
      have HY := HYn
      clear HYn
      clear HBc hv3 hq3
      have HBc := HBn
      clear HBn
      clear hHeld
      refine hK.out _ _ (HSn.out _ _ HBc.out (Below.refl _ _)) (fun hHeld => ?_)
      clear hK K
      try simp only [Act.put, tk1, tk2, tk3]
      refine tkY (v := ?_) 8 (some 46) rfl (.inl ⟨by rfl, ?_⟩) ?_
      rotate_left
      · (intro w hSw; (try dsimp only at hSw); go_simp; try with_reducible rfl)
      try simp only [Act.put, tk1, tk2, tk3]
      refine tkY (v := ?_) 10 (some 7) rfl (.inl ⟨by rfl, ?_⟩) ?_
      rotate_left
      · (intro w hSw; (try dsimp only at hSw); go_simp; try with_reducible rfl)
      try simp only [Act.put, tk1, tk2, tk3]
      have y0 := HY.out.cell 0
      have y1 := HY.out.cell 1
      have y2 := HY.out.frozen 0
      have y3 := HY.out.frozen 1
      refine wpAnyH_ready (rs := [11]) (by kernel_rfl) (by simp) ?_
      refine AllReadyH.cons (o := { dst := none, op := _, type := _, pos := _, after := _, guard := _ }) rfl (fun K hK => ?_) AllReadyH.nil
      go_simp
      have HYn := Lib.hid ((HY.out.set 0 (.string Z2)).set 1 (.string Z3))
      have HBn := Lib.hid ((HBc.out.setCell (p := ⟨_, 0, none⟩) (show W1.heap.size ≤ _ from HB0.out) (.string Z2)).setCell (p := ⟨_, 1, none⟩) (show W1.heap.size ≤ _ from HB0.out) (.string Z3))
      clear y0 y1 y2 y3
      clear hHeld
      refine hK.out _ _ (HSn.out _ _ HBn.out (Below.refl _ _)) (fun hHeld => ?_)
      clear hK K
      try simp only [Act.put, tk1, tk2, tk3]
      refine wpAnyH_done (by kernel_rfl) ?_ _
      go_wp2_with fail
      go_meet
      exact (show AgCut _ _ _ _ from ⟨_, _, _, rfl, HV1.out, HV2.out, HV3.out, HYn.out, HBn.out⟩)
  case rest =>
    obtain ⟨b, A4, B4, rfl, hws, hwa, hwb, hbl, hbw⟩ := hcut.out
    obtain ⟨wd, rfl, hcd, hld⟩ := hws
    obtain ⟨wa, rfl, hca, hla⟩ := hwa
    obtain ⟨wb, rfl, hcb, hlb⟩ := hwb
    obtain ⟨m, rfl, hm1, hm6, hE⟩ := HFm.out
    have HNo : Hid (∀ i < 3, (LineE m es (agL (agK1 i) wd wa) = 0 → LineE m es (agL (agK2 i) wd wb) ≠ 0) ∧ (LineE m es (agL (agK1 i) wd wb) = 0 → LineE m es (agL (agK2 i) wd wa) ≠ 0)) := fun i hi =>
      ⟨agree_not hE hm1 hcd hca hcb hi, agree_not hE hm1 hcd hcb hca hi⟩
    have HLn : Hid (∀ (s : List UInt8) (W : World), Below W1.heap.size W1 W → Calls Tryz.prog 10 #[.agg #[.int .i64 (m : Int), .slice A es.length c], strV s] W fun e w' => e = .returned (.int .i64 (LineE m es s)) ∧ Below W.heap.size W w') := fun s W h =>
      kLn_any _ m es s W (HG.out.below h) (HLV.out.below h) (fun _ => by omega)
    have k1 := fun W => run_string_add_lists (P := Tryz.prog) W [119, 105, 110, 110, 97, 98, 108, 101] (blkL wd) (by decide) (by omega)
    have k2 := fun W => run_string_add_lists (P := Tryz.prog) W [117, 110, 119, 105, 110, 110, 97, 98, 108, 101] (blkL wd) (by decide) (by omega)
    have k3 := fun W => run_string_add_lists (P := Tryz.prog) W [114, 97, 110, 107, 108, 101, 97, 115, 116, 32, 49] (blkL wd) (by decide) (by omega)
    have k4 := fun W => run_string_add_lists (P := Tryz.prog) W [114, 97, 110, 107, 109, 111, 115, 116, 32, 48] (blkL wd) (by decide) (by omega)
    have k5 := fun W => run_string_add_lists (P := Tryz.prog) W [114, 97, 110, 107, 108, 101, 97, 115, 116, 32, 48] (blkL wd) (by decide) (by omega)
    have k6 := fun W => run_string_add_lists (P := Tryz.prog) W [114, 97, 110, 107, 109, 111, 115, 116, 32, 45, 49] (blkL wd) (by decide) (by omega)
    rw [show ByteArray.mk [119, 105, 110, 110, 97, 98, 108, 101].toArray = ByteArray.mk #[119, 105, 110, 110, 97, 98, 108, 101] from rfl] at k1
    rw [show ByteArray.mk [117, 110, 119, 105, 110, 110, 97, 98, 108, 101].toArray = ByteArray.mk #[117, 110, 119, 105, 110, 110, 97, 98, 108, 101] from rfl] at k2
    rw [show ByteArray.mk [114, 97, 110, 107, 108, 101, 97, 115, 116, 32, 49].toArray = ByteArray.mk #[114, 97, 110, 107, 108, 101, 97, 115, 116, 32, 49] from rfl] at k3
    rw [show ByteArray.mk [114, 97, 110, 107, 109, 111, 115, 116, 32, 48].toArray = ByteArray.mk #[114, 97, 110, 107, 109, 111, 115, 116, 32, 48] from rfl] at k4
    rw [show ByteArray.mk [114, 97, 110, 107, 108, 101, 97, 115, 116, 32, 48].toArray = ByteArray.mk #[114, 97, 110, 107, 108, 101, 97, 115, 116, 32, 48] from rfl] at k5
    rw [show ByteArray.mk [114, 97, 110, 107, 109, 111, 115, 116, 32, 45, 49].toArray = ByteArray.mk #[114, 97, 110, 107, 109, 111, 115, 116, 32, 45, 49] from rfl] at k6
    obtain ⟨X0, hX0⟩ : ∃ X, X = ByteArray.mk (agK1 0 ++ blkL wd).toArray := ⟨_, rfl⟩
    obtain ⟨Y0, hY0⟩ : ∃ X, X = ByteArray.mk (agK2 0 ++ blkL wd).toArray := ⟨_, rfl⟩
    obtain ⟨X1, hX1⟩ : ∃ X, X = ByteArray.mk (agK1 1 ++ blkL wd).toArray := ⟨_, rfl⟩
    obtain ⟨Y1, hY1⟩ : ∃ X, X = ByteArray.mk (agK2 1 ++ blkL wd).toArray := ⟨_, rfl⟩
    obtain ⟨X2, hX2⟩ : ∃ X, X = ByteArray.mk (agK1 2 ++ blkL wd).toArray := ⟨_, rfl⟩
    obtain ⟨Y2, hY2⟩ : ∃ X, X = ByteArray.mk (agK2 2 ++ blkL wd).toArray := ⟨_, rfl⟩
    have k1 := fun W => (k1 W).trans (show _ = Result.ok (.string X0) W by rw [hX0]; rfl)
    have k2 := fun W => (k2 W).trans (show _ = Result.ok (.string Y0) W by rw [hY0]; rfl)
    have k3 := fun W => (k3 W).trans (show _ = Result.ok (.string X1) W by rw [hX1]; rfl)
    have k4 := fun W => (k4 W).trans (show _ = Result.ok (.string Y1) W by rw [hY1]; rfl)
    have k5 := fun W => (k5 W).trans (show _ = Result.ok (.string X2) W by rw [hX2]; rfl)
    have k6 := fun W => (k6 W).trans (show _ = Result.ok (.string Y2) W by rw [hY2]; rfl)
    have HTx : Hid (∀ i < 3, ∃ X Y : ByteArray, X = ByteArray.mk (agK1 i ++ blkL wd).toArray ∧ Y = ByteArray.mk (agK2 i ++ blkL wd).toArray ∧ (([Value.string X0, .string Y0, .string X1, .string Y1, .string X2, .string Y2] : List Value)[i * 2]? = some (.string X) ∧ ([Value.string X0, .string Y0, .string X1, .string Y1, .string X2, .string Y2] : List Value)[i * 2 + 1]? = some (.string Y))) := fun i hi => by
      rcases (by omega : i = 0 ∨ i = 1 ∨ i = 2) with rfl | rfl | rfl
      · exact ⟨X0, Y0, hX0, hY0, rfl, rfl⟩
      · exact ⟨X1, Y1, hX1, hY1, rfl, rfl⟩
      · exact ⟨X2, Y2, hX2, hY2, rfl, rfl⟩
    have HLd : Hid ((blkL wd).length ≤ 21 * 200) := hld
    have HLa : Hid ((blkL wa).length ≤ 21 * 200) := hla
    have HLb : Hid ((blkL wb).length ≤ 21 * 200) := hlb
    obtain ⟨D, hD⟩ : ∃ D, D = ByteArray.mk (blkL wd).toArray := ⟨_, rfl⟩
    rw [← hD] at k1 k2 k3 k4 k5 k6 ⊢
    have HBL := Lib.hid hbl
    have HBW := Lib.hid hbw
    clear hX0 hX1 hX2 hY0 hY1 hY2 hD hld hla hlb hbl hbw hm1 hm6 hE hcd hca hcb hcut HFm
    go_wp2_with fail
    -- LOOPS
    obtain ⟨W4, hW4⟩ : ∃ W4, W4 = wc.alloc (.cells #[.string X0, .string Y0, .string X1, .string Y1, .string X2, .string Y2] 47) := ⟨_, rfl⟩
    have hb4 : Below wc.heap.size wc W4 := by rw [hW4]; exact below_alloc wc _
    have hx4 : BL W4 wc.heap.size 47 [.string X0, .string Y0, .string X1, .string Y1, .string X2, .string Y2] := by rw [hW4]; exact BL.new' wc _ _
    have HX4 := Lib.hid hx4
    have HP4 := Lib.hid (HBL.out.bel hb4)
    have HB4 := Lib.hid (HBW.out.trans (hb4.mono HBW.out.size))
    have HW4 := Lib.hid hW4
    clear hb4 hx4 hW4 HBL
    rw [← HW4.out]
    generalize ([Value.string X0, .string Y0, .string X1, .string Y1, .string X2, .string Y2] : List Value) = us at *
    clear k1 k2 k3 k4 k5 k6
    go_loopw [64] (fun i wr => ∃ k : Nat, k ≤ 3 ∧ i = .int .i64 (k : Int) ∧ Hid (Below W4.heap.size W4 wr)) (fun i _ => 3 - (intOf i).toNat)
    case atStart => exact ⟨0, Nat.zero_le _, rfl, Below.refl _ _⟩
    case round =>
      obtain ⟨k, hk, rfl, hw⟩ := hrel
      by_cases hlt : k < 3
      · obtain ⟨X, Y, hX, hY, hx, hy⟩ := HTx.out k hlt
        have x1 : wr.cell? ⟨wc.heap.size, k * 2, none⟩ = some (.string X) := ((HX4.out.bel hw.out).cell _).trans hx
        have x2 : wr.cell? ⟨wc.heap.size, k * 2 + 1, none⟩ = some (.string Y) := ((HX4.out.bel hw.out).cell _).trans hy
        have g1 : (k : Int) < 3 := by omega
        have hno := HNo.out k hlt
        obtain ⟨M1, hM1⟩ : ∃ M, M = ByteArray.mk (agK1 k ++ blkL wd ++ [32, 58]).toArray := ⟨_, rfl⟩
        obtain ⟨M2, hM2⟩ : ∃ M, M = ByteArray.mk (agK2 k ++ blkL wd ++ [32, 58]).toArray := ⟨_, rfl⟩
        have hl1 : (agK1 k).length ≤ 20 ∧ (agK2 k).length ≤ 20 := by
          rcases (by omega : k = 0 ∨ k = 1 ∨ k = 2) with rfl | rfl | rfl <;> decide
        have hlD := HLd.out
        have hlA := HLa.out
        have hlB := HLb.out
        have s1 : ∀ W : World, (Op.stringOp .add X ⟨#[32, 58]⟩).run Tryz.prog W = .ok (.string M1) W := fun W => by
          rw [hX, hM1]
          exact run_string_add_lists W _ [32, 58] (by rw [List.length_append]; omega) (by decide)
        have s2 : ∀ W : World, (Op.stringOp .add Y ⟨#[32, 58]⟩).run Tryz.prog W = .ok (.string M2) W := fun W => by
          rw [hY, hM2]
          exact run_string_add_lists W _ [32, 58] (by rw [List.length_append]; omega) (by decide)
        have HJJ : Hid (∀ u v : List (List UInt8), (blkL u).length ≤ 21 * 200 → (blkL v).length ≤ 21 * 200 → (LineE m es (agL (agK1 k) wd u) = 0 → LineE m es (agL (agK2 k) wd v) ≠ 0) →
            ∃ (S1 S2 : ByteArray) (e1 e2 : Int), (∀ W : World, (Op.stringOp .add M1 ⟨(blkL u).toArray⟩).run Tryz.prog W = .ok (.string S1) W) ∧ (∀ W : World, (Op.stringOp .add M2 ⟨(blkL v).toArray⟩).run Tryz.prog W = .ok (.string S2) W) ∧
              (e1 = 0 → e2 ≠ 0) ∧ Hid (∀ W : World, Below W1.heap.size W1 W → Calls Tryz.prog 10 #[.agg #[.int .i64 (m : Int), .slice A es.length c], .string S1] W fun e w' => e = .returned (.int .i64 e1) ∧ Below W.heap.size W w') ∧
              Hid (∀ W : World, Below W1.heap.size W1 W → Calls Tryz.prog 10 #[.agg #[.int .i64 (m : Int), .slice A es.length c], .string S2] W fun e w' => e = .returned (.int .i64 e2) ∧ Below W.heap.size W w')) := fun u v hu hv h =>
          ⟨⟨(agL (agK1 k) wd u).toArray⟩, ⟨(agL (agK2 k) wd v).toArray⟩, _, _, fun W => by rw [hM1]; exact run_string_add_lists W _ _ (by rw [List.length_append, List.length_append, show [(32 : UInt8), 58].length = 2 from rfl]; omega) (by omega), fun W => by rw [hM2]; exact run_string_add_lists W _ _ (by rw [List.length_append, List.length_append, show [(32 : UInt8), 58].length = 2 from rfl]; omega) (by omega), h, fun W hW => HLn.out _ W hW, fun W hW => HLn.out _ W hW⟩
        have HN1 := Lib.hid hno.1
        have HN2 := Lib.hid hno.2
        clear hX hY hM1 hM2 hx hy hl1 hlD hlA hlB hno
        go_wp2_with fail
        obtain ⟨wo, rfl⟩ : ∃ wo, wo = wr := ⟨_, rfl⟩
        obtain ⟨W5, hW5⟩ : ∃ W5, W5 = wo.alloc (.cells #[.string X, .string Y] 47) := ⟨_, rfl⟩
        have hb5 : Below wo.heap.size wo W5 := by rw [hW5]; exact below_alloc wo _
        have hx5 : BL W5 wo.heap.size 47 [.string X, .string Y] := by rw [hW5]; exact BL.new' wo _ _
        have HX5 := Lib.hid hx5
        have HB5 := Lib.hid (hw.out.trans (hb5.mono hw.out.size))
        have HUp : Hid (∀ W, Below W5.heap.size W5 W → Below W1.heap.size W1 W) := fun W h => HB4.out.trans ((HB5.out.trans (h.mono HB5.out.size)).mono HB4.out.size)
        have HW5 := Lib.hid hW5
        clear hb5 hx5 hW5 x1 x2 hw
        rw [← HW5.out]
        go_loopw [68] (fun i wq => ∃ j : Nat, j ≤ 2 ∧ i = .int .i64 (j : Int) ∧ Hid (Below W5.heap.size W5 wq)) (fun i _ => 2 - (intOf i).toNat)
        case atStart => exact ⟨0, Nat.zero_le _, rfl, Below.refl _ _⟩
        case round =>
          obtain ⟨j, hj, rfl, hq⟩ := hrel
          by_cases hj0 : j = 0
          · subst hj0
            obtain ⟨PJ, hPJ⟩ : ∃ P, P = ByteArray.mk (blkL wa).toArray := ⟨_, rfl⟩
            obtain ⟨PQ, hPQ⟩ : ∃ P, P = ByteArray.mk (blkL wb).toArray := ⟨_, rfl⟩
            obtain ⟨S1, S2, e1, e2, r1, r2, he, HC1, HC2⟩ := HJJ.out wa wb HLa.out HLb.out HN1.out
            rw [← hPJ] at r1
            rw [← hPQ] at r2
            have HKK : Hid (∀ W : World, Below W5.heap.size W5 W → (fun W' : World => W'.cell? ⟨w.heap.size, 0, none⟩ = some (.int .i64 (m : Int)) ∧ W'.cell? ⟨w.heap.size, 1, none⟩ = some (.slice A es.length c) ∧ W'.cell? ⟨wo.heap.size, 0, none⟩ = some (.string X) ∧ W'.cell? ⟨wo.heap.size, 1, none⟩ = some (.string Y) ∧ W'.cell? ⟨b, 0, none⟩ = some (.string PJ) ∧ W'.cell? ⟨b, 1, none⟩ = some (.string PQ)) W) := fun W h => by
              have h4 := HB5.out.trans (h.mono HB5.out.size)
              have h1 := HUp.out W h
              exact ⟨(HX.out.bel h1).cell 0, (HX.out.bel h1).cell 1, (HX5.out.bel h).cell 0, (HX5.out.bel h).cell 1, by rw [hPJ]; exact (HP4.out.bel h4).cell 0, by rw [hPQ]; exact (HP4.out.bel h4).cell 1⟩
            have HBc := Lib.hid hq.out.drew
            have HS0 := Lib.hid (HKK.out _ HBc.out)
            have gb := b
            have w1e : IntKind.i64.wrap 1 = 1 := by rfl
            have w0e : IntKind.i64.wrap 0 = 0 := by rfl
            clear hPJ hPQ hq hj
            by_cases hz : e1 = 0
            · subst hz
              have t1 : (e2 == 0) = false := by have := he rfl; simpa using this
              clear he
              go_wp2_with fail
              refine wp_region_held_drew (S := (fun W' : World => W'.cell? ⟨w.heap.size, 0, none⟩ = some (.int .i64 (m : Int)) ∧ W'.cell? ⟨w.heap.size, 1, none⟩ = some (.slice A es.length c) ∧ W'.cell? ⟨wo.heap.size, 0, none⟩ = some (.string X) ∧ W'.cell? ⟨wo.heap.size, 1, none⟩ = some (.string Y) ∧ W'.cell? ⟨b, 0, none⟩ = some (.string PJ) ∧ W'.cell? ⟨b, 1, none⟩ = some (.string PQ))) (by kernel_rfl) HS0.out (fun hHeld => ?_)
              refine tkY (v := ?_) 0 (some 71) rfl (.inl ⟨by rfl, ?_⟩) ?_
              rotate_left
              · (intro w hSw; (try dsimp only at hSw); go_simp; try with_reducible rfl)
              try simp only [Act.put, tk1, tk2, tk3]
              refine tkY (v := ?_) 1 (some 72) rfl (.inl ⟨by rfl, ?_⟩) ?_
              rotate_left
              · (intro w hSw; (try dsimp only at hSw); go_simp; try with_reducible rfl)
              try simp only [Act.put, tk1, tk2, tk3]
              refine tkY (v := ?_) 2 (some 73) rfl (.inl ⟨by rfl, ?_⟩) ?_
              rotate_left
              · (intro w hSw; (try dsimp only at hSw); go_simp; try with_reducible rfl)
              try simp only [Act.put, tk1, tk2, tk3]
              refine tkY (v := ?_) 3 (some 74) rfl (.inl ⟨by rfl, ?_⟩) ?_
              rotate_left
              · (intro w hSw; (try dsimp only at hSw); go_simp; try with_reducible rfl)
              try simp only [Act.put, tk1, tk2, tk3]
              refine tkY (v := ?_) 4 (some 75) rfl (.inl ⟨by rfl, ?_⟩) ?_
              rotate_left
              · (intro w hSw; (try dsimp only at hSw); go_simp; try with_reducible rfl)
              try simp only [Act.put, tk1, tk2, tk3]
              refine tkY (v := ?_) 5 (some 76) rfl (.inl ⟨by rfl, ?_⟩) ?_
              rotate_left
              · (intro w hSw; (try dsimp only at hSw); go_simp; try with_reducible rfl)
              try simp only [Act.put, tk1, tk2, tk3]
              refine tkY (v := ?_) 6 (some 77) rfl (.inl ⟨by rfl, ?_⟩) ?_
              rotate_left
              · (intro w hSw; (try dsimp only at hSw); go_simp; try with_reducible rfl)
              try simp only [Act.put, tk1, tk2, tk3]
              refine tkY (v := ?_) 7 (some 78) rfl (.inl ⟨by rfl, ?_⟩) ?_
              rotate_left
              · (intro w hSw; (try dsimp only at hSw); go_simp; try with_reducible rfl)
              try simp only [Act.put, tk1, tk2, tk3]
              refine wpAnyH_ready (rs := [8]) (by kernel_rfl) (by simp) ?_
              refine AllReadyH.cons (o := { dst := some 79, op := _, type := _, pos := _, after := _, guard := _ }) rfl (fun K hK => ?_) AllReadyH.nil
              go_simp
              (with_reducible refine (HC1.out _ (HUp.out _ HBc.out)).mono ?_)
              rintro e q1 ⟨rfl, hq⟩
              have HBn := Lib.hid (HBc.out.trans (hq.mono HBc.out.size))
              clear HBc hq
              have HBc := HBn
              clear HBn hHeld
              refine hK.out _ _ (HKK.out _ HBc.out) (fun hHeld => ?_)
              clear hK K
              try simp only [Act.put, tk1, tk2, tk3]
              refine tkY (v := ?_) 9 (some 80) rfl (.inl ⟨by rfl, ?_⟩) ?_
              rotate_left
              · (intro w hSw; (try dsimp only at hSw); go_simp; try with_reducible rfl)
              try simp only [Act.put, tk1, tk2, tk3]
              refine tkY (v := ?_) 10 (some 81) rfl (.inl ⟨by rfl, ?_⟩) ?_
              rotate_left
              · (intro w hSw; (try dsimp only at hSw); go_simp; try with_reducible rfl)
              try simp only [Act.put, tk1, tk2, tk3]
              refine tkY (v := ?_) 11 (some 82) rfl (.inl ⟨by rfl, ?_⟩) ?_
              rotate_left
              · (intro w hSw; (try dsimp only at hSw); go_simp; try with_reducible rfl)
              try simp only [Act.put, tk1, tk2, tk3]
              refine tkY (v := ?_) 12 (some 83) rfl (.inl ⟨by rfl, ?_⟩) ?_
              rotate_left
              · (intro w hSw; (try dsimp only at hSw); go_simp; try with_reducible rfl)
              try simp only [Act.put, tk1, tk2, tk3]
              refine tkY (v := ?_) 13 (some 84) rfl (.inl ⟨by rfl, ?_⟩) ?_
              rotate_left
              · (intro w hSw; (try dsimp only at hSw); go_simp; try with_reducible rfl)
              try simp only [Act.put, tk1, tk2, tk3]
              refine tkY (v := ?_) 14 (some 85) rfl (.inl ⟨by rfl, ?_⟩) ?_
              rotate_left
              · (intro w hSw; (try dsimp only at hSw); go_simp; try with_reducible rfl)
              try simp only [Act.put, tk1, tk2, tk3]
              refine tkY (v := ?_) 15 (some 86) rfl (.inl ⟨by rfl, ?_⟩) ?_
              rotate_left
              · (intro w hSw; (try dsimp only at hSw); go_simp; try with_reducible rfl)
              try simp only [Act.put, tk1, tk2, tk3]
              refine tkY (v := ?_) 16 (some 87) rfl (.inl ⟨by rfl, ?_⟩) ?_
              rotate_left
              · (intro w hSw; (try dsimp only at hSw); go_simp; try with_reducible rfl)
              try simp only [Act.put, tk1, tk2, tk3]
              refine tkY (v := ?_) 17 (some 88) rfl (.inl ⟨by rfl, ?_⟩) ?_
              rotate_left
              · (intro w hSw; (try dsimp only at hSw); go_simp; try with_reducible rfl)
              try simp only [Act.put, tk1, tk2, tk3]
              refine tkY (v := ?_) 18 (some 89) rfl (.inl ⟨by rfl, ?_⟩) ?_
              rotate_left
              · (intro w hSw; (try dsimp only at hSw); go_simp; try with_reducible rfl)
              try simp only [Act.put, tk1, tk2, tk3]
              refine tkY (v := ?_) 19 (some 90) rfl (.inl ⟨by rfl, ?_⟩) ?_
              rotate_left
              · (intro w hSw; (try dsimp only at hSw); go_simp; try with_reducible rfl)
              try simp only [Act.put, tk1, tk2, tk3]
              refine wpAnyH_ready (rs := [20]) (by kernel_rfl) (by simp) ?_
              refine AllReadyH.cons (o := { dst := some 91, op := _, type := _, pos := _, after := _, guard := _ }) rfl (fun K hK => ?_) AllReadyH.nil
              go_simp
              (with_reducible refine (HC2.out _ (HUp.out _ HBc.out)).mono ?_)
              rintro e q2 ⟨rfl, hq⟩
              have HBn := Lib.hid (HBc.out.trans (hq.mono HBc.out.size))
              clear HBc hq
              have HBc := HBn
              clear HBn hHeld
              refine hK.out _ _ (HKK.out _ HBc.out) (fun hHeld => ?_)
              clear hK K
              try simp only [Act.put, tk1, tk2, tk3]
              refine tkY (v := ?_) 21 (some 92) rfl (.inl ⟨by rfl, ?_⟩) ?_
              rotate_left
              · (intro w hSw; (try dsimp only at hSw); go_simp; try with_reducible rfl)
              try simp only [Act.put, tk1, tk2, tk3]
              refine tkY (v := ?_) 22 (some 93) rfl (.inl ⟨by rfl, ?_⟩) ?_
              rotate_left
              · (intro w hSw; (try dsimp only at hSw); go_simp; try with_reducible rfl)
              try simp only [Act.put, tk1, tk2, tk3]
              refine wpAnyH_done (by kernel_rfl) ?_ _
              go_wp2
              go_roundw
              case rel => exact ⟨1, by omega, by first | rfl | go_num | (simp; done), HBc.out⟩
              case measure => first | (simp [intOf]; done) | (simp [intOf]; omega)
            · skip
              have t1 : (e1 == 0) = false := by simpa using hz
              clear he hz
              go_wp2_with fail
              refine wp_region_held_drew (S := (fun W' : World => W'.cell? ⟨w.heap.size, 0, none⟩ = some (.int .i64 (m : Int)) ∧ W'.cell? ⟨w.heap.size, 1, none⟩ = some (.slice A es.length c) ∧ W'.cell? ⟨wo.heap.size, 0, none⟩ = some (.string X) ∧ W'.cell? ⟨wo.heap.size, 1, none⟩ = some (.string Y) ∧ W'.cell? ⟨b, 0, none⟩ = some (.string PJ) ∧ W'.cell? ⟨b, 1, none⟩ = some (.string PQ))) (by kernel_rfl) HS0.out (fun hHeld => ?_)
              refine tkY (v := ?_) 0 (some 71) rfl (.inl ⟨by rfl, ?_⟩) ?_
              rotate_left
              · (intro w hSw; (try dsimp only at hSw); go_simp; try with_reducible rfl)
              try simp only [Act.put, tk1, tk2, tk3]
              refine tkY (v := ?_) 1 (some 72) rfl (.inl ⟨by rfl, ?_⟩) ?_
              rotate_left
              · (intro w hSw; (try dsimp only at hSw); go_simp; try with_reducible rfl)
              try simp only [Act.put, tk1, tk2, tk3]
              refine tkY (v := ?_) 2 (some 73) rfl (.inl ⟨by rfl, ?_⟩) ?_
              rotate_left
              · (intro w hSw; (try dsimp only at hSw); go_simp; try with_reducible rfl)
              try simp only [Act.put, tk1, tk2, tk3]
              refine tkY (v := ?_) 3 (some 74) rfl (.inl ⟨by rfl, ?_⟩) ?_
              rotate_left
              · (intro w hSw; (try dsimp only at hSw); go_simp; try with_reducible rfl)
              try simp only [Act.put, tk1, tk2, tk3]
              refine tkY (v := ?_) 4 (some 75) rfl (.inl ⟨by rfl, ?_⟩) ?_
              rotate_left
              · (intro w hSw; (try dsimp only at hSw); go_simp; try with_reducible rfl)
              try simp only [Act.put, tk1, tk2, tk3]
              refine tkY (v := ?_) 5 (some 76) rfl (.inl ⟨by rfl, ?_⟩) ?_
              rotate_left
              · (intro w hSw; (try dsimp only at hSw); go_simp; try with_reducible rfl)
              try simp only [Act.put, tk1, tk2, tk3]
              refine tkY (v := ?_) 6 (some 77) rfl (.inl ⟨by rfl, ?_⟩) ?_
              rotate_left
              · (intro w hSw; (try dsimp only at hSw); go_simp; try with_reducible rfl)
              try simp only [Act.put, tk1, tk2, tk3]
              refine tkY (v := ?_) 7 (some 78) rfl (.inl ⟨by rfl, ?_⟩) ?_
              rotate_left
              · (intro w hSw; (try dsimp only at hSw); go_simp; try with_reducible rfl)
              try simp only [Act.put, tk1, tk2, tk3]
              refine wpAnyH_ready (rs := [8]) (by kernel_rfl) (by simp) ?_
              refine AllReadyH.cons (o := { dst := some 79, op := _, type := _, pos := _, after := _, guard := _ }) rfl (fun K hK => ?_) AllReadyH.nil
              go_simp
              (with_reducible refine (HC1.out _ (HUp.out _ HBc.out)).mono ?_)
              rintro e q1 ⟨rfl, hq⟩
              have HBn := Lib.hid (HBc.out.trans (hq.mono HBc.out.size))
              clear HBc hq
              have HBc := HBn
              clear HBn hHeld
              refine hK.out _ _ (HKK.out _ HBc.out) (fun hHeld => ?_)
              clear hK K
              try simp only [Act.put, tk1, tk2, tk3]
              refine tkY (v := ?_) 9 (some 80) rfl (.inl ⟨by rfl, ?_⟩) ?_
              rotate_left
              · (intro w hSw; (try dsimp only at hSw); go_simp; try with_reducible rfl)
              try simp only [Act.put, tk1, tk2, tk3]
              refine tkY (v := ?_) 10 (some 81) rfl (.inl ⟨by rfl, ?_⟩) ?_
              rotate_left
              · (intro w hSw; (try dsimp only at hSw); go_simp; try with_reducible rfl)
              try simp only [Act.put, tk1, tk2, tk3]
              refine tkY (v := undef) 11 (some 82) rfl (.inr ⟨by rfl, rfl⟩) ?_
              try simp only [Act.put, tk1, tk2, tk3]
              refine tkY (v := undef) 12 (some 83) rfl (.inr ⟨by rfl, rfl⟩) ?_
              try simp only [Act.put, tk1, tk2, tk3]
              refine tkY (v := undef) 13 (some 84) rfl (.inr ⟨by rfl, rfl⟩) ?_
              try simp only [Act.put, tk1, tk2, tk3]
              refine tkY (v := undef) 14 (some 85) rfl (.inr ⟨by rfl, rfl⟩) ?_
              try simp only [Act.put, tk1, tk2, tk3]
              refine tkY (v := undef) 15 (some 86) rfl (.inr ⟨by rfl, rfl⟩) ?_
              try simp only [Act.put, tk1, tk2, tk3]
              refine tkY (v := undef) 16 (some 87) rfl (.inr ⟨by rfl, rfl⟩) ?_
              try simp only [Act.put, tk1, tk2, tk3]
              refine tkY (v := undef) 17 (some 88) rfl (.inr ⟨by rfl, rfl⟩) ?_
              try simp only [Act.put, tk1, tk2, tk3]
              refine tkY (v := undef) 18 (some 89) rfl (.inr ⟨by rfl, rfl⟩) ?_
              try simp only [Act.put, tk1, tk2, tk3]
              refine tkY (v := undef) 19 (some 90) rfl (.inr ⟨by rfl, rfl⟩) ?_
              try simp only [Act.put, tk1, tk2, tk3]
              refine tkY (v := undef) 20 (some 91) rfl (.inr ⟨by rfl, rfl⟩) ?_
              try simp only [Act.put, tk1, tk2, tk3]
              refine tkY (v := undef) 21 (some 92) rfl (.inr ⟨by rfl, rfl⟩) ?_
              try simp only [Act.put, tk1, tk2, tk3]
              refine tkY (v := ?_) 22 (some 93) rfl (.inl ⟨by rfl, ?_⟩) ?_
              rotate_left
              · (intro w hSw; (try dsimp only at hSw); go_simp; try with_reducible rfl)
              try simp only [Act.put, tk1, tk2, tk3]
              refine wpAnyH_done (by kernel_rfl) ?_ _
              go_wp2
              go_roundw
              case rel => exact ⟨1, by omega, by first | rfl | go_num | (simp; done), HBc.out⟩
              case measure => first | (simp [intOf]; done) | (simp [intOf]; omega)
          by_cases hj1 : j = 1
          · subst hj1
            obtain ⟨PJ, hPJ⟩ : ∃ P, P = ByteArray.mk (blkL wb).toArray := ⟨_, rfl⟩
            obtain ⟨PQ, hPQ⟩ : ∃ P, P = ByteArray.mk (blkL wa).toArray := ⟨_, rfl⟩
            obtain ⟨S1, S2, e1, e2, r1, r2, he, HC1, HC2⟩ := HJJ.out wb wa HLb.out HLa.out HN2.out
            rw [← hPJ] at r1
            rw [← hPQ] at r2
            have HKK : Hid (∀ W : World, Below W5.heap.size W5 W → (fun W' : World => W'.cell? ⟨w.heap.size, 0, none⟩ = some (.int .i64 (m : Int)) ∧ W'.cell? ⟨w.heap.size, 1, none⟩ = some (.slice A es.length c) ∧ W'.cell? ⟨wo.heap.size, 0, none⟩ = some (.string X) ∧ W'.cell? ⟨wo.heap.size, 1, none⟩ = some (.string Y) ∧ W'.cell? ⟨b, 1, none⟩ = some (.string PJ) ∧ W'.cell? ⟨b, 0, none⟩ = some (.string PQ)) W) := fun W h => by
              have h4 := HB5.out.trans (h.mono HB5.out.size)
              have h1 := HUp.out W h
              exact ⟨(HX.out.bel h1).cell 0, (HX.out.bel h1).cell 1, (HX5.out.bel h).cell 0, (HX5.out.bel h).cell 1, by rw [hPJ]; exact (HP4.out.bel h4).cell 1, by rw [hPQ]; exact (HP4.out.bel h4).cell 0⟩
            have HBc := Lib.hid hq.out.drew
            have HS0 := Lib.hid (HKK.out _ HBc.out)
            have gb := b
            have w1e : IntKind.i64.wrap 1 = 1 := by rfl
            have w0e : IntKind.i64.wrap 0 = 0 := by rfl
            clear hPJ hPQ hq hj
            by_cases hz : e1 = 0
            · subst hz
              have t1 : (e2 == 0) = false := by have := he rfl; simpa using this
              clear he
              go_wp2_with fail
              refine wp_region_held_drew (S := (fun W' : World => W'.cell? ⟨w.heap.size, 0, none⟩ = some (.int .i64 (m : Int)) ∧ W'.cell? ⟨w.heap.size, 1, none⟩ = some (.slice A es.length c) ∧ W'.cell? ⟨wo.heap.size, 0, none⟩ = some (.string X) ∧ W'.cell? ⟨wo.heap.size, 1, none⟩ = some (.string Y) ∧ W'.cell? ⟨b, 1, none⟩ = some (.string PJ) ∧ W'.cell? ⟨b, 0, none⟩ = some (.string PQ))) (by kernel_rfl) HS0.out (fun hHeld => ?_)
              refine tkY (v := ?_) 0 (some 71) rfl (.inl ⟨by rfl, ?_⟩) ?_
              rotate_left
              · (intro w hSw; (try dsimp only at hSw); go_simp; try with_reducible rfl)
              try simp only [Act.put, tk1, tk2, tk3]
              refine tkY (v := ?_) 1 (some 72) rfl (.inl ⟨by rfl, ?_⟩) ?_
              rotate_left
              · (intro w hSw; (try dsimp only at hSw); go_simp; try with_reducible rfl)
              try simp only [Act.put, tk1, tk2, tk3]
              refine tkY (v := ?_) 2 (some 73) rfl (.inl ⟨by rfl, ?_⟩) ?_
              rotate_left
              · (intro w hSw; (try dsimp only at hSw); go_simp; try with_reducible rfl)
              try simp only [Act.put, tk1, tk2, tk3]
              refine tkY (v := ?_) 3 (some 74) rfl (.inl ⟨by rfl, ?_⟩) ?_
              rotate_left
              · (intro w hSw; (try dsimp only at hSw); go_simp; try with_reducible rfl)
              try simp only [Act.put, tk1, tk2, tk3]
              refine tkY (v := ?_) 4 (some 75) rfl (.inl ⟨by rfl, ?_⟩) ?_
              rotate_left
              · (intro w hSw; (try dsimp only at hSw); go_simp; try with_reducible rfl)
              try simp only [Act.put, tk1, tk2, tk3]
              refine tkY (v := ?_) 5 (some 76) rfl (.inl ⟨by rfl, ?_⟩) ?_
              rotate_left
              · (intro w hSw; (try dsimp only at hSw); go_simp; try with_reducible rfl)
              try simp only [Act.put, tk1, tk2, tk3]
              refine tkY (v := ?_) 6 (some 77) rfl (.inl ⟨by rfl, ?_⟩) ?_
              rotate_left
              · (intro w hSw; (try dsimp only at hSw); go_simp; try with_reducible rfl)
              try simp only [Act.put, tk1, tk2, tk3]
              refine tkY (v := ?_) 7 (some 78) rfl (.inl ⟨by rfl, ?_⟩) ?_
              rotate_left
              · (intro w hSw; (try dsimp only at hSw); go_simp; try with_reducible rfl)
              try simp only [Act.put, tk1, tk2, tk3]
              refine wpAnyH_ready (rs := [8]) (by kernel_rfl) (by simp) ?_
              refine AllReadyH.cons (o := { dst := some 79, op := _, type := _, pos := _, after := _, guard := _ }) rfl (fun K hK => ?_) AllReadyH.nil
              go_simp
              (with_reducible refine (HC1.out _ (HUp.out _ HBc.out)).mono ?_)
              rintro e q1 ⟨rfl, hq⟩
              have HBn := Lib.hid (HBc.out.trans (hq.mono HBc.out.size))
              clear HBc hq
              have HBc := HBn
              clear HBn hHeld
              refine hK.out _ _ (HKK.out _ HBc.out) (fun hHeld => ?_)
              clear hK K
              try simp only [Act.put, tk1, tk2, tk3]
              refine tkY (v := ?_) 9 (some 80) rfl (.inl ⟨by rfl, ?_⟩) ?_
              rotate_left
              · (intro w hSw; (try dsimp only at hSw); go_simp; try with_reducible rfl)
              try simp only [Act.put, tk1, tk2, tk3]
              refine tkY (v := ?_) 10 (some 81) rfl (.inl ⟨by rfl, ?_⟩) ?_
              rotate_left
              · (intro w hSw; (try dsimp only at hSw); go_simp; try with_reducible rfl)
              try simp only [Act.put, tk1, tk2, tk3]
              refine tkY (v := ?_) 11 (some 82) rfl (.inl ⟨by rfl, ?_⟩) ?_
              rotate_left
              · (intro w hSw; (try dsimp only at hSw); go_simp; try with_reducible rfl)
              try simp only [Act.put, tk1, tk2, tk3]
              refine tkY (v := ?_) 12 (some 83) rfl (.inl ⟨by rfl, ?_⟩) ?_
              rotate_left
              · (intro w hSw; (try dsimp only at hSw); go_simp; try with_reducible rfl)
              try simp only [Act.put, tk1, tk2, tk3]
              refine tkY (v := ?_) 13 (some 84) rfl (.inl ⟨by rfl, ?_⟩) ?_
              rotate_left
              · (intro w hSw; (try dsimp only at hSw); go_simp; try with_reducible rfl)
              try simp only [Act.put, tk1, tk2, tk3]
              refine tkY (v := ?_) 14 (some 85) rfl (.inl ⟨by rfl, ?_⟩) ?_
              rotate_left
              · (intro w hSw; (try dsimp only at hSw); go_simp; try with_reducible rfl)
              try simp only [Act.put, tk1, tk2, tk3]
              refine tkY (v := ?_) 15 (some 86) rfl (.inl ⟨by rfl, ?_⟩) ?_
              rotate_left
              · (intro w hSw; (try dsimp only at hSw); go_simp; try with_reducible rfl)
              try simp only [Act.put, tk1, tk2, tk3]
              refine tkY (v := ?_) 16 (some 87) rfl (.inl ⟨by rfl, ?_⟩) ?_
              rotate_left
              · (intro w hSw; (try dsimp only at hSw); go_simp; try with_reducible rfl)
              try simp only [Act.put, tk1, tk2, tk3]
              refine tkY (v := ?_) 17 (some 88) rfl (.inl ⟨by rfl, ?_⟩) ?_
              rotate_left
              · (intro w hSw; (try dsimp only at hSw); go_simp; try with_reducible rfl)
              try simp only [Act.put, tk1, tk2, tk3]
              refine tkY (v := ?_) 18 (some 89) rfl (.inl ⟨by rfl, ?_⟩) ?_
              rotate_left
              · (intro w hSw; (try dsimp only at hSw); go_simp; try with_reducible rfl)
              try simp only [Act.put, tk1, tk2, tk3]
              refine tkY (v := ?_) 19 (some 90) rfl (.inl ⟨by rfl, ?_⟩) ?_
              rotate_left
              · (intro w hSw; (try dsimp only at hSw); go_simp; try with_reducible rfl)
              try simp only [Act.put, tk1, tk2, tk3]
              refine wpAnyH_ready (rs := [20]) (by kernel_rfl) (by simp) ?_
              refine AllReadyH.cons (o := { dst := some 91, op := _, type := _, pos := _, after := _, guard := _ }) rfl (fun K hK => ?_) AllReadyH.nil
              go_simp
              (with_reducible refine (HC2.out _ (HUp.out _ HBc.out)).mono ?_)
              rintro e q2 ⟨rfl, hq⟩
              have HBn := Lib.hid (HBc.out.trans (hq.mono HBc.out.size))
              clear HBc hq
              have HBc := HBn
              clear HBn hHeld
              refine hK.out _ _ (HKK.out _ HBc.out) (fun hHeld => ?_)
              clear hK K
              try simp only [Act.put, tk1, tk2, tk3]
              refine tkY (v := ?_) 21 (some 92) rfl (.inl ⟨by rfl, ?_⟩) ?_
              rotate_left
              · (intro w hSw; (try dsimp only at hSw); go_simp; try with_reducible rfl)
              try simp only [Act.put, tk1, tk2, tk3]
              refine tkY (v := ?_) 22 (some 93) rfl (.inl ⟨by rfl, ?_⟩) ?_
              rotate_left
              · (intro w hSw; (try dsimp only at hSw); go_simp; try with_reducible rfl)
              try simp only [Act.put, tk1, tk2, tk3]
              refine wpAnyH_done (by kernel_rfl) ?_ _
              go_wp2
              go_roundw
              case rel => exact ⟨2, by omega, by first | rfl | go_num | (simp; done), HBc.out⟩
              case measure => first | (simp [intOf]; done) | (simp [intOf]; omega)
            · skip
              have t1 : (e1 == 0) = false := by simpa using hz
              clear he hz
              go_wp2_with fail
              refine wp_region_held_drew (S := (fun W' : World => W'.cell? ⟨w.heap.size, 0, none⟩ = some (.int .i64 (m : Int)) ∧ W'.cell? ⟨w.heap.size, 1, none⟩ = some (.slice A es.length c) ∧ W'.cell? ⟨wo.heap.size, 0, none⟩ = some (.string X) ∧ W'.cell? ⟨wo.heap.size, 1, none⟩ = some (.string Y) ∧ W'.cell? ⟨b, 1, none⟩ = some (.string PJ) ∧ W'.cell? ⟨b, 0, none⟩ = some (.string PQ))) (by kernel_rfl) HS0.out (fun hHeld => ?_)
              refine tkY (v := ?_) 0 (some 71) rfl (.inl ⟨by rfl, ?_⟩) ?_
              rotate_left
              · (intro w hSw; (try dsimp only at hSw); go_simp; try with_reducible rfl)
              try simp only [Act.put, tk1, tk2, tk3]
              refine tkY (v := ?_) 1 (some 72) rfl (.inl ⟨by rfl, ?_⟩) ?_
              rotate_left
              · (intro w hSw; (try dsimp only at hSw); go_simp; try with_reducible rfl)
              try simp only [Act.put, tk1, tk2, tk3]
              refine tkY (v := ?_) 2 (some 73) rfl (.inl ⟨by rfl, ?_⟩) ?_
              rotate_left
              · (intro w hSw; (try dsimp only at hSw); go_simp; try with_reducible rfl)
              try simp only [Act.put, tk1, tk2, tk3]
              refine tkY (v := ?_) 3 (some 74) rfl (.inl ⟨by rfl, ?_⟩) ?_
              rotate_left
              · (intro w hSw; (try dsimp only at hSw); go_simp; try with_reducible rfl)
              try simp only [Act.put, tk1, tk2, tk3]
              refine tkY (v := ?_) 4 (some 75) rfl (.inl ⟨by rfl, ?_⟩) ?_
              rotate_left
              · (intro w hSw; (try dsimp only at hSw); go_simp; try with_reducible rfl)
              try simp only [Act.put, tk1, tk2, tk3]
              refine tkY (v := ?_) 5 (some 76) rfl (.inl ⟨by rfl, ?_⟩) ?_
              rotate_left
              · (intro w hSw; (try dsimp only at hSw); go_simp; try with_reducible rfl)
              try simp only [Act.put, tk1, tk2, tk3]
              refine tkY (v := ?_) 6 (some 77) rfl (.inl ⟨by rfl, ?_⟩) ?_
              rotate_left
              · (intro w hSw; (try dsimp only at hSw); go_simp; try with_reducible rfl)
              try simp only [Act.put, tk1, tk2, tk3]
              refine tkY (v := ?_) 7 (some 78) rfl (.inl ⟨by rfl, ?_⟩) ?_
              rotate_left
              · (intro w hSw; (try dsimp only at hSw); go_simp; try with_reducible rfl)
              try simp only [Act.put, tk1, tk2, tk3]
              refine wpAnyH_ready (rs := [8]) (by kernel_rfl) (by simp) ?_
              refine AllReadyH.cons (o := { dst := some 79, op := _, type := _, pos := _, after := _, guard := _ }) rfl (fun K hK => ?_) AllReadyH.nil
              go_simp
              (with_reducible refine (HC1.out _ (HUp.out _ HBc.out)).mono ?_)
              rintro e q1 ⟨rfl, hq⟩
              have HBn := Lib.hid (HBc.out.trans (hq.mono HBc.out.size))
              clear HBc hq
              have HBc := HBn
              clear HBn hHeld
              refine hK.out _ _ (HKK.out _ HBc.out) (fun hHeld => ?_)
              clear hK K
              try simp only [Act.put, tk1, tk2, tk3]
              refine tkY (v := ?_) 9 (some 80) rfl (.inl ⟨by rfl, ?_⟩) ?_
              rotate_left
              · (intro w hSw; (try dsimp only at hSw); go_simp; try with_reducible rfl)
              try simp only [Act.put, tk1, tk2, tk3]
              refine tkY (v := ?_) 10 (some 81) rfl (.inl ⟨by rfl, ?_⟩) ?_
              rotate_left
              · (intro w hSw; (try dsimp only at hSw); go_simp; try with_reducible rfl)
              try simp only [Act.put, tk1, tk2, tk3]
              refine tkY (v := undef) 11 (some 82) rfl (.inr ⟨by rfl, rfl⟩) ?_
              try simp only [Act.put, tk1, tk2, tk3]
              refine tkY (v := undef) 12 (some 83) rfl (.inr ⟨by rfl, rfl⟩) ?_
              try simp only [Act.put, tk1, tk2, tk3]
              refine tkY (v := undef) 13 (some 84) rfl (.inr ⟨by rfl, rfl⟩) ?_
              try simp only [Act.put, tk1, tk2, tk3]
              refine tkY (v := undef) 14 (some 85) rfl (.inr ⟨by rfl, rfl⟩) ?_
              try simp only [Act.put, tk1, tk2, tk3]
              refine tkY (v := undef) 15 (some 86) rfl (.inr ⟨by rfl, rfl⟩) ?_
              try simp only [Act.put, tk1, tk2, tk3]
              refine tkY (v := undef) 16 (some 87) rfl (.inr ⟨by rfl, rfl⟩) ?_
              try simp only [Act.put, tk1, tk2, tk3]
              refine tkY (v := undef) 17 (some 88) rfl (.inr ⟨by rfl, rfl⟩) ?_
              try simp only [Act.put, tk1, tk2, tk3]
              refine tkY (v := undef) 18 (some 89) rfl (.inr ⟨by rfl, rfl⟩) ?_
              try simp only [Act.put, tk1, tk2, tk3]
              refine tkY (v := undef) 19 (some 90) rfl (.inr ⟨by rfl, rfl⟩) ?_
              try simp only [Act.put, tk1, tk2, tk3]
              refine tkY (v := undef) 20 (some 91) rfl (.inr ⟨by rfl, rfl⟩) ?_
              try simp only [Act.put, tk1, tk2, tk3]
              refine tkY (v := undef) 21 (some 92) rfl (.inr ⟨by rfl, rfl⟩) ?_
              try simp only [Act.put, tk1, tk2, tk3]
              refine tkY (v := ?_) 22 (some 93) rfl (.inl ⟨by rfl, ?_⟩) ?_
              rotate_left
              · (intro w hSw; (try dsimp only at hSw); go_simp; try with_reducible rfl)
              try simp only [Act.put, tk1, tk2, tk3]
              refine wpAnyH_done (by kernel_rfl) ?_ _
              go_wp2
              go_roundw
              case rel => exact ⟨2, by omega, by first | rfl | go_num | (simp; done), HBc.out⟩
              case measure => first | (simp [intOf]; done) | (simp [intOf]; omega)
          obtain rfl : j = 2 := by omega
          have HBq := Lib.hid (HB5.out.trans (hq.out.mono HB5.out.size))
          clear hj hj0 hj1 hq
          go_wp2
          go_roundw
          case rel => exact ⟨k + 1, by omega, by go_num, HBq.out⟩
          case measure => simp [intOf]; omega
      · obtain rfl : k = 3 := by omega
        have HBe := Lib.hid (HB4.out.trans (hw.out.mono HB4.out.size))
        clear hk hlt hw
        go_wp2_with fail
        refine (HAw.out _ HBe.out).mono ?_
        rintro e w9 ⟨rfl, hb9⟩
        have HB9 := Lib.hid (HBw.out.trans ((HBe.out.trans (hb9.mono HBe.out.size)).mono HBw.out.size))
        clear hb9
        go_wp2
        go_ret
        exact ⟨rfl, HB9.out⟩
end Go.Proofs.YtgcnijmmjlfabaaGreatDoor

