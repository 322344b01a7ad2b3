/- Contracts of the reference's factors and form, for any claim. (printed by gen/rform57.py) -/
import Derived.Test.YteamhbohgoclgaaGreatDoorP24
set_option maxRecDepth 100000
set_option maxHeartbeats 16000000
namespace Go.Proofs.YteamhbohgoclgaaGreatDoor
open Go.RowKit Go.Shelf
theorem rFacG_any (v : Value) (n : Nat) (fs : List Int) (w : World) (hv : RI w v fs) (hn : n ≤ 12) :
    Calls Tryz.prog 70 #[.int .i64 (n : Int), v] w fun e w' => e = .returned (.int .i64 (facNG n fs)) ∧ Below w.heap.size w w' := by
  obtain ⟨A, c, rfl, -, hl, hcell⟩ := hv.open_
  have HC := Hd hcell
  clear hv hcell
  by_cases h5 : (fs.length : Int) > n - 1
  · have hR : Hid (facNG n fs = 5) := by show _ = _; unfold facNG; rw [if_pos h5]
    have h5' : (n : Int) - 1 < (fs.length : Int) := h5
    clear h5
    go_enter Tryz.func70, Tryz.ntmps70
    go_wp2
    go_ret
    exact ⟨ret_i hR.out.symm, Below.refl _ _⟩
  have hR : Hid (facNG n fs = facG 0 fs) := by show _ = _; unfold facNG; rw [if_neg h5]
  have h5' : ¬ (n : Int) - 1 < (fs.length : Int) := h5
  have h12 : fs.length ≤ 12 := by omega
  generalize facNG n fs = E at *
  clear h5
  go_enter Tryz.func70, Tryz.ntmps70
  go_wp2_with fail
  go_loopw [5] (fun i wr => ∃ k : Nat, k ≤ fs.length ∧ i = .int .i64 (k : Int) ∧ Hid (facG 0 fs = facG (lastF fs k) (fs.drop k)) ∧ Hid (1 ≤ k → 2 ≤ lastF fs k) ∧ Hid (Below w.heap.size w wr)) (fun i _ => fs.length - (intOf i).toNat)
  case atStart => exact ⟨0, Nat.zero_le _, rfl, rfl, fun h => absurd h (by decide), Below.refl _ _⟩
  case round =>
    obtain ⟨k, hk, rfl, he, hp, hw⟩ := hrel
    by_cases hlt : k < fs.length
    · obtain ⟨ad, f, rfl, hab, hx, hcl⟩ := HC.out k hlt
      have hcw := (hw.out.cell (p := ad.add k) (by rw [block_of_add]; exact hab)).trans hcl
      have hdr : fs.drop k = f :: fs.drop (k + 1) := drop_at hx
      have hst : facG (lastF fs k) (f :: fs.drop (k + 1)) = if f < 2 ∨ 1048576 < f then 2 else if lastF fs k ≠ 0 ∧ f % lastF fs k ≠ 0 then 9 else facG f (fs.drop (k + 1)) := rfl
      have HE : Hid (E = if f < 2 ∨ 1048576 < f then 2 else if lastF fs k ≠ 0 ∧ f % lastF fs k ≠ 0 then 9 else facG f (fs.drop (k + 1))) := by show _ = _; rw [hR.out, he.out, hdr, hst]
      have HE0 : Hid (facG 0 fs = if f < 2 ∨ 1048576 < f then 2 else if lastF fs k ≠ 0 ∧ f % lastF fs k ≠ 0 then 9 else facG f (fs.drop (k + 1))) := by show _ = _; rw [he.out, hdr, hst]
      have HLa : Hid (lastF fs (k + 1) = f) := by show fs.getD k 0 = f; exact getD_of hx.out
      clear hcl hdr hst he
      by_cases h2 : f < 2
      · have hE : Hid (E = 2) := by show _ = _; rw [HE.out, if_pos (.inl h2)]
        clear HE HE0 hx hp
        go_wp2
        go_ret
        exact ⟨ret_i hE.out.symm, hw.out⟩
      · by_cases hf2 : (1048576 : Int) < f
        · have hE : Hid (E = 2) := by show _ = _; rw [HE.out, if_pos (.inr hf2)]
          clear HE HE0 hx hp
          go_wp2
          go_ret
          exact ⟨ret_i hE.out.symm, hw.out⟩
        have hno : ¬ (f < 2 ∨ 1048576 < f) := by omega
        cases k with
        | zero =>
          have HN : Hid (facG 0 fs = facG f (fs.drop 1)) := by show _ = _; rw [HE0.out, if_neg hno, if_neg (by show ¬ ((0 : Int) ≠ 0 ∧ _); simp)]
          have HF2 : Hid (2 ≤ f) := by show _ ≤ _; omega
          rw [add_zero'] at hcw
          clear HE HE0 hx hno hp
          go_wp2_with fail
          go_quiet (fail)
          have HBq := Hd (below_drewN hw.out nq)
          go_wp2
          go_roundw
          case rel => exact ⟨1, by omega, by go_num, by rw [HLa.out]; exact HN.out, fun _ => by rw [HLa.out]; exact HF2.out, HBq.out⟩
          case measure => simp [intOf]; omega
        | succ j =>
          obtain ⟨_, y, e0, hyb, hy, hcy⟩ := HC.out j (by omega)
          cases e0
          have hcy2 := (hw.out.cell (p := ad.add j) (by rw [block_of_add]; exact hyb)).trans hcy
          have hy2 := hp.out (by omega)
          have HLy : Hid (lastF fs (j + 1) = y) := by show fs.getD j 0 = y; exact getD_of hy.out
          rw [HLy.out] at hy2 HE HE0
          have hy0 : y ≠ 0 := by omega
          have hj1 : (j : Int) < (fs.length : Int) := by omega
          have hcz3 : wr.cell? ⟨ad.block, ad.off + (j + 1), none⟩ = some (.int .i64 f) := by simpa [Addr.add] using hcw
          clear hcy hy hx hp
          by_cases hr : f % y = 0
          · have HN : Hid (facG 0 fs = facG f (fs.drop (j + 1 + 1))) := by show _ = _; rw [HE0.out, if_neg hno, if_neg (fun h => h.2 hr)]
            have HF2 : Hid (2 ≤ f) := by show _ ≤ _; omega
            have t1 : (f % y != 0) = false := by simpa using hr
            clear HE HE0 hr hno
            go_wp2_with fail
            go_quiet (fail)
            have HBq := Hd (below_drewN hw.out nq)
            go_wp2
            go_roundw
            case rel => exact ⟨j + 1 + 1, by omega, by go_num, by rw [HLa.out]; exact HN.out, fun _ => by rw [HLa.out]; exact HF2.out, HBq.out⟩
            case measure => simp [intOf]; omega
          · have hE : Hid (E = 9) := by show _ = _; rw [HE.out, if_neg hno, if_pos ⟨hy0, hr⟩]
            have t1 : (f % y != 0) = true := by simpa using hr
            clear HE HE0 hr hno
            go_wp2_with fail
            go_quiet (fail)
            have HBq := Hd (below_drewN hw.out nq)
            go_wp2
            go_ret
            exact ⟨ret_i hE.out.symm, HBq.out⟩
    · have hE : Hid (E = 0) := by show _ = _; rw [hR.out, he.out, List.drop_of_length_le (by omega)]; rfl
      clear he hp
      go_wp2
      go_ret
      exact ⟨ret_i hE.out.symm, hw.out⟩
theorem rForm_00110 (g va vb vf : Value) (m k : Nat) (Q N : Int) (es : List Tri) (a b f : List Int) (w : World) (hk : k < 9) (hg : GV w g m es) (ha : RI w va a) (hb : RI w vb b) (hf : RI w vf f) (_hm : m ≤ 12)
    (uq : kq k = false) (un : kn k = false) (ua : ka k = true) (ub : kb k = true) (uf : kf k = false) :
    Calls Tryz.prog 37 #[g, .agg #[.int .i64 (k : Int), .int .i64 Q, .int .i64 N, va, vb, vf]] w fun e w' => e = .returned (.int .i64 (formG m k Q N a b f)) ∧ Below w.heap.size w w' := by
  have hU := fun (i : Nat) (W : World) (hi : i < 5) => uses_any k i (by omega) hi W
  obtain ⟨kk, hkk⟩ : ∃ kk : Int, kk = (k : Int) := ⟨_, rfl⟩
  rw [← hkk]
  rw [← hkk] at hU
  obtain ⟨Ag, cg, rfl, -⟩ := hg.open_
  obtain ⟨Aa, ca, rfl, -⟩ := ha.open_
  obtain ⟨Ab, cb, rfl, -⟩ := hb.open_
  obtain ⟨Af, cf, rfl, -⟩ := hf.open_
  obtain ⟨W0, hW0⟩ : ∃ W0, W0 = (w.alloc (.cells #[.int .i64 (m : Int), .slice Ag es.length cg] 25)).alloc (.cells #[.int .i64 kk, .int .i64 Q, .int .i64 N, .slice Aa a.length ca, .slice Ab b.length cb, .slice Af f.length cf] 47) := ⟨_, rfl⟩
  have hb0 : Below w.heap.size w W0 := by rw [hW0]; exact (below_alloc w _).alloc (by simp) _
  have hxg : BL W0 w.heap.size 25 [.int .i64 (m : Int), .slice Ag es.length cg] := by rw [hW0]; exact (BL.new' w _ _).alloc _
  have hxc : BL W0 (w.heap.size + 1) 47 [.int .i64 kk, .int .i64 Q, .int .i64 N, .slice Aa a.length ca, .slice Ab b.length cb, .slice Af f.length cf] := by
    rw [hW0]
    have := BL.new' (w.alloc (.cells #[.int .i64 (m : Int), .slice Ag es.length cg] 25)) #[.int .i64 kk, .int .i64 Q, .int .i64 N, .slice Aa a.length ca, .slice Ab b.length cb, .slice Af f.length cf] 47
    rwa [World.size_alloc] at this
  have HXg := Hd hxg
  have HXc := Hd hxc
  have HB0 := Hd hb0
  have HW0 := Hd hW0
  have HGv : Hid (∀ W, Below W0.heap.size W0 W → GV W (.agg #[.int .i64 (m : Int), .slice Ag es.length cg]) m es) := fun W h => hg.below (hb0.trans (h.mono hb0.size))
  have HA : Hid (∀ W, Below W0.heap.size W0 W → RI W (.slice Aa a.length ca) a) := fun W h => RI.below ha (hb0.trans (h.mono hb0.size))
  have HD : Hid (∀ W, Below W0.heap.size W0 W → RI W (.slice Ab b.length cb) b) := fun W h => RI.below hb (hb0.trans (h.mono hb0.size))
  have HF : Hid (∀ W, Below W0.heap.size W0 W → RI W (.slice Af f.length cf) f) := fun W h => RI.below hf (hb0.trans (h.mono hb0.size))
  have HR : Hid (formG m k Q N a b f = if (kq k = true ∧ ¬ (0 ≤ Q ∧ Q < m)) ∨ (kn k = true ∧ (N < kl k ∨ 12 < N)) then 2
    else if ka k = true ∧ checkE a m ≠ 0 then checkE a m
    else if kb k = true ∧ checkE b m ≠ 0 then checkE b m
    else if kf k = true ∧ facNG m f ≠ 0 then facNG m f
    else if (kq k = false ∧ Q ≠ 0) ∨ (kn k = false ∧ N ≠ 0) ∨ (ka k = false ∧ a ≠ []) ∨ (kb k = false ∧ b ≠ []) ∨ (kf k = false ∧ f ≠ []) then 3 else 0) := rfl
  generalize formG m k Q N a b f = E at *
  have hk0 : ¬ kk < 0 := by omega
  have hk8 : ¬ (8 : Int) < kk := by omega
  have HK : Hid (∀ W : World, Below W0.heap.size W0 W → W.cell? ⟨w.heap.size, 0, none⟩ = some (.int .i64 (m : Int)) ∧ W.cell? ⟨w.heap.size, 1, none⟩ = some (.slice Ag es.length cg) ∧ W.cell? ⟨w.heap.size + 1, 0, none⟩ = some (.int .i64 kk) ∧ W.cell? ⟨w.heap.size + 1, 1, none⟩ = some (.int .i64 Q) ∧ W.cell? ⟨w.heap.size + 1, 2, none⟩ = some (.int .i64 N) ∧ W.cell? ⟨w.heap.size + 1, 3, none⟩ = some (.slice Aa a.length ca) ∧ W.cell? ⟨w.heap.size + 1, 4, none⟩ = some (.slice Ab b.length cb) ∧ W.cell? ⟨w.heap.size + 1, 5, none⟩ = some (.slice Af f.length cf)) := fun W h =>
    ⟨(HXg.out.bel h).cell 0, (HXg.out.bel h).cell 1, (HXc.out.bel h).cell 0, (HXc.out.bel h).cell 1, (HXc.out.bel h).cell 2, (HXc.out.bel h).cell 3, (HXc.out.bel h).cell 4, (HXc.out.bel h).cell 5⟩
  have HU0 : Hid (∀ W, Calls Tryz.prog 61 #[.int .i64 kk, .int .i64 0] W fun e w' => e = .returned (.bool false) ∧ Below W.heap.size W w') := fun W => by
    have h := hU 0 W (by decide)
    rw [show usB k 0 = false from uq] at h
    exact h
  have HU1 : Hid (∀ W, Calls Tryz.prog 61 #[.int .i64 kk, .int .i64 1] W fun e w' => e = .returned (.bool false) ∧ Below W.heap.size W w') := fun W => by
    have h := hU 1 W (by decide)
    rw [show usB k 1 = false from un] at h
    exact h
  have HU2 : Hid (∀ W, Calls Tryz.prog 61 #[.int .i64 kk, .int .i64 2] W fun e w' => e = .returned (.bool true) ∧ Below W.heap.size W w') := fun W => by
    have h := hU 2 W (by decide)
    rw [show usB k 2 = true from ua] at h
    exact h
  have HU3 : Hid (∀ W, Calls Tryz.prog 61 #[.int .i64 kk, .int .i64 3] W fun e w' => e = .returned (.bool true) ∧ Below W.heap.size W w') := fun W => by
    have h := hU 3 W (by decide)
    rw [show usB k 3 = true from ub] at h
    exact h
  have HU4 : Hid (∀ W, Calls Tryz.prog 61 #[.int .i64 kk, .int .i64 4] W fun e w' => e = .returned (.bool false) ∧ Below W.heap.size W w') := fun W => by
    have h := hU 4 W (by decide)
    rw [show usB k 4 = false from uf] at h
    exact h
  have UQ := Hd uq
  have UN := Hd un
  have UA := Hd ua
  have UB := Hd ub
  have UF := Hd uf
  skip
  skip
  clear hU hxg hxc hb0 hW0 hg ha hb hf uq un ua ub uf hkk
  obtain ⟨g0, g1, x0, x1, x2, x3, x4, x5⟩ := HK.out W0 (Below.refl _ _)
  rw [HW0.out] at g0 g1 x0 x1 x2 x3 x4 x5
  have HB1 := Hd (Below.refl W0.heap.size W0)
  go_enter Tryz.func37, Tryz.ntmps37
  go_wp2_with fail
  rw [← HW0.out]
  refine (HU0.out W0).mono ?_
  rintro e w1 ⟨rfl, hb1⟩
  have HBn := Hd (HB1.out.trans (hb1.mono HB1.out.size))
  clear HB1 hb1 g0 g1 x0 x1 x2 x3 x4 x5
  have HB1 := HBn
  clear HBn
  obtain ⟨g0, g1, x0, x1, x2, x3, x4, x5⟩ := HK.out w1 HB1.out
  go_wp2_with fail
  refine (HU1.out w1).mono ?_
  rintro e w2 ⟨rfl, hb1⟩
  have HBn := Hd (HB1.out.trans (hb1.mono HB1.out.size))
  clear HB1 hb1 g0 g1 x0 x1 x2 x3 x4 x5
  have HB1 := HBn
  clear HBn
  obtain ⟨g0, g1, x0, x1, x2, x3, x4, x5⟩ := HK.out w2 HB1.out
  have HR1 : Hid (E = _) := HR.out.trans (if_neg (fun h => h.elim (fun h => absurd (UQ.out.symm.trans h.1) (by decide)) (fun h => absurd (UN.out.symm.trans h.1) (by decide))))
  clear HR
  go_wp2_with fail
  refine (HU2.out w2).mono ?_
  rintro e w3 ⟨rfl, hb1⟩
  have HBn := Hd (HB1.out.trans (hb1.mono HB1.out.size))
  clear HB1 hb1 g0 g1 x0 x1 x2 x3 x4 x5
  have HB1 := HBn
  clear HBn
  obtain ⟨g0, g1, x0, x1, x2, x3, x4, x5⟩ := HK.out w3 HB1.out
  have HCk := Hd (rCheck_any _ a (m : Int) w3 (HA.out _ HB1.out))
  go_wp2_with fail
  refine HCk.out.mono ?_
  rintro e w4 ⟨rfl, rfl⟩
  clear HCk
  by_cases hEa : checkE a m ≠ 0
  · have hR : Hid (E = checkE a m) := by show _ = _; rw [HR1.out, if_pos ⟨UA.out, hEa⟩]
    generalize checkE a m = ce at *
    have t1 : (ce != 0) = true := by simpa using hEa
    clear HR1 hEa
    go_wp2
    go_ret
    exact ⟨ret_i hR.out.symm, HB0.out.trans (HB1.out.mono HB0.out.size)⟩
  have HR2 : Hid (E = _) := HR1.out.trans (if_neg (fun h => hEa h.2))
  have hEa' : checkE a m = 0 := by omega
  rw [hEa']
  clear HR1 hEa hEa'
  go_wp2_with fail
  refine (HU3.out w3).mono ?_
  rintro e w5 ⟨rfl, hb1⟩
  have HBn := Hd (HB1.out.trans (hb1.mono HB1.out.size))
  clear HB1 hb1 g0 g1 x0 x1 x2 x3 x4 x5
  have HB1 := HBn
  clear HBn
  obtain ⟨g0, g1, x0, x1, x2, x3, x4, x5⟩ := HK.out w5 HB1.out
  have HCk := Hd (rCheck_any _ b (m : Int) w5 (HD.out _ HB1.out))
  go_wp2_with fail
  refine HCk.out.mono ?_
  rintro e w6 ⟨rfl, rfl⟩
  clear HCk
  by_cases hEb : checkE b m ≠ 0
  · have hR : Hid (E = checkE b m) := by show _ = _; rw [HR2.out, if_pos ⟨UB.out, hEb⟩]
    generalize checkE b m = ce at *
    have t1 : (ce != 0) = true := by simpa using hEb
    clear HR2 hEb
    go_wp2
    go_ret
    exact ⟨ret_i hR.out.symm, HB0.out.trans (HB1.out.mono HB0.out.size)⟩
  have HR3 : Hid (E = _) := HR2.out.trans (if_neg (fun h => hEb h.2))
  have hEb' : checkE b m = 0 := by omega
  rw [hEb']
  clear HR2 hEb hEb'
  go_wp2_with fail
  refine (HU4.out w5).mono ?_
  rintro e w7 ⟨rfl, hb1⟩
  have HBn := Hd (HB1.out.trans (hb1.mono HB1.out.size))
  clear HB1 hb1 g0 g1 x0 x1 x2 x3 x4 x5
  have HB1 := HBn
  clear HBn
  obtain ⟨g0, g1, x0, x1, x2, x3, x4, x5⟩ := HK.out w7 HB1.out
  have HR4 : Hid (E = _) := HR3.out.trans (if_neg (fun h => absurd (UF.out.symm.trans h.1) (by decide)))
  clear HR3
  go_wp2_with fail
  refine (HU0.out w7).mono ?_
  rintro e w8 ⟨rfl, hb1⟩
  have HBn := Hd (HB1.out.trans (hb1.mono HB1.out.size))
  clear HB1 hb1 g0 g1 x0 x1 x2 x3 x4 x5
  have HB1 := HBn
  clear HBn
  obtain ⟨g0, g1, x0, x1, x2, x3, x4, x5⟩ := HK.out w8 HB1.out
  by_cases hxq : Q ≠ 0
  · have t1 : (Q != 0) = true := by simpa using hxq
    have hR : Hid (E = 3) := by show _ = _; rw [HR4.out, if_pos (.inl ⟨UQ.out, hxq⟩)]
    clear HR4
    go_wp2
    go_ret
    exact ⟨ret_i hR.out.symm, HB0.out.trans (HB1.out.mono HB0.out.size)⟩
  have tq : (Q != 0) = false := by simpa using hxq
  go_wp2_with fail
  refine (HU1.out w8).mono ?_
  rintro e w9 ⟨rfl, hb1⟩
  have HBn := Hd (HB1.out.trans (hb1.mono HB1.out.size))
  clear HB1 hb1 g0 g1 x0 x1 x2 x3 x4 x5
  have HB1 := HBn
  clear HBn
  obtain ⟨g0, g1, x0, x1, x2, x3, x4, x5⟩ := HK.out w9 HB1.out
  by_cases hxn : N ≠ 0
  · have t1 : (N != 0) = true := by simpa using hxn
    have hR : Hid (E = 3) := by show _ = _; rw [HR4.out, if_pos (.inr (.inl ⟨UN.out, hxn⟩))]
    clear HR4
    go_wp2
    go_ret
    exact ⟨ret_i hR.out.symm, HB0.out.trans (HB1.out.mono HB0.out.size)⟩
  have tn : (N != 0) = false := by simpa using hxn
  go_wp2_with fail
  refine (HU2.out w9).mono ?_
  rintro e w10 ⟨rfl, hb1⟩
  have HBn := Hd (HB1.out.trans (hb1.mono HB1.out.size))
  clear HB1 hb1 g0 g1 x0 x1 x2 x3 x4 x5
  have HB1 := HBn
  clear HBn
  obtain ⟨g0, g1, x0, x1, x2, x3, x4, x5⟩ := HK.out w10 HB1.out
  go_wp2_with fail
  refine (HU3.out w10).mono ?_
  rintro e w11 ⟨rfl, hb1⟩
  have HBn := Hd (HB1.out.trans (hb1.mono HB1.out.size))
  clear HB1 hb1 g0 g1 x0 x1 x2 x3 x4 x5
  have HB1 := HBn
  clear HBn
  obtain ⟨g0, g1, x0, x1, x2, x3, x4, x5⟩ := HK.out w11 HB1.out
  go_wp2_with fail
  refine (HU4.out w11).mono ?_
  rintro e w12 ⟨rfl, hb1⟩
  have HBn := Hd (HB1.out.trans (hb1.mono HB1.out.size))
  clear HB1 hb1 g0 g1 x0 x1 x2 x3 x4 x5
  have HB1 := HBn
  clear HBn
  obtain ⟨g0, g1, x0, x1, x2, x3, x4, x5⟩ := HK.out w12 HB1.out
  by_cases hxf : f ≠ []
  · have t1 : 0 < f.length := List.length_pos_iff.2 hxf
    have hR : Hid (E = 3) := by show _ = _; rw [HR4.out, if_pos (.inr (.inr (.inr (.inr ⟨UF.out, hxf⟩))))]
    clear HR4
    go_wp2
    go_ret
    exact ⟨ret_i hR.out.symm, HB0.out.trans (HB1.out.mono HB0.out.size)⟩
  have tf : ¬ 0 < f.length := fun h => hxf (List.length_pos_iff.1 h)
  have hR : Hid (E = 0) := HR4.out.trans (if_neg (fun h => h.elim (fun h => hxq h.2) (fun h => h.elim (fun h => hxn h.2) (fun h => h.elim (fun h => absurd (UA.out.symm.trans h.1) (by decide)) (fun h => h.elim (fun h => absurd (UB.out.symm.trans h.1) (by decide)) (fun h => hxf h.2))))))
  clear HR4
  go_wp2
  go_ret
  exact ⟨ret_i hR.out.symm, HB0.out.trans (HB1.out.mono HB0.out.size)⟩
theorem rForm_00100 (g va vb vf : Value) (m k : Nat) (Q N : Int) (es : List Tri) (a b f : List Int) (w : World) (hk : k < 9) (hg : GV w g m es) (ha : RI w va a) (hb : RI w vb b) (hf : RI w vf f) (_hm : m ≤ 12)
    (uq : kq k = false) (un : kn k = false) (ua : ka k = true) (ub : kb k = false) (uf : kf k = false) :
    Calls Tryz.prog 37 #[g, .agg #[.int .i64 (k : Int), .int .i64 Q, .int .i64 N, va, vb, vf]] w fun e w' => e = .returned (.int .i64 (formG m k Q N a b f)) ∧ Below w.heap.size w w' := by
  have hU := fun (i : Nat) (W : World) (hi : i < 5) => uses_any k i (by omega) hi W
  obtain ⟨kk, hkk⟩ : ∃ kk : Int, kk = (k : Int) := ⟨_, rfl⟩
  rw [← hkk]
  rw [← hkk] at hU
  obtain ⟨Ag, cg, rfl, -⟩ := hg.open_
  obtain ⟨Aa, ca, rfl, -⟩ := ha.open_
  obtain ⟨Ab, cb, rfl, -⟩ := hb.open_
  obtain ⟨Af, cf, rfl, -⟩ := hf.open_
  obtain ⟨W0, hW0⟩ : ∃ W0, W0 = (w.alloc (.cells #[.int .i64 (m : Int), .slice Ag es.length cg] 25)).alloc (.cells #[.int .i64 kk, .int .i64 Q, .int .i64 N, .slice Aa a.length ca, .slice Ab b.length cb, .slice Af f.length cf] 47) := ⟨_, rfl⟩
  have hb0 : Below w.heap.size w W0 := by rw [hW0]; exact (below_alloc w _).alloc (by simp) _
  have hxg : BL W0 w.heap.size 25 [.int .i64 (m : Int), .slice Ag es.length cg] := by rw [hW0]; exact (BL.new' w _ _).alloc _
  have hxc : BL W0 (w.heap.size + 1) 47 [.int .i64 kk, .int .i64 Q, .int .i64 N, .slice Aa a.length ca, .slice Ab b.length cb, .slice Af f.length cf] := by
    rw [hW0]
    have := BL.new' (w.alloc (.cells #[.int .i64 (m : Int), .slice Ag es.length cg] 25)) #[.int .i64 kk, .int .i64 Q, .int .i64 N, .slice Aa a.length ca, .slice Ab b.length cb, .slice Af f.length cf] 47
    rwa [World.size_alloc] at this
  have HXg := Hd hxg
  have HXc := Hd hxc
  have HB0 := Hd hb0
  have HW0 := Hd hW0
  have HGv : Hid (∀ W, Below W0.heap.size W0 W → GV W (.agg #[.int .i64 (m : Int), .slice Ag es.length cg]) m es) := fun W h => hg.below (hb0.trans (h.mono hb0.size))
  have HA : Hid (∀ W, Below W0.heap.size W0 W → RI W (.slice Aa a.length ca) a) := fun W h => RI.below ha (hb0.trans (h.mono hb0.size))
  have HD : Hid (∀ W, Below W0.heap.size W0 W → RI W (.slice Ab b.length cb) b) := fun W h => RI.below hb (hb0.trans (h.mono hb0.size))
  have HF : Hid (∀ W, Below W0.heap.size W0 W → RI W (.slice Af f.length cf) f) := fun W h => RI.below hf (hb0.trans (h.mono hb0.size))
  have HR : Hid (formG m k Q N a b f = if (kq k = true ∧ ¬ (0 ≤ Q ∧ Q < m)) ∨ (kn k = true ∧ (N < kl k ∨ 12 < N)) then 2
    else if ka k = true ∧ checkE a m ≠ 0 then checkE a m
    else if kb k = true ∧ checkE b m ≠ 0 then checkE b m
    else if kf k = true ∧ facNG m f ≠ 0 then facNG m f
    else if (kq k = false ∧ Q ≠ 0) ∨ (kn k = false ∧ N ≠ 0) ∨ (ka k = false ∧ a ≠ []) ∨ (kb k = false ∧ b ≠ []) ∨ (kf k = false ∧ f ≠ []) then 3 else 0) := rfl
  generalize formG m k Q N a b f = E at *
  have hk0 : ¬ kk < 0 := by omega
  have hk8 : ¬ (8 : Int) < kk := by omega
  have HK : Hid (∀ W : World, Below W0.heap.size W0 W → W.cell? ⟨w.heap.size, 0, none⟩ = some (.int .i64 (m : Int)) ∧ W.cell? ⟨w.heap.size, 1, none⟩ = some (.slice Ag es.length cg) ∧ W.cell? ⟨w.heap.size + 1, 0, none⟩ = some (.int .i64 kk) ∧ W.cell? ⟨w.heap.size + 1, 1, none⟩ = some (.int .i64 Q) ∧ W.cell? ⟨w.heap.size + 1, 2, none⟩ = some (.int .i64 N) ∧ W.cell? ⟨w.heap.size + 1, 3, none⟩ = some (.slice Aa a.length ca) ∧ W.cell? ⟨w.heap.size + 1, 4, none⟩ = some (.slice Ab b.length cb) ∧ W.cell? ⟨w.heap.size + 1, 5, none⟩ = some (.slice Af f.length cf)) := fun W h =>
    ⟨(HXg.out.bel h).cell 0, (HXg.out.bel h).cell 1, (HXc.out.bel h).cell 0, (HXc.out.bel h).cell 1, (HXc.out.bel h).cell 2, (HXc.out.bel h).cell 3, (HXc.out.bel h).cell 4, (HXc.out.bel h).cell 5⟩
  have HU0 : Hid (∀ W, Calls Tryz.prog 61 #[.int .i64 kk, .int .i64 0] W fun e w' => e = .returned (.bool false) ∧ Below W.heap.size W w') := fun W => by
    have h := hU 0 W (by decide)
    rw [show usB k 0 = false from uq] at h
    exact h
  have HU1 : Hid (∀ W, Calls Tryz.prog 61 #[.int .i64 kk, .int .i64 1] W fun e w' => e = .returned (.bool false) ∧ Below W.heap.size W w') := fun W => by
    have h := hU 1 W (by decide)
    rw [show usB k 1 = false from un] at h
    exact h
  have HU2 : Hid (∀ W, Calls Tryz.prog 61 #[.int .i64 kk, .int .i64 2] W fun e w' => e = .returned (.bool true) ∧ Below W.heap.size W w') := fun W => by
    have h := hU 2 W (by decide)
    rw [show usB k 2 = true from ua] at h
    exact h
  have HU3 : Hid (∀ W, Calls Tryz.prog 61 #[.int .i64 kk, .int .i64 3] W fun e w' => e = .returned (.bool false) ∧ Below W.heap.size W w') := fun W => by
    have h := hU 3 W (by decide)
    rw [show usB k 3 = false from ub] at h
    exact h
  have HU4 : Hid (∀ W, Calls Tryz.prog 61 #[.int .i64 kk, .int .i64 4] W fun e w' => e = .returned (.bool false) ∧ Below W.heap.size W w') := fun W => by
    have h := hU 4 W (by decide)
    rw [show usB k 4 = false from uf] at h
    exact h
  have UQ := Hd uq
  have UN := Hd un
  have UA := Hd ua
  have UB := Hd ub
  have UF := Hd uf
  skip
  skip
  clear hU hxg hxc hb0 hW0 hg ha hb hf uq un ua ub uf hkk
  obtain ⟨g0, g1, x0, x1, x2, x3, x4, x5⟩ := HK.out W0 (Below.refl _ _)
  rw [HW0.out] at g0 g1 x0 x1 x2 x3 x4 x5
  have HB1 := Hd (Below.refl W0.heap.size W0)
  go_enter Tryz.func37, Tryz.ntmps37
  go_wp2_with fail
  rw [← HW0.out]
  refine (HU0.out W0).mono ?_
  rintro e w1 ⟨rfl, hb1⟩
  have HBn := Hd (HB1.out.trans (hb1.mono HB1.out.size))
  clear HB1 hb1 g0 g1 x0 x1 x2 x3 x4 x5
  have HB1 := HBn
  clear HBn
  obtain ⟨g0, g1, x0, x1, x2, x3, x4, x5⟩ := HK.out w1 HB1.out
  go_wp2_with fail
  refine (HU1.out w1).mono ?_
  rintro e w2 ⟨rfl, hb1⟩
  have HBn := Hd (HB1.out.trans (hb1.mono HB1.out.size))
  clear HB1 hb1 g0 g1 x0 x1 x2 x3 x4 x5
  have HB1 := HBn
  clear HBn
  obtain ⟨g0, g1, x0, x1, x2, x3, x4, x5⟩ := HK.out w2 HB1.out
  have HR1 : Hid (E = _) := HR.out.trans (if_neg (fun h => h.elim (fun h => absurd (UQ.out.symm.trans h.1) (by decide)) (fun h => absurd (UN.out.symm.trans h.1) (by decide))))
  clear HR
  go_wp2_with fail
  refine (HU2.out w2).mono ?_
  rintro e w3 ⟨rfl, hb1⟩
  have HBn := Hd (HB1.out.trans (hb1.mono HB1.out.size))
  clear HB1 hb1 g0 g1 x0 x1 x2 x3 x4 x5
  have HB1 := HBn
  clear HBn
  obtain ⟨g0, g1, x0, x1, x2, x3, x4, x5⟩ := HK.out w3 HB1.out
  have HCk := Hd (rCheck_any _ a (m : Int) w3 (HA.out _ HB1.out))
  go_wp2_with fail
  refine HCk.out.mono ?_
  rintro e w4 ⟨rfl, rfl⟩
  clear HCk
  by_cases hEa : checkE a m ≠ 0
  · have hR : Hid (E = checkE a m) := by show _ = _; rw [HR1.out, if_pos ⟨UA.out, hEa⟩]
    generalize checkE a m = ce at *
    have t1 : (ce != 0) = true := by simpa using hEa
    clear HR1 hEa
    go_wp2
    go_ret
    exact ⟨ret_i hR.out.symm, HB0.out.trans (HB1.out.mono HB0.out.size)⟩
  have HR2 : Hid (E = _) := HR1.out.trans (if_neg (fun h => hEa h.2))
  have hEa' : checkE a m = 0 := by omega
  rw [hEa']
  clear HR1 hEa hEa'
  go_wp2_with fail
  refine (HU3.out w3).mono ?_
  rintro e w5 ⟨rfl, hb1⟩
  have HBn := Hd (HB1.out.trans (hb1.mono HB1.out.size))
  clear HB1 hb1 g0 g1 x0 x1 x2 x3 x4 x5
  have HB1 := HBn
  clear HBn
  obtain ⟨g0, g1, x0, x1, x2, x3, x4, x5⟩ := HK.out w5 HB1.out
  have HR3 : Hid (E = _) := HR2.out.trans (if_neg (fun h => absurd (UB.out.symm.trans h.1) (by decide)))
  clear HR2
  go_wp2_with fail
  refine (HU4.out w5).mono ?_
  rintro e w6 ⟨rfl, hb1⟩
  have HBn := Hd (HB1.out.trans (hb1.mono HB1.out.size))
  clear HB1 hb1 g0 g1 x0 x1 x2 x3 x4 x5
  have HB1 := HBn
  clear HBn
  obtain ⟨g0, g1, x0, x1, x2, x3, x4, x5⟩ := HK.out w6 HB1.out
  have HR4 : Hid (E = _) := HR3.out.trans (if_neg (fun h => absurd (UF.out.symm.trans h.1) (by decide)))
  clear HR3
  go_wp2_with fail
  refine (HU0.out w6).mono ?_
  rintro e w7 ⟨rfl, hb1⟩
  have HBn := Hd (HB1.out.trans (hb1.mono HB1.out.size))
  clear HB1 hb1 g0 g1 x0 x1 x2 x3 x4 x5
  have HB1 := HBn
  clear HBn
  obtain ⟨g0, g1, x0, x1, x2, x3, x4, x5⟩ := HK.out w7 HB1.out
  by_cases hxq : Q ≠ 0
  · have t1 : (Q != 0) = true := by simpa using hxq
    have hR : Hid (E = 3) := by show _ = _; rw [HR4.out, if_pos (.inl ⟨UQ.out, hxq⟩)]
    clear HR4
    go_wp2
    go_ret
    exact ⟨ret_i hR.out.symm, HB0.out.trans (HB1.out.mono HB0.out.size)⟩
  have tq : (Q != 0) = false := by simpa using hxq
  go_wp2_with fail
  refine (HU1.out w7).mono ?_
  rintro e w8 ⟨rfl, hb1⟩
  have HBn := Hd (HB1.out.trans (hb1.mono HB1.out.size))
  clear HB1 hb1 g0 g1 x0 x1 x2 x3 x4 x5
  have HB1 := HBn
  clear HBn
  obtain ⟨g0, g1, x0, x1, x2, x3, x4, x5⟩ := HK.out w8 HB1.out
  by_cases hxn : N ≠ 0
  · have t1 : (N != 0) = true := by simpa using hxn
    have hR : Hid (E = 3) := by show _ = _; rw [HR4.out, if_pos (.inr (.inl ⟨UN.out, hxn⟩))]
    clear HR4
    go_wp2
    go_ret
    exact ⟨ret_i hR.out.symm, HB0.out.trans (HB1.out.mono HB0.out.size)⟩
  have tn : (N != 0) = false := by simpa using hxn
  go_wp2_with fail
  refine (HU2.out w8).mono ?_
  rintro e w9 ⟨rfl, hb1⟩
  have HBn := Hd (HB1.out.trans (hb1.mono HB1.out.size))
  clear HB1 hb1 g0 g1 x0 x1 x2 x3 x4 x5
  have HB1 := HBn
  clear HBn
  obtain ⟨g0, g1, x0, x1, x2, x3, x4, x5⟩ := HK.out w9 HB1.out
  go_wp2_with fail
  refine (HU3.out w9).mono ?_
  rintro e w10 ⟨rfl, hb1⟩
  have HBn := Hd (HB1.out.trans (hb1.mono HB1.out.size))
  clear HB1 hb1 g0 g1 x0 x1 x2 x3 x4 x5
  have HB1 := HBn
  clear HBn
  obtain ⟨g0, g1, x0, x1, x2, x3, x4, x5⟩ := HK.out w10 HB1.out
  by_cases hxb : b ≠ []
  · have t1 : 0 < b.length := List.length_pos_iff.2 hxb
    have hR : Hid (E = 3) := by show _ = _; rw [HR4.out, if_pos (.inr (.inr (.inr (.inl ⟨UB.out, hxb⟩))))]
    clear HR4
    go_wp2
    go_ret
    exact ⟨ret_i hR.out.symm, HB0.out.trans (HB1.out.mono HB0.out.size)⟩
  have tb : ¬ 0 < b.length := fun h => hxb (List.length_pos_iff.1 h)
  go_wp2_with fail
  refine (HU4.out w10).mono ?_
  rintro e w11 ⟨rfl, hb1⟩
  have HBn := Hd (HB1.out.trans (hb1.mono HB1.out.size))
  clear HB1 hb1 g0 g1 x0 x1 x2 x3 x4 x5
  have HB1 := HBn
  clear HBn
  obtain ⟨g0, g1, x0, x1, x2, x3, x4, x5⟩ := HK.out w11 HB1.out
  by_cases hxf : f ≠ []
  · have t1 : 0 < f.length := List.length_pos_iff.2 hxf
    have hR : Hid (E = 3) := by show _ = _; rw [HR4.out, if_pos (.inr (.inr (.inr (.inr ⟨UF.out, hxf⟩))))]
    clear HR4
    go_wp2
    go_ret
    exact ⟨ret_i hR.out.symm, HB0.out.trans (HB1.out.mono HB0.out.size)⟩
  have tf : ¬ 0 < f.length := fun h => hxf (List.length_pos_iff.1 h)
  have hR : Hid (E = 0) := HR4.out.trans (if_neg (fun h => h.elim (fun h => hxq h.2) (fun h => h.elim (fun h => hxn h.2) (fun h => h.elim (fun h => absurd (UA.out.symm.trans h.1) (by decide)) (fun h => h.elim (fun h => hxb h.2) (fun h => hxf h.2))))))
  clear HR4
  go_wp2
  go_ret
  exact ⟨ret_i hR.out.symm, HB0.out.trans (HB1.out.mono HB0.out.size)⟩
theorem rForm_011003 (g va vb vf : Value) (m k : Nat) (Q N : Int) (es : List Tri) (a b f : List Int) (w : World) (_hk : k < 9) (hg : GV w g m es) (ha : RI w va a) (hb : RI w vb b) (hf : RI w vf f) (_hm : m ≤ 12) (hkn : k = 3)
    (uq : kq k = false) (un : kn k = true) (ua : ka k = true) (ub : kb k = false) (uf : kf k = false) :
    Calls Tryz.prog 37 #[g, .agg #[.int .i64 (k : Int), .int .i64 Q, .int .i64 N, va, vb, vf]] w fun e w' => e = .returned (.int .i64 (formG m k Q N a b f)) ∧ Below w.heap.size w w' := by
  have hU := fun (i : Nat) (W : World) (hi : i < 5) => uses_any k i (by omega) hi W
  obtain ⟨kk, hkk⟩ : ∃ kk : Int, kk = (k : Int) := ⟨_, rfl⟩
  rw [← hkk]
  rw [← hkk] at hU
  obtain ⟨Ag, cg, rfl, -⟩ := hg.open_
  obtain ⟨Aa, ca, rfl, -⟩ := ha.open_
  obtain ⟨Ab, cb, rfl, -⟩ := hb.open_
  obtain ⟨Af, cf, rfl, -⟩ := hf.open_
  obtain ⟨W0, hW0⟩ : ∃ W0, W0 = (w.alloc (.cells #[.int .i64 (m : Int), .slice Ag es.length cg] 25)).alloc (.cells #[.int .i64 kk, .int .i64 Q, .int .i64 N, .slice Aa a.length ca, .slice Ab b.length cb, .slice Af f.length cf] 47) := ⟨_, rfl⟩
  have hb0 : Below w.heap.size w W0 := by rw [hW0]; exact (below_alloc w _).alloc (by simp) _
  have hxg : BL W0 w.heap.size 25 [.int .i64 (m : Int), .slice Ag es.length cg] := by rw [hW0]; exact (BL.new' w _ _).alloc _
  have hxc : BL W0 (w.heap.size + 1) 47 [.int .i64 kk, .int .i64 Q, .int .i64 N, .slice Aa a.length ca, .slice Ab b.length cb, .slice Af f.length cf] := by
    rw [hW0]
    have := BL.new' (w.alloc (.cells #[.int .i64 (m : Int), .slice Ag es.length cg] 25)) #[.int .i64 kk, .int .i64 Q, .int .i64 N, .slice Aa a.length ca, .slice Ab b.length cb, .slice Af f.length cf] 47
    rwa [World.size_alloc] at this
  have HXg := Hd hxg
  have HXc := Hd hxc
  have HB0 := Hd hb0
  have HW0 := Hd hW0
  have HGv : Hid (∀ W, Below W0.heap.size W0 W → GV W (.agg #[.int .i64 (m : Int), .slice Ag es.length cg]) m es) := fun W h => hg.below (hb0.trans (h.mono hb0.size))
  have HA : Hid (∀ W, Below W0.heap.size W0 W → RI W (.slice Aa a.length ca) a) := fun W h => RI.below ha (hb0.trans (h.mono hb0.size))
  have HD : Hid (∀ W, Below W0.heap.size W0 W → RI W (.slice Ab b.length cb) b) := fun W h => RI.below hb (hb0.trans (h.mono hb0.size))
  have HF : Hid (∀ W, Below W0.heap.size W0 W → RI W (.slice Af f.length cf) f) := fun W h => RI.below hf (hb0.trans (h.mono hb0.size))
  have HR : Hid (formG m k Q N a b f = if (kq k = true ∧ ¬ (0 ≤ Q ∧ Q < m)) ∨ (kn k = true ∧ (N < kl k ∨ 12 < N)) then 2
    else if ka k = true ∧ checkE a m ≠ 0 then checkE a m
    else if kb k = true ∧ checkE b m ≠ 0 then checkE b m
    else if kf k = true ∧ facNG m f ≠ 0 then facNG m f
    else if (kq k = false ∧ Q ≠ 0) ∨ (kn k = false ∧ N ≠ 0) ∨ (ka k = false ∧ a ≠ []) ∨ (kb k = false ∧ b ≠ []) ∨ (kf k = false ∧ f ≠ []) then 3 else 0) := rfl
  generalize formG m k Q N a b f = E at *
  have hk0 : ¬ kk < 0 := by omega
  have hk8 : ¬ (8 : Int) < kk := by omega
  have HK : Hid (∀ W : World, Below W0.heap.size W0 W → W.cell? ⟨w.heap.size, 0, none⟩ = some (.int .i64 (m : Int)) ∧ W.cell? ⟨w.heap.size, 1, none⟩ = some (.slice Ag es.length cg) ∧ W.cell? ⟨w.heap.size + 1, 0, none⟩ = some (.int .i64 kk) ∧ W.cell? ⟨w.heap.size + 1, 1, none⟩ = some (.int .i64 Q) ∧ W.cell? ⟨w.heap.size + 1, 2, none⟩ = some (.int .i64 N) ∧ W.cell? ⟨w.heap.size + 1, 3, none⟩ = some (.slice Aa a.length ca) ∧ W.cell? ⟨w.heap.size + 1, 4, none⟩ = some (.slice Ab b.length cb) ∧ W.cell? ⟨w.heap.size + 1, 5, none⟩ = some (.slice Af f.length cf)) := fun W h =>
    ⟨(HXg.out.bel h).cell 0, (HXg.out.bel h).cell 1, (HXc.out.bel h).cell 0, (HXc.out.bel h).cell 1, (HXc.out.bel h).cell 2, (HXc.out.bel h).cell 3, (HXc.out.bel h).cell 4, (HXc.out.bel h).cell 5⟩
  have HU0 : Hid (∀ W, Calls Tryz.prog 61 #[.int .i64 kk, .int .i64 0] W fun e w' => e = .returned (.bool false) ∧ Below W.heap.size W w') := fun W => by
    have h := hU 0 W (by decide)
    rw [show usB k 0 = false from uq] at h
    exact h
  have HU1 : Hid (∀ W, Calls Tryz.prog 61 #[.int .i64 kk, .int .i64 1] W fun e w' => e = .returned (.bool true) ∧ Below W.heap.size W w') := fun W => by
    have h := hU 1 W (by decide)
    rw [show usB k 1 = true from un] at h
    exact h
  have HU2 : Hid (∀ W, Calls Tryz.prog 61 #[.int .i64 kk, .int .i64 2] W fun e w' => e = .returned (.bool true) ∧ Below W.heap.size W w') := fun W => by
    have h := hU 2 W (by decide)
    rw [show usB k 2 = true from ua] at h
    exact h
  have HU3 : Hid (∀ W, Calls Tryz.prog 61 #[.int .i64 kk, .int .i64 3] W fun e w' => e = .returned (.bool false) ∧ Below W.heap.size W w') := fun W => by
    have h := hU 3 W (by decide)
    rw [show usB k 3 = false from ub] at h
    exact h
  have HU4 : Hid (∀ W, Calls Tryz.prog 61 #[.int .i64 kk, .int .i64 4] W fun e w' => e = .returned (.bool false) ∧ Below W.heap.size W w') := fun W => by
    have h := hU 4 W (by decide)
    rw [show usB k 4 = false from uf] at h
    exact h
  have UQ := Hd uq
  have UN := Hd un
  have UA := Hd ua
  have UB := Hd ub
  have UF := Hd uf
  have HKl : Hid (kl k = 0) := by show _ = _; rw [hkn]; rfl
  have t3 : (kk == 3) = true := by rw [hkk, hkn]; rfl
  clear hU hxg hxc hb0 hW0 hg ha hb hf uq un ua ub uf hkk
  obtain ⟨g0, g1, x0, x1, x2, x3, x4, x5⟩ := HK.out W0 (Below.refl _ _)
  rw [HW0.out] at g0 g1 x0 x1 x2 x3 x4 x5
  have HB1 := Hd (Below.refl W0.heap.size W0)
  go_enter Tryz.func37, Tryz.ntmps37
  go_wp2_with fail
  rw [← HW0.out]
  refine (HU0.out W0).mono ?_
  rintro e w1 ⟨rfl, hb1⟩
  have HBn := Hd (HB1.out.trans (hb1.mono HB1.out.size))
  clear HB1 hb1 g0 g1 x0 x1 x2 x3 x4 x5
  have HB1 := HBn
  clear HBn
  obtain ⟨g0, g1, x0, x1, x2, x3, x4, x5⟩ := HK.out w1 HB1.out
  go_wp2_with fail
  refine (HU1.out w1).mono ?_
  rintro e w2 ⟨rfl, hb1⟩
  have HBn := Hd (HB1.out.trans (hb1.mono HB1.out.size))
  clear HB1 hb1 g0 g1 x0 x1 x2 x3 x4 x5
  have HB1 := HBn
  clear HBn
  obtain ⟨g0, g1, x0, x1, x2, x3, x4, x5⟩ := HK.out w2 HB1.out
  by_cases h12 : (12 : Int) < N
  · skip
    have hR : Hid (E = 2) := by show _ = _; rw [HR.out, if_pos (.inr ⟨UN.out, .inr h12⟩)]
    clear HR
    go_wp2
    go_ret
    exact ⟨ret_i hR.out.symm, HB0.out.trans (HB1.out.mono HB0.out.size)⟩
  by_cases hm1 : N < -1
  · skip
    have hR : Hid (E = 2) := by show _ = _; rw [HR.out, if_pos (.inr ⟨UN.out, .inl (by rw [HKl.out]; omega)⟩)]
    clear HR
    go_wp2
    go_ret
    exact ⟨ret_i hR.out.symm, HB0.out.trans (HB1.out.mono HB0.out.size)⟩
  by_cases hN0 : N < 0
  · skip
    have hR : Hid (E = 2) := by show _ = _; rw [HR.out, if_pos (.inr ⟨UN.out, .inl (by rw [HKl.out]; omega)⟩)]
    clear HR
    go_wp2
    go_ret
    exact ⟨ret_i hR.out.symm, HB0.out.trans (HB1.out.mono HB0.out.size)⟩
  have HR1 : Hid (E = _) := HR.out.trans (if_neg (fun h => h.elim (fun h => absurd (UQ.out.symm.trans h.1) (by decide)) (fun h => by have := h.2; rw [HKl.out] at this; omega)))
  clear HR
  go_wp2_with fail
  refine (HU2.out w2).mono ?_
  rintro e w3 ⟨rfl, hb1⟩
  have HBn := Hd (HB1.out.trans (hb1.mono HB1.out.size))
  clear HB1 hb1 g0 g1 x0 x1 x2 x3 x4 x5
  have HB1 := HBn
  clear HBn
  obtain ⟨g0, g1, x0, x1, x2, x3, x4, x5⟩ := HK.out w3 HB1.out
  have HCk := Hd (rCheck_any _ a (m : Int) w3 (HA.out _ HB1.out))
  go_wp2_with fail
  refine HCk.out.mono ?_
  rintro e w4 ⟨rfl, rfl⟩
  clear HCk
  by_cases hEa : checkE a m ≠ 0
  · have hR : Hid (E = checkE a m) := by show _ = _; rw [HR1.out, if_pos ⟨UA.out, hEa⟩]
    generalize checkE a m = ce at *
    have t1 : (ce != 0) = true := by simpa using hEa
    clear HR1 hEa
    go_wp2
    go_ret
    exact ⟨ret_i hR.out.symm, HB0.out.trans (HB1.out.mono HB0.out.size)⟩
  have HR2 : Hid (E = _) := HR1.out.trans (if_neg (fun h => hEa h.2))
  have hEa' : checkE a m = 0 := by omega
  rw [hEa']
  clear HR1 hEa hEa'
  go_wp2_with fail
  refine (HU3.out w3).mono ?_
  rintro e w5 ⟨rfl, hb1⟩
  have HBn := Hd (HB1.out.trans (hb1.mono HB1.out.size))
  clear HB1 hb1 g0 g1 x0 x1 x2 x3 x4 x5
  have HB1 := HBn
  clear HBn
  obtain ⟨g0, g1, x0, x1, x2, x3, x4, x5⟩ := HK.out w5 HB1.out
  have HR3 : Hid (E = _) := HR2.out.trans (if_neg (fun h => absurd (UB.out.symm.trans h.1) (by decide)))
  clear HR2
  go_wp2_with fail
  refine (HU4.out w5).mono ?_
  rintro e w6 ⟨rfl, hb1⟩
  have HBn := Hd (HB1.out.trans (hb1.mono HB1.out.size))
  clear HB1 hb1 g0 g1 x0 x1 x2 x3 x4 x5
  have HB1 := HBn
  clear HBn
  obtain ⟨g0, g1, x0, x1, x2, x3, x4, x5⟩ := HK.out w6 HB1.out
  have HR4 : Hid (E = _) := HR3.out.trans (if_neg (fun h => absurd (UF.out.symm.trans h.1) (by decide)))
  clear HR3
  go_wp2_with fail
  refine (HU0.out w6).mono ?_
  rintro e w7 ⟨rfl, hb1⟩
  have HBn := Hd (HB1.out.trans (hb1.mono HB1.out.size))
  clear HB1 hb1 g0 g1 x0 x1 x2 x3 x4 x5
  have HB1 := HBn
  clear HBn
  obtain ⟨g0, g1, x0, x1, x2, x3, x4, x5⟩ := HK.out w7 HB1.out
  by_cases hxq : Q ≠ 0
  · have t1 : (Q != 0) = true := by simpa using hxq
    have hR : Hid (E = 3) := by show _ = _; rw [HR4.out, if_pos (.inl ⟨UQ.out, hxq⟩)]
    clear HR4
    go_wp2
    go_ret
    exact ⟨ret_i hR.out.symm, HB0.out.trans (HB1.out.mono HB0.out.size)⟩
  have tq : (Q != 0) = false := by simpa using hxq
  go_wp2_with fail
  refine (HU1.out w7).mono ?_
  rintro e w8 ⟨rfl, hb1⟩
  have HBn := Hd (HB1.out.trans (hb1.mono HB1.out.size))
  clear HB1 hb1 g0 g1 x0 x1 x2 x3 x4 x5
  have HB1 := HBn
  clear HBn
  obtain ⟨g0, g1, x0, x1, x2, x3, x4, x5⟩ := HK.out w8 HB1.out
  go_wp2_with fail
  refine (HU2.out w8).mono ?_
  rintro e w9 ⟨rfl, hb1⟩
  have HBn := Hd (HB1.out.trans (hb1.mono HB1.out.size))
  clear HB1 hb1 g0 g1 x0 x1 x2 x3 x4 x5
  have HB1 := HBn
  clear HBn
  obtain ⟨g0, g1, x0, x1, x2, x3, x4, x5⟩ := HK.out w9 HB1.out
  go_wp2_with fail
  refine (HU3.out w9).mono ?_
  rintro e w10 ⟨rfl, hb1⟩
  have HBn := Hd (HB1.out.trans (hb1.mono HB1.out.size))
  clear HB1 hb1 g0 g1 x0 x1 x2 x3 x4 x5
  have HB1 := HBn
  clear HBn
  obtain ⟨g0, g1, x0, x1, x2, x3, x4, x5⟩ := HK.out w10 HB1.out
  by_cases hxb : b ≠ []
  · have t1 : 0 < b.length := List.length_pos_iff.2 hxb
    have hR : Hid (E = 3) := by show _ = _; rw [HR4.out, if_pos (.inr (.inr (.inr (.inl ⟨UB.out, hxb⟩))))]
    clear HR4
    go_wp2
    go_ret
    exact ⟨ret_i hR.out.symm, HB0.out.trans (HB1.out.mono HB0.out.size)⟩
  have tb : ¬ 0 < b.length := fun h => hxb (List.length_pos_iff.1 h)
  go_wp2_with fail
  refine (HU4.out w10).mono ?_
  rintro e w11 ⟨rfl, hb1⟩
  have HBn := Hd (HB1.out.trans (hb1.mono HB1.out.size))
  clear HB1 hb1 g0 g1 x0 x1 x2 x3 x4 x5
  have HB1 := HBn
  clear HBn
  obtain ⟨g0, g1, x0, x1, x2, x3, x4, x5⟩ := HK.out w11 HB1.out
  by_cases hxf : f ≠ []
  · have t1 : 0 < f.length := List.length_pos_iff.2 hxf
    have hR : Hid (E = 3) := by show _ = _; rw [HR4.out, if_pos (.inr (.inr (.inr (.inr ⟨UF.out, hxf⟩))))]
    clear HR4
    go_wp2
    go_ret
    exact ⟨ret_i hR.out.symm, HB0.out.trans (HB1.out.mono HB0.out.size)⟩
  have tf : ¬ 0 < f.length := fun h => hxf (List.length_pos_iff.1 h)
  have hR : Hid (E = 0) := HR4.out.trans (if_neg (fun h => h.elim (fun h => hxq h.2) (fun h => h.elim (fun h => absurd (UN.out.symm.trans h.1) (by decide)) (fun h => h.elim (fun h => absurd (UA.out.symm.trans h.1) (by decide)) (fun h => h.elim (fun h => hxb h.2) (fun h => hxf h.2))))))
  clear HR4
  go_wp2
  go_ret
  exact ⟨ret_i hR.out.symm, HB0.out.trans (HB1.out.mono HB0.out.size)⟩
theorem rForm_011004a (g va vb vf : Value) (m k : Nat) (Q N : Int) (es : List Tri) (a b f : List Int) (w : World) (_hk : k < 9) (hg : GV w g m es) (ha : RI w va a) (hb : RI w vb b) (hf : RI w vf f) (_hm : m ≤ 12) (hkn : k = 4) (hN0 : N < 0)
    (uq : kq k = false) (un : kn k = true) (ua : ka k = true) (ub : kb k = false) (uf : kf k = false) :
    Calls Tryz.prog 37 #[g, .agg #[.int .i64 (k : Int), .int .i64 Q, .int .i64 N, va, vb, vf]] w fun e w' => e = .returned (.int .i64 (formG m k Q N a b f)) ∧ Below w.heap.size w w' := by
  have hU := fun (i : Nat) (W : World) (hi : i < 5) => uses_any k i (by omega) hi W
  obtain ⟨kk, hkk⟩ : ∃ kk : Int, kk = (k : Int) := ⟨_, rfl⟩
  rw [← hkk]
  rw [← hkk] at hU
  obtain ⟨Ag, cg, rfl, -⟩ := hg.open_
  obtain ⟨Aa, ca, rfl, -⟩ := ha.open_
  obtain ⟨Ab, cb, rfl, -⟩ := hb.open_
  obtain ⟨Af, cf, rfl, -⟩ := hf.open_
  obtain ⟨W0, hW0⟩ : ∃ W0, W0 = (w.alloc (.cells #[.int .i64 (m : Int), .slice Ag es.length cg] 25)).alloc (.cells #[.int .i64 kk, .int .i64 Q, .int .i64 N, .slice Aa a.length ca, .slice Ab b.length cb, .slice Af f.length cf] 47) := ⟨_, rfl⟩
  have hb0 : Below w.heap.size w W0 := by rw [hW0]; exact (below_alloc w _).alloc (by simp) _
  have hxg : BL W0 w.heap.size 25 [.int .i64 (m : Int), .slice Ag es.length cg] := by rw [hW0]; exact (BL.new' w _ _).alloc _
  have hxc : BL W0 (w.heap.size + 1) 47 [.int .i64 kk, .int .i64 Q, .int .i64 N, .slice Aa a.length ca, .slice Ab b.length cb, .slice Af f.length cf] := by
    rw [hW0]
    have := BL.new' (w.alloc (.cells #[.int .i64 (m : Int), .slice Ag es.length cg] 25)) #[.int .i64 kk, .int .i64 Q, .int .i64 N, .slice Aa a.length ca, .slice Ab b.length cb, .slice Af f.length cf] 47
    rwa [World.size_alloc] at this
  have HXg := Hd hxg
  have HXc := Hd hxc
  have HB0 := Hd hb0
  have HW0 := Hd hW0
  have HGv : Hid (∀ W, Below W0.heap.size W0 W → GV W (.agg #[.int .i64 (m : Int), .slice Ag es.length cg]) m es) := fun W h => hg.below (hb0.trans (h.mono hb0.size))
  have HA : Hid (∀ W, Below W0.heap.size W0 W → RI W (.slice Aa a.length ca) a) := fun W h => RI.below ha (hb0.trans (h.mono hb0.size))
  have HD : Hid (∀ W, Below W0.heap.size W0 W → RI W (.slice Ab b.length cb) b) := fun W h => RI.below hb (hb0.trans (h.mono hb0.size))
  have HF : Hid (∀ W, Below W0.heap.size W0 W → RI W (.slice Af f.length cf) f) := fun W h => RI.below hf (hb0.trans (h.mono hb0.size))
  have HR : Hid (formG m k Q N a b f = if (kq k = true ∧ ¬ (0 ≤ Q ∧ Q < m)) ∨ (kn k = true ∧ (N < kl k ∨ 12 < N)) then 2
    else if ka k = true ∧ checkE a m ≠ 0 then checkE a m
    else if kb k = true ∧ checkE b m ≠ 0 then checkE b m
    else if kf k = true ∧ facNG m f ≠ 0 then facNG m f
    else if (kq k = false ∧ Q ≠ 0) ∨ (kn k = false ∧ N ≠ 0) ∨ (ka k = false ∧ a ≠ []) ∨ (kb k = false ∧ b ≠ []) ∨ (kf k = false ∧ f ≠ []) then 3 else 0) := rfl
  generalize formG m k Q N a b f = E at *
  have hk0 : ¬ kk < 0 := by omega
  have hk8 : ¬ (8 : Int) < kk := by omega
  have HK : Hid (∀ W : World, Below W0.heap.size W0 W → W.cell? ⟨w.heap.size, 0, none⟩ = some (.int .i64 (m : Int)) ∧ W.cell? ⟨w.heap.size, 1, none⟩ = some (.slice Ag es.length cg) ∧ W.cell? ⟨w.heap.size + 1, 0, none⟩ = some (.int .i64 kk) ∧ W.cell? ⟨w.heap.size + 1, 1, none⟩ = some (.int .i64 Q) ∧ W.cell? ⟨w.heap.size + 1, 2, none⟩ = some (.int .i64 N) ∧ W.cell? ⟨w.heap.size + 1, 3, none⟩ = some (.slice Aa a.length ca) ∧ W.cell? ⟨w.heap.size + 1, 4, none⟩ = some (.slice Ab b.length cb) ∧ W.cell? ⟨w.heap.size + 1, 5, none⟩ = some (.slice Af f.length cf)) := fun W h =>
    ⟨(HXg.out.bel h).cell 0, (HXg.out.bel h).cell 1, (HXc.out.bel h).cell 0, (HXc.out.bel h).cell 1, (HXc.out.bel h).cell 2, (HXc.out.bel h).cell 3, (HXc.out.bel h).cell 4, (HXc.out.bel h).cell 5⟩
  have HU0 : Hid (∀ W, Calls Tryz.prog 61 #[.int .i64 kk, .int .i64 0] W fun e w' => e = .returned (.bool false) ∧ Below W.heap.size W w') := fun W => by
    have h := hU 0 W (by decide)
    rw [show usB k 0 = false from uq] at h
    exact h
  have HU1 : Hid (∀ W, Calls Tryz.prog 61 #[.int .i64 kk, .int .i64 1] W fun e w' => e = .returned (.bool true) ∧ Below W.heap.size W w') := fun W => by
    have h := hU 1 W (by decide)
    rw [show usB k 1 = true from un] at h
    exact h
  have HU2 : Hid (∀ W, Calls Tryz.prog 61 #[.int .i64 kk, .int .i64 2] W fun e w' => e = .returned (.bool true) ∧ Below W.heap.size W w') := fun W => by
    have h := hU 2 W (by decide)
    rw [show usB k 2 = true from ua] at h
    exact h
  have HU3 : Hid (∀ W, Calls Tryz.prog 61 #[.int .i64 kk, .int .i64 3] W fun e w' => e = .returned (.bool false) ∧ Below W.heap.size W w') := fun W => by
    have h := hU 3 W (by decide)
    rw [show usB k 3 = false from ub] at h
    exact h
  have HU4 : Hid (∀ W, Calls Tryz.prog 61 #[.int .i64 kk, .int .i64 4] W fun e w' => e = .returned (.bool false) ∧ Below W.heap.size W w') := fun W => by
    have h := hU 4 W (by decide)
    rw [show usB k 4 = false from uf] at h
    exact h
  have UQ := Hd uq
  have UN := Hd un
  have UA := Hd ua
  have UB := Hd ub
  have UF := Hd uf
  have HKl : Hid (kl k = -1) := by show _ = _; rw [hkn]; rfl
  have t3 : (kk == 3) = false := by rw [hkk, hkn]; rfl
  clear hU hxg hxc hb0 hW0 hg ha hb hf uq un ua ub uf hkk
  obtain ⟨g0, g1, x0, x1, x2, x3, x4, x5⟩ := HK.out W0 (Below.refl _ _)
  rw [HW0.out] at g0 g1 x0 x1 x2 x3 x4 x5
  have HB1 := Hd (Below.refl W0.heap.size W0)
  go_enter Tryz.func37, Tryz.ntmps37
  go_wp2_with fail
  rw [← HW0.out]
  refine (HU0.out W0).mono ?_
  rintro e w1 ⟨rfl, hb1⟩
  have HBn := Hd (HB1.out.trans (hb1.mono HB1.out.size))
  clear HB1 hb1 g0 g1 x0 x1 x2 x3 x4 x5
  have HB1 := HBn
  clear HBn
  obtain ⟨g0, g1, x0, x1, x2, x3, x4, x5⟩ := HK.out w1 HB1.out
  go_wp2_with fail
  refine (HU1.out w1).mono ?_
  rintro e w2 ⟨rfl, hb1⟩
  have HBn := Hd (HB1.out.trans (hb1.mono HB1.out.size))
  clear HB1 hb1 g0 g1 x0 x1 x2 x3 x4 x5
  have HB1 := HBn
  clear HBn
  obtain ⟨g0, g1, x0, x1, x2, x3, x4, x5⟩ := HK.out w2 HB1.out
  have h12 : ¬ (12 : Int) < N := by omega
  by_cases hm1 : N < -1
  · skip
    have hR : Hid (E = 2) := by show _ = _; rw [HR.out, if_pos (.inr ⟨UN.out, .inl (by rw [HKl.out]; omega)⟩)]
    clear HR
    go_wp2
    go_ret
    exact ⟨ret_i hR.out.symm, HB0.out.trans (HB1.out.mono HB0.out.size)⟩
  have HR1 : Hid (E = _) := HR.out.trans (if_neg (fun h => h.elim (fun h => absurd (UQ.out.symm.trans h.1) (by decide)) (fun h => by have := h.2; rw [HKl.out] at this; omega)))
  clear HR
  go_wp2_with fail
  refine (HU2.out w2).mono ?_
  rintro e w3 ⟨rfl, hb1⟩
  have HBn := Hd (HB1.out.trans (hb1.mono HB1.out.size))
  clear HB1 hb1 g0 g1 x0 x1 x2 x3 x4 x5
  have HB1 := HBn
  clear HBn
  obtain ⟨g0, g1, x0, x1, x2, x3, x4, x5⟩ := HK.out w3 HB1.out
  have HCk := Hd (rCheck_any _ a (m : Int) w3 (HA.out _ HB1.out))
  go_wp2_with fail
  refine HCk.out.mono ?_
  rintro e w4 ⟨rfl, rfl⟩
  clear HCk
  by_cases hEa : checkE a m ≠ 0
  · have hR : Hid (E = checkE a m) := by show _ = _; rw [HR1.out, if_pos ⟨UA.out, hEa⟩]
    generalize checkE a m = ce at *
    have t1 : (ce != 0) = true := by simpa using hEa
    clear HR1 hEa
    go_wp2
    go_ret
    exact ⟨ret_i hR.out.symm, HB0.out.trans (HB1.out.mono HB0.out.size)⟩
  have HR2 : Hid (E = _) := HR1.out.trans (if_neg (fun h => hEa h.2))
  have hEa' : checkE a m = 0 := by omega
  rw [hEa']
  clear HR1 hEa hEa'
  go_wp2_with fail
  refine (HU3.out w3).mono ?_
  rintro e w5 ⟨rfl, hb1⟩
  have HBn := Hd (HB1.out.trans (hb1.mono HB1.out.size))
  clear HB1 hb1 g0 g1 x0 x1 x2 x3 x4 x5
  have HB1 := HBn
  clear HBn
  obtain ⟨g0, g1, x0, x1, x2, x3, x4, x5⟩ := HK.out w5 HB1.out
  have HR3 : Hid (E = _) := HR2.out.trans (if_neg (fun h => absurd (UB.out.symm.trans h.1) (by decide)))
  clear HR2
  go_wp2_with fail
  refine (HU4.out w5).mono ?_
  rintro e w6 ⟨rfl, hb1⟩
  have HBn := Hd (HB1.out.trans (hb1.mono HB1.out.size))
  clear HB1 hb1 g0 g1 x0 x1 x2 x3 x4 x5
  have HB1 := HBn
  clear HBn
  obtain ⟨g0, g1, x0, x1, x2, x3, x4, x5⟩ := HK.out w6 HB1.out
  have HR4 : Hid (E = _) := HR3.out.trans (if_neg (fun h => absurd (UF.out.symm.trans h.1) (by decide)))
  clear HR3
  go_wp2_with fail
  refine (HU0.out w6).mono ?_
  rintro e w7 ⟨rfl, hb1⟩
  have HBn := Hd (HB1.out.trans (hb1.mono HB1.out.size))
  clear HB1 hb1 g0 g1 x0 x1 x2 x3 x4 x5
  have HB1 := HBn
  clear HBn
  obtain ⟨g0, g1, x0, x1, x2, x3, x4, x5⟩ := HK.out w7 HB1.out
  by_cases hxq : Q ≠ 0
  · have t1 : (Q != 0) = true := by simpa using hxq
    have hR : Hid (E = 3) := by show _ = _; rw [HR4.out, if_pos (.inl ⟨UQ.out, hxq⟩)]
    clear HR4
    go_wp2
    go_ret
    exact ⟨ret_i hR.out.symm, HB0.out.trans (HB1.out.mono HB0.out.size)⟩
  have tq : (Q != 0) = false := by simpa using hxq
  go_wp2_with fail
  refine (HU1.out w7).mono ?_
  rintro e w8 ⟨rfl, hb1⟩
  have HBn := Hd (HB1.out.trans (hb1.mono HB1.out.size))
  clear HB1 hb1 g0 g1 x0 x1 x2 x3 x4 x5
  have HB1 := HBn
  clear HBn
  obtain ⟨g0, g1, x0, x1, x2, x3, x4, x5⟩ := HK.out w8 HB1.out
  go_wp2_with fail
  refine (HU2.out w8).mono ?_
  rintro e w9 ⟨rfl, hb1⟩
  have HBn := Hd (HB1.out.trans (hb1.mono HB1.out.size))
  clear HB1 hb1 g0 g1 x0 x1 x2 x3 x4 x5
  have HB1 := HBn
  clear HBn
  obtain ⟨g0, g1, x0, x1, x2, x3, x4, x5⟩ := HK.out w9 HB1.out
  go_wp2_with fail
  refine (HU3.out w9).mono ?_
  rintro e w10 ⟨rfl, hb1⟩
  have HBn := Hd (HB1.out.trans (hb1.mono HB1.out.size))
  clear HB1 hb1 g0 g1 x0 x1 x2 x3 x4 x5
  have HB1 := HBn
  clear HBn
  obtain ⟨g0, g1, x0, x1, x2, x3, x4, x5⟩ := HK.out w10 HB1.out
  by_cases hxb : b ≠ []
  · have t1 : 0 < b.length := List.length_pos_iff.2 hxb
    have hR : Hid (E = 3) := by show _ = _; rw [HR4.out, if_pos (.inr (.inr (.inr (.inl ⟨UB.out, hxb⟩))))]
    clear HR4
    go_wp2
    go_ret
    exact ⟨ret_i hR.out.symm, HB0.out.trans (HB1.out.mono HB0.out.size)⟩
  have tb : ¬ 0 < b.length := fun h => hxb (List.length_pos_iff.1 h)
  go_wp2_with fail
  refine (HU4.out w10).mono ?_
  rintro e w11 ⟨rfl, hb1⟩
  have HBn := Hd (HB1.out.trans (hb1.mono HB1.out.size))
  clear HB1 hb1 g0 g1 x0 x1 x2 x3 x4 x5
  have HB1 := HBn
  clear HBn
  obtain ⟨g0, g1, x0, x1, x2, x3, x4, x5⟩ := HK.out w11 HB1.out
  by_cases hxf : f ≠ []
  · have t1 : 0 < f.length := List.length_pos_iff.2 hxf
    have hR : Hid (E = 3) := by show _ = _; rw [HR4.out, if_pos (.inr (.inr (.inr (.inr ⟨UF.out, hxf⟩))))]
    clear HR4
    go_wp2
    go_ret
    exact ⟨ret_i hR.out.symm, HB0.out.trans (HB1.out.mono HB0.out.size)⟩
  have tf : ¬ 0 < f.length := fun h => hxf (List.length_pos_iff.1 h)
  have hR : Hid (E = 0) := HR4.out.trans (if_neg (fun h => h.elim (fun h => hxq h.2) (fun h => h.elim (fun h => absurd (UN.out.symm.trans h.1) (by decide)) (fun h => h.elim (fun h => absurd (UA.out.symm.trans h.1) (by decide)) (fun h => h.elim (fun h => hxb h.2) (fun h => hxf h.2))))))
  clear HR4
  go_wp2
  go_ret
  exact ⟨ret_i hR.out.symm, HB0.out.trans (HB1.out.mono HB0.out.size)⟩
theorem rForm_011004b (g va vb vf : Value) (m k : Nat) (Q N : Int) (es : List Tri) (a b f : List Int) (w : World) (_hk : k < 9) (hg : GV w g m es) (ha : RI w va a) (hb : RI w vb b) (hf : RI w vf f) (_hm : m ≤ 12) (hkn : k = 4) (hN0 : ¬ N < 0)
    (uq : kq k = false) (un : kn k = true) (ua : ka k = true) (ub : kb k = false) (uf : kf k = false) :
    Calls Tryz.prog 37 #[g, .agg #[.int .i64 (k : Int), .int .i64 Q, .int .i64 N, va, vb, vf]] w fun e w' => e = .returned (.int .i64 (formG m k Q N a b f)) ∧ Below w.heap.size w w' := by
  have hU := fun (i : Nat) (W : World) (hi : i < 5) => uses_any k i (by omega) hi W
  obtain ⟨kk, hkk⟩ : ∃ kk : Int, kk = (k : Int) := ⟨_, rfl⟩
  rw [← hkk]
  rw [← hkk] at hU
  obtain ⟨Ag, cg, rfl, -⟩ := hg.open_
  obtain ⟨Aa, ca, rfl, -⟩ := ha.open_
  obtain ⟨Ab, cb, rfl, -⟩ := hb.open_
  obtain ⟨Af, cf, rfl, -⟩ := hf.open_
  obtain ⟨W0, hW0⟩ : ∃ W0, W0 = (w.alloc (.cells #[.int .i64 (m : Int), .slice Ag es.length cg] 25)).alloc (.cells #[.int .i64 kk, .int .i64 Q, .int .i64 N, .slice Aa a.length ca, .slice Ab b.length cb, .slice Af f.length cf] 47) := ⟨_, rfl⟩
  have hb0 : Below w.heap.size w W0 := by rw [hW0]; exact (below_alloc w _).alloc (by simp) _
  have hxg : BL W0 w.heap.size 25 [.int .i64 (m : Int), .slice Ag es.length cg] := by rw [hW0]; exact (BL.new' w _ _).alloc _
  have hxc : BL W0 (w.heap.size + 1) 47 [.int .i64 kk, .int .i64 Q, .int .i64 N, .slice Aa a.length ca, .slice Ab b.length cb, .slice Af f.length cf] := by
    rw [hW0]
    have := BL.new' (w.alloc (.cells #[.int .i64 (m : Int), .slice Ag es.length cg] 25)) #[.int .i64 kk, .int .i64 Q, .int .i64 N, .slice Aa a.length ca, .slice Ab b.length cb, .slice Af f.length cf] 47
    rwa [World.size_alloc] at this
  have HXg := Hd hxg
  have HXc := Hd hxc
  have HB0 := Hd hb0
  have HW0 := Hd hW0
  have HGv : Hid (∀ W, Below W0.heap.size W0 W → GV W (.agg #[.int .i64 (m : Int), .slice Ag es.length cg]) m es) := fun W h => hg.below (hb0.trans (h.mono hb0.size))
  have HA : Hid (∀ W, Below W0.heap.size W0 W → RI W (.slice Aa a.length ca) a) := fun W h => RI.below ha (hb0.trans (h.mono hb0.size))
  have HD : Hid (∀ W, Below W0.heap.size W0 W → RI W (.slice Ab b.length cb) b) := fun W h => RI.below hb (hb0.trans (h.mono hb0.size))
  have HF : Hid (∀ W, Below W0.heap.size W0 W → RI W (.slice Af f.length cf) f) := fun W h => RI.below hf (hb0.trans (h.mono hb0.size))
  have HR : Hid (formG m k Q N a b f = if (kq k = true ∧ ¬ (0 ≤ Q ∧ Q < m)) ∨ (kn k = true ∧ (N < kl k ∨ 12 < N)) then 2
    else if ka k = true ∧ checkE a m ≠ 0 then checkE a m
    else if kb k = true ∧ checkE b m ≠ 0 then checkE b m
    else if kf k = true ∧ facNG m f ≠ 0 then facNG m f
    else if (kq k = false ∧ Q ≠ 0) ∨ (kn k = false ∧ N ≠ 0) ∨ (ka k = false ∧ a ≠ []) ∨ (kb k = false ∧ b ≠ []) ∨ (kf k = false ∧ f ≠ []) then 3 else 0) := rfl
  generalize formG m k Q N a b f = E at *
  have hk0 : ¬ kk < 0 := by omega
  have hk8 : ¬ (8 : Int) < kk := by omega
  have HK : Hid (∀ W : World, Below W0.heap.size W0 W → W.cell? ⟨w.heap.size, 0, none⟩ = some (.int .i64 (m : Int)) ∧ W.cell? ⟨w.heap.size, 1, none⟩ = some (.slice Ag es.length cg) ∧ W.cell? ⟨w.heap.size + 1, 0, none⟩ = some (.int .i64 kk) ∧ W.cell? ⟨w.heap.size + 1, 1, none⟩ = some (.int .i64 Q) ∧ W.cell? ⟨w.heap.size + 1, 2, none⟩ = some (.int .i64 N) ∧ W.cell? ⟨w.heap.size + 1, 3, none⟩ = some (.slice Aa a.length ca) ∧ W.cell? ⟨w.heap.size + 1, 4, none⟩ = some (.slice Ab b.length cb) ∧ W.cell? ⟨w.heap.size + 1, 5, none⟩ = some (.slice Af f.length cf)) := fun W h =>
    ⟨(HXg.out.bel h).cell 0, (HXg.out.bel h).cell 1, (HXc.out.bel h).cell 0, (HXc.out.bel h).cell 1, (HXc.out.bel h).cell 2, (HXc.out.bel h).cell 3, (HXc.out.bel h).cell 4, (HXc.out.bel h).cell 5⟩
  have HU0 : Hid (∀ W, Calls Tryz.prog 61 #[.int .i64 kk, .int .i64 0] W fun e w' => e = .returned (.bool false) ∧ Below W.heap.size W w') := fun W => by
    have h := hU 0 W (by decide)
    rw [show usB k 0 = false from uq] at h
    exact h
  have HU1 : Hid (∀ W, Calls Tryz.prog 61 #[.int .i64 kk, .int .i64 1] W fun e w' => e = .returned (.bool true) ∧ Below W.heap.size W w') := fun W => by
    have h := hU 1 W (by decide)
    rw [show usB k 1 = true from un] at h
    exact h
  have HU2 : Hid (∀ W, Calls Tryz.prog 61 #[.int .i64 kk, .int .i64 2] W fun e w' => e = .returned (.bool true) ∧ Below W.heap.size W w') := fun W => by
    have h := hU 2 W (by decide)
    rw [show usB k 2 = true from ua] at h
    exact h
  have HU3 : Hid (∀ W, Calls Tryz.prog 61 #[.int .i64 kk, .int .i64 3] W fun e w' => e = .returned (.bool false) ∧ Below W.heap.size W w') := fun W => by
    have h := hU 3 W (by decide)
    rw [show usB k 3 = false from ub] at h
    exact h
  have HU4 : Hid (∀ W, Calls Tryz.prog 61 #[.int .i64 kk, .int .i64 4] W fun e w' => e = .returned (.bool false) ∧ Below W.heap.size W w') := fun W => by
    have h := hU 4 W (by decide)
    rw [show usB k 4 = false from uf] at h
    exact h
  have UQ := Hd uq
  have UN := Hd un
  have UA := Hd ua
  have UB := Hd ub
  have UF := Hd uf
  have HKl : Hid (kl k = -1) := by show _ = _; rw [hkn]; rfl
  have t3 : (kk == 3) = false := by rw [hkk, hkn]; rfl
  clear hU hxg hxc hb0 hW0 hg ha hb hf uq un ua ub uf hkk
  obtain ⟨g0, g1, x0, x1, x2, x3, x4, x5⟩ := HK.out W0 (Below.refl _ _)
  rw [HW0.out] at g0 g1 x0 x1 x2 x3 x4 x5
  have HB1 := Hd (Below.refl W0.heap.size W0)
  go_enter Tryz.func37, Tryz.ntmps37
  go_wp2_with fail
  rw [← HW0.out]
  refine (HU0.out W0).mono ?_
  rintro e w1 ⟨rfl, hb1⟩
  have HBn := Hd (HB1.out.trans (hb1.mono HB1.out.size))
  clear HB1 hb1 g0 g1 x0 x1 x2 x3 x4 x5
  have HB1 := HBn
  clear HBn
  obtain ⟨g0, g1, x0, x1, x2, x3, x4, x5⟩ := HK.out w1 HB1.out
  go_wp2_with fail
  refine (HU1.out w1).mono ?_
  rintro e w2 ⟨rfl, hb1⟩
  have HBn := Hd (HB1.out.trans (hb1.mono HB1.out.size))
  clear HB1 hb1 g0 g1 x0 x1 x2 x3 x4 x5
  have HB1 := HBn
  clear HBn
  obtain ⟨g0, g1, x0, x1, x2, x3, x4, x5⟩ := HK.out w2 HB1.out
  by_cases h12 : (12 : Int) < N
  · skip
    have hR : Hid (E = 2) := by show _ = _; rw [HR.out, if_pos (.inr ⟨UN.out, .inr h12⟩)]
    clear HR
    go_wp2
    go_ret
    exact ⟨ret_i hR.out.symm, HB0.out.trans (HB1.out.mono HB0.out.size)⟩
  have hm1 : ¬ N < -1 := by omega
  have HR1 : Hid (E = _) := HR.out.trans (if_neg (fun h => h.elim (fun h => absurd (UQ.out.symm.trans h.1) (by decide)) (fun h => by have := h.2; rw [HKl.out] at this; omega)))
  clear HR
  go_wp2_with fail
  refine (HU2.out w2).mono ?_
  rintro e w3 ⟨rfl, hb1⟩
  have HBn := Hd (HB1.out.trans (hb1.mono HB1.out.size))
  clear HB1 hb1 g0 g1 x0 x1 x2 x3 x4 x5
  have HB1 := HBn
  clear HBn
  obtain ⟨g0, g1, x0, x1, x2, x3, x4, x5⟩ := HK.out w3 HB1.out
  have HCk := Hd (rCheck_any _ a (m : Int) w3 (HA.out _ HB1.out))
  go_wp2_with fail
  refine HCk.out.mono ?_
  rintro e w4 ⟨rfl, rfl⟩
  clear HCk
  by_cases hEa : checkE a m ≠ 0
  · have hR : Hid (E = checkE a m) := by show _ = _; rw [HR1.out, if_pos ⟨UA.out, hEa⟩]
    generalize checkE a m = ce at *
    have t1 : (ce != 0) = true := by simpa using hEa
    clear HR1 hEa
    go_wp2
    go_ret
    exact ⟨ret_i hR.out.symm, HB0.out.trans (HB1.out.mono HB0.out.size)⟩
  have HR2 : Hid (E = _) := HR1.out.trans (if_neg (fun h => hEa h.2))
  have hEa' : checkE a m = 0 := by omega
  rw [hEa']
  clear HR1 hEa hEa'
  go_wp2_with fail
  refine (HU3.out w3).mono ?_
  rintro e w5 ⟨rfl, hb1⟩
  have HBn := Hd (HB1.out.trans (hb1.mono HB1.out.size))
  clear HB1 hb1 g0 g1 x0 x1 x2 x3 x4 x5
  have HB1 := HBn
  clear HBn
  obtain ⟨g0, g1, x0, x1, x2, x3, x4, x5⟩ := HK.out w5 HB1.out
  have HR3 : Hid (E = _) := HR2.out.trans (if_neg (fun h => absurd (UB.out.symm.trans h.1) (by decide)))
  clear HR2
  go_wp2_with fail
  refine (HU4.out w5).mono ?_
  rintro e w6 ⟨rfl, hb1⟩
  have HBn := Hd (HB1.out.trans (hb1.mono HB1.out.size))
  clear HB1 hb1 g0 g1 x0 x1 x2 x3 x4 x5
  have HB1 := HBn
  clear HBn
  obtain ⟨g0, g1, x0, x1, x2, x3, x4, x5⟩ := HK.out w6 HB1.out
  have HR4 : Hid (E = _) := HR3.out.trans (if_neg (fun h => absurd (UF.out.symm.trans h.1) (by decide)))
  clear HR3
  go_wp2_with fail
  refine (HU0.out w6).mono ?_
  rintro e w7 ⟨rfl, hb1⟩
  have HBn := Hd (HB1.out.trans (hb1.mono HB1.out.size))
  clear HB1 hb1 g0 g1 x0 x1 x2 x3 x4 x5
  have HB1 := HBn
  clear HBn
  obtain ⟨g0, g1, x0, x1, x2, x3, x4, x5⟩ := HK.out w7 HB1.out
  by_cases hxq : Q ≠ 0
  · have t1 : (Q != 0) = true := by simpa using hxq
    have hR : Hid (E = 3) := by show _ = _; rw [HR4.out, if_pos (.inl ⟨UQ.out, hxq⟩)]
    clear HR4
    go_wp2
    go_ret
    exact ⟨ret_i hR.out.symm, HB0.out.trans (HB1.out.mono HB0.out.size)⟩
  have tq : (Q != 0) = false := by simpa using hxq
  go_wp2_with fail
  refine (HU1.out w7).mono ?_
  rintro e w8 ⟨rfl, hb1⟩
  have HBn := Hd (HB1.out.trans (hb1.mono HB1.out.size))
  clear HB1 hb1 g0 g1 x0 x1 x2 x3 x4 x5
  have HB1 := HBn
  clear HBn
  obtain ⟨g0, g1, x0, x1, x2, x3, x4, x5⟩ := HK.out w8 HB1.out
  go_wp2_with fail
  refine (HU2.out w8).mono ?_
  rintro e w9 ⟨rfl, hb1⟩
  have HBn := Hd (HB1.out.trans (hb1.mono HB1.out.size))
  clear HB1 hb1 g0 g1 x0 x1 x2 x3 x4 x5
  have HB1 := HBn
  clear HBn
  obtain ⟨g0, g1, x0, x1, x2, x3, x4, x5⟩ := HK.out w9 HB1.out
  go_wp2_with fail
  refine (HU3.out w9).mono ?_
  rintro e w10 ⟨rfl, hb1⟩
  have HBn := Hd (HB1.out.trans (hb1.mono HB1.out.size))
  clear HB1 hb1 g0 g1 x0 x1 x2 x3 x4 x5
  have HB1 := HBn
  clear HBn
  obtain ⟨g0, g1, x0, x1, x2, x3, x4, x5⟩ := HK.out w10 HB1.out
  by_cases hxb : b ≠ []
  · have t1 : 0 < b.length := List.length_pos_iff.2 hxb
    have hR : Hid (E = 3) := by show _ = _; rw [HR4.out, if_pos (.inr (.inr (.inr (.inl ⟨UB.out, hxb⟩))))]
    clear HR4
    go_wp2
    go_ret
    exact ⟨ret_i hR.out.symm, HB0.out.trans (HB1.out.mono HB0.out.size)⟩
  have tb : ¬ 0 < b.length := fun h => hxb (List.length_pos_iff.1 h)
  go_wp2_with fail
  refine (HU4.out w10).mono ?_
  rintro e w11 ⟨rfl, hb1⟩
  have HBn := Hd (HB1.out.trans (hb1.mono HB1.out.size))
  clear HB1 hb1 g0 g1 x0 x1 x2 x3 x4 x5
  have HB1 := HBn
  clear HBn
  obtain ⟨g0, g1, x0, x1, x2, x3, x4, x5⟩ := HK.out w11 HB1.out
  by_cases hxf : f ≠ []
  · have t1 : 0 < f.length := List.length_pos_iff.2 hxf
    have hR : Hid (E = 3) := by show _ = _; rw [HR4.out, if_pos (.inr (.inr (.inr (.inr ⟨UF.out, hxf⟩))))]
    clear HR4
    go_wp2
    go_ret
    exact ⟨ret_i hR.out.symm, HB0.out.trans (HB1.out.mono HB0.out.size)⟩
  have tf : ¬ 0 < f.length := fun h => hxf (List.length_pos_iff.1 h)
  have hR : Hid (E = 0) := HR4.out.trans (if_neg (fun h => h.elim (fun h => hxq h.2) (fun h => h.elim (fun h => absurd (UN.out.symm.trans h.1) (by decide)) (fun h => h.elim (fun h => absurd (UA.out.symm.trans h.1) (by decide)) (fun h => h.elim (fun h => hxb h.2) (fun h => hxf h.2))))))
  clear HR4
  go_wp2
  go_ret
  exact ⟨ret_i hR.out.symm, HB0.out.trans (HB1.out.mono HB0.out.size)⟩
theorem rForm_10100 (g va vb vf : Value) (m k : Nat) (Q N : Int) (es : List Tri) (a b f : List Int) (w : World) (hk : k < 9) (hg : GV w g m es) (ha : RI w va a) (hb : RI w vb b) (hf : RI w vf f) (_hm : m ≤ 12)
    (uq : kq k = true) (un : kn k = false) (ua : ka k = true) (ub : kb k = false) (uf : kf k = false) :
    Calls Tryz.prog 37 #[g, .agg #[.int .i64 (k : Int), .int .i64 Q, .int .i64 N, va, vb, vf]] w fun e w' => e = .returned (.int .i64 (formG m k Q N a b f)) ∧ Below w.heap.size w w' := by
  have hU := fun (i : Nat) (W : World) (hi : i < 5) => uses_any k i (by omega) hi W
  obtain ⟨kk, hkk⟩ : ∃ kk : Int, kk = (k : Int) := ⟨_, rfl⟩
  rw [← hkk]
  rw [← hkk] at hU
  obtain ⟨Ag, cg, rfl, -⟩ := hg.open_
  obtain ⟨Aa, ca, rfl, -⟩ := ha.open_
  obtain ⟨Ab, cb, rfl, -⟩ := hb.open_
  obtain ⟨Af, cf, rfl, -⟩ := hf.open_
  obtain ⟨W0, hW0⟩ : ∃ W0, W0 = (w.alloc (.cells #[.int .i64 (m : Int), .slice Ag es.length cg] 25)).alloc (.cells #[.int .i64 kk, .int .i64 Q, .int .i64 N, .slice Aa a.length ca, .slice Ab b.length cb, .slice Af f.length cf] 47) := ⟨_, rfl⟩
  have hb0 : Below w.heap.size w W0 := by rw [hW0]; exact (below_alloc w _).alloc (by simp) _
  have hxg : BL W0 w.heap.size 25 [.int .i64 (m : Int), .slice Ag es.length cg] := by rw [hW0]; exact (BL.new' w _ _).alloc _
  have hxc : BL W0 (w.heap.size + 1) 47 [.int .i64 kk, .int .i64 Q, .int .i64 N, .slice Aa a.length ca, .slice Ab b.length cb, .slice Af f.length cf] := by
    rw [hW0]
    have := BL.new' (w.alloc (.cells #[.int .i64 (m : Int), .slice Ag es.length cg] 25)) #[.int .i64 kk, .int .i64 Q, .int .i64 N, .slice Aa a.length ca, .slice Ab b.length cb, .slice Af f.length cf] 47
    rwa [World.size_alloc] at this
  have HXg := Hd hxg
  have HXc := Hd hxc
  have HB0 := Hd hb0
  have HW0 := Hd hW0
  have HGv : Hid (∀ W, Below W0.heap.size W0 W → GV W (.agg #[.int .i64 (m : Int), .slice Ag es.length cg]) m es) := fun W h => hg.below (hb0.trans (h.mono hb0.size))
  have HA : Hid (∀ W, Below W0.heap.size W0 W → RI W (.slice Aa a.length ca) a) := fun W h => RI.below ha (hb0.trans (h.mono hb0.size))
  have HD : Hid (∀ W, Below W0.heap.size W0 W → RI W (.slice Ab b.length cb) b) := fun W h => RI.below hb (hb0.trans (h.mono hb0.size))
  have HF : Hid (∀ W, Below W0.heap.size W0 W → RI W (.slice Af f.length cf) f) := fun W h => RI.below hf (hb0.trans (h.mono hb0.size))
  have HR : Hid (formG m k Q N a b f = if (kq k = true ∧ ¬ (0 ≤ Q ∧ Q < m)) ∨ (kn k = true ∧ (N < kl k ∨ 12 < N)) then 2
    else if ka k = true ∧ checkE a m ≠ 0 then checkE a m
    else if kb k = true ∧ checkE b m ≠ 0 then checkE b m
    else if kf k = true ∧ facNG m f ≠ 0 then facNG m f
    else if (kq k = false ∧ Q ≠ 0) ∨ (kn k = false ∧ N ≠ 0) ∨ (ka k = false ∧ a ≠ []) ∨ (kb k = false ∧ b ≠ []) ∨ (kf k = false ∧ f ≠ []) then 3 else 0) := rfl
  generalize formG m k Q N a b f = E at *
  have hk0 : ¬ kk < 0 := by omega
  have hk8 : ¬ (8 : Int) < kk := by omega
  have HK : Hid (∀ W : World, Below W0.heap.size W0 W → W.cell? ⟨w.heap.size, 0, none⟩ = some (.int .i64 (m : Int)) ∧ W.cell? ⟨w.heap.size, 1, none⟩ = some (.slice Ag es.length cg) ∧ W.cell? ⟨w.heap.size + 1, 0, none⟩ = some (.int .i64 kk) ∧ W.cell? ⟨w.heap.size + 1, 1, none⟩ = some (.int .i64 Q) ∧ W.cell? ⟨w.heap.size + 1, 2, none⟩ = some (.int .i64 N) ∧ W.cell? ⟨w.heap.size + 1, 3, none⟩ = some (.slice Aa a.length ca) ∧ W.cell? ⟨w.heap.size + 1, 4, none⟩ = some (.slice Ab b.length cb) ∧ W.cell? ⟨w.heap.size + 1, 5, none⟩ = some (.slice Af f.length cf)) := fun W h =>
    ⟨(HXg.out.bel h).cell 0, (HXg.out.bel h).cell 1, (HXc.out.bel h).cell 0, (HXc.out.bel h).cell 1, (HXc.out.bel h).cell 2, (HXc.out.bel h).cell 3, (HXc.out.bel h).cell 4, (HXc.out.bel h).cell 5⟩
  have HU0 : Hid (∀ W, Calls Tryz.prog 61 #[.int .i64 kk, .int .i64 0] W fun e w' => e = .returned (.bool true) ∧ Below W.heap.size W w') := fun W => by
    have h := hU 0 W (by decide)
    rw [show usB k 0 = true from uq] at h
    exact h
  have HU1 : Hid (∀ W, Calls Tryz.prog 61 #[.int .i64 kk, .int .i64 1] W fun e w' => e = .returned (.bool false) ∧ Below W.heap.size W w') := fun W => by
    have h := hU 1 W (by decide)
    rw [show usB k 1 = false from un] at h
    exact h
  have HU2 : Hid (∀ W, Calls Tryz.prog 61 #[.int .i64 kk, .int .i64 2] W fun e w' => e = .returned (.bool true) ∧ Below W.heap.size W w') := fun W => by
    have h := hU 2 W (by decide)
    rw [show usB k 2 = true from ua] at h
    exact h
  have HU3 : Hid (∀ W, Calls Tryz.prog 61 #[.int .i64 kk, .int .i64 3] W fun e w' => e = .returned (.bool false) ∧ Below W.heap.size W w') := fun W => by
    have h := hU 3 W (by decide)
    rw [show usB k 3 = false from ub] at h
    exact h
  have HU4 : Hid (∀ W, Calls Tryz.prog 61 #[.int .i64 kk, .int .i64 4] W fun e w' => e = .returned (.bool false) ∧ Below W.heap.size W w') := fun W => by
    have h := hU 4 W (by decide)
    rw [show usB k 4 = false from uf] at h
    exact h
  have UQ := Hd uq
  have UN := Hd un
  have UA := Hd ua
  have UB := Hd ub
  have UF := Hd uf
  skip
  skip
  clear hU hxg hxc hb0 hW0 hg ha hb hf uq un ua ub uf hkk
  obtain ⟨g0, g1, x0, x1, x2, x3, x4, x5⟩ := HK.out W0 (Below.refl _ _)
  rw [HW0.out] at g0 g1 x0 x1 x2 x3 x4 x5
  have HB1 := Hd (Below.refl W0.heap.size W0)
  go_enter Tryz.func37, Tryz.ntmps37
  go_wp2_with fail
  rw [← HW0.out]
  refine (HU0.out W0).mono ?_
  rintro e w1 ⟨rfl, hb1⟩
  have HBn := Hd (HB1.out.trans (hb1.mono HB1.out.size))
  clear HB1 hb1 g0 g1 x0 x1 x2 x3 x4 x5
  have HB1 := HBn
  clear HBn
  obtain ⟨g0, g1, x0, x1, x2, x3, x4, x5⟩ := HK.out w1 HB1.out
  have HV := Hd (rVertex_any _ (m : Int) es Q w1 (HGv.out _ HB1.out))
  by_cases hQ : 0 ≤ Q ∧ Q < m
  rotate_left
  · rw [show vtxB (m : Int) Q = false by unfold vtxB; simp; omega] at HV
    go_wp2_with fail
    refine HV.out.mono ?_
    rintro e wv ⟨rfl, hb1⟩
    have HBn := Hd (HB1.out.trans (hb1.mono HB1.out.size))
    have hR : Hid (E = 2) := by show _ = _; rw [HR.out, if_pos (.inl ⟨UQ.out, hQ⟩)]
    clear HR hb1 g0 g1 x0 x1 x2 x3 x4 x5
    go_wp2
    go_ret
    exact ⟨ret_i hR.out.symm, HB0.out.trans (HBn.out.mono HB0.out.size)⟩
  rw [show vtxB (m : Int) Q = true by unfold vtxB; simp; omega] at HV
  go_wp2_with fail
  refine HV.out.mono ?_
  rintro e w2 ⟨rfl, hb1⟩
  have HBn := Hd (HB1.out.trans (hb1.mono HB1.out.size))
  clear HB1 hb1 g0 g1 x0 x1 x2 x3 x4 x5
  have HB1 := HBn
  clear HBn
  obtain ⟨g0, g1, x0, x1, x2, x3, x4, x5⟩ := HK.out w2 HB1.out
  clear HV
  go_wp2_with fail
  refine (HU1.out w2).mono ?_
  rintro e w3 ⟨rfl, hb1⟩
  have HBn := Hd (HB1.out.trans (hb1.mono HB1.out.size))
  clear HB1 hb1 g0 g1 x0 x1 x2 x3 x4 x5
  have HB1 := HBn
  clear HBn
  obtain ⟨g0, g1, x0, x1, x2, x3, x4, x5⟩ := HK.out w3 HB1.out
  have HR1 : Hid (E = _) := HR.out.trans (if_neg (fun h => h.elim (fun h => h.2 hQ) (fun h => absurd (UN.out.symm.trans h.1) (by decide))))
  clear HR
  go_wp2_with fail
  refine (HU2.out w3).mono ?_
  rintro e w4 ⟨rfl, hb1⟩
  have HBn := Hd (HB1.out.trans (hb1.mono HB1.out.size))
  clear HB1 hb1 g0 g1 x0 x1 x2 x3 x4 x5
  have HB1 := HBn
  clear HBn
  obtain ⟨g0, g1, x0, x1, x2, x3, x4, x5⟩ := HK.out w4 HB1.out
  have HCk := Hd (rCheck_any _ a (m : Int) w4 (HA.out _ HB1.out))
  go_wp2_with fail
  refine HCk.out.mono ?_
  rintro e w5 ⟨rfl, rfl⟩
  clear HCk
  by_cases hEa : checkE a m ≠ 0
  · have hR : Hid (E = checkE a m) := by show _ = _; rw [HR1.out, if_pos ⟨UA.out, hEa⟩]
    generalize checkE a m = ce at *
    have t1 : (ce != 0) = true := by simpa using hEa
    clear HR1 hEa
    go_wp2
    go_ret
    exact ⟨ret_i hR.out.symm, HB0.out.trans (HB1.out.mono HB0.out.size)⟩
  have HR2 : Hid (E = _) := HR1.out.trans (if_neg (fun h => hEa h.2))
  have hEa' : checkE a m = 0 := by omega
  rw [hEa']
  clear HR1 hEa hEa'
  go_wp2_with fail
  refine (HU3.out w4).mono ?_
  rintro e w6 ⟨rfl, hb1⟩
  have HBn := Hd (HB1.out.trans (hb1.mono HB1.out.size))
  clear HB1 hb1 g0 g1 x0 x1 x2 x3 x4 x5
  have HB1 := HBn
  clear HBn
  obtain ⟨g0, g1, x0, x1, x2, x3, x4, x5⟩ := HK.out w6 HB1.out
  have HR3 : Hid (E = _) := HR2.out.trans (if_neg (fun h => absurd (UB.out.symm.trans h.1) (by decide)))
  clear HR2
  go_wp2_with fail
  refine (HU4.out w6).mono ?_
  rintro e w7 ⟨rfl, hb1⟩
  have HBn := Hd (HB1.out.trans (hb1.mono HB1.out.size))
  clear HB1 hb1 g0 g1 x0 x1 x2 x3 x4 x5
  have HB1 := HBn
  clear HBn
  obtain ⟨g0, g1, x0, x1, x2, x3, x4, x5⟩ := HK.out w7 HB1.out
  have HR4 : Hid (E = _) := HR3.out.trans (if_neg (fun h => absurd (UF.out.symm.trans h.1) (by decide)))
  clear HR3
  go_wp2_with fail
  refine (HU0.out w7).mono ?_
  rintro e w8 ⟨rfl, hb1⟩
  have HBn := Hd (HB1.out.trans (hb1.mono HB1.out.size))
  clear HB1 hb1 g0 g1 x0 x1 x2 x3 x4 x5
  have HB1 := HBn
  clear HBn
  obtain ⟨g0, g1, x0, x1, x2, x3, x4, x5⟩ := HK.out w8 HB1.out
  go_wp2_with fail
  refine (HU1.out w8).mono ?_
  rintro e w9 ⟨rfl, hb1⟩
  have HBn := Hd (HB1.out.trans (hb1.mono HB1.out.size))
  clear HB1 hb1 g0 g1 x0 x1 x2 x3 x4 x5
  have HB1 := HBn
  clear HBn
  obtain ⟨g0, g1, x0, x1, x2, x3, x4, x5⟩ := HK.out w9 HB1.out
  by_cases hxn : N ≠ 0
  · have t1 : (N != 0) = true := by simpa using hxn
    have hR : Hid (E = 3) := by show _ = _; rw [HR4.out, if_pos (.inr (.inl ⟨UN.out, hxn⟩))]
    clear HR4
    go_wp2
    go_ret
    exact ⟨ret_i hR.out.symm, HB0.out.trans (HB1.out.mono HB0.out.size)⟩
  have tn : (N != 0) = false := by simpa using hxn
  go_wp2_with fail
  refine (HU2.out w9).mono ?_
  rintro e w10 ⟨rfl, hb1⟩
  have HBn := Hd (HB1.out.trans (hb1.mono HB1.out.size))
  clear HB1 hb1 g0 g1 x0 x1 x2 x3 x4 x5
  have HB1 := HBn
  clear HBn
  obtain ⟨g0, g1, x0, x1, x2, x3, x4, x5⟩ := HK.out w10 HB1.out
  go_wp2_with fail
  refine (HU3.out w10).mono ?_
  rintro e w11 ⟨rfl, hb1⟩
  have HBn := Hd (HB1.out.trans (hb1.mono HB1.out.size))
  clear HB1 hb1 g0 g1 x0 x1 x2 x3 x4 x5
  have HB1 := HBn
  clear HBn
  obtain ⟨g0, g1, x0, x1, x2, x3, x4, x5⟩ := HK.out w11 HB1.out
  by_cases hxb : b ≠ []
  · have t1 : 0 < b.length := List.length_pos_iff.2 hxb
    have hR : Hid (E = 3) := by show _ = _; rw [HR4.out, if_pos (.inr (.inr (.inr (.inl ⟨UB.out, hxb⟩))))]
    clear HR4
    go_wp2
    go_ret
    exact ⟨ret_i hR.out.symm, HB0.out.trans (HB1.out.mono HB0.out.size)⟩
  have tb : ¬ 0 < b.length := fun h => hxb (List.length_pos_iff.1 h)
  go_wp2_with fail
  refine (HU4.out w11).mono ?_
  rintro e w12 ⟨rfl, hb1⟩
  have HBn := Hd (HB1.out.trans (hb1.mono HB1.out.size))
  clear HB1 hb1 g0 g1 x0 x1 x2 x3 x4 x5
  have HB1 := HBn
  clear HBn
  obtain ⟨g0, g1, x0, x1, x2, x3, x4, x5⟩ := HK.out w12 HB1.out
  by_cases hxf : f ≠ []
  · have t1 : 0 < f.length := List.length_pos_iff.2 hxf
    have hR : Hid (E = 3) := by show _ = _; rw [HR4.out, if_pos (.inr (.inr (.inr (.inr ⟨UF.out, hxf⟩))))]
    clear HR4
    go_wp2
    go_ret
    exact ⟨ret_i hR.out.symm, HB0.out.trans (HB1.out.mono HB0.out.size)⟩
  have tf : ¬ 0 < f.length := fun h => hxf (List.length_pos_iff.1 h)
  have hR : Hid (E = 0) := HR4.out.trans (if_neg (fun h => h.elim (fun h => absurd (UQ.out.symm.trans h.1) (by decide)) (fun h => h.elim (fun h => hxn h.2) (fun h => h.elim (fun h => absurd (UA.out.symm.trans h.1) (by decide)) (fun h => h.elim (fun h => hxb h.2) (fun h => hxf h.2))))))
  clear HR4
  go_wp2
  go_ret
  exact ⟨ret_i hR.out.symm, HB0.out.trans (HB1.out.mono HB0.out.size)⟩
theorem rForm_10110 (g va vb vf : Value) (m k : Nat) (Q N : Int) (es : List Tri) (a b f : List Int) (w : World) (hk : k < 9) (hg : GV w g m es) (ha : RI w va a) (hb : RI w vb b) (hf : RI w vf f) (_hm : m ≤ 12)
    (uq : kq k = true) (un : kn k = false) (ua : ka k = true) (ub : kb k = true) (uf : kf k = false) :
    Calls Tryz.prog 37 #[g, .agg #[.int .i64 (k : Int), .int .i64 Q, .int .i64 N, va, vb, vf]] w fun e w' => e = .returned (.int .i64 (formG m k Q N a b f)) ∧ Below w.heap.size w w' := by
  have hU := fun (i : Nat) (W : World) (hi : i < 5) => uses_any k i (by omega) hi W
  obtain ⟨kk, hkk⟩ : ∃ kk : Int, kk = (k : Int) := ⟨_, rfl⟩
  rw [← hkk]
  rw [← hkk] at hU
  obtain ⟨Ag, cg, rfl, -⟩ := hg.open_
  obtain ⟨Aa, ca, rfl, -⟩ := ha.open_
  obtain ⟨Ab, cb, rfl, -⟩ := hb.open_
  obtain ⟨Af, cf, rfl, -⟩ := hf.open_
  obtain ⟨W0, hW0⟩ : ∃ W0, W0 = (w.alloc (.cells #[.int .i64 (m : Int), .slice Ag es.length cg] 25)).alloc (.cells #[.int .i64 kk, .int .i64 Q, .int .i64 N, .slice Aa a.length ca, .slice Ab b.length cb, .slice Af f.length cf] 47) := ⟨_, rfl⟩
  have hb0 : Below w.heap.size w W0 := by rw [hW0]; exact (below_alloc w _).alloc (by simp) _
  have hxg : BL W0 w.heap.size 25 [.int .i64 (m : Int), .slice Ag es.length cg] := by rw [hW0]; exact (BL.new' w _ _).alloc _
  have hxc : BL W0 (w.heap.size + 1) 47 [.int .i64 kk, .int .i64 Q, .int .i64 N, .slice Aa a.length ca, .slice Ab b.length cb, .slice Af f.length cf] := by
    rw [hW0]
    have := BL.new' (w.alloc (.cells #[.int .i64 (m : Int), .slice Ag es.length cg] 25)) #[.int .i64 kk, .int .i64 Q, .int .i64 N, .slice Aa a.length ca, .slice Ab b.length cb, .slice Af f.length cf] 47
    rwa [World.size_alloc] at this
  have HXg := Hd hxg
  have HXc := Hd hxc
  have HB0 := Hd hb0
  have HW0 := Hd hW0
  have HGv : Hid (∀ W, Below W0.heap.size W0 W → GV W (.agg #[.int .i64 (m : Int), .slice Ag es.length cg]) m es) := fun W h => hg.below (hb0.trans (h.mono hb0.size))
  have HA : Hid (∀ W, Below W0.heap.size W0 W → RI W (.slice Aa a.length ca) a) := fun W h => RI.below ha (hb0.trans (h.mono hb0.size))
  have HD : Hid (∀ W, Below W0.heap.size W0 W → RI W (.slice Ab b.length cb) b) := fun W h => RI.below hb (hb0.trans (h.mono hb0.size))
  have HF : Hid (∀ W, Below W0.heap.size W0 W → RI W (.slice Af f.length cf) f) := fun W h => RI.below hf (hb0.trans (h.mono hb0.size))
  have HR : Hid (formG m k Q N a b f = if (kq k = true ∧ ¬ (0 ≤ Q ∧ Q < m)) ∨ (kn k = true ∧ (N < kl k ∨ 12 < N)) then 2
    else if ka k = true ∧ checkE a m ≠ 0 then checkE a m
    else if kb k = true ∧ checkE b m ≠ 0 then checkE b m
    else if kf k = true ∧ facNG m f ≠ 0 then facNG m f
    else if (kq k = false ∧ Q ≠ 0) ∨ (kn k = false ∧ N ≠ 0) ∨ (ka k = false ∧ a ≠ []) ∨ (kb k = false ∧ b ≠ []) ∨ (kf k = false ∧ f ≠ []) then 3 else 0) := rfl
  generalize formG m k Q N a b f = E at *
  have hk0 : ¬ kk < 0 := by omega
  have hk8 : ¬ (8 : Int) < kk := by omega
  have HK : Hid (∀ W : World, Below W0.heap.size W0 W → W.cell? ⟨w.heap.size, 0, none⟩ = some (.int .i64 (m : Int)) ∧ W.cell? ⟨w.heap.size, 1, none⟩ = some (.slice Ag es.length cg) ∧ W.cell? ⟨w.heap.size + 1, 0, none⟩ = some (.int .i64 kk) ∧ W.cell? ⟨w.heap.size + 1, 1, none⟩ = some (.int .i64 Q) ∧ W.cell? ⟨w.heap.size + 1, 2, none⟩ = some (.int .i64 N) ∧ W.cell? ⟨w.heap.size + 1, 3, none⟩ = some (.slice Aa a.length ca) ∧ W.cell? ⟨w.heap.size + 1, 4, none⟩ = some (.slice Ab b.length cb) ∧ W.cell? ⟨w.heap.size + 1, 5, none⟩ = some (.slice Af f.length cf)) := fun W h =>
    ⟨(HXg.out.bel h).cell 0, (HXg.out.bel h).cell 1, (HXc.out.bel h).cell 0, (HXc.out.bel h).cell 1, (HXc.out.bel h).cell 2, (HXc.out.bel h).cell 3, (HXc.out.bel h).cell 4, (HXc.out.bel h).cell 5⟩
  have HU0 : Hid (∀ W, Calls Tryz.prog 61 #[.int .i64 kk, .int .i64 0] W fun e w' => e = .returned (.bool true) ∧ Below W.heap.size W w') := fun W => by
    have h := hU 0 W (by decide)
    rw [show usB k 0 = true from uq] at h
    exact h
  have HU1 : Hid (∀ W, Calls Tryz.prog 61 #[.int .i64 kk, .int .i64 1] W fun e w' => e = .returned (.bool false) ∧ Below W.heap.size W w') := fun W => by
    have h := hU 1 W (by decide)
    rw [show usB k 1 = false from un] at h
    exact h
  have HU2 : Hid (∀ W, Calls Tryz.prog 61 #[.int .i64 kk, .int .i64 2] W fun e w' => e = .returned (.bool true) ∧ Below W.heap.size W w') := fun W => by
    have h := hU 2 W (by decide)
    rw [show usB k 2 = true from ua] at h
    exact h
  have HU3 : Hid (∀ W, Calls Tryz.prog 61 #[.int .i64 kk, .int .i64 3] W fun e w' => e = .returned (.bool true) ∧ Below W.heap.size W w') := fun W => by
    have h := hU 3 W (by decide)
    rw [show usB k 3 = true from ub] at h
    exact h
  have HU4 : Hid (∀ W, Calls Tryz.prog 61 #[.int .i64 kk, .int .i64 4] W fun e w' => e = .returned (.bool false) ∧ Below W.heap.size W w') := fun W => by
    have h := hU 4 W (by decide)
    rw [show usB k 4 = false from uf] at h
    exact h
  have UQ := Hd uq
  have UN := Hd un
  have UA := Hd ua
  have UB := Hd ub
  have UF := Hd uf
  skip
  skip
  clear hU hxg hxc hb0 hW0 hg ha hb hf uq un ua ub uf hkk
  obtain ⟨g0, g1, x0, x1, x2, x3, x4, x5⟩ := HK.out W0 (Below.refl _ _)
  rw [HW0.out] at g0 g1 x0 x1 x2 x3 x4 x5
  have HB1 := Hd (Below.refl W0.heap.size W0)
  go_enter Tryz.func37, Tryz.ntmps37
  go_wp2_with fail
  rw [← HW0.out]
  refine (HU0.out W0).mono ?_
  rintro e w1 ⟨rfl, hb1⟩
  have HBn := Hd (HB1.out.trans (hb1.mono HB1.out.size))
  clear HB1 hb1 g0 g1 x0 x1 x2 x3 x4 x5
  have HB1 := HBn
  clear HBn
  obtain ⟨g0, g1, x0, x1, x2, x3, x4, x5⟩ := HK.out w1 HB1.out
  have HV := Hd (rVertex_any _ (m : Int) es Q w1 (HGv.out _ HB1.out))
  by_cases hQ : 0 ≤ Q ∧ Q < m
  rotate_left
  · rw [show vtxB (m : Int) Q = false by unfold vtxB; simp; omega] at HV
    go_wp2_with fail
    refine HV.out.mono ?_
    rintro e wv ⟨rfl, hb1⟩
    have HBn := Hd (HB1.out.trans (hb1.mono HB1.out.size))
    have hR : Hid (E = 2) := by show _ = _; rw [HR.out, if_pos (.inl ⟨UQ.out, hQ⟩)]
    clear HR hb1 g0 g1 x0 x1 x2 x3 x4 x5
    go_wp2
    go_ret
    exact ⟨ret_i hR.out.symm, HB0.out.trans (HBn.out.mono HB0.out.size)⟩
  rw [show vtxB (m : Int) Q = true by unfold vtxB; simp; omega] at HV
  go_wp2_with fail
  refine HV.out.mono ?_
  rintro e w2 ⟨rfl, hb1⟩
  have HBn := Hd (HB1.out.trans (hb1.mono HB1.out.size))
  clear HB1 hb1 g0 g1 x0 x1 x2 x3 x4 x5
  have HB1 := HBn
  clear HBn
  obtain ⟨g0, g1, x0, x1, x2, x3, x4, x5⟩ := HK.out w2 HB1.out
  clear HV
  go_wp2_with fail
  refine (HU1.out w2).mono ?_
  rintro e w3 ⟨rfl, hb1⟩
  have HBn := Hd (HB1.out.trans (hb1.mono HB1.out.size))
  clear HB1 hb1 g0 g1 x0 x1 x2 x3 x4 x5
  have HB1 := HBn
  clear HBn
  obtain ⟨g0, g1, x0, x1, x2, x3, x4, x5⟩ := HK.out w3 HB1.out
  have HR1 : Hid (E = _) := HR.out.trans (if_neg (fun h => h.elim (fun h => h.2 hQ) (fun h => absurd (UN.out.symm.trans h.1) (by decide))))
  clear HR
  go_wp2_with fail
  refine (HU2.out w3).mono ?_
  rintro e w4 ⟨rfl, hb1⟩
  have HBn := Hd (HB1.out.trans (hb1.mono HB1.out.size))
  clear HB1 hb1 g0 g1 x0 x1 x2 x3 x4 x5
  have HB1 := HBn
  clear HBn
  obtain ⟨g0, g1, x0, x1, x2, x3, x4, x5⟩ := HK.out w4 HB1.out
  have HCk := Hd (rCheck_any _ a (m : Int) w4 (HA.out _ HB1.out))
  go_wp2_with fail
  refine HCk.out.mono ?_
  rintro e w5 ⟨rfl, rfl⟩
  clear HCk
  by_cases hEa : checkE a m ≠ 0
  · have hR : Hid (E = checkE a m) := by show _ = _; rw [HR1.out, if_pos ⟨UA.out, hEa⟩]
    generalize checkE a m = ce at *
    have t1 : (ce != 0) = true := by simpa using hEa
    clear HR1 hEa
    go_wp2
    go_ret
    exact ⟨ret_i hR.out.symm, HB0.out.trans (HB1.out.mono HB0.out.size)⟩
  have HR2 : Hid (E = _) := HR1.out.trans (if_neg (fun h => hEa h.2))
  have hEa' : checkE a m = 0 := by omega
  rw [hEa']
  clear HR1 hEa hEa'
  go_wp2_with fail
  refine (HU3.out w4).mono ?_
  rintro e w6 ⟨rfl, hb1⟩
  have HBn := Hd (HB1.out.trans (hb1.mono HB1.out.size))
  clear HB1 hb1 g0 g1 x0 x1 x2 x3 x4 x5
  have HB1 := HBn
  clear HBn
  obtain ⟨g0, g1, x0, x1, x2, x3, x4, x5⟩ := HK.out w6 HB1.out
  have HCk := Hd (rCheck_any _ b (m : Int) w6 (HD.out _ HB1.out))
  go_wp2_with fail
  refine HCk.out.mono ?_
  rintro e w7 ⟨rfl, rfl⟩
  clear HCk
  by_cases hEb : checkE b m ≠ 0
  · have hR : Hid (E = checkE b m) := by show _ = _; rw [HR2.out, if_pos ⟨UB.out, hEb⟩]
    generalize checkE b m = ce at *
    have t1 : (ce != 0) = true := by simpa using hEb
    clear HR2 hEb
    go_wp2
    go_ret
    exact ⟨ret_i hR.out.symm, HB0.out.trans (HB1.out.mono HB0.out.size)⟩
  have HR3 : Hid (E = _) := HR2.out.trans (if_neg (fun h => hEb h.2))
  have hEb' : checkE b m = 0 := by omega
  rw [hEb']
  clear HR2 hEb hEb'
  go_wp2_with fail
  refine (HU4.out w6).mono ?_
  rintro e w8 ⟨rfl, hb1⟩
  have HBn := Hd (HB1.out.trans (hb1.mono HB1.out.size))
  clear HB1 hb1 g0 g1 x0 x1 x2 x3 x4 x5
  have HB1 := HBn
  clear HBn
  obtain ⟨g0, g1, x0, x1, x2, x3, x4, x5⟩ := HK.out w8 HB1.out
  have HR4 : Hid (E = _) := HR3.out.trans (if_neg (fun h => absurd (UF.out.symm.trans h.1) (by decide)))
  clear HR3
  go_wp2_with fail
  refine (HU0.out w8).mono ?_
  rintro e w9 ⟨rfl, hb1⟩
  have HBn := Hd (HB1.out.trans (hb1.mono HB1.out.size))
  clear HB1 hb1 g0 g1 x0 x1 x2 x3 x4 x5
  have HB1 := HBn
  clear HBn
  obtain ⟨g0, g1, x0, x1, x2, x3, x4, x5⟩ := HK.out w9 HB1.out
  go_wp2_with fail
  refine (HU1.out w9).mono ?_
  rintro e w10 ⟨rfl, hb1⟩
  have HBn := Hd (HB1.out.trans (hb1.mono HB1.out.size))
  clear HB1 hb1 g0 g1 x0 x1 x2 x3 x4 x5
  have HB1 := HBn
  clear HBn
  obtain ⟨g0, g1, x0, x1, x2, x3, x4, x5⟩ := HK.out w10 HB1.out
  by_cases hxn : N ≠ 0
  · have t1 : (N != 0) = true := by simpa using hxn
    have hR : Hid (E = 3) := by show _ = _; rw [HR4.out, if_pos (.inr (.inl ⟨UN.out, hxn⟩))]
    clear HR4
    go_wp2
    go_ret
    exact ⟨ret_i hR.out.symm, HB0.out.trans (HB1.out.mono HB0.out.size)⟩
  have tn : (N != 0) = false := by simpa using hxn
  go_wp2_with fail
  refine (HU2.out w10).mono ?_
  rintro e w11 ⟨rfl, hb1⟩
  have HBn := Hd (HB1.out.trans (hb1.mono HB1.out.size))
  clear HB1 hb1 g0 g1 x0 x1 x2 x3 x4 x5
  have HB1 := HBn
  clear HBn
  obtain ⟨g0, g1, x0, x1, x2, x3, x4, x5⟩ := HK.out w11 HB1.out
  go_wp2_with fail
  refine (HU3.out w11).mono ?_
  rintro e w12 ⟨rfl, hb1⟩
  have HBn := Hd (HB1.out.trans (hb1.mono HB1.out.size))
  clear HB1 hb1 g0 g1 x0 x1 x2 x3 x4 x5
  have HB1 := HBn
  clear HBn
  obtain ⟨g0, g1, x0, x1, x2, x3, x4, x5⟩ := HK.out w12 HB1.out
  go_wp2_with fail
  refine (HU4.out w12).mono ?_
  rintro e w13 ⟨rfl, hb1⟩
  have HBn := Hd (HB1.out.trans (hb1.mono HB1.out.size))
  clear HB1 hb1 g0 g1 x0 x1 x2 x3 x4 x5
  have HB1 := HBn
  clear HBn
  obtain ⟨g0, g1, x0, x1, x2, x3, x4, x5⟩ := HK.out w13 HB1.out
  by_cases hxf : f ≠ []
  · have t1 : 0 < f.length := List.length_pos_iff.2 hxf
    have hR : Hid (E = 3) := by show _ = _; rw [HR4.out, if_pos (.inr (.inr (.inr (.inr ⟨UF.out, hxf⟩))))]
    clear HR4
    go_wp2
    go_ret
    exact ⟨ret_i hR.out.symm, HB0.out.trans (HB1.out.mono HB0.out.size)⟩
  have tf : ¬ 0 < f.length := fun h => hxf (List.length_pos_iff.1 h)
  have hR : Hid (E = 0) := HR4.out.trans (if_neg (fun h => h.elim (fun h => absurd (UQ.out.symm.trans h.1) (by decide)) (fun h => h.elim (fun h => hxn h.2) (fun h => h.elim (fun h => absurd (UA.out.symm.trans h.1) (by decide)) (fun h => h.elim (fun h => absurd (UB.out.symm.trans h.1) (by decide)) (fun h => hxf h.2))))))
  clear HR4
  go_wp2
  go_ret
  exact ⟨ret_i hR.out.symm, HB0.out.trans (HB1.out.mono HB0.out.size)⟩
theorem rForm_00001 (g va vb vf : Value) (m k : Nat) (Q N : Int) (es : List Tri) (a b f : List Int) (w : World) (hk : k < 9) (hg : GV w g m es) (ha : RI w va a) (hb : RI w vb b) (hf : RI w vf f) (hm : m ≤ 12)
    (uq : kq k = false) (un : kn k = false) (ua : ka k = false) (ub : kb k = false) (uf : kf k = true) :
    Calls Tryz.prog 37 #[g, .agg #[.int .i64 (k : Int), .int .i64 Q, .int .i64 N, va, vb, vf]] w fun e w' => e = .returned (.int .i64 (formG m k Q N a b f)) ∧ Below w.heap.size w w' := by
  have hU := fun (i : Nat) (W : World) (hi : i < 5) => uses_any k i (by omega) hi W
  obtain ⟨kk, hkk⟩ : ∃ kk : Int, kk = (k : Int) := ⟨_, rfl⟩
  rw [← hkk]
  rw [← hkk] at hU
  obtain ⟨Ag, cg, rfl, -⟩ := hg.open_
  obtain ⟨Aa, ca, rfl, -⟩ := ha.open_
  obtain ⟨Ab, cb, rfl, -⟩ := hb.open_
  obtain ⟨Af, cf, rfl, -⟩ := hf.open_
  obtain ⟨W0, hW0⟩ : ∃ W0, W0 = (w.alloc (.cells #[.int .i64 (m : Int), .slice Ag es.length cg] 25)).alloc (.cells #[.int .i64 kk, .int .i64 Q, .int .i64 N, .slice Aa a.length ca, .slice Ab b.length cb, .slice Af f.length cf] 47) := ⟨_, rfl⟩
  have hb0 : Below w.heap.size w W0 := by rw [hW0]; exact (below_alloc w _).alloc (by simp) _
  have hxg : BL W0 w.heap.size 25 [.int .i64 (m : Int), .slice Ag es.length cg] := by rw [hW0]; exact (BL.new' w _ _).alloc _
  have hxc : BL W0 (w.heap.size + 1) 47 [.int .i64 kk, .int .i64 Q, .int .i64 N, .slice Aa a.length ca, .slice Ab b.length cb, .slice Af f.length cf] := by
    rw [hW0]
    have := BL.new' (w.alloc (.cells #[.int .i64 (m : Int), .slice Ag es.length cg] 25)) #[.int .i64 kk, .int .i64 Q, .int .i64 N, .slice Aa a.length ca, .slice Ab b.length cb, .slice Af f.length cf] 47
    rwa [World.size_alloc] at this
  have HXg := Hd hxg
  have HXc := Hd hxc
  have HB0 := Hd hb0
  have HW0 := Hd hW0
  have HGv : Hid (∀ W, Below W0.heap.size W0 W → GV W (.agg #[.int .i64 (m : Int), .slice Ag es.length cg]) m es) := fun W h => hg.below (hb0.trans (h.mono hb0.size))
  have HA : Hid (∀ W, Below W0.heap.size W0 W → RI W (.slice Aa a.length ca) a) := fun W h => RI.below ha (hb0.trans (h.mono hb0.size))
  have HD : Hid (∀ W, Below W0.heap.size W0 W → RI W (.slice Ab b.length cb) b) := fun W h => RI.below hb (hb0.trans (h.mono hb0.size))
  have HF : Hid (∀ W, Below W0.heap.size W0 W → RI W (.slice Af f.length cf) f) := fun W h => RI.below hf (hb0.trans (h.mono hb0.size))
  have HR : Hid (formG m k Q N a b f = if (kq k = true ∧ ¬ (0 ≤ Q ∧ Q < m)) ∨ (kn k = true ∧ (N < kl k ∨ 12 < N)) then 2
    else if ka k = true ∧ checkE a m ≠ 0 then checkE a m
    else if kb k = true ∧ checkE b m ≠ 0 then checkE b m
    else if kf k = true ∧ facNG m f ≠ 0 then facNG m f
    else if (kq k = false ∧ Q ≠ 0) ∨ (kn k = false ∧ N ≠ 0) ∨ (ka k = false ∧ a ≠ []) ∨ (kb k = false ∧ b ≠ []) ∨ (kf k = false ∧ f ≠ []) then 3 else 0) := rfl
  generalize formG m k Q N a b f = E at *
  have hk0 : ¬ kk < 0 := by omega
  have hk8 : ¬ (8 : Int) < kk := by omega
  have HK : Hid (∀ W : World, Below W0.heap.size W0 W → W.cell? ⟨w.heap.size, 0, none⟩ = some (.int .i64 (m : Int)) ∧ W.cell? ⟨w.heap.size, 1, none⟩ = some (.slice Ag es.length cg) ∧ W.cell? ⟨w.heap.size + 1, 0, none⟩ = some (.int .i64 kk) ∧ W.cell? ⟨w.heap.size + 1, 1, none⟩ = some (.int .i64 Q) ∧ W.cell? ⟨w.heap.size + 1, 2, none⟩ = some (.int .i64 N) ∧ W.cell? ⟨w.heap.size + 1, 3, none⟩ = some (.slice Aa a.length ca) ∧ W.cell? ⟨w.heap.size + 1, 4, none⟩ = some (.slice Ab b.length cb) ∧ W.cell? ⟨w.heap.size + 1, 5, none⟩ = some (.slice Af f.length cf)) := fun W h =>
    ⟨(HXg.out.bel h).cell 0, (HXg.out.bel h).cell 1, (HXc.out.bel h).cell 0, (HXc.out.bel h).cell 1, (HXc.out.bel h).cell 2, (HXc.out.bel h).cell 3, (HXc.out.bel h).cell 4, (HXc.out.bel h).cell 5⟩
  have HU0 : Hid (∀ W, Calls Tryz.prog 61 #[.int .i64 kk, .int .i64 0] W fun e w' => e = .returned (.bool false) ∧ Below W.heap.size W w') := fun W => by
    have h := hU 0 W (by decide)
    rw [show usB k 0 = false from uq] at h
    exact h
  have HU1 : Hid (∀ W, Calls Tryz.prog 61 #[.int .i64 kk, .int .i64 1] W fun e w' => e = .returned (.bool false) ∧ Below W.heap.size W w') := fun W => by
    have h := hU 1 W (by decide)
    rw [show usB k 1 = false from un] at h
    exact h
  have HU2 : Hid (∀ W, Calls Tryz.prog 61 #[.int .i64 kk, .int .i64 2] W fun e w' => e = .returned (.bool false) ∧ Below W.heap.size W w') := fun W => by
    have h := hU 2 W (by decide)
    rw [show usB k 2 = false from ua] at h
    exact h
  have HU3 : Hid (∀ W, Calls Tryz.prog 61 #[.int .i64 kk, .int .i64 3] W fun e w' => e = .returned (.bool false) ∧ Below W.heap.size W w') := fun W => by
    have h := hU 3 W (by decide)
    rw [show usB k 3 = false from ub] at h
    exact h
  have HU4 : Hid (∀ W, Calls Tryz.prog 61 #[.int .i64 kk, .int .i64 4] W fun e w' => e = .returned (.bool true) ∧ Below W.heap.size W w') := fun W => by
    have h := hU 4 W (by decide)
    rw [show usB k 4 = true from uf] at h
    exact h
  have UQ := Hd uq
  have UN := Hd un
  have UA := Hd ua
  have UB := Hd ub
  have UF := Hd uf
  skip
  skip
  clear hU hxg hxc hb0 hW0 hg ha hb hf uq un ua ub uf hkk
  obtain ⟨g0, g1, x0, x1, x2, x3, x4, x5⟩ := HK.out W0 (Below.refl _ _)
  rw [HW0.out] at g0 g1 x0 x1 x2 x3 x4 x5
  have HB1 := Hd (Below.refl W0.heap.size W0)
  go_enter Tryz.func37, Tryz.ntmps37
  go_wp2_with fail
  rw [← HW0.out]
  refine (HU0.out W0).mono ?_
  rintro e w1 ⟨rfl, hb1⟩
  have HBn := Hd (HB1.out.trans (hb1.mono HB1.out.size))
  clear HB1 hb1 g0 g1 x0 x1 x2 x3 x4 x5
  have HB1 := HBn
  clear HBn
  obtain ⟨g0, g1, x0, x1, x2, x3, x4, x5⟩ := HK.out w1 HB1.out
  go_wp2_with fail
  refine (HU1.out w1).mono ?_
  rintro e w2 ⟨rfl, hb1⟩
  have HBn := Hd (HB1.out.trans (hb1.mono HB1.out.size))
  clear HB1 hb1 g0 g1 x0 x1 x2 x3 x4 x5
  have HB1 := HBn
  clear HBn
  obtain ⟨g0, g1, x0, x1, x2, x3, x4, x5⟩ := HK.out w2 HB1.out
  have HR1 : Hid (E = _) := HR.out.trans (if_neg (fun h => h.elim (fun h => absurd (UQ.out.symm.trans h.1) (by decide)) (fun h => absurd (UN.out.symm.trans h.1) (by decide))))
  clear HR
  go_wp2_with fail
  refine (HU2.out w2).mono ?_
  rintro e w3 ⟨rfl, hb1⟩
  have HBn := Hd (HB1.out.trans (hb1.mono HB1.out.size))
  clear HB1 hb1 g0 g1 x0 x1 x2 x3 x4 x5
  have HB1 := HBn
  clear HBn
  obtain ⟨g0, g1, x0, x1, x2, x3, x4, x5⟩ := HK.out w3 HB1.out
  have HR2 : Hid (E = _) := HR1.out.trans (if_neg (fun h => absurd (UA.out.symm.trans h.1) (by decide)))
  clear HR1
  go_wp2_with fail
  refine (HU3.out w3).mono ?_
  rintro e w4 ⟨rfl, hb1⟩
  have HBn := Hd (HB1.out.trans (hb1.mono HB1.out.size))
  clear HB1 hb1 g0 g1 x0 x1 x2 x3 x4 x5
  have HB1 := HBn
  clear HBn
  obtain ⟨g0, g1, x0, x1, x2, x3, x4, x5⟩ := HK.out w4 HB1.out
  have HR3 : Hid (E = _) := HR2.out.trans (if_neg (fun h => absurd (UB.out.symm.trans h.1) (by decide)))
  clear HR2
  go_wp2_with fail
  refine (HU4.out w4).mono ?_
  rintro e w5 ⟨rfl, hb1⟩
  have HBn := Hd (HB1.out.trans (hb1.mono HB1.out.size))
  clear HB1 hb1 g0 g1 x0 x1 x2 x3 x4 x5
  have HB1 := HBn
  clear HBn
  obtain ⟨g0, g1, x0, x1, x2, x3, x4, x5⟩ := HK.out w5 HB1.out
  have HCk := Hd (rFacG_any _ m f w5 (HF.out _ HB1.out) hm)
  go_wp2_with fail
  refine HCk.out.mono ?_
  rintro e w6 ⟨rfl, hb1⟩
  have HBn := Hd (HB1.out.trans (hb1.mono HB1.out.size))
  clear HB1 hb1 g0 g1 x0 x1 x2 x3 x4 x5
  have HB1 := HBn
  clear HBn
  obtain ⟨g0, g1, x0, x1, x2, x3, x4, x5⟩ := HK.out w6 HB1.out
  clear HCk
  by_cases hEf : facNG m f ≠ 0
  · have hR : Hid (E = facNG m f) := by show _ = _; rw [HR3.out, if_pos ⟨UF.out, hEf⟩]
    generalize facNG m f = ce at *
    have t1 : (ce != 0) = true := by simpa using hEf
    clear HR3 hEf
    go_wp2
    go_ret
    exact ⟨ret_i hR.out.symm, HB0.out.trans (HB1.out.mono HB0.out.size)⟩
  have HR4 : Hid (E = _) := HR3.out.trans (if_neg (fun h => hEf h.2))
  have hEf' : facNG m f = 0 := by omega
  rw [hEf']
  clear HR3 hEf hEf'
  go_wp2_with fail
  refine (HU0.out w6).mono ?_
  rintro e w7 ⟨rfl, hb1⟩
  have HBn := Hd (HB1.out.trans (hb1.mono HB1.out.size))
  clear HB1 hb1 g0 g1 x0 x1 x2 x3 x4 x5
  have HB1 := HBn
  clear HBn
  obtain ⟨g0, g1, x0, x1, x2, x3, x4, x5⟩ := HK.out w7 HB1.out
  by_cases hxq : Q ≠ 0
  · have t1 : (Q != 0) = true := by simpa using hxq
    have hR : Hid (E = 3) := by show _ = _; rw [HR4.out, if_pos (.inl ⟨UQ.out, hxq⟩)]
    clear HR4
    go_wp2
    go_ret
    exact ⟨ret_i hR.out.symm, HB0.out.trans (HB1.out.mono HB0.out.size)⟩
  have tq : (Q != 0) = false := by simpa using hxq
  go_wp2_with fail
  refine (HU1.out w7).mono ?_
  rintro e w8 ⟨rfl, hb1⟩
  have HBn := Hd (HB1.out.trans (hb1.mono HB1.out.size))
  clear HB1 hb1 g0 g1 x0 x1 x2 x3 x4 x5
  have HB1 := HBn
  clear HBn
  obtain ⟨g0, g1, x0, x1, x2, x3, x4, x5⟩ := HK.out w8 HB1.out
  by_cases hxn : N ≠ 0
  · have t1 : (N != 0) = true := by simpa using hxn
    have hR : Hid (E = 3) := by show _ = _; rw [HR4.out, if_pos (.inr (.inl ⟨UN.out, hxn⟩))]
    clear HR4
    go_wp2
    go_ret
    exact ⟨ret_i hR.out.symm, HB0.out.trans (HB1.out.mono HB0.out.size)⟩
  have tn : (N != 0) = false := by simpa using hxn
  go_wp2_with fail
  refine (HU2.out w8).mono ?_
  rintro e w9 ⟨rfl, hb1⟩
  have HBn := Hd (HB1.out.trans (hb1.mono HB1.out.size))
  clear HB1 hb1 g0 g1 x0 x1 x2 x3 x4 x5
  have HB1 := HBn
  clear HBn
  obtain ⟨g0, g1, x0, x1, x2, x3, x4, x5⟩ := HK.out w9 HB1.out
  by_cases hxa : a ≠ []
  · have t1 : 0 < a.length := List.length_pos_iff.2 hxa
    have hR : Hid (E = 3) := by show _ = _; rw [HR4.out, if_pos (.inr (.inr (.inl ⟨UA.out, hxa⟩)))]
    clear HR4
    go_wp2
    go_ret
    exact ⟨ret_i hR.out.symm, HB0.out.trans (HB1.out.mono HB0.out.size)⟩
  have ta : ¬ 0 < a.length := fun h => hxa (List.length_pos_iff.1 h)
  go_wp2_with fail
  refine (HU3.out w9).mono ?_
  rintro e w10 ⟨rfl, hb1⟩
  have HBn := Hd (HB1.out.trans (hb1.mono HB1.out.size))
  clear HB1 hb1 g0 g1 x0 x1 x2 x3 x4 x5
  have HB1 := HBn
  clear HBn
  obtain ⟨g0, g1, x0, x1, x2, x3, x4, x5⟩ := HK.out w10 HB1.out
  by_cases hxb : b ≠ []
  · have t1 : 0 < b.length := List.length_pos_iff.2 hxb
    have hR : Hid (E = 3) := by show _ = _; rw [HR4.out, if_pos (.inr (.inr (.inr (.inl ⟨UB.out, hxb⟩))))]
    clear HR4
    go_wp2
    go_ret
    exact ⟨ret_i hR.out.symm, HB0.out.trans (HB1.out.mono HB0.out.size)⟩
  have tb : ¬ 0 < b.length := fun h => hxb (List.length_pos_iff.1 h)
  go_wp2_with fail
  refine (HU4.out w10).mono ?_
  rintro e w11 ⟨rfl, hb1⟩
  have HBn := Hd (HB1.out.trans (hb1.mono HB1.out.size))
  clear HB1 hb1 g0 g1 x0 x1 x2 x3 x4 x5
  have HB1 := HBn
  clear HBn
  obtain ⟨g0, g1, x0, x1, x2, x3, x4, x5⟩ := HK.out w11 HB1.out
  have hR : Hid (E = 0) := HR4.out.trans (if_neg (fun h => h.elim (fun h => hxq h.2) (fun h => h.elim (fun h => hxn h.2) (fun h => h.elim (fun h => hxa h.2) (fun h => h.elim (fun h => hxb h.2) (fun h => absurd (UF.out.symm.trans h.1) (by decide)))))))
  clear HR4
  go_wp2
  go_ret
  exact ⟨ret_i hR.out.symm, HB0.out.trans (HB1.out.mono HB0.out.size)⟩
theorem rFormG_any (g va vb vf : Value) (m k : Nat) (Q N : Int) (es : List Tri) (a b f : List Int) (w : World) (hk : k < 9) (hg : GV w g m es) (ha : RI w va a) (hb : RI w vb b) (hf : RI w vf f) (hm : m ≤ 12) :
    Calls Tryz.prog 37 #[g, .agg #[.int .i64 (k : Int), .int .i64 Q, .int .i64 N, va, vb, vf]] w fun e w' => e = .returned (.int .i64 (formG m k Q N a b f)) ∧ Below w.heap.size w w' := by
  obtain rfl | rfl | rfl | rfl | rfl | rfl | rfl | rfl | rfl : k = 0 ∨ k = 1 ∨ k = 2 ∨ k = 3 ∨ k = 4 ∨ k = 5 ∨ k = 6 ∨ k = 7 ∨ k = 8 := by omega
  · exact rForm_00110 g va vb vf m 0 Q N es a b f w hk hg ha hb hf hm rfl rfl rfl rfl rfl
  · exact rForm_00100 g va vb vf m 1 Q N es a b f w hk hg ha hb hf hm rfl rfl rfl rfl rfl
  · exact rForm_00100 g va vb vf m 2 Q N es a b f w hk hg ha hb hf hm rfl rfl rfl rfl rfl
  · exact rForm_011003 g va vb vf m 3 Q N es a b f w hk hg ha hb hf hm rfl rfl rfl rfl rfl rfl
  · by_cases h : N < 0
    · exact rForm_011004a g va vb vf m 4 Q N es a b f w hk hg ha hb hf hm rfl h rfl rfl rfl rfl rfl
    · exact rForm_011004b g va vb vf m 4 Q N es a b f w hk hg ha hb hf hm rfl h rfl rfl rfl rfl rfl
  · exact rForm_10100 g va vb vf m 5 Q N es a b f w hk hg ha hb hf hm rfl rfl rfl rfl rfl
  · exact rForm_10100 g va vb vf m 6 Q N es a b f w hk hg ha hb hf hm rfl rfl rfl rfl rfl
  · exact rForm_10110 g va vb vf m 7 Q N es a b f w hk hg ha hb hf hm rfl rfl rfl rfl rfl
  · exact rForm_00001 g va vb vf m 8 Q N es a b f w hk hg ha hb hf hm rfl rfl rfl rfl rfl
end Go.Proofs.YteamhbohgoclgaaGreatDoor

