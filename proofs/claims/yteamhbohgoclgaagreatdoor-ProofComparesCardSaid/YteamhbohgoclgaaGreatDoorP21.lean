/- Contract of package proof's form. (printed by gen/form57.py) -/
import Derived.Test.YteamhbohgoclgaaGreatDoorP20
import Derived.Laws.EntriesVeiled
set_option maxRecDepth 100000
set_option maxHeartbeats 16000000
namespace Go.Proofs.YteamhbohgoclgaaGreatDoor
open Go.RowKit Go.Shelf

/-- What is wrong with a claim of a kind. -/
def formG (m k : Nat) (Q N : Int) (a b f : List Int) : Int :=
  if (kq k = true ∧ ¬ (0 ≤ Q ∧ Q < m)) ∨ (kn k = true ∧ (N < kl k ∨ 12 < N)) then 2
  else if ka k = true ∧ checkE a m ≠ 0 then checkE a m
  else if kb k = true ∧ checkE b m ≠ 0 then checkE b m
  else if kf k = true ∧ facNG m f ≠ 0 then facNG m f
  else if (kq k = false ∧ Q ≠ 0) ∨ (kn k = false ∧ N ≠ 0) ∨ (ka k = false ∧ a ≠ []) ∨ (kb k = false ∧ b ≠ []) ∨ (kf k = false ∧ f ≠ []) then 3 else 0
/-- Whether a field is given that the kind does not use. -/
def givB (Q N : Int) (a b f : List Int) (i : Nat) : Bool := ([Q != 0, N != 0, decide (0 < a.length), decide (0 < b.length), decide (0 < f.length)] : List Bool).getD i false
theorem idx_bool5 (b0 b1 b2 b3 b4 : Bool) (W : World) (z : Int) (i : Nat) (hz : z = i) (hi : i < 5) : (Instr.index 111 (.agg #[.bool b0, .bool b1, .bool b2, .bool b3, .bool b4]) (.int .i64 z)).run Tryz.prog W = .ok (.bool (([b0, b1, b2, b3, b4] : List Bool).getD i false)) W := by
  subst hz
  match i, hi with
  | 0, _ | 1, _ | 2, _ | 3, _ | 4, _ => simp [Instr.index, run_underlying Tryz.underlying111, asIntOf, go_sem]
theorem giv_any {k : Nat} {Q N : Int} {a b f : List Int} (h : (kq k = false ∧ Q ≠ 0) ∨ (kn k = false ∧ N ≠ 0) ∨ (ka k = false ∧ a ≠ []) ∨ (kb k = false ∧ b ≠ []) ∨ (kf k = false ∧ f ≠ [])) : ∃ i, i < 5 ∧ givB Q N a b f i = true ∧ pu k i = false := by
  rcases h with ⟨h1, h2⟩ | ⟨h1, h2⟩ | ⟨h1, h2⟩ | ⟨h1, h2⟩ | ⟨h1, h2⟩
  · exact ⟨0, by decide, by simpa [givB] using h2, h1⟩
  · exact ⟨1, by decide, by simpa [givB] using h2, h1⟩
  · exact ⟨2, by decide, by simpa [givB, List.length_pos_iff] using h2, h1⟩
  · exact ⟨3, by decide, by simpa [givB, List.length_pos_iff] using h2, h1⟩
  · exact ⟨4, by decide, by simpa [givB, List.length_pos_iff] using h2, h1⟩
theorem giv_not {k : Nat} {Q N : Int} {a b f : List Int} {i : Nat} (hi : i < 5) (h1 : givB Q N a b f i = true) (h2 : pu k i = false) : (kq k = false ∧ Q ≠ 0) ∨ (kn k = false ∧ N ≠ 0) ∨ (ka k = false ∧ a ≠ []) ∨ (kb k = false ∧ b ≠ []) ∨ (kf k = false ∧ f ≠ []) := by
  match i, hi with
  | 0, _ => exact .inl ⟨h2, by simpa [givB] using h1⟩
  | 1, _ => exact .inr (.inl ⟨h2, by simpa [givB] using h1⟩)
  | 2, _ => exact .inr (.inr (.inl ⟨h2, by simpa [givB, List.length_pos_iff] using h1⟩))
  | 3, _ => exact .inr (.inr (.inr (.inl ⟨h2, by simpa [givB, List.length_pos_iff] using h1⟩)))
  | 4, _ => exact .inr (.inr (.inr (.inr ⟨h2, by simpa [givB, List.length_pos_iff] using h1⟩)))
theorem pForm_00110 (g va vb vf : Value) (m k : Nat) (Q N : Int) (es : List Tri) (a b f : List Int) (w : World) (hk : k < 9) (hg : GV w g m es) (ha : RI w va a) (hb : RI w vb b) (hf : RI w vf f) (_hm1 : 1 ≤ m) (_hm : m ≤ 12)
    (uq : kq k = false) (un : kn k = false) (ua : ka k = true) (ub : kb k = true) (uf : kf k = false) :
    Calls Tryz.prog 35 #[g, .agg #[.int .i64 (k : Int), .int .i64 Q, .int .i64 N, va, vb, vf]] w fun e w' => e = .returned (.int .i64 (formG m k Q N a b f)) ∧ Below w.heap.size w w' := by
  obtain ⟨Ag, cg, rfl, -⟩ := hg.open_
  obtain ⟨Aa, ca, rfl, -, hla, -⟩ := ha.open_
  obtain ⟨Ab, cb, rfl, -, hlb, -⟩ := hb.open_
  obtain ⟨Af, cf, rfl, -, hlf, -⟩ := hf.open_
  obtain ⟨W0, hW0⟩ : ∃ W0, W0 = (w.alloc (.cells #[.int .i64 (m : Int), .slice Ag es.length cg] 25)).alloc (.cells #[.int .i64 (k : Int), .int .i64 Q, .int .i64 N, .slice Aa a.length ca, .slice Ab b.length cb, .slice Af f.length cf] 40) := ⟨_, rfl⟩
  have hb0 : Below w.heap.size w W0 := by rw [hW0]; exact (below_alloc w _).alloc (by simp) _
  have hxg : BL W0 w.heap.size 25 [.int .i64 (m : Int), .slice Ag es.length cg] := by rw [hW0]; exact (BL.new' w _ _).alloc _
  have hxc : BL W0 (w.heap.size + 1) 40 [.int .i64 (k : Int), .int .i64 Q, .int .i64 N, .slice Aa a.length ca, .slice Ab b.length cb, .slice Af f.length cf] := by
    rw [hW0]
    have := BL.new' (w.alloc (.cells #[.int .i64 (m : Int), .slice Ag es.length cg] 25)) #[.int .i64 (k : Int), .int .i64 Q, .int .i64 N, .slice Aa a.length ca, .slice Ab b.length cb, .slice Af f.length cf] 40
    rwa [World.size_alloc] at this
  have HXg := Hd hxg
  have HXc := Hd hxc
  have HG0 := Hd (hg.below hb0)
  have HA0 := Hd (RI.below ha hb0)
  have HD0 := Hd (RI.below hb hb0)
  have HF0 := Hd (RI.below hf hb0)
  have HB0 := Hd hb0
  have HW0 := Hd hW0
  have HKi := Hd (pKinds_any W0)
  have HR : Hid (formG m k Q N a b f = if (kq k = true ∧ ¬ (0 ≤ Q ∧ Q < m)) ∨ (kn k = true ∧ (N < kl k ∨ 12 < N)) then 2
    else if ka k = true ∧ checkE a m ≠ 0 then checkE a m
    else if kb k = true ∧ checkE b m ≠ 0 then checkE b m
    else if kf k = true ∧ facNG m f ≠ 0 then facNG m f
    else if (kq k = false ∧ Q ≠ 0) ∨ (kn k = false ∧ N ≠ 0) ∨ (ka k = false ∧ a ≠ []) ∨ (kb k = false ∧ b ≠ []) ∨ (kf k = false ∧ f ≠ []) then 3 else 0) := rfl
  generalize formG m k Q N a b f = E at *
  have hk0 : ¬ (k : Int) < 0 := by omega
  have hk9 : ¬ (9 : Int) ≤ (k : Int) := by omega
  have hk9' : (k : Int) < 9 := by omega
  clear hg hxg hxc hW0 hb0 ha hb hf
  go_enter Tryz.func35, Tryz.ntmps35
  go_wp2_with fail
  rw [← HW0.out]
  refine HKi.out.mono ?_
  rintro e w1 ⟨rfl, hb1⟩
  obtain ⟨W1, hW1⟩ : ∃ W1, W1 = w1.alloc (.cells pkL.toArray 86) := ⟨_, rfl⟩
  have hb2 : Below w1.heap.size w1 W1 := by rw [hW1]; exact below_alloc w1 _
  have hx5 : BL W1 w1.heap.size 86 pkL := by rw [hW1]; exact BL.new' w1 _ _
  have HW1 := Hd hW1
  have hb12 : Below W0.heap.size W0 W1 := hb1.trans (hb2.mono hb1.size)
  have HB1 := Hd (HB0.out.trans (hb12.mono HB0.out.size))
  have HXg1 := Hd (HXg.out.bel hb12)
  have HXc1 := Hd (HXc.out.bel hb12)
  have HG1 := Hd (HG0.out.below hb12)
  have HA1 := Hd (RI.below HA0.out hb12)
  have HD1 := Hd (RI.below HD0.out hb12)
  have HF1 := Hd (RI.below HF0.out hb12)
  have hpk := PK.of hx5
  obtain ⟨S, -, p0, p1, p2, p3⟩ := hpk.2 k hk
  obtain ⟨W2, hW2⟩ : ∃ W2, W2 = W1.alloc (.cells #[.string S, .int .i64 (pm k), .int .i64 (kl k), .func (.func (pfn k)) #[] #[]] 85) := ⟨_, rfl⟩
  have hb3 : Below W1.heap.size W1 W2 := by rw [hW2]; exact below_alloc W1 _
  have hx6 : BL W2 W1.heap.size 85 [.string S, .int .i64 (pm k), .int .i64 (kl k), .func (.func (pfn k)) #[] #[]] := by rw [hW2]; exact BL.new' W1 _ _
  have HB2 := Hd (HB1.out.trans (hb3.mono HB1.out.size))
  have HXg2 := Hd (HXg1.out.bel hb3)
  have HXc2 := Hd (HXc1.out.bel hb3)
  have HG2 := Hd (HG1.out.below hb3)
  have HA2 := Hd (RI.below HA1.out hb3)
  have HD2 := Hd (RI.below HD1.out hb3)
  have HF2 := Hd (RI.below HF1.out hb3)
  have HK2 := Hd hx6
  have HW2 := Hd hW2
  have HU : Hid (∀ (i : Nat) (W : World), i < 5 → Calls Tryz.prog 58 #[.agg #[.string S, .int .i64 (pm k), .int .i64 (kl k), .func (.func (pfn k)) #[] #[]], .int .i64 (pb i)] W fun e w' => e = .returned (.bool (pu k i)) ∧ Below W.heap.size W w') := fun i W hi => puse_any k i hk hi S _ _ W
  have HU0 : Hid (∀ (W : World), Calls Tryz.prog 58 #[.agg #[.string S, .int .i64 (pm k), .int .i64 (kl k), .func (.func (pfn k)) #[] #[]], .int .i64 1] W fun e w' => e = .returned (.bool false) ∧ Below W.heap.size W w') := fun W => by rw [← uq]; exact HU.out 0 W (by decide)
  have HU1 : Hid (∀ (W : World), Calls Tryz.prog 58 #[.agg #[.string S, .int .i64 (pm k), .int .i64 (kl k), .func (.func (pfn k)) #[] #[]], .int .i64 2] W fun e w' => e = .returned (.bool false) ∧ Below W.heap.size W w') := fun W => by rw [← un]; exact HU.out 1 W (by decide)
  have HU2 : Hid (∀ (W : World), Calls Tryz.prog 58 #[.agg #[.string S, .int .i64 (pm k), .int .i64 (kl k), .func (.func (pfn k)) #[] #[]], .int .i64 4] W fun e w' => e = .returned (.bool true) ∧ Below W.heap.size W w') := fun W => by rw [← ua]; exact HU.out 2 W (by decide)
  have HU3 : Hid (∀ (W : World), Calls Tryz.prog 58 #[.agg #[.string S, .int .i64 (pm k), .int .i64 (kl k), .func (.func (pfn k)) #[] #[]], .int .i64 8] W fun e w' => e = .returned (.bool true) ∧ Below W.heap.size W w') := fun W => by rw [← ub]; exact HU.out 3 W (by decide)
  have HU4 : Hid (∀ (W : World), Calls Tryz.prog 58 #[.agg #[.string S, .int .i64 (pm k), .int .i64 (kl k), .func (.func (pfn k)) #[] #[]], .int .i64 16] W fun e w' => e = .returned (.bool false) ∧ Below W.heap.size W w') := fun W => by rw [← uf]; exact HU.out 4 W (by decide)
  have c0 := HXc1.out.cell 0
  have e0 := HK2.out.cell 0
  have e1 := HK2.out.cell 1
  have e2 := HK2.out.cell 2
  have e3 := HK2.out.cell 3
  obtain ⟨klk, hklk⟩ : ∃ z, z = kl k := ⟨_, rfl⟩
  have HKl := Hd hklk.symm
  clear hb1 hb2 hx5 hb12 hb3 hx6 hW1 hW2 hpk HXg HXc HG0 HA0 HD0 HF0 HB0 HXg1 HXc1 HG1 HA1 HD1 HF1 HKi
  generalize pm k = pmk at *
  rw [← hklk] at p2 e2 HU HU0 HU1 HU2 HU3 HU4 HW2 HK2
  clear hklk
  generalize pfn k = pfk at *
  have UQ := Hd uq
  have UN := Hd un
  have UA := Hd ua
  have UB := Hd ub
  have UF := Hd uf
  clear uq un ua ub uf
  rw [show (⟨w1.heap.size, 0, none⟩ : Addr).add (k * 4) = ⟨w1.heap.size, k * 4, none⟩ from addr_addz _ _] at p0 p1 p2 p3
  rw [HW2.out] at e0 e1 e2 e3
  go_wp2_with (refine wpList_store_row rfl 86 _ _ rfl w1.heap.size pkL.toArray rfl rfl _ _ (heap_alloc_new w1 _) pk_size (by kernel_rfl) (by kernel_rfl) ?_; rw [World.setRow_alloc_new, ← HW1.out])
  rw [← HW2.out]
  clear p0 p1 p2 p3 c0 e0 e1 e2 e3
  refine (HU0.out _).mono ?_
  rintro e W3 ⟨rfl, hb3⟩
  have HB3 := Hd (HB2.out.trans (hb3.mono HB2.out.size))
  have HXg3 := Hd (HXg2.out.bel hb3)
  have HXc3 := Hd (HXc2.out.bel hb3)
  have HG3 := Hd (HG2.out.below hb3)
  have HA3 := Hd (RI.below HA2.out hb3)
  have HD3 := Hd (RI.below HD2.out hb3)
  have HF3 := Hd (RI.below HF2.out hb3)
  have HK3 := Hd (HK2.out.bel hb3)
  clear hb3 HXg2 HXc2 HG2 HA2 HD2 HF2 HK2
  have k0 := HK3.out.cell 0
  have k1 := HK3.out.cell 1
  have k2 := HK3.out.cell 2
  have k3 := HK3.out.cell 3
  go_wp2_with fail
  refine (HU1.out _).mono ?_
  rintro e W4 ⟨rfl, hb4⟩
  have HB4 := Hd (HB3.out.trans (hb4.mono HB3.out.size))
  have HXg4 := Hd (HXg3.out.bel hb4)
  have HXc4 := Hd (HXc3.out.bel hb4)
  have HG4 := Hd (HG3.out.below hb4)
  have HA4 := Hd (RI.below HA3.out hb4)
  have HD4 := Hd (RI.below HD3.out hb4)
  have HF4 := Hd (RI.below HF3.out hb4)
  have HK4 := Hd (HK3.out.bel hb4)
  clear hb4 HXg3 HXc3 HG3 HA3 HD3 HF3 HK3
  clear k0 k1 k2 k3
  have HR1 : Hid (E = _) := HR.out.trans (if_neg (fun h => h.elim (fun h => absurd (UQ.out.symm.trans h.1) (by decide)) (fun h => absurd (UN.out.symm.trans h.1) (by decide))))
  clear HR
  have k0 := HK4.out.cell 0
  have k1 := HK4.out.cell 1
  have k2 := HK4.out.cell 2
  have k3 := HK4.out.cell 3
  go_wp2_with fail
  refine (HU2.out _).mono ?_
  rintro e W5 ⟨rfl, hb5⟩
  have HB5 := Hd (HB4.out.trans (hb5.mono HB4.out.size))
  have HXg5 := Hd (HXg4.out.bel hb5)
  have HXc5 := Hd (HXc4.out.bel hb5)
  have HG5 := Hd (HG4.out.below hb5)
  have HA5 := Hd (RI.below HA4.out hb5)
  have HD5 := Hd (RI.below HD4.out hb5)
  have HF5 := Hd (RI.below HF4.out hb5)
  have HK5 := Hd (HK4.out.bel hb5)
  clear hb5 HXg4 HXc4 HG4 HA4 HD4 HF4 HK4
  clear k0 k1 k2 k3
  have c3 := HXc5.out.cell 3
  have g0 := HXg5.out.cell 0
  have HCk := Hd (check_any _ a (m : Int) W5 HA5.out)
  go_wp2_with fail
  refine HCk.out.mono ?_
  rintro e w_ ⟨rfl, rfl⟩
  clear HCk
  by_cases hE3 : checkE a m ≠ 0
  · have hR : Hid (E = checkE a m) := by show _ = _; rw [HR1.out, if_pos ⟨UA.out, hE3⟩]
    generalize checkE a m = ce at *
    have t1 : (ce != 0) = true := by simpa using hE3
    clear HR1 hE3
    go_wp2
    go_ret
    exact ⟨ret_i hR.out.symm, HB5.out⟩
  have HR2 : Hid (E = _) := HR1.out.trans (if_neg (fun h => hE3 h.2))
  have hE3' : checkE a m = 0 := by omega
  rw [hE3']
  clear HR1 hE3 hE3'
  clear c3 g0
  have k0 := HK5.out.cell 0
  have k1 := HK5.out.cell 1
  have k2 := HK5.out.cell 2
  have k3 := HK5.out.cell 3
  go_wp2_with fail
  refine (HU3.out _).mono ?_
  rintro e W6 ⟨rfl, hb6⟩
  have HB6 := Hd (HB5.out.trans (hb6.mono HB5.out.size))
  have HXg6 := Hd (HXg5.out.bel hb6)
  have HXc6 := Hd (HXc5.out.bel hb6)
  have HG6 := Hd (HG5.out.below hb6)
  have HA6 := Hd (RI.below HA5.out hb6)
  have HD6 := Hd (RI.below HD5.out hb6)
  have HF6 := Hd (RI.below HF5.out hb6)
  have HK6 := Hd (HK5.out.bel hb6)
  clear hb6 HXg5 HXc5 HG5 HA5 HD5 HF5 HK5
  clear k0 k1 k2 k3
  have c4 := HXc6.out.cell 4
  have g0 := HXg6.out.cell 0
  have HCk := Hd (check_any _ b (m : Int) W6 HD6.out)
  go_wp2_with fail
  refine HCk.out.mono ?_
  rintro e w_ ⟨rfl, rfl⟩
  clear HCk
  by_cases hE4 : checkE b m ≠ 0
  · have hR : Hid (E = checkE b m) := by show _ = _; rw [HR2.out, if_pos ⟨UB.out, hE4⟩]
    generalize checkE b m = ce at *
    have t1 : (ce != 0) = true := by simpa using hE4
    clear HR2 hE4
    go_wp2
    go_ret
    exact ⟨ret_i hR.out.symm, HB6.out⟩
  have HR3 : Hid (E = _) := HR2.out.trans (if_neg (fun h => hE4 h.2))
  have hE4' : checkE b m = 0 := by omega
  rw [hE4']
  clear HR2 hE4 hE4'
  clear c4 g0
  have k0 := HK6.out.cell 0
  have k1 := HK6.out.cell 1
  have k2 := HK6.out.cell 2
  have k3 := HK6.out.cell 3
  go_wp2_with fail
  refine (HU4.out _).mono ?_
  rintro e W7 ⟨rfl, hb7⟩
  have HB7 := Hd (HB6.out.trans (hb7.mono HB6.out.size))
  have HXg7 := Hd (HXg6.out.bel hb7)
  have HXc7 := Hd (HXc6.out.bel hb7)
  have HG7 := Hd (HG6.out.below hb7)
  have HA7 := Hd (RI.below HA6.out hb7)
  have HD7 := Hd (RI.below HD6.out hb7)
  have HF7 := Hd (RI.below HF6.out hb7)
  have HK7 := Hd (HK6.out.bel hb7)
  clear hb7 HXg6 HXc6 HG6 HA6 HD6 HF6 HK6
  clear k0 k1 k2 k3
  have HR4 : Hid (E = _) := HR3.out.trans (if_neg (fun h => absurd (UF.out.symm.trans h.1) (by decide)))
  clear HR3
  have c1 := HXc7.out.cell 1
  have c2 := HXc7.out.cell 2
  have c3 := HXc7.out.cell 3
  have c4 := HXc7.out.cell 4
  have c5 := HXc7.out.cell 5
  have HL : Hid (∀ i, i < 5 → givB Q N a b f i = true → pu k i = false → E = 3) := fun i hi h1 h2 => by
    show E = 3
    rw [HR4.out, if_pos (giv_not hi h1 h2)]
  have HZ : Hid ((∀ i, i < 5 → givB Q N a b f i = true → pu k i = true) → E = 0) := fun h => by
    show E = 0
    rw [HR4.out, if_neg]
    intro hh
    obtain ⟨i, h1, h2, h3⟩ := giv_any hh
    rw [h i h1 h2] at h3
    exact absurd h3 (by decide)
  clear HR4
  obtain ⟨WL, hWL⟩ : ∃ WL, WL = W7.alloc (.cells #[.bool (Q != 0), .bool (N != 0), .bool (decide (0 < a.length)), .bool (decide (0 < b.length)), .bool (decide (0 < f.length))] 111) := ⟨_, rfl⟩
  have hbL : Below W7.heap.size W7 WL := by rw [hWL]; exact below_alloc W7 _
  have HBL := Hd (HB7.out.trans (hbL.mono HB7.out.size))
  have HKL := Hd (HK7.out.bel hbL)
  have HWL := Hd hWL
  clear hWL hbL HXg7 HXc7 HK7
  go_upto_region 21 with fail
  rw [← HWL.out]
  generalize h0 : (Q != 0) = b0
  generalize h1 : (N != 0) = b1
  generalize h2 : (decide (0 < a.length)) = b2
  generalize h3 : (decide (0 < b.length)) = b3
  generalize h4 : (decide (0 < f.length)) = b4
  have HG0 := Hd h0
  have HG1 := Hd h1
  have HG2 := Hd h2
  have HG3 := Hd h3
  have HG4 := Hd h4
  have c10 : WL.cell? ⟨W7.heap.size, 0, none⟩ = some (.bool b0) := by rw [HWL.out, h0, h1, h2, h3, h4]; exact (BL.new' W7 _ _).cell 0
  have c11 : WL.cell? ⟨W7.heap.size, 1, none⟩ = some (.bool b1) := by rw [HWL.out, h0, h1, h2, h3, h4]; exact (BL.new' W7 _ _).cell 1
  have c12 : WL.cell? ⟨W7.heap.size, 2, none⟩ = some (.bool b2) := by rw [HWL.out, h0, h1, h2, h3, h4]; exact (BL.new' W7 _ _).cell 2
  have c13 : WL.cell? ⟨W7.heap.size, 3, none⟩ = some (.bool b3) := by rw [HWL.out, h0, h1, h2, h3, h4]; exact (BL.new' W7 _ _).cell 3
  have c14 : WL.cell? ⟨W7.heap.size, 4, none⟩ = some (.bool b4) := by rw [HWL.out, h0, h1, h2, h3, h4]; exact (BL.new' W7 _ _).cell 4
  clear h0 h1 h2 h3 h4 HWL c1 c2 c3 c4 c5 hk0 hk9 hk9'
  go_wp2_with fail
  go_loopw [104] (fun i wr => ∃ j : Nat, j ≤ 5 ∧ i = .int .i64 (j : Int) ∧ Hid (∀ i, i < j → givB Q N a b f i = true → pu k i = true) ∧ Hid (Below WL.heap.size WL wr)) (fun i _ => 5 - (intOf i).toNat)
  case atStart => exact ⟨0, Nat.zero_le _, rfl, fun i hi => absurd hi (Nat.not_lt_zero _), Below.refl _ _⟩
  case round =>
    obtain ⟨j, hj, rfl, hin, hbw⟩ := hrel
    have HBw := Hd (HBL.out.trans (hbw.out.mono HBL.out.size))
    by_cases hlt : j < 5
    · have e0 := (HKL.out.bel hbw.out).cell 0
      have e1 := (HKL.out.bel hbw.out).cell 1
      have e2 := (HKL.out.bel hbw.out).cell 2
      have e3 := (HKL.out.bel hbw.out).cell 3
      clear c10 c11 c12 c13 c14
      obtain rfl | rfl | rfl | rfl | rfl : j = 0 ∨ j = 1 ∨ j = 2 ∨ j = 3 ∨ j = 4 := by omega
      · have hix : ∀ W : World, (Instr.index 111 (.agg #[.bool b0, .bool b1, .bool b2, .bool b3, .bool b4]) (.int .i64 0)).run Tryz.prog W = .ok (.bool b0) W := fun W => idx_bool5 b0 b1 b2 b3 b4 W 0 0 rfl (by decide)
        cases b0
        · go_wp2_with fail
          go_region
          all_goals
            go_wp2
            go_roundw
            case rel => exact ⟨1, by omega, by go_num, (fun i hi h1 => by
              rcases Nat.lt_succ_iff_lt_or_eq.1 hi with h | rfl
              · exact hin.out i h h1
              · exact absurd (HG0.out.symm.trans h1) (by decide)), by first | exact hbw.out | exact hbw.out.drew⟩
            case measure => simp [intOf]
        · have hR : Hid (E = 3) := HL.out 0 (by decide) HG0.out UQ.out
          go_wp2_with fail
          go_region_with (go_at_call 58; refine (HU0.out _).mono ?_; rintro e wu ⟨rfl, hbu⟩; have HBu := Hd (HBw.out.trans (((Below.refl wr.heap.size wr).drew.trans hbu).mono HBw.out.size)); clear hbu)
          all_goals
            go_wp2
            go_ret
            exact ⟨ret_i hR.out.symm, HBu.out⟩
      · have hix : ∀ W : World, (Instr.index 111 (.agg #[.bool b0, .bool b1, .bool b2, .bool b3, .bool b4]) (.int .i64 1)).run Tryz.prog W = .ok (.bool b1) W := fun W => idx_bool5 b0 b1 b2 b3 b4 W 1 1 rfl (by decide)
        cases b1
        · go_wp2_with fail
          go_region
          all_goals
            go_wp2
            go_roundw
            case rel => exact ⟨2, by omega, by go_num, (fun i hi h1 => by
              rcases Nat.lt_succ_iff_lt_or_eq.1 hi with h | rfl
              · exact hin.out i h h1
              · exact absurd (HG1.out.symm.trans h1) (by decide)), by first | exact hbw.out | exact hbw.out.drew⟩
            case measure => simp [intOf]
        · have hR : Hid (E = 3) := HL.out 1 (by decide) HG1.out UN.out
          go_wp2_with fail
          go_region_with (go_at_call 58; refine (HU1.out _).mono ?_; rintro e wu ⟨rfl, hbu⟩; have HBu := Hd (HBw.out.trans (((Below.refl wr.heap.size wr).drew.trans hbu).mono HBw.out.size)); clear hbu)
          all_goals
            go_wp2
            go_ret
            exact ⟨ret_i hR.out.symm, HBu.out⟩
      · have hix : ∀ W : World, (Instr.index 111 (.agg #[.bool b0, .bool b1, .bool b2, .bool b3, .bool b4]) (.int .i64 2)).run Tryz.prog W = .ok (.bool b2) W := fun W => idx_bool5 b0 b1 b2 b3 b4 W 2 2 rfl (by decide)
        cases b2
        · go_wp2_with fail
          go_region
          all_goals
            go_wp2
            go_roundw
            case rel => exact ⟨3, by omega, by go_num, (fun i hi h1 => by
              rcases Nat.lt_succ_iff_lt_or_eq.1 hi with h | rfl
              · exact hin.out i h h1
              · exact absurd (HG2.out.symm.trans h1) (by decide)), by first | exact hbw.out | exact hbw.out.drew⟩
            case measure => simp [intOf]
        · go_wp2_with fail
          go_region_with (go_at_call 58; refine (HU2.out _).mono ?_; rintro e wu ⟨rfl, hbu⟩; have HBu := Hd (hbw.out.trans (((Below.refl wr.heap.size wr).drew.trans hbu).mono hbw.out.size)); clear hbu)
          all_goals
            go_wp2
            go_roundw
            case rel => exact ⟨3, by omega, by go_num, (fun i hi h1 => by
              rcases Nat.lt_succ_iff_lt_or_eq.1 hi with h | rfl
              · exact hin.out i h h1
              · exact UA.out), HBu.out⟩
            case measure => simp [intOf]
      · have hix : ∀ W : World, (Instr.index 111 (.agg #[.bool b0, .bool b1, .bool b2, .bool b3, .bool b4]) (.int .i64 3)).run Tryz.prog W = .ok (.bool b3) W := fun W => idx_bool5 b0 b1 b2 b3 b4 W 3 3 rfl (by decide)
        cases b3
        · go_wp2_with fail
          go_region
          all_goals
            go_wp2
            go_roundw
            case rel => exact ⟨4, by omega, by go_num, (fun i hi h1 => by
              rcases Nat.lt_succ_iff_lt_or_eq.1 hi with h | rfl
              · exact hin.out i h h1
              · exact absurd (HG3.out.symm.trans h1) (by decide)), by first | exact hbw.out | exact hbw.out.drew⟩
            case measure => simp [intOf]
        · go_wp2_with fail
          go_region_with (go_at_call 58; refine (HU3.out _).mono ?_; rintro e wu ⟨rfl, hbu⟩; have HBu := Hd (hbw.out.trans (((Below.refl wr.heap.size wr).drew.trans hbu).mono hbw.out.size)); clear hbu)
          all_goals
            go_wp2
            go_roundw
            case rel => exact ⟨4, by omega, by go_num, (fun i hi h1 => by
              rcases Nat.lt_succ_iff_lt_or_eq.1 hi with h | rfl
              · exact hin.out i h h1
              · exact UB.out), HBu.out⟩
            case measure => simp [intOf]
      · have hix : ∀ W : World, (Instr.index 111 (.agg #[.bool b0, .bool b1, .bool b2, .bool b3, .bool b4]) (.int .i64 4)).run Tryz.prog W = .ok (.bool b4) W := fun W => idx_bool5 b0 b1 b2 b3 b4 W 4 4 rfl (by decide)
        cases b4
        · go_wp2_with fail
          go_region
          all_goals
            go_wp2
            go_roundw
            case rel => exact ⟨5, by omega, by go_num, (fun i hi h1 => by
              rcases Nat.lt_succ_iff_lt_or_eq.1 hi with h | rfl
              · exact hin.out i h h1
              · exact absurd (HG4.out.symm.trans h1) (by decide)), by first | exact hbw.out | exact hbw.out.drew⟩
            case measure => simp [intOf]
        · have hR : Hid (E = 3) := HL.out 4 (by decide) HG4.out UF.out
          go_wp2_with fail
          go_region_with (go_at_call 58; refine (HU4.out _).mono ?_; rintro e wu ⟨rfl, hbu⟩; have HBu := Hd (HBw.out.trans (((Below.refl wr.heap.size wr).drew.trans hbu).mono HBw.out.size)); clear hbu)
          all_goals
            go_wp2
            go_ret
            exact ⟨ret_i hR.out.symm, HBu.out⟩
    · have hR : Hid (E = 0) := HZ.out fun i hi h1 => hin.out i (by omega) h1
      clear hin
      go_wp2
      go_ret
      exact ⟨ret_i hR.out.symm, HBw.out⟩
theorem pForm_00100 (g va vb vf : Value) (m k : Nat) (Q N : Int) (es : List Tri) (a b f : List Int) (w : World) (hk : k < 9) (hg : GV w g m es) (ha : RI w va a) (hb : RI w vb b) (hf : RI w vf f) (_hm1 : 1 ≤ m) (_hm : m ≤ 12)
    (uq : kq k = false) (un : kn k = false) (ua : ka k = true) (ub : kb k = false) (uf : kf k = false) :
    Calls Tryz.prog 35 #[g, .agg #[.int .i64 (k : Int), .int .i64 Q, .int .i64 N, va, vb, vf]] w fun e w' => e = .returned (.int .i64 (formG m k Q N a b f)) ∧ Below w.heap.size w w' := by
  obtain ⟨Ag, cg, rfl, -⟩ := hg.open_
  obtain ⟨Aa, ca, rfl, -, hla, -⟩ := ha.open_
  obtain ⟨Ab, cb, rfl, -, hlb, -⟩ := hb.open_
  obtain ⟨Af, cf, rfl, -, hlf, -⟩ := hf.open_
  obtain ⟨W0, hW0⟩ : ∃ W0, W0 = (w.alloc (.cells #[.int .i64 (m : Int), .slice Ag es.length cg] 25)).alloc (.cells #[.int .i64 (k : Int), .int .i64 Q, .int .i64 N, .slice Aa a.length ca, .slice Ab b.length cb, .slice Af f.length cf] 40) := ⟨_, rfl⟩
  have hb0 : Below w.heap.size w W0 := by rw [hW0]; exact (below_alloc w _).alloc (by simp) _
  have hxg : BL W0 w.heap.size 25 [.int .i64 (m : Int), .slice Ag es.length cg] := by rw [hW0]; exact (BL.new' w _ _).alloc _
  have hxc : BL W0 (w.heap.size + 1) 40 [.int .i64 (k : Int), .int .i64 Q, .int .i64 N, .slice Aa a.length ca, .slice Ab b.length cb, .slice Af f.length cf] := by
    rw [hW0]
    have := BL.new' (w.alloc (.cells #[.int .i64 (m : Int), .slice Ag es.length cg] 25)) #[.int .i64 (k : Int), .int .i64 Q, .int .i64 N, .slice Aa a.length ca, .slice Ab b.length cb, .slice Af f.length cf] 40
    rwa [World.size_alloc] at this
  have HXg := Hd hxg
  have HXc := Hd hxc
  have HG0 := Hd (hg.below hb0)
  have HA0 := Hd (RI.below ha hb0)
  have HD0 := Hd (RI.below hb hb0)
  have HF0 := Hd (RI.below hf hb0)
  have HB0 := Hd hb0
  have HW0 := Hd hW0
  have HKi := Hd (pKinds_any W0)
  have HR : Hid (formG m k Q N a b f = if (kq k = true ∧ ¬ (0 ≤ Q ∧ Q < m)) ∨ (kn k = true ∧ (N < kl k ∨ 12 < N)) then 2
    else if ka k = true ∧ checkE a m ≠ 0 then checkE a m
    else if kb k = true ∧ checkE b m ≠ 0 then checkE b m
    else if kf k = true ∧ facNG m f ≠ 0 then facNG m f
    else if (kq k = false ∧ Q ≠ 0) ∨ (kn k = false ∧ N ≠ 0) ∨ (ka k = false ∧ a ≠ []) ∨ (kb k = false ∧ b ≠ []) ∨ (kf k = false ∧ f ≠ []) then 3 else 0) := rfl
  generalize formG m k Q N a b f = E at *
  have hk0 : ¬ (k : Int) < 0 := by omega
  have hk9 : ¬ (9 : Int) ≤ (k : Int) := by omega
  have hk9' : (k : Int) < 9 := by omega
  clear hg hxg hxc hW0 hb0 ha hb hf
  go_enter Tryz.func35, Tryz.ntmps35
  go_wp2_with fail
  rw [← HW0.out]
  refine HKi.out.mono ?_
  rintro e w1 ⟨rfl, hb1⟩
  obtain ⟨W1, hW1⟩ : ∃ W1, W1 = w1.alloc (.cells pkL.toArray 86) := ⟨_, rfl⟩
  have hb2 : Below w1.heap.size w1 W1 := by rw [hW1]; exact below_alloc w1 _
  have hx5 : BL W1 w1.heap.size 86 pkL := by rw [hW1]; exact BL.new' w1 _ _
  have HW1 := Hd hW1
  have hb12 : Below W0.heap.size W0 W1 := hb1.trans (hb2.mono hb1.size)
  have HB1 := Hd (HB0.out.trans (hb12.mono HB0.out.size))
  have HXg1 := Hd (HXg.out.bel hb12)
  have HXc1 := Hd (HXc.out.bel hb12)
  have HG1 := Hd (HG0.out.below hb12)
  have HA1 := Hd (RI.below HA0.out hb12)
  have HD1 := Hd (RI.below HD0.out hb12)
  have HF1 := Hd (RI.below HF0.out hb12)
  have hpk := PK.of hx5
  obtain ⟨S, -, p0, p1, p2, p3⟩ := hpk.2 k hk
  obtain ⟨W2, hW2⟩ : ∃ W2, W2 = W1.alloc (.cells #[.string S, .int .i64 (pm k), .int .i64 (kl k), .func (.func (pfn k)) #[] #[]] 85) := ⟨_, rfl⟩
  have hb3 : Below W1.heap.size W1 W2 := by rw [hW2]; exact below_alloc W1 _
  have hx6 : BL W2 W1.heap.size 85 [.string S, .int .i64 (pm k), .int .i64 (kl k), .func (.func (pfn k)) #[] #[]] := by rw [hW2]; exact BL.new' W1 _ _
  have HB2 := Hd (HB1.out.trans (hb3.mono HB1.out.size))
  have HXg2 := Hd (HXg1.out.bel hb3)
  have HXc2 := Hd (HXc1.out.bel hb3)
  have HG2 := Hd (HG1.out.below hb3)
  have HA2 := Hd (RI.below HA1.out hb3)
  have HD2 := Hd (RI.below HD1.out hb3)
  have HF2 := Hd (RI.below HF1.out hb3)
  have HK2 := Hd hx6
  have HW2 := Hd hW2
  have HU : Hid (∀ (i : Nat) (W : World), i < 5 → Calls Tryz.prog 58 #[.agg #[.string S, .int .i64 (pm k), .int .i64 (kl k), .func (.func (pfn k)) #[] #[]], .int .i64 (pb i)] W fun e w' => e = .returned (.bool (pu k i)) ∧ Below W.heap.size W w') := fun i W hi => puse_any k i hk hi S _ _ W
  have HU0 : Hid (∀ (W : World), Calls Tryz.prog 58 #[.agg #[.string S, .int .i64 (pm k), .int .i64 (kl k), .func (.func (pfn k)) #[] #[]], .int .i64 1] W fun e w' => e = .returned (.bool false) ∧ Below W.heap.size W w') := fun W => by rw [← uq]; exact HU.out 0 W (by decide)
  have HU1 : Hid (∀ (W : World), Calls Tryz.prog 58 #[.agg #[.string S, .int .i64 (pm k), .int .i64 (kl k), .func (.func (pfn k)) #[] #[]], .int .i64 2] W fun e w' => e = .returned (.bool false) ∧ Below W.heap.size W w') := fun W => by rw [← un]; exact HU.out 1 W (by decide)
  have HU2 : Hid (∀ (W : World), Calls Tryz.prog 58 #[.agg #[.string S, .int .i64 (pm k), .int .i64 (kl k), .func (.func (pfn k)) #[] #[]], .int .i64 4] W fun e w' => e = .returned (.bool true) ∧ Below W.heap.size W w') := fun W => by rw [← ua]; exact HU.out 2 W (by decide)
  have HU3 : Hid (∀ (W : World), Calls Tryz.prog 58 #[.agg #[.string S, .int .i64 (pm k), .int .i64 (kl k), .func (.func (pfn k)) #[] #[]], .int .i64 8] W fun e w' => e = .returned (.bool false) ∧ Below W.heap.size W w') := fun W => by rw [← ub]; exact HU.out 3 W (by decide)
  have HU4 : Hid (∀ (W : World), Calls Tryz.prog 58 #[.agg #[.string S, .int .i64 (pm k), .int .i64 (kl k), .func (.func (pfn k)) #[] #[]], .int .i64 16] W fun e w' => e = .returned (.bool false) ∧ Below W.heap.size W w') := fun W => by rw [← uf]; exact HU.out 4 W (by decide)
  have c0 := HXc1.out.cell 0
  have e0 := HK2.out.cell 0
  have e1 := HK2.out.cell 1
  have e2 := HK2.out.cell 2
  have e3 := HK2.out.cell 3
  obtain ⟨klk, hklk⟩ : ∃ z, z = kl k := ⟨_, rfl⟩
  have HKl := Hd hklk.symm
  clear hb1 hb2 hx5 hb12 hb3 hx6 hW1 hW2 hpk HXg HXc HG0 HA0 HD0 HF0 HB0 HXg1 HXc1 HG1 HA1 HD1 HF1 HKi
  generalize pm k = pmk at *
  rw [← hklk] at p2 e2 HU HU0 HU1 HU2 HU3 HU4 HW2 HK2
  clear hklk
  generalize pfn k = pfk at *
  have UQ := Hd uq
  have UN := Hd un
  have UA := Hd ua
  have UB := Hd ub
  have UF := Hd uf
  clear uq un ua ub uf
  rw [show (⟨w1.heap.size, 0, none⟩ : Addr).add (k * 4) = ⟨w1.heap.size, k * 4, none⟩ from addr_addz _ _] at p0 p1 p2 p3
  rw [HW2.out] at e0 e1 e2 e3
  go_wp2_with (refine wpList_store_row rfl 86 _ _ rfl w1.heap.size pkL.toArray rfl rfl _ _ (heap_alloc_new w1 _) pk_size (by kernel_rfl) (by kernel_rfl) ?_; rw [World.setRow_alloc_new, ← HW1.out])
  rw [← HW2.out]
  clear p0 p1 p2 p3 c0 e0 e1 e2 e3
  refine (HU0.out _).mono ?_
  rintro e W3 ⟨rfl, hb3⟩
  have HB3 := Hd (HB2.out.trans (hb3.mono HB2.out.size))
  have HXg3 := Hd (HXg2.out.bel hb3)
  have HXc3 := Hd (HXc2.out.bel hb3)
  have HG3 := Hd (HG2.out.below hb3)
  have HA3 := Hd (RI.below HA2.out hb3)
  have HD3 := Hd (RI.below HD2.out hb3)
  have HF3 := Hd (RI.below HF2.out hb3)
  have HK3 := Hd (HK2.out.bel hb3)
  clear hb3 HXg2 HXc2 HG2 HA2 HD2 HF2 HK2
  have k0 := HK3.out.cell 0
  have k1 := HK3.out.cell 1
  have k2 := HK3.out.cell 2
  have k3 := HK3.out.cell 3
  go_wp2_with fail
  refine (HU1.out _).mono ?_
  rintro e W4 ⟨rfl, hb4⟩
  have HB4 := Hd (HB3.out.trans (hb4.mono HB3.out.size))
  have HXg4 := Hd (HXg3.out.bel hb4)
  have HXc4 := Hd (HXc3.out.bel hb4)
  have HG4 := Hd (HG3.out.below hb4)
  have HA4 := Hd (RI.below HA3.out hb4)
  have HD4 := Hd (RI.below HD3.out hb4)
  have HF4 := Hd (RI.below HF3.out hb4)
  have HK4 := Hd (HK3.out.bel hb4)
  clear hb4 HXg3 HXc3 HG3 HA3 HD3 HF3 HK3
  clear k0 k1 k2 k3
  have HR1 : Hid (E = _) := HR.out.trans (if_neg (fun h => h.elim (fun h => absurd (UQ.out.symm.trans h.1) (by decide)) (fun h => absurd (UN.out.symm.trans h.1) (by decide))))
  clear HR
  have k0 := HK4.out.cell 0
  have k1 := HK4.out.cell 1
  have k2 := HK4.out.cell 2
  have k3 := HK4.out.cell 3
  go_wp2_with fail
  refine (HU2.out _).mono ?_
  rintro e W5 ⟨rfl, hb5⟩
  have HB5 := Hd (HB4.out.trans (hb5.mono HB4.out.size))
  have HXg5 := Hd (HXg4.out.bel hb5)
  have HXc5 := Hd (HXc4.out.bel hb5)
  have HG5 := Hd (HG4.out.below hb5)
  have HA5 := Hd (RI.below HA4.out hb5)
  have HD5 := Hd (RI.below HD4.out hb5)
  have HF5 := Hd (RI.below HF4.out hb5)
  have HK5 := Hd (HK4.out.bel hb5)
  clear hb5 HXg4 HXc4 HG4 HA4 HD4 HF4 HK4
  clear k0 k1 k2 k3
  have c3 := HXc5.out.cell 3
  have g0 := HXg5.out.cell 0
  have HCk := Hd (check_any _ a (m : Int) W5 HA5.out)
  go_wp2_with fail
  refine HCk.out.mono ?_
  rintro e w_ ⟨rfl, rfl⟩
  clear HCk
  by_cases hE3 : checkE a m ≠ 0
  · have hR : Hid (E = checkE a m) := by show _ = _; rw [HR1.out, if_pos ⟨UA.out, hE3⟩]
    generalize checkE a m = ce at *
    have t1 : (ce != 0) = true := by simpa using hE3
    clear HR1 hE3
    go_wp2
    go_ret
    exact ⟨ret_i hR.out.symm, HB5.out⟩
  have HR2 : Hid (E = _) := HR1.out.trans (if_neg (fun h => hE3 h.2))
  have hE3' : checkE a m = 0 := by omega
  rw [hE3']
  clear HR1 hE3 hE3'
  clear c3 g0
  have k0 := HK5.out.cell 0
  have k1 := HK5.out.cell 1
  have k2 := HK5.out.cell 2
  have k3 := HK5.out.cell 3
  go_wp2_with fail
  refine (HU3.out _).mono ?_
  rintro e W6 ⟨rfl, hb6⟩
  have HB6 := Hd (HB5.out.trans (hb6.mono HB5.out.size))
  have HXg6 := Hd (HXg5.out.bel hb6)
  have HXc6 := Hd (HXc5.out.bel hb6)
  have HG6 := Hd (HG5.out.below hb6)
  have HA6 := Hd (RI.below HA5.out hb6)
  have HD6 := Hd (RI.below HD5.out hb6)
  have HF6 := Hd (RI.below HF5.out hb6)
  have HK6 := Hd (HK5.out.bel hb6)
  clear hb6 HXg5 HXc5 HG5 HA5 HD5 HF5 HK5
  clear k0 k1 k2 k3
  have HR3 : Hid (E = _) := HR2.out.trans (if_neg (fun h => absurd (UB.out.symm.trans h.1) (by decide)))
  clear HR2
  have k0 := HK6.out.cell 0
  have k1 := HK6.out.cell 1
  have k2 := HK6.out.cell 2
  have k3 := HK6.out.cell 3
  go_wp2_with fail
  refine (HU4.out _).mono ?_
  rintro e W7 ⟨rfl, hb7⟩
  have HB7 := Hd (HB6.out.trans (hb7.mono HB6.out.size))
  have HXg7 := Hd (HXg6.out.bel hb7)
  have HXc7 := Hd (HXc6.out.bel hb7)
  have HG7 := Hd (HG6.out.below hb7)
  have HA7 := Hd (RI.below HA6.out hb7)
  have HD7 := Hd (RI.below HD6.out hb7)
  have HF7 := Hd (RI.below HF6.out hb7)
  have HK7 := Hd (HK6.out.bel hb7)
  clear hb7 HXg6 HXc6 HG6 HA6 HD6 HF6 HK6
  clear k0 k1 k2 k3
  have HR4 : Hid (E = _) := HR3.out.trans (if_neg (fun h => absurd (UF.out.symm.trans h.1) (by decide)))
  clear HR3
  have c1 := HXc7.out.cell 1
  have c2 := HXc7.out.cell 2
  have c3 := HXc7.out.cell 3
  have c4 := HXc7.out.cell 4
  have c5 := HXc7.out.cell 5
  have HL : Hid (∀ i, i < 5 → givB Q N a b f i = true → pu k i = false → E = 3) := fun i hi h1 h2 => by
    show E = 3
    rw [HR4.out, if_pos (giv_not hi h1 h2)]
  have HZ : Hid ((∀ i, i < 5 → givB Q N a b f i = true → pu k i = true) → E = 0) := fun h => by
    show E = 0
    rw [HR4.out, if_neg]
    intro hh
    obtain ⟨i, h1, h2, h3⟩ := giv_any hh
    rw [h i h1 h2] at h3
    exact absurd h3 (by decide)
  clear HR4
  obtain ⟨WL, hWL⟩ : ∃ WL, WL = W7.alloc (.cells #[.bool (Q != 0), .bool (N != 0), .bool (decide (0 < a.length)), .bool (decide (0 < b.length)), .bool (decide (0 < f.length))] 111) := ⟨_, rfl⟩
  have hbL : Below W7.heap.size W7 WL := by rw [hWL]; exact below_alloc W7 _
  have HBL := Hd (HB7.out.trans (hbL.mono HB7.out.size))
  have HKL := Hd (HK7.out.bel hbL)
  have HWL := Hd hWL
  clear hWL hbL HXg7 HXc7 HK7
  go_upto_region 21 with fail
  rw [← HWL.out]
  generalize h0 : (Q != 0) = b0
  generalize h1 : (N != 0) = b1
  generalize h2 : (decide (0 < a.length)) = b2
  generalize h3 : (decide (0 < b.length)) = b3
  generalize h4 : (decide (0 < f.length)) = b4
  have HG0 := Hd h0
  have HG1 := Hd h1
  have HG2 := Hd h2
  have HG3 := Hd h3
  have HG4 := Hd h4
  have c10 : WL.cell? ⟨W7.heap.size, 0, none⟩ = some (.bool b0) := by rw [HWL.out, h0, h1, h2, h3, h4]; exact (BL.new' W7 _ _).cell 0
  have c11 : WL.cell? ⟨W7.heap.size, 1, none⟩ = some (.bool b1) := by rw [HWL.out, h0, h1, h2, h3, h4]; exact (BL.new' W7 _ _).cell 1
  have c12 : WL.cell? ⟨W7.heap.size, 2, none⟩ = some (.bool b2) := by rw [HWL.out, h0, h1, h2, h3, h4]; exact (BL.new' W7 _ _).cell 2
  have c13 : WL.cell? ⟨W7.heap.size, 3, none⟩ = some (.bool b3) := by rw [HWL.out, h0, h1, h2, h3, h4]; exact (BL.new' W7 _ _).cell 3
  have c14 : WL.cell? ⟨W7.heap.size, 4, none⟩ = some (.bool b4) := by rw [HWL.out, h0, h1, h2, h3, h4]; exact (BL.new' W7 _ _).cell 4
  clear h0 h1 h2 h3 h4 HWL c1 c2 c3 c4 c5 hk0 hk9 hk9'
  go_wp2_with fail
  go_loopw [104] (fun i wr => ∃ j : Nat, j ≤ 5 ∧ i = .int .i64 (j : Int) ∧ Hid (∀ i, i < j → givB Q N a b f i = true → pu k i = true) ∧ Hid (Below WL.heap.size WL wr)) (fun i _ => 5 - (intOf i).toNat)
  case atStart => exact ⟨0, Nat.zero_le _, rfl, fun i hi => absurd hi (Nat.not_lt_zero _), Below.refl _ _⟩
  case round =>
    obtain ⟨j, hj, rfl, hin, hbw⟩ := hrel
    have HBw := Hd (HBL.out.trans (hbw.out.mono HBL.out.size))
    by_cases hlt : j < 5
    · have e0 := (HKL.out.bel hbw.out).cell 0
      have e1 := (HKL.out.bel hbw.out).cell 1
      have e2 := (HKL.out.bel hbw.out).cell 2
      have e3 := (HKL.out.bel hbw.out).cell 3
      clear c10 c11 c12 c13 c14
      obtain rfl | rfl | rfl | rfl | rfl : j = 0 ∨ j = 1 ∨ j = 2 ∨ j = 3 ∨ j = 4 := by omega
      · have hix : ∀ W : World, (Instr.index 111 (.agg #[.bool b0, .bool b1, .bool b2, .bool b3, .bool b4]) (.int .i64 0)).run Tryz.prog W = .ok (.bool b0) W := fun W => idx_bool5 b0 b1 b2 b3 b4 W 0 0 rfl (by decide)
        cases b0
        · go_wp2_with fail
          go_region
          all_goals
            go_wp2
            go_roundw
            case rel => exact ⟨1, by omega, by go_num, (fun i hi h1 => by
              rcases Nat.lt_succ_iff_lt_or_eq.1 hi with h | rfl
              · exact hin.out i h h1
              · exact absurd (HG0.out.symm.trans h1) (by decide)), by first | exact hbw.out | exact hbw.out.drew⟩
            case measure => simp [intOf]
        · have hR : Hid (E = 3) := HL.out 0 (by decide) HG0.out UQ.out
          go_wp2_with fail
          go_region_with (go_at_call 58; refine (HU0.out _).mono ?_; rintro e wu ⟨rfl, hbu⟩; have HBu := Hd (HBw.out.trans (((Below.refl wr.heap.size wr).drew.trans hbu).mono HBw.out.size)); clear hbu)
          all_goals
            go_wp2
            go_ret
            exact ⟨ret_i hR.out.symm, HBu.out⟩
      · have hix : ∀ W : World, (Instr.index 111 (.agg #[.bool b0, .bool b1, .bool b2, .bool b3, .bool b4]) (.int .i64 1)).run Tryz.prog W = .ok (.bool b1) W := fun W => idx_bool5 b0 b1 b2 b3 b4 W 1 1 rfl (by decide)
        cases b1
        · go_wp2_with fail
          go_region
          all_goals
            go_wp2
            go_roundw
            case rel => exact ⟨2, by omega, by go_num, (fun i hi h1 => by
              rcases Nat.lt_succ_iff_lt_or_eq.1 hi with h | rfl
              · exact hin.out i h h1
              · exact absurd (HG1.out.symm.trans h1) (by decide)), by first | exact hbw.out | exact hbw.out.drew⟩
            case measure => simp [intOf]
        · have hR : Hid (E = 3) := HL.out 1 (by decide) HG1.out UN.out
          go_wp2_with fail
          go_region_with (go_at_call 58; refine (HU1.out _).mono ?_; rintro e wu ⟨rfl, hbu⟩; have HBu := Hd (HBw.out.trans (((Below.refl wr.heap.size wr).drew.trans hbu).mono HBw.out.size)); clear hbu)
          all_goals
            go_wp2
            go_ret
            exact ⟨ret_i hR.out.symm, HBu.out⟩
      · have hix : ∀ W : World, (Instr.index 111 (.agg #[.bool b0, .bool b1, .bool b2, .bool b3, .bool b4]) (.int .i64 2)).run Tryz.prog W = .ok (.bool b2) W := fun W => idx_bool5 b0 b1 b2 b3 b4 W 2 2 rfl (by decide)
        cases b2
        · go_wp2_with fail
          go_region
          all_goals
            go_wp2
            go_roundw
            case rel => exact ⟨3, by omega, by go_num, (fun i hi h1 => by
              rcases Nat.lt_succ_iff_lt_or_eq.1 hi with h | rfl
              · exact hin.out i h h1
              · exact absurd (HG2.out.symm.trans h1) (by decide)), by first | exact hbw.out | exact hbw.out.drew⟩
            case measure => simp [intOf]
        · go_wp2_with fail
          go_region_with (go_at_call 58; refine (HU2.out _).mono ?_; rintro e wu ⟨rfl, hbu⟩; have HBu := Hd (hbw.out.trans (((Below.refl wr.heap.size wr).drew.trans hbu).mono hbw.out.size)); clear hbu)
          all_goals
            go_wp2
            go_roundw
            case rel => exact ⟨3, by omega, by go_num, (fun i hi h1 => by
              rcases Nat.lt_succ_iff_lt_or_eq.1 hi with h | rfl
              · exact hin.out i h h1
              · exact UA.out), HBu.out⟩
            case measure => simp [intOf]
      · have hix : ∀ W : World, (Instr.index 111 (.agg #[.bool b0, .bool b1, .bool b2, .bool b3, .bool b4]) (.int .i64 3)).run Tryz.prog W = .ok (.bool b3) W := fun W => idx_bool5 b0 b1 b2 b3 b4 W 3 3 rfl (by decide)
        cases b3
        · go_wp2_with fail
          go_region
          all_goals
            go_wp2
            go_roundw
            case rel => exact ⟨4, by omega, by go_num, (fun i hi h1 => by
              rcases Nat.lt_succ_iff_lt_or_eq.1 hi with h | rfl
              · exact hin.out i h h1
              · exact absurd (HG3.out.symm.trans h1) (by decide)), by first | exact hbw.out | exact hbw.out.drew⟩
            case measure => simp [intOf]
        · have hR : Hid (E = 3) := HL.out 3 (by decide) HG3.out UB.out
          go_wp2_with fail
          go_region_with (go_at_call 58; refine (HU3.out _).mono ?_; rintro e wu ⟨rfl, hbu⟩; have HBu := Hd (HBw.out.trans (((Below.refl wr.heap.size wr).drew.trans hbu).mono HBw.out.size)); clear hbu)
          all_goals
            go_wp2
            go_ret
            exact ⟨ret_i hR.out.symm, HBu.out⟩
      · have hix : ∀ W : World, (Instr.index 111 (.agg #[.bool b0, .bool b1, .bool b2, .bool b3, .bool b4]) (.int .i64 4)).run Tryz.prog W = .ok (.bool b4) W := fun W => idx_bool5 b0 b1 b2 b3 b4 W 4 4 rfl (by decide)
        cases b4
        · go_wp2_with fail
          go_region
          all_goals
            go_wp2
            go_roundw
            case rel => exact ⟨5, by omega, by go_num, (fun i hi h1 => by
              rcases Nat.lt_succ_iff_lt_or_eq.1 hi with h | rfl
              · exact hin.out i h h1
              · exact absurd (HG4.out.symm.trans h1) (by decide)), by first | exact hbw.out | exact hbw.out.drew⟩
            case measure => simp [intOf]
        · have hR : Hid (E = 3) := HL.out 4 (by decide) HG4.out UF.out
          go_wp2_with fail
          go_region_with (go_at_call 58; refine (HU4.out _).mono ?_; rintro e wu ⟨rfl, hbu⟩; have HBu := Hd (HBw.out.trans (((Below.refl wr.heap.size wr).drew.trans hbu).mono HBw.out.size)); clear hbu)
          all_goals
            go_wp2
            go_ret
            exact ⟨ret_i hR.out.symm, HBu.out⟩
    · have hR : Hid (E = 0) := HZ.out fun i hi h1 => hin.out i (by omega) h1
      clear hin
      go_wp2
      go_ret
      exact ⟨ret_i hR.out.symm, HBw.out⟩
theorem pForm_01100 (g va vb vf : Value) (m k : Nat) (Q N : Int) (es : List Tri) (a b f : List Int) (w : World) (hk : k < 9) (hg : GV w g m es) (ha : RI w va a) (hb : RI w vb b) (hf : RI w vf f) (_hm1 : 1 ≤ m) (_hm : m ≤ 12)
    (uq : kq k = false) (un : kn k = true) (ua : ka k = true) (ub : kb k = false) (uf : kf k = false) :
    Calls Tryz.prog 35 #[g, .agg #[.int .i64 (k : Int), .int .i64 Q, .int .i64 N, va, vb, vf]] w fun e w' => e = .returned (.int .i64 (formG m k Q N a b f)) ∧ Below w.heap.size w w' := by
  obtain ⟨Ag, cg, rfl, -⟩ := hg.open_
  obtain ⟨Aa, ca, rfl, -, hla, -⟩ := ha.open_
  obtain ⟨Ab, cb, rfl, -, hlb, -⟩ := hb.open_
  obtain ⟨Af, cf, rfl, -, hlf, -⟩ := hf.open_
  obtain ⟨W0, hW0⟩ : ∃ W0, W0 = (w.alloc (.cells #[.int .i64 (m : Int), .slice Ag es.length cg] 25)).alloc (.cells #[.int .i64 (k : Int), .int .i64 Q, .int .i64 N, .slice Aa a.length ca, .slice Ab b.length cb, .slice Af f.length cf] 40) := ⟨_, rfl⟩
  have hb0 : Below w.heap.size w W0 := by rw [hW0]; exact (below_alloc w _).alloc (by simp) _
  have hxg : BL W0 w.heap.size 25 [.int .i64 (m : Int), .slice Ag es.length cg] := by rw [hW0]; exact (BL.new' w _ _).alloc _
  have hxc : BL W0 (w.heap.size + 1) 40 [.int .i64 (k : Int), .int .i64 Q, .int .i64 N, .slice Aa a.length ca, .slice Ab b.length cb, .slice Af f.length cf] := by
    rw [hW0]
    have := BL.new' (w.alloc (.cells #[.int .i64 (m : Int), .slice Ag es.length cg] 25)) #[.int .i64 (k : Int), .int .i64 Q, .int .i64 N, .slice Aa a.length ca, .slice Ab b.length cb, .slice Af f.length cf] 40
    rwa [World.size_alloc] at this
  have HXg := Hd hxg
  have HXc := Hd hxc
  have HG0 := Hd (hg.below hb0)
  have HA0 := Hd (RI.below ha hb0)
  have HD0 := Hd (RI.below hb hb0)
  have HF0 := Hd (RI.below hf hb0)
  have HB0 := Hd hb0
  have HW0 := Hd hW0
  have HKi := Hd (pKinds_any W0)
  have HR : Hid (formG m k Q N a b f = if (kq k = true ∧ ¬ (0 ≤ Q ∧ Q < m)) ∨ (kn k = true ∧ (N < kl k ∨ 12 < N)) then 2
    else if ka k = true ∧ checkE a m ≠ 0 then checkE a m
    else if kb k = true ∧ checkE b m ≠ 0 then checkE b m
    else if kf k = true ∧ facNG m f ≠ 0 then facNG m f
    else if (kq k = false ∧ Q ≠ 0) ∨ (kn k = false ∧ N ≠ 0) ∨ (ka k = false ∧ a ≠ []) ∨ (kb k = false ∧ b ≠ []) ∨ (kf k = false ∧ f ≠ []) then 3 else 0) := rfl
  generalize formG m k Q N a b f = E at *
  have hk0 : ¬ (k : Int) < 0 := by omega
  have hk9 : ¬ (9 : Int) ≤ (k : Int) := by omega
  have hk9' : (k : Int) < 9 := by omega
  clear hg hxg hxc hW0 hb0 ha hb hf
  go_enter Tryz.func35, Tryz.ntmps35
  go_wp2_with fail
  rw [← HW0.out]
  refine HKi.out.mono ?_
  rintro e w1 ⟨rfl, hb1⟩
  obtain ⟨W1, hW1⟩ : ∃ W1, W1 = w1.alloc (.cells pkL.toArray 86) := ⟨_, rfl⟩
  have hb2 : Below w1.heap.size w1 W1 := by rw [hW1]; exact below_alloc w1 _
  have hx5 : BL W1 w1.heap.size 86 pkL := by rw [hW1]; exact BL.new' w1 _ _
  have HW1 := Hd hW1
  have hb12 : Below W0.heap.size W0 W1 := hb1.trans (hb2.mono hb1.size)
  have HB1 := Hd (HB0.out.trans (hb12.mono HB0.out.size))
  have HXg1 := Hd (HXg.out.bel hb12)
  have HXc1 := Hd (HXc.out.bel hb12)
  have HG1 := Hd (HG0.out.below hb12)
  have HA1 := Hd (RI.below HA0.out hb12)
  have HD1 := Hd (RI.below HD0.out hb12)
  have HF1 := Hd (RI.below HF0.out hb12)
  have hpk := PK.of hx5
  obtain ⟨S, -, p0, p1, p2, p3⟩ := hpk.2 k hk
  obtain ⟨W2, hW2⟩ : ∃ W2, W2 = W1.alloc (.cells #[.string S, .int .i64 (pm k), .int .i64 (kl k), .func (.func (pfn k)) #[] #[]] 85) := ⟨_, rfl⟩
  have hb3 : Below W1.heap.size W1 W2 := by rw [hW2]; exact below_alloc W1 _
  have hx6 : BL W2 W1.heap.size 85 [.string S, .int .i64 (pm k), .int .i64 (kl k), .func (.func (pfn k)) #[] #[]] := by rw [hW2]; exact BL.new' W1 _ _
  have HB2 := Hd (HB1.out.trans (hb3.mono HB1.out.size))
  have HXg2 := Hd (HXg1.out.bel hb3)
  have HXc2 := Hd (HXc1.out.bel hb3)
  have HG2 := Hd (HG1.out.below hb3)
  have HA2 := Hd (RI.below HA1.out hb3)
  have HD2 := Hd (RI.below HD1.out hb3)
  have HF2 := Hd (RI.below HF1.out hb3)
  have HK2 := Hd hx6
  have HW2 := Hd hW2
  have HU : Hid (∀ (i : Nat) (W : World), i < 5 → Calls Tryz.prog 58 #[.agg #[.string S, .int .i64 (pm k), .int .i64 (kl k), .func (.func (pfn k)) #[] #[]], .int .i64 (pb i)] W fun e w' => e = .returned (.bool (pu k i)) ∧ Below W.heap.size W w') := fun i W hi => puse_any k i hk hi S _ _ W
  have HU0 : Hid (∀ (W : World), Calls Tryz.prog 58 #[.agg #[.string S, .int .i64 (pm k), .int .i64 (kl k), .func (.func (pfn k)) #[] #[]], .int .i64 1] W fun e w' => e = .returned (.bool false) ∧ Below W.heap.size W w') := fun W => by rw [← uq]; exact HU.out 0 W (by decide)
  have HU1 : Hid (∀ (W : World), Calls Tryz.prog 58 #[.agg #[.string S, .int .i64 (pm k), .int .i64 (kl k), .func (.func (pfn k)) #[] #[]], .int .i64 2] W fun e w' => e = .returned (.bool true) ∧ Below W.heap.size W w') := fun W => by rw [← un]; exact HU.out 1 W (by decide)
  have HU2 : Hid (∀ (W : World), Calls Tryz.prog 58 #[.agg #[.string S, .int .i64 (pm k), .int .i64 (kl k), .func (.func (pfn k)) #[] #[]], .int .i64 4] W fun e w' => e = .returned (.bool true) ∧ Below W.heap.size W w') := fun W => by rw [← ua]; exact HU.out 2 W (by decide)
  have HU3 : Hid (∀ (W : World), Calls Tryz.prog 58 #[.agg #[.string S, .int .i64 (pm k), .int .i64 (kl k), .func (.func (pfn k)) #[] #[]], .int .i64 8] W fun e w' => e = .returned (.bool false) ∧ Below W.heap.size W w') := fun W => by rw [← ub]; exact HU.out 3 W (by decide)
  have HU4 : Hid (∀ (W : World), Calls Tryz.prog 58 #[.agg #[.string S, .int .i64 (pm k), .int .i64 (kl k), .func (.func (pfn k)) #[] #[]], .int .i64 16] W fun e w' => e = .returned (.bool false) ∧ Below W.heap.size W w') := fun W => by rw [← uf]; exact HU.out 4 W (by decide)
  have c0 := HXc1.out.cell 0
  have e0 := HK2.out.cell 0
  have e1 := HK2.out.cell 1
  have e2 := HK2.out.cell 2
  have e3 := HK2.out.cell 3
  obtain ⟨klk, hklk⟩ : ∃ z, z = kl k := ⟨_, rfl⟩
  have HKl := Hd hklk.symm
  clear hb1 hb2 hx5 hb12 hb3 hx6 hW1 hW2 hpk HXg HXc HG0 HA0 HD0 HF0 HB0 HXg1 HXc1 HG1 HA1 HD1 HF1 HKi
  generalize pm k = pmk at *
  rw [← hklk] at p2 e2 HU HU0 HU1 HU2 HU3 HU4 HW2 HK2
  clear hklk
  generalize pfn k = pfk at *
  have UQ := Hd uq
  have UN := Hd un
  have UA := Hd ua
  have UB := Hd ub
  have UF := Hd uf
  clear uq un ua ub uf
  rw [show (⟨w1.heap.size, 0, none⟩ : Addr).add (k * 4) = ⟨w1.heap.size, k * 4, none⟩ from addr_addz _ _] at p0 p1 p2 p3
  rw [HW2.out] at e0 e1 e2 e3
  go_wp2_with (refine wpList_store_row rfl 86 _ _ rfl w1.heap.size pkL.toArray rfl rfl _ _ (heap_alloc_new w1 _) pk_size (by kernel_rfl) (by kernel_rfl) ?_; rw [World.setRow_alloc_new, ← HW1.out])
  rw [← HW2.out]
  clear p0 p1 p2 p3 c0 e0 e1 e2 e3
  refine (HU0.out _).mono ?_
  rintro e W3 ⟨rfl, hb3⟩
  have HB3 := Hd (HB2.out.trans (hb3.mono HB2.out.size))
  have HXg3 := Hd (HXg2.out.bel hb3)
  have HXc3 := Hd (HXc2.out.bel hb3)
  have HG3 := Hd (HG2.out.below hb3)
  have HA3 := Hd (RI.below HA2.out hb3)
  have HD3 := Hd (RI.below HD2.out hb3)
  have HF3 := Hd (RI.below HF2.out hb3)
  have HK3 := Hd (HK2.out.bel hb3)
  clear hb3 HXg2 HXc2 HG2 HA2 HD2 HF2 HK2
  have k0 := HK3.out.cell 0
  have k1 := HK3.out.cell 1
  have k2 := HK3.out.cell 2
  have k3 := HK3.out.cell 3
  go_wp2_with fail
  refine (HU1.out _).mono ?_
  rintro e W4 ⟨rfl, hb4⟩
  have HB4 := Hd (HB3.out.trans (hb4.mono HB3.out.size))
  have HXg4 := Hd (HXg3.out.bel hb4)
  have HXc4 := Hd (HXc3.out.bel hb4)
  have HG4 := Hd (HG3.out.below hb4)
  have HA4 := Hd (RI.below HA3.out hb4)
  have HD4 := Hd (RI.below HD3.out hb4)
  have HF4 := Hd (RI.below HF3.out hb4)
  have HK4 := Hd (HK3.out.bel hb4)
  clear hb4 HXg3 HXc3 HG3 HA3 HD3 HF3 HK3
  clear k0 k1 k2 k3
  have c2 := HXc4.out.cell 2
  have k2 := HK4.out.cell 2
  by_cases hN0 : N < klk
  · skip
    have hR : Hid (E = 2) := by show _ = _; rw [HR.out, if_pos (.inr ⟨UN.out, .inl (by rw [HKl.out]; exact hN0)⟩)]
    clear HR
    go_wp2
    go_ret
    exact ⟨ret_i hR.out.symm, HB4.out⟩
  by_cases hN1 : (12 : Int) < N
  · skip
    have hR : Hid (E = 2) := by show _ = _; rw [HR.out, if_pos (.inr ⟨UN.out, .inr hN1⟩)]
    clear HR
    go_wp2
    go_ret
    exact ⟨ret_i hR.out.symm, HB4.out⟩
  have HR1 : Hid (E = _) := HR.out.trans (if_neg (fun h => h.elim (fun h => absurd (UQ.out.symm.trans h.1) (by decide)) (fun h => by have := h.2; rw [HKl.out] at this; omega)))
  clear HR
  clear k2
  have k0 := HK4.out.cell 0
  have k1 := HK4.out.cell 1
  have k2 := HK4.out.cell 2
  have k3 := HK4.out.cell 3
  go_wp2_with fail
  refine (HU2.out _).mono ?_
  rintro e W5 ⟨rfl, hb5⟩
  have HB5 := Hd (HB4.out.trans (hb5.mono HB4.out.size))
  have HXg5 := Hd (HXg4.out.bel hb5)
  have HXc5 := Hd (HXc4.out.bel hb5)
  have HG5 := Hd (HG4.out.below hb5)
  have HA5 := Hd (RI.below HA4.out hb5)
  have HD5 := Hd (RI.below HD4.out hb5)
  have HF5 := Hd (RI.below HF4.out hb5)
  have HK5 := Hd (HK4.out.bel hb5)
  clear hb5 HXg4 HXc4 HG4 HA4 HD4 HF4 HK4
  clear k0 k1 k2 k3
  clear c2
  have c3 := HXc5.out.cell 3
  have g0 := HXg5.out.cell 0
  have HCk := Hd (check_any _ a (m : Int) W5 HA5.out)
  go_wp2_with fail
  refine HCk.out.mono ?_
  rintro e w_ ⟨rfl, rfl⟩
  clear HCk
  by_cases hE3 : checkE a m ≠ 0
  · have hR : Hid (E = checkE a m) := by show _ = _; rw [HR1.out, if_pos ⟨UA.out, hE3⟩]
    generalize checkE a m = ce at *
    have t1 : (ce != 0) = true := by simpa using hE3
    clear HR1 hE3
    go_wp2
    go_ret
    exact ⟨ret_i hR.out.symm, HB5.out⟩
  have HR2 : Hid (E = _) := HR1.out.trans (if_neg (fun h => hE3 h.2))
  have hE3' : checkE a m = 0 := by omega
  rw [hE3']
  clear HR1 hE3 hE3'
  clear c3 g0
  have k0 := HK5.out.cell 0
  have k1 := HK5.out.cell 1
  have k2 := HK5.out.cell 2
  have k3 := HK5.out.cell 3
  go_wp2_with fail
  refine (HU3.out _).mono ?_
  rintro e W6 ⟨rfl, hb6⟩
  have HB6 := Hd (HB5.out.trans (hb6.mono HB5.out.size))
  have HXg6 := Hd (HXg5.out.bel hb6)
  have HXc6 := Hd (HXc5.out.bel hb6)
  have HG6 := Hd (HG5.out.below hb6)
  have HA6 := Hd (RI.below HA5.out hb6)
  have HD6 := Hd (RI.below HD5.out hb6)
  have HF6 := Hd (RI.below HF5.out hb6)
  have HK6 := Hd (HK5.out.bel hb6)
  clear hb6 HXg5 HXc5 HG5 HA5 HD5 HF5 HK5
  clear k0 k1 k2 k3
  have HR3 : Hid (E = _) := HR2.out.trans (if_neg (fun h => absurd (UB.out.symm.trans h.1) (by decide)))
  clear HR2
  have k0 := HK6.out.cell 0
  have k1 := HK6.out.cell 1
  have k2 := HK6.out.cell 2
  have k3 := HK6.out.cell 3
  go_wp2_with fail
  refine (HU4.out _).mono ?_
  rintro e W7 ⟨rfl, hb7⟩
  have HB7 := Hd (HB6.out.trans (hb7.mono HB6.out.size))
  have HXg7 := Hd (HXg6.out.bel hb7)
  have HXc7 := Hd (HXc6.out.bel hb7)
  have HG7 := Hd (HG6.out.below hb7)
  have HA7 := Hd (RI.below HA6.out hb7)
  have HD7 := Hd (RI.below HD6.out hb7)
  have HF7 := Hd (RI.below HF6.out hb7)
  have HK7 := Hd (HK6.out.bel hb7)
  clear hb7 HXg6 HXc6 HG6 HA6 HD6 HF6 HK6
  clear k0 k1 k2 k3
  have HR4 : Hid (E = _) := HR3.out.trans (if_neg (fun h => absurd (UF.out.symm.trans h.1) (by decide)))
  clear HR3
  have c1 := HXc7.out.cell 1
  have c2 := HXc7.out.cell 2
  have c3 := HXc7.out.cell 3
  have c4 := HXc7.out.cell 4
  have c5 := HXc7.out.cell 5
  have HL : Hid (∀ i, i < 5 → givB Q N a b f i = true → pu k i = false → E = 3) := fun i hi h1 h2 => by
    show E = 3
    rw [HR4.out, if_pos (giv_not hi h1 h2)]
  have HZ : Hid ((∀ i, i < 5 → givB Q N a b f i = true → pu k i = true) → E = 0) := fun h => by
    show E = 0
    rw [HR4.out, if_neg]
    intro hh
    obtain ⟨i, h1, h2, h3⟩ := giv_any hh
    rw [h i h1 h2] at h3
    exact absurd h3 (by decide)
  clear HR4
  obtain ⟨WL, hWL⟩ : ∃ WL, WL = W7.alloc (.cells #[.bool (Q != 0), .bool (N != 0), .bool (decide (0 < a.length)), .bool (decide (0 < b.length)), .bool (decide (0 < f.length))] 111) := ⟨_, rfl⟩
  have hbL : Below W7.heap.size W7 WL := by rw [hWL]; exact below_alloc W7 _
  have HBL := Hd (HB7.out.trans (hbL.mono HB7.out.size))
  have HKL := Hd (HK7.out.bel hbL)
  have HWL := Hd hWL
  clear hWL hbL HXg7 HXc7 HK7
  go_upto_region 21 with fail
  rw [← HWL.out]
  generalize h0 : (Q != 0) = b0
  generalize h1 : (N != 0) = b1
  generalize h2 : (decide (0 < a.length)) = b2
  generalize h3 : (decide (0 < b.length)) = b3
  generalize h4 : (decide (0 < f.length)) = b4
  have HG0 := Hd h0
  have HG1 := Hd h1
  have HG2 := Hd h2
  have HG3 := Hd h3
  have HG4 := Hd h4
  have c10 : WL.cell? ⟨W7.heap.size, 0, none⟩ = some (.bool b0) := by rw [HWL.out, h0, h1, h2, h3, h4]; exact (BL.new' W7 _ _).cell 0
  have c11 : WL.cell? ⟨W7.heap.size, 1, none⟩ = some (.bool b1) := by rw [HWL.out, h0, h1, h2, h3, h4]; exact (BL.new' W7 _ _).cell 1
  have c12 : WL.cell? ⟨W7.heap.size, 2, none⟩ = some (.bool b2) := by rw [HWL.out, h0, h1, h2, h3, h4]; exact (BL.new' W7 _ _).cell 2
  have c13 : WL.cell? ⟨W7.heap.size, 3, none⟩ = some (.bool b3) := by rw [HWL.out, h0, h1, h2, h3, h4]; exact (BL.new' W7 _ _).cell 3
  have c14 : WL.cell? ⟨W7.heap.size, 4, none⟩ = some (.bool b4) := by rw [HWL.out, h0, h1, h2, h3, h4]; exact (BL.new' W7 _ _).cell 4
  clear h0 h1 h2 h3 h4 HWL c1 c2 c3 c4 c5 hk0 hk9 hk9'
  go_wp2_with fail
  go_loopw [104] (fun i wr => ∃ j : Nat, j ≤ 5 ∧ i = .int .i64 (j : Int) ∧ Hid (∀ i, i < j → givB Q N a b f i = true → pu k i = true) ∧ Hid (Below WL.heap.size WL wr)) (fun i _ => 5 - (intOf i).toNat)
  case atStart => exact ⟨0, Nat.zero_le _, rfl, fun i hi => absurd hi (Nat.not_lt_zero _), Below.refl _ _⟩
  case round =>
    obtain ⟨j, hj, rfl, hin, hbw⟩ := hrel
    have HBw := Hd (HBL.out.trans (hbw.out.mono HBL.out.size))
    by_cases hlt : j < 5
    · have e0 := (HKL.out.bel hbw.out).cell 0
      have e1 := (HKL.out.bel hbw.out).cell 1
      have e2 := (HKL.out.bel hbw.out).cell 2
      have e3 := (HKL.out.bel hbw.out).cell 3
      clear c10 c11 c12 c13 c14
      obtain rfl | rfl | rfl | rfl | rfl : j = 0 ∨ j = 1 ∨ j = 2 ∨ j = 3 ∨ j = 4 := by omega
      · have hix : ∀ W : World, (Instr.index 111 (.agg #[.bool b0, .bool b1, .bool b2, .bool b3, .bool b4]) (.int .i64 0)).run Tryz.prog W = .ok (.bool b0) W := fun W => idx_bool5 b0 b1 b2 b3 b4 W 0 0 rfl (by decide)
        cases b0
        · go_wp2_with fail
          go_region
          all_goals
            go_wp2
            go_roundw
            case rel => exact ⟨1, by omega, by go_num, (fun i hi h1 => by
              rcases Nat.lt_succ_iff_lt_or_eq.1 hi with h | rfl
              · exact hin.out i h h1
              · exact absurd (HG0.out.symm.trans h1) (by decide)), by first | exact hbw.out | exact hbw.out.drew⟩
            case measure => simp [intOf]
        · have hR : Hid (E = 3) := HL.out 0 (by decide) HG0.out UQ.out
          go_wp2_with fail
          go_region_with (go_at_call 58; refine (HU0.out _).mono ?_; rintro e wu ⟨rfl, hbu⟩; have HBu := Hd (HBw.out.trans (((Below.refl wr.heap.size wr).drew.trans hbu).mono HBw.out.size)); clear hbu)
          all_goals
            go_wp2
            go_ret
            exact ⟨ret_i hR.out.symm, HBu.out⟩
      · have hix : ∀ W : World, (Instr.index 111 (.agg #[.bool b0, .bool b1, .bool b2, .bool b3, .bool b4]) (.int .i64 1)).run Tryz.prog W = .ok (.bool b1) W := fun W => idx_bool5 b0 b1 b2 b3 b4 W 1 1 rfl (by decide)
        cases b1
        · go_wp2_with fail
          go_region
          all_goals
            go_wp2
            go_roundw
            case rel => exact ⟨2, by omega, by go_num, (fun i hi h1 => by
              rcases Nat.lt_succ_iff_lt_or_eq.1 hi with h | rfl
              · exact hin.out i h h1
              · exact absurd (HG1.out.symm.trans h1) (by decide)), by first | exact hbw.out | exact hbw.out.drew⟩
            case measure => simp [intOf]
        · go_wp2_with fail
          go_region_with (go_at_call 58; refine (HU1.out _).mono ?_; rintro e wu ⟨rfl, hbu⟩; have HBu := Hd (hbw.out.trans (((Below.refl wr.heap.size wr).drew.trans hbu).mono hbw.out.size)); clear hbu)
          all_goals
            go_wp2
            go_roundw
            case rel => exact ⟨2, by omega, by go_num, (fun i hi h1 => by
              rcases Nat.lt_succ_iff_lt_or_eq.1 hi with h | rfl
              · exact hin.out i h h1
              · exact UN.out), HBu.out⟩
            case measure => simp [intOf]
      · have hix : ∀ W : World, (Instr.index 111 (.agg #[.bool b0, .bool b1, .bool b2, .bool b3, .bool b4]) (.int .i64 2)).run Tryz.prog W = .ok (.bool b2) W := fun W => idx_bool5 b0 b1 b2 b3 b4 W 2 2 rfl (by decide)
        cases b2
        · go_wp2_with fail
          go_region
          all_goals
            go_wp2
            go_roundw
            case rel => exact ⟨3, by omega, by go_num, (fun i hi h1 => by
              rcases Nat.lt_succ_iff_lt_or_eq.1 hi with h | rfl
              · exact hin.out i h h1
              · exact absurd (HG2.out.symm.trans h1) (by decide)), by first | exact hbw.out | exact hbw.out.drew⟩
            case measure => simp [intOf]
        · go_wp2_with fail
          go_region_with (go_at_call 58; refine (HU2.out _).mono ?_; rintro e wu ⟨rfl, hbu⟩; have HBu := Hd (hbw.out.trans (((Below.refl wr.heap.size wr).drew.trans hbu).mono hbw.out.size)); clear hbu)
          all_goals
            go_wp2
            go_roundw
            case rel => exact ⟨3, by omega, by go_num, (fun i hi h1 => by
              rcases Nat.lt_succ_iff_lt_or_eq.1 hi with h | rfl
              · exact hin.out i h h1
              · exact UA.out), HBu.out⟩
            case measure => simp [intOf]
      · have hix : ∀ W : World, (Instr.index 111 (.agg #[.bool b0, .bool b1, .bool b2, .bool b3, .bool b4]) (.int .i64 3)).run Tryz.prog W = .ok (.bool b3) W := fun W => idx_bool5 b0 b1 b2 b3 b4 W 3 3 rfl (by decide)
        cases b3
        · go_wp2_with fail
          go_region
          all_goals
            go_wp2
            go_roundw
            case rel => exact ⟨4, by omega, by go_num, (fun i hi h1 => by
              rcases Nat.lt_succ_iff_lt_or_eq.1 hi with h | rfl
              · exact hin.out i h h1
              · exact absurd (HG3.out.symm.trans h1) (by decide)), by first | exact hbw.out | exact hbw.out.drew⟩
            case measure => simp [intOf]
        · have hR : Hid (E = 3) := HL.out 3 (by decide) HG3.out UB.out
          go_wp2_with fail
          go_region_with (go_at_call 58; refine (HU3.out _).mono ?_; rintro e wu ⟨rfl, hbu⟩; have HBu := Hd (HBw.out.trans (((Below.refl wr.heap.size wr).drew.trans hbu).mono HBw.out.size)); clear hbu)
          all_goals
            go_wp2
            go_ret
            exact ⟨ret_i hR.out.symm, HBu.out⟩
      · have hix : ∀ W : World, (Instr.index 111 (.agg #[.bool b0, .bool b1, .bool b2, .bool b3, .bool b4]) (.int .i64 4)).run Tryz.prog W = .ok (.bool b4) W := fun W => idx_bool5 b0 b1 b2 b3 b4 W 4 4 rfl (by decide)
        cases b4
        · go_wp2_with fail
          go_region
          all_goals
            go_wp2
            go_roundw
            case rel => exact ⟨5, by omega, by go_num, (fun i hi h1 => by
              rcases Nat.lt_succ_iff_lt_or_eq.1 hi with h | rfl
              · exact hin.out i h h1
              · exact absurd (HG4.out.symm.trans h1) (by decide)), by first | exact hbw.out | exact hbw.out.drew⟩
            case measure => simp [intOf]
        · have hR : Hid (E = 3) := HL.out 4 (by decide) HG4.out UF.out
          go_wp2_with fail
          go_region_with (go_at_call 58; refine (HU4.out _).mono ?_; rintro e wu ⟨rfl, hbu⟩; have HBu := Hd (HBw.out.trans (((Below.refl wr.heap.size wr).drew.trans hbu).mono HBw.out.size)); clear hbu)
          all_goals
            go_wp2
            go_ret
            exact ⟨ret_i hR.out.symm, HBu.out⟩
    · have hR : Hid (E = 0) := HZ.out fun i hi h1 => hin.out i (by omega) h1
      clear hin
      go_wp2
      go_ret
      exact ⟨ret_i hR.out.symm, HBw.out⟩
theorem pForm_10100 (g va vb vf : Value) (m k : Nat) (Q N : Int) (es : List Tri) (a b f : List Int) (w : World) (hk : k < 9) (hg : GV w g m es) (ha : RI w va a) (hb : RI w vb b) (hf : RI w vf f) (_hm1 : 1 ≤ m) (_hm : m ≤ 12)
    (uq : kq k = true) (un : kn k = false) (ua : ka k = true) (ub : kb k = false) (uf : kf k = false) :
    Calls Tryz.prog 35 #[g, .agg #[.int .i64 (k : Int), .int .i64 Q, .int .i64 N, va, vb, vf]] w fun e w' => e = .returned (.int .i64 (formG m k Q N a b f)) ∧ Below w.heap.size w w' := by
  obtain ⟨Ag, cg, rfl, -⟩ := hg.open_
  obtain ⟨Aa, ca, rfl, -, hla, -⟩ := ha.open_
  obtain ⟨Ab, cb, rfl, -, hlb, -⟩ := hb.open_
  obtain ⟨Af, cf, rfl, -, hlf, -⟩ := hf.open_
  obtain ⟨W0, hW0⟩ : ∃ W0, W0 = (w.alloc (.cells #[.int .i64 (m : Int), .slice Ag es.length cg] 25)).alloc (.cells #[.int .i64 (k : Int), .int .i64 Q, .int .i64 N, .slice Aa a.length ca, .slice Ab b.length cb, .slice Af f.length cf] 40) := ⟨_, rfl⟩
  have hb0 : Below w.heap.size w W0 := by rw [hW0]; exact (below_alloc w _).alloc (by simp) _
  have hxg : BL W0 w.heap.size 25 [.int .i64 (m : Int), .slice Ag es.length cg] := by rw [hW0]; exact (BL.new' w _ _).alloc _
  have hxc : BL W0 (w.heap.size + 1) 40 [.int .i64 (k : Int), .int .i64 Q, .int .i64 N, .slice Aa a.length ca, .slice Ab b.length cb, .slice Af f.length cf] := by
    rw [hW0]
    have := BL.new' (w.alloc (.cells #[.int .i64 (m : Int), .slice Ag es.length cg] 25)) #[.int .i64 (k : Int), .int .i64 Q, .int .i64 N, .slice Aa a.length ca, .slice Ab b.length cb, .slice Af f.length cf] 40
    rwa [World.size_alloc] at this
  have HXg := Hd hxg
  have HXc := Hd hxc
  have HG0 := Hd (hg.below hb0)
  have HA0 := Hd (RI.below ha hb0)
  have HD0 := Hd (RI.below hb hb0)
  have HF0 := Hd (RI.below hf hb0)
  have HB0 := Hd hb0
  have HW0 := Hd hW0
  have HKi := Hd (pKinds_any W0)
  have HR : Hid (formG m k Q N a b f = if (kq k = true ∧ ¬ (0 ≤ Q ∧ Q < m)) ∨ (kn k = true ∧ (N < kl k ∨ 12 < N)) then 2
    else if ka k = true ∧ checkE a m ≠ 0 then checkE a m
    else if kb k = true ∧ checkE b m ≠ 0 then checkE b m
    else if kf k = true ∧ facNG m f ≠ 0 then facNG m f
    else if (kq k = false ∧ Q ≠ 0) ∨ (kn k = false ∧ N ≠ 0) ∨ (ka k = false ∧ a ≠ []) ∨ (kb k = false ∧ b ≠ []) ∨ (kf k = false ∧ f ≠ []) then 3 else 0) := rfl
  generalize formG m k Q N a b f = E at *
  have hk0 : ¬ (k : Int) < 0 := by omega
  have hk9 : ¬ (9 : Int) ≤ (k : Int) := by omega
  have hk9' : (k : Int) < 9 := by omega
  clear hg hxg hxc hW0 hb0 ha hb hf
  go_enter Tryz.func35, Tryz.ntmps35
  go_wp2_with fail
  rw [← HW0.out]
  refine HKi.out.mono ?_
  rintro e w1 ⟨rfl, hb1⟩
  obtain ⟨W1, hW1⟩ : ∃ W1, W1 = w1.alloc (.cells pkL.toArray 86) := ⟨_, rfl⟩
  have hb2 : Below w1.heap.size w1 W1 := by rw [hW1]; exact below_alloc w1 _
  have hx5 : BL W1 w1.heap.size 86 pkL := by rw [hW1]; exact BL.new' w1 _ _
  have HW1 := Hd hW1
  have hb12 : Below W0.heap.size W0 W1 := hb1.trans (hb2.mono hb1.size)
  have HB1 := Hd (HB0.out.trans (hb12.mono HB0.out.size))
  have HXg1 := Hd (HXg.out.bel hb12)
  have HXc1 := Hd (HXc.out.bel hb12)
  have HG1 := Hd (HG0.out.below hb12)
  have HA1 := Hd (RI.below HA0.out hb12)
  have HD1 := Hd (RI.below HD0.out hb12)
  have HF1 := Hd (RI.below HF0.out hb12)
  have hpk := PK.of hx5
  obtain ⟨S, -, p0, p1, p2, p3⟩ := hpk.2 k hk
  obtain ⟨W2, hW2⟩ : ∃ W2, W2 = W1.alloc (.cells #[.string S, .int .i64 (pm k), .int .i64 (kl k), .func (.func (pfn k)) #[] #[]] 85) := ⟨_, rfl⟩
  have hb3 : Below W1.heap.size W1 W2 := by rw [hW2]; exact below_alloc W1 _
  have hx6 : BL W2 W1.heap.size 85 [.string S, .int .i64 (pm k), .int .i64 (kl k), .func (.func (pfn k)) #[] #[]] := by rw [hW2]; exact BL.new' W1 _ _
  have HB2 := Hd (HB1.out.trans (hb3.mono HB1.out.size))
  have HXg2 := Hd (HXg1.out.bel hb3)
  have HXc2 := Hd (HXc1.out.bel hb3)
  have HG2 := Hd (HG1.out.below hb3)
  have HA2 := Hd (RI.below HA1.out hb3)
  have HD2 := Hd (RI.below HD1.out hb3)
  have HF2 := Hd (RI.below HF1.out hb3)
  have HK2 := Hd hx6
  have HW2 := Hd hW2
  have HU : Hid (∀ (i : Nat) (W : World), i < 5 → Calls Tryz.prog 58 #[.agg #[.string S, .int .i64 (pm k), .int .i64 (kl k), .func (.func (pfn k)) #[] #[]], .int .i64 (pb i)] W fun e w' => e = .returned (.bool (pu k i)) ∧ Below W.heap.size W w') := fun i W hi => puse_any k i hk hi S _ _ W
  have HU0 : Hid (∀ (W : World), Calls Tryz.prog 58 #[.agg #[.string S, .int .i64 (pm k), .int .i64 (kl k), .func (.func (pfn k)) #[] #[]], .int .i64 1] W fun e w' => e = .returned (.bool true) ∧ Below W.heap.size W w') := fun W => by rw [← uq]; exact HU.out 0 W (by decide)
  have HU1 : Hid (∀ (W : World), Calls Tryz.prog 58 #[.agg #[.string S, .int .i64 (pm k), .int .i64 (kl k), .func (.func (pfn k)) #[] #[]], .int .i64 2] W fun e w' => e = .returned (.bool false) ∧ Below W.heap.size W w') := fun W => by rw [← un]; exact HU.out 1 W (by decide)
  have HU2 : Hid (∀ (W : World), Calls Tryz.prog 58 #[.agg #[.string S, .int .i64 (pm k), .int .i64 (kl k), .func (.func (pfn k)) #[] #[]], .int .i64 4] W fun e w' => e = .returned (.bool true) ∧ Below W.heap.size W w') := fun W => by rw [← ua]; exact HU.out 2 W (by decide)
  have HU3 : Hid (∀ (W : World), Calls Tryz.prog 58 #[.agg #[.string S, .int .i64 (pm k), .int .i64 (kl k), .func (.func (pfn k)) #[] #[]], .int .i64 8] W fun e w' => e = .returned (.bool false) ∧ Below W.heap.size W w') := fun W => by rw [← ub]; exact HU.out 3 W (by decide)
  have HU4 : Hid (∀ (W : World), Calls Tryz.prog 58 #[.agg #[.string S, .int .i64 (pm k), .int .i64 (kl k), .func (.func (pfn k)) #[] #[]], .int .i64 16] W fun e w' => e = .returned (.bool false) ∧ Below W.heap.size W w') := fun W => by rw [← uf]; exact HU.out 4 W (by decide)
  have c0 := HXc1.out.cell 0
  have e0 := HK2.out.cell 0
  have e1 := HK2.out.cell 1
  have e2 := HK2.out.cell 2
  have e3 := HK2.out.cell 3
  obtain ⟨klk, hklk⟩ : ∃ z, z = kl k := ⟨_, rfl⟩
  have HKl := Hd hklk.symm
  clear hb1 hb2 hx5 hb12 hb3 hx6 hW1 hW2 hpk HXg HXc HG0 HA0 HD0 HF0 HB0 HXg1 HXc1 HG1 HA1 HD1 HF1 HKi
  generalize pm k = pmk at *
  rw [← hklk] at p2 e2 HU HU0 HU1 HU2 HU3 HU4 HW2 HK2
  clear hklk
  generalize pfn k = pfk at *
  have UQ := Hd uq
  have UN := Hd un
  have UA := Hd ua
  have UB := Hd ub
  have UF := Hd uf
  clear uq un ua ub uf
  rw [show (⟨w1.heap.size, 0, none⟩ : Addr).add (k * 4) = ⟨w1.heap.size, k * 4, none⟩ from addr_addz _ _] at p0 p1 p2 p3
  rw [HW2.out] at e0 e1 e2 e3
  go_wp2_with (refine wpList_store_row rfl 86 _ _ rfl w1.heap.size pkL.toArray rfl rfl _ _ (heap_alloc_new w1 _) pk_size (by kernel_rfl) (by kernel_rfl) ?_; rw [World.setRow_alloc_new, ← HW1.out])
  rw [← HW2.out]
  clear p0 p1 p2 p3 c0 e0 e1 e2 e3
  refine (HU0.out _).mono ?_
  rintro e W3 ⟨rfl, hb3⟩
  have HB3 := Hd (HB2.out.trans (hb3.mono HB2.out.size))
  have HXg3 := Hd (HXg2.out.bel hb3)
  have HXc3 := Hd (HXc2.out.bel hb3)
  have HG3 := Hd (HG2.out.below hb3)
  have HA3 := Hd (RI.below HA2.out hb3)
  have HD3 := Hd (RI.below HD2.out hb3)
  have HF3 := Hd (RI.below HF2.out hb3)
  have HK3 := Hd (HK2.out.bel hb3)
  clear hb3 HXg2 HXc2 HG2 HA2 HD2 HF2 HK2
  have c1 := HXc3.out.cell 1
  have g0 := HXg3.out.cell 0
  by_cases hQ0 : Q < 0
  · skip
    have hR : Hid (E = 2) := by show _ = _; rw [HR.out, if_pos (.inl ⟨UQ.out, by omega⟩)]
    clear HR
    go_wp2
    go_ret
    exact ⟨ret_i hR.out.symm, HB3.out⟩
  by_cases hQm : (m : Int) ≤ Q
  · skip
    have hR : Hid (E = 2) := by show _ = _; rw [HR.out, if_pos (.inl ⟨UQ.out, by omega⟩)]
    clear HR
    go_wp2
    go_ret
    exact ⟨ret_i hR.out.symm, HB3.out⟩
  have k0 := HK3.out.cell 0
  have k1 := HK3.out.cell 1
  have k2 := HK3.out.cell 2
  have k3 := HK3.out.cell 3
  go_wp2_with fail
  refine (HU1.out _).mono ?_
  rintro e W4 ⟨rfl, hb4⟩
  have HB4 := Hd (HB3.out.trans (hb4.mono HB3.out.size))
  have HXg4 := Hd (HXg3.out.bel hb4)
  have HXc4 := Hd (HXc3.out.bel hb4)
  have HG4 := Hd (HG3.out.below hb4)
  have HA4 := Hd (RI.below HA3.out hb4)
  have HD4 := Hd (RI.below HD3.out hb4)
  have HF4 := Hd (RI.below HF3.out hb4)
  have HK4 := Hd (HK3.out.bel hb4)
  clear hb4 HXg3 HXc3 HG3 HA3 HD3 HF3 HK3
  clear c1 g0 k0 k1 k2 k3
  have HR1 : Hid (E = _) := HR.out.trans (if_neg (fun h => h.elim (fun h => by have := h.2; omega) (fun h => absurd (UN.out.symm.trans h.1) (by decide))))
  clear HR
  have k0 := HK4.out.cell 0
  have k1 := HK4.out.cell 1
  have k2 := HK4.out.cell 2
  have k3 := HK4.out.cell 3
  go_wp2_with fail
  refine (HU2.out _).mono ?_
  rintro e W5 ⟨rfl, hb5⟩
  have HB5 := Hd (HB4.out.trans (hb5.mono HB4.out.size))
  have HXg5 := Hd (HXg4.out.bel hb5)
  have HXc5 := Hd (HXc4.out.bel hb5)
  have HG5 := Hd (HG4.out.below hb5)
  have HA5 := Hd (RI.below HA4.out hb5)
  have HD5 := Hd (RI.below HD4.out hb5)
  have HF5 := Hd (RI.below HF4.out hb5)
  have HK5 := Hd (HK4.out.bel hb5)
  clear hb5 HXg4 HXc4 HG4 HA4 HD4 HF4 HK4
  clear k0 k1 k2 k3
  have c3 := HXc5.out.cell 3
  have g0 := HXg5.out.cell 0
  have HCk := Hd (check_any _ a (m : Int) W5 HA5.out)
  go_wp2_with fail
  refine HCk.out.mono ?_
  rintro e w_ ⟨rfl, rfl⟩
  clear HCk
  by_cases hE3 : checkE a m ≠ 0
  · have hR : Hid (E = checkE a m) := by show _ = _; rw [HR1.out, if_pos ⟨UA.out, hE3⟩]
    generalize checkE a m = ce at *
    have t1 : (ce != 0) = true := by simpa using hE3
    clear HR1 hE3
    go_wp2
    go_ret
    exact ⟨ret_i hR.out.symm, HB5.out⟩
  have HR2 : Hid (E = _) := HR1.out.trans (if_neg (fun h => hE3 h.2))
  have hE3' : checkE a m = 0 := by omega
  rw [hE3']
  clear HR1 hE3 hE3'
  clear c3 g0
  have k0 := HK5.out.cell 0
  have k1 := HK5.out.cell 1
  have k2 := HK5.out.cell 2
  have k3 := HK5.out.cell 3
  go_wp2_with fail
  refine (HU3.out _).mono ?_
  rintro e W6 ⟨rfl, hb6⟩
  have HB6 := Hd (HB5.out.trans (hb6.mono HB5.out.size))
  have HXg6 := Hd (HXg5.out.bel hb6)
  have HXc6 := Hd (HXc5.out.bel hb6)
  have HG6 := Hd (HG5.out.below hb6)
  have HA6 := Hd (RI.below HA5.out hb6)
  have HD6 := Hd (RI.below HD5.out hb6)
  have HF6 := Hd (RI.below HF5.out hb6)
  have HK6 := Hd (HK5.out.bel hb6)
  clear hb6 HXg5 HXc5 HG5 HA5 HD5 HF5 HK5
  clear k0 k1 k2 k3
  have HR3 : Hid (E = _) := HR2.out.trans (if_neg (fun h => absurd (UB.out.symm.trans h.1) (by decide)))
  clear HR2
  have k0 := HK6.out.cell 0
  have k1 := HK6.out.cell 1
  have k2 := HK6.out.cell 2
  have k3 := HK6.out.cell 3
  go_wp2_with fail
  refine (HU4.out _).mono ?_
  rintro e W7 ⟨rfl, hb7⟩
  have HB7 := Hd (HB6.out.trans (hb7.mono HB6.out.size))
  have HXg7 := Hd (HXg6.out.bel hb7)
  have HXc7 := Hd (HXc6.out.bel hb7)
  have HG7 := Hd (HG6.out.below hb7)
  have HA7 := Hd (RI.below HA6.out hb7)
  have HD7 := Hd (RI.below HD6.out hb7)
  have HF7 := Hd (RI.below HF6.out hb7)
  have HK7 := Hd (HK6.out.bel hb7)
  clear hb7 HXg6 HXc6 HG6 HA6 HD6 HF6 HK6
  clear k0 k1 k2 k3
  have HR4 : Hid (E = _) := HR3.out.trans (if_neg (fun h => absurd (UF.out.symm.trans h.1) (by decide)))
  clear HR3
  have c1 := HXc7.out.cell 1
  have c2 := HXc7.out.cell 2
  have c3 := HXc7.out.cell 3
  have c4 := HXc7.out.cell 4
  have c5 := HXc7.out.cell 5
  have HL : Hid (∀ i, i < 5 → givB Q N a b f i = true → pu k i = false → E = 3) := fun i hi h1 h2 => by
    show E = 3
    rw [HR4.out, if_pos (giv_not hi h1 h2)]
  have HZ : Hid ((∀ i, i < 5 → givB Q N a b f i = true → pu k i = true) → E = 0) := fun h => by
    show E = 0
    rw [HR4.out, if_neg]
    intro hh
    obtain ⟨i, h1, h2, h3⟩ := giv_any hh
    rw [h i h1 h2] at h3
    exact absurd h3 (by decide)
  clear HR4
  obtain ⟨WL, hWL⟩ : ∃ WL, WL = W7.alloc (.cells #[.bool (Q != 0), .bool (N != 0), .bool (decide (0 < a.length)), .bool (decide (0 < b.length)), .bool (decide (0 < f.length))] 111) := ⟨_, rfl⟩
  have hbL : Below W7.heap.size W7 WL := by rw [hWL]; exact below_alloc W7 _
  have HBL := Hd (HB7.out.trans (hbL.mono HB7.out.size))
  have HKL := Hd (HK7.out.bel hbL)
  have HWL := Hd hWL
  clear hWL hbL HXg7 HXc7 HK7
  go_upto_region 21 with fail
  rw [← HWL.out]
  generalize h0 : (Q != 0) = b0
  generalize h1 : (N != 0) = b1
  generalize h2 : (decide (0 < a.length)) = b2
  generalize h3 : (decide (0 < b.length)) = b3
  generalize h4 : (decide (0 < f.length)) = b4
  have HG0 := Hd h0
  have HG1 := Hd h1
  have HG2 := Hd h2
  have HG3 := Hd h3
  have HG4 := Hd h4
  have c10 : WL.cell? ⟨W7.heap.size, 0, none⟩ = some (.bool b0) := by rw [HWL.out, h0, h1, h2, h3, h4]; exact (BL.new' W7 _ _).cell 0
  have c11 : WL.cell? ⟨W7.heap.size, 1, none⟩ = some (.bool b1) := by rw [HWL.out, h0, h1, h2, h3, h4]; exact (BL.new' W7 _ _).cell 1
  have c12 : WL.cell? ⟨W7.heap.size, 2, none⟩ = some (.bool b2) := by rw [HWL.out, h0, h1, h2, h3, h4]; exact (BL.new' W7 _ _).cell 2
  have c13 : WL.cell? ⟨W7.heap.size, 3, none⟩ = some (.bool b3) := by rw [HWL.out, h0, h1, h2, h3, h4]; exact (BL.new' W7 _ _).cell 3
  have c14 : WL.cell? ⟨W7.heap.size, 4, none⟩ = some (.bool b4) := by rw [HWL.out, h0, h1, h2, h3, h4]; exact (BL.new' W7 _ _).cell 4
  clear h0 h1 h2 h3 h4 HWL c1 c2 c3 c4 c5 hk0 hk9 hk9'
  go_wp2_with fail
  go_loopw [104] (fun i wr => ∃ j : Nat, j ≤ 5 ∧ i = .int .i64 (j : Int) ∧ Hid (∀ i, i < j → givB Q N a b f i = true → pu k i = true) ∧ Hid (Below WL.heap.size WL wr)) (fun i _ => 5 - (intOf i).toNat)
  case atStart => exact ⟨0, Nat.zero_le _, rfl, fun i hi => absurd hi (Nat.not_lt_zero _), Below.refl _ _⟩
  case round =>
    obtain ⟨j, hj, rfl, hin, hbw⟩ := hrel
    have HBw := Hd (HBL.out.trans (hbw.out.mono HBL.out.size))
    by_cases hlt : j < 5
    · have e0 := (HKL.out.bel hbw.out).cell 0
      have e1 := (HKL.out.bel hbw.out).cell 1
      have e2 := (HKL.out.bel hbw.out).cell 2
      have e3 := (HKL.out.bel hbw.out).cell 3
      clear c10 c11 c12 c13 c14
      obtain rfl | rfl | rfl | rfl | rfl : j = 0 ∨ j = 1 ∨ j = 2 ∨ j = 3 ∨ j = 4 := by omega
      · have hix : ∀ W : World, (Instr.index 111 (.agg #[.bool b0, .bool b1, .bool b2, .bool b3, .bool b4]) (.int .i64 0)).run Tryz.prog W = .ok (.bool b0) W := fun W => idx_bool5 b0 b1 b2 b3 b4 W 0 0 rfl (by decide)
        cases b0
        · go_wp2_with fail
          go_region
          all_goals
            go_wp2
            go_roundw
            case rel => exact ⟨1, by omega, by go_num, (fun i hi h1 => by
              rcases Nat.lt_succ_iff_lt_or_eq.1 hi with h | rfl
              · exact hin.out i h h1
              · exact absurd (HG0.out.symm.trans h1) (by decide)), by first | exact hbw.out | exact hbw.out.drew⟩
            case measure => simp [intOf]
        · go_wp2_with fail
          go_region_with (go_at_call 58; refine (HU0.out _).mono ?_; rintro e wu ⟨rfl, hbu⟩; have HBu := Hd (hbw.out.trans (((Below.refl wr.heap.size wr).drew.trans hbu).mono hbw.out.size)); clear hbu)
          all_goals
            go_wp2
            go_roundw
            case rel => exact ⟨1, by omega, by go_num, (fun i hi h1 => by
              rcases Nat.lt_succ_iff_lt_or_eq.1 hi with h | rfl
              · exact hin.out i h h1
              · exact UQ.out), HBu.out⟩
            case measure => simp [intOf]
      · have hix : ∀ W : World, (Instr.index 111 (.agg #[.bool b0, .bool b1, .bool b2, .bool b3, .bool b4]) (.int .i64 1)).run Tryz.prog W = .ok (.bool b1) W := fun W => idx_bool5 b0 b1 b2 b3 b4 W 1 1 rfl (by decide)
        cases b1
        · go_wp2_with fail
          go_region
          all_goals
            go_wp2
            go_roundw
            case rel => exact ⟨2, by omega, by go_num, (fun i hi h1 => by
              rcases Nat.lt_succ_iff_lt_or_eq.1 hi with h | rfl
              · exact hin.out i h h1
              · exact absurd (HG1.out.symm.trans h1) (by decide)), by first | exact hbw.out | exact hbw.out.drew⟩
            case measure => simp [intOf]
        · have hR : Hid (E = 3) := HL.out 1 (by decide) HG1.out UN.out
          go_wp2_with fail
          go_region_with (go_at_call 58; refine (HU1.out _).mono ?_; rintro e wu ⟨rfl, hbu⟩; have HBu := Hd (HBw.out.trans (((Below.refl wr.heap.size wr).drew.trans hbu).mono HBw.out.size)); clear hbu)
          all_goals
            go_wp2
            go_ret
            exact ⟨ret_i hR.out.symm, HBu.out⟩
      · have hix : ∀ W : World, (Instr.index 111 (.agg #[.bool b0, .bool b1, .bool b2, .bool b3, .bool b4]) (.int .i64 2)).run Tryz.prog W = .ok (.bool b2) W := fun W => idx_bool5 b0 b1 b2 b3 b4 W 2 2 rfl (by decide)
        cases b2
        · go_wp2_with fail
          go_region
          all_goals
            go_wp2
            go_roundw
            case rel => exact ⟨3, by omega, by go_num, (fun i hi h1 => by
              rcases Nat.lt_succ_iff_lt_or_eq.1 hi with h | rfl
              · exact hin.out i h h1
              · exact absurd (HG2.out.symm.trans h1) (by decide)), by first | exact hbw.out | exact hbw.out.drew⟩
            case measure => simp [intOf]
        · go_wp2_with fail
          go_region_with (go_at_call 58; refine (HU2.out _).mono ?_; rintro e wu ⟨rfl, hbu⟩; have HBu := Hd (hbw.out.trans (((Below.refl wr.heap.size wr).drew.trans hbu).mono hbw.out.size)); clear hbu)
          all_goals
            go_wp2
            go_roundw
            case rel => exact ⟨3, by omega, by go_num, (fun i hi h1 => by
              rcases Nat.lt_succ_iff_lt_or_eq.1 hi with h | rfl
              · exact hin.out i h h1
              · exact UA.out), HBu.out⟩
            case measure => simp [intOf]
      · have hix : ∀ W : World, (Instr.index 111 (.agg #[.bool b0, .bool b1, .bool b2, .bool b3, .bool b4]) (.int .i64 3)).run Tryz.prog W = .ok (.bool b3) W := fun W => idx_bool5 b0 b1 b2 b3 b4 W 3 3 rfl (by decide)
        cases b3
        · go_wp2_with fail
          go_region
          all_goals
            go_wp2
            go_roundw
            case rel => exact ⟨4, by omega, by go_num, (fun i hi h1 => by
              rcases Nat.lt_succ_iff_lt_or_eq.1 hi with h | rfl
              · exact hin.out i h h1
              · exact absurd (HG3.out.symm.trans h1) (by decide)), by first | exact hbw.out | exact hbw.out.drew⟩
            case measure => simp [intOf]
        · have hR : Hid (E = 3) := HL.out 3 (by decide) HG3.out UB.out
          go_wp2_with fail
          go_region_with (go_at_call 58; refine (HU3.out _).mono ?_; rintro e wu ⟨rfl, hbu⟩; have HBu := Hd (HBw.out.trans (((Below.refl wr.heap.size wr).drew.trans hbu).mono HBw.out.size)); clear hbu)
          all_goals
            go_wp2
            go_ret
            exact ⟨ret_i hR.out.symm, HBu.out⟩
      · have hix : ∀ W : World, (Instr.index 111 (.agg #[.bool b0, .bool b1, .bool b2, .bool b3, .bool b4]) (.int .i64 4)).run Tryz.prog W = .ok (.bool b4) W := fun W => idx_bool5 b0 b1 b2 b3 b4 W 4 4 rfl (by decide)
        cases b4
        · go_wp2_with fail
          go_region
          all_goals
            go_wp2
            go_roundw
            case rel => exact ⟨5, by omega, by go_num, (fun i hi h1 => by
              rcases Nat.lt_succ_iff_lt_or_eq.1 hi with h | rfl
              · exact hin.out i h h1
              · exact absurd (HG4.out.symm.trans h1) (by decide)), by first | exact hbw.out | exact hbw.out.drew⟩
            case measure => simp [intOf]
        · have hR : Hid (E = 3) := HL.out 4 (by decide) HG4.out UF.out
          go_wp2_with fail
          go_region_with (go_at_call 58; refine (HU4.out _).mono ?_; rintro e wu ⟨rfl, hbu⟩; have HBu := Hd (HBw.out.trans (((Below.refl wr.heap.size wr).drew.trans hbu).mono HBw.out.size)); clear hbu)
          all_goals
            go_wp2
            go_ret
            exact ⟨ret_i hR.out.symm, HBu.out⟩
    · have hR : Hid (E = 0) := HZ.out fun i hi h1 => hin.out i (by omega) h1
      clear hin
      go_wp2
      go_ret
      exact ⟨ret_i hR.out.symm, HBw.out⟩
theorem pForm_10110 (g va vb vf : Value) (m k : Nat) (Q N : Int) (es : List Tri) (a b f : List Int) (w : World) (hk : k < 9) (hg : GV w g m es) (ha : RI w va a) (hb : RI w vb b) (hf : RI w vf f) (_hm1 : 1 ≤ m) (_hm : m ≤ 12)
    (uq : kq k = true) (un : kn k = false) (ua : ka k = true) (ub : kb k = true) (uf : kf k = false) :
    Calls Tryz.prog 35 #[g, .agg #[.int .i64 (k : Int), .int .i64 Q, .int .i64 N, va, vb, vf]] w fun e w' => e = .returned (.int .i64 (formG m k Q N a b f)) ∧ Below w.heap.size w w' := by
  obtain ⟨Ag, cg, rfl, -⟩ := hg.open_
  obtain ⟨Aa, ca, rfl, -, hla, -⟩ := ha.open_
  obtain ⟨Ab, cb, rfl, -, hlb, -⟩ := hb.open_
  obtain ⟨Af, cf, rfl, -, hlf, -⟩ := hf.open_
  obtain ⟨W0, hW0⟩ : ∃ W0, W0 = (w.alloc (.cells #[.int .i64 (m : Int), .slice Ag es.length cg] 25)).alloc (.cells #[.int .i64 (k : Int), .int .i64 Q, .int .i64 N, .slice Aa a.length ca, .slice Ab b.length cb, .slice Af f.length cf] 40) := ⟨_, rfl⟩
  have hb0 : Below w.heap.size w W0 := by rw [hW0]; exact (below_alloc w _).alloc (by simp) _
  have hxg : BL W0 w.heap.size 25 [.int .i64 (m : Int), .slice Ag es.length cg] := by rw [hW0]; exact (BL.new' w _ _).alloc _
  have hxc : BL W0 (w.heap.size + 1) 40 [.int .i64 (k : Int), .int .i64 Q, .int .i64 N, .slice Aa a.length ca, .slice Ab b.length cb, .slice Af f.length cf] := by
    rw [hW0]
    have := BL.new' (w.alloc (.cells #[.int .i64 (m : Int), .slice Ag es.length cg] 25)) #[.int .i64 (k : Int), .int .i64 Q, .int .i64 N, .slice Aa a.length ca, .slice Ab b.length cb, .slice Af f.length cf] 40
    rwa [World.size_alloc] at this
  have HXg := Hd hxg
  have HXc := Hd hxc
  have HG0 := Hd (hg.below hb0)
  have HA0 := Hd (RI.below ha hb0)
  have HD0 := Hd (RI.below hb hb0)
  have HF0 := Hd (RI.below hf hb0)
  have HB0 := Hd hb0
  have HW0 := Hd hW0
  have HKi := Hd (pKinds_any W0)
  have HR : Hid (formG m k Q N a b f = if (kq k = true ∧ ¬ (0 ≤ Q ∧ Q < m)) ∨ (kn k = true ∧ (N < kl k ∨ 12 < N)) then 2
    else if ka k = true ∧ checkE a m ≠ 0 then checkE a m
    else if kb k = true ∧ checkE b m ≠ 0 then checkE b m
    else if kf k = true ∧ facNG m f ≠ 0 then facNG m f
    else if (kq k = false ∧ Q ≠ 0) ∨ (kn k = false ∧ N ≠ 0) ∨ (ka k = false ∧ a ≠ []) ∨ (kb k = false ∧ b ≠ []) ∨ (kf k = false ∧ f ≠ []) then 3 else 0) := rfl
  generalize formG m k Q N a b f = E at *
  have hk0 : ¬ (k : Int) < 0 := by omega
  have hk9 : ¬ (9 : Int) ≤ (k : Int) := by omega
  have hk9' : (k : Int) < 9 := by omega
  clear hg hxg hxc hW0 hb0 ha hb hf
  go_enter Tryz.func35, Tryz.ntmps35
  go_wp2_with fail
  rw [← HW0.out]
  refine HKi.out.mono ?_
  rintro e w1 ⟨rfl, hb1⟩
  obtain ⟨W1, hW1⟩ : ∃ W1, W1 = w1.alloc (.cells pkL.toArray 86) := ⟨_, rfl⟩
  have hb2 : Below w1.heap.size w1 W1 := by rw [hW1]; exact below_alloc w1 _
  have hx5 : BL W1 w1.heap.size 86 pkL := by rw [hW1]; exact BL.new' w1 _ _
  have HW1 := Hd hW1
  have hb12 : Below W0.heap.size W0 W1 := hb1.trans (hb2.mono hb1.size)
  have HB1 := Hd (HB0.out.trans (hb12.mono HB0.out.size))
  have HXg1 := Hd (HXg.out.bel hb12)
  have HXc1 := Hd (HXc.out.bel hb12)
  have HG1 := Hd (HG0.out.below hb12)
  have HA1 := Hd (RI.below HA0.out hb12)
  have HD1 := Hd (RI.below HD0.out hb12)
  have HF1 := Hd (RI.below HF0.out hb12)
  have hpk := PK.of hx5
  obtain ⟨S, -, p0, p1, p2, p3⟩ := hpk.2 k hk
  obtain ⟨W2, hW2⟩ : ∃ W2, W2 = W1.alloc (.cells #[.string S, .int .i64 (pm k), .int .i64 (kl k), .func (.func (pfn k)) #[] #[]] 85) := ⟨_, rfl⟩
  have hb3 : Below W1.heap.size W1 W2 := by rw [hW2]; exact below_alloc W1 _
  have hx6 : BL W2 W1.heap.size 85 [.string S, .int .i64 (pm k), .int .i64 (kl k), .func (.func (pfn k)) #[] #[]] := by rw [hW2]; exact BL.new' W1 _ _
  have HB2 := Hd (HB1.out.trans (hb3.mono HB1.out.size))
  have HXg2 := Hd (HXg1.out.bel hb3)
  have HXc2 := Hd (HXc1.out.bel hb3)
  have HG2 := Hd (HG1.out.below hb3)
  have HA2 := Hd (RI.below HA1.out hb3)
  have HD2 := Hd (RI.below HD1.out hb3)
  have HF2 := Hd (RI.below HF1.out hb3)
  have HK2 := Hd hx6
  have HW2 := Hd hW2
  have HU : Hid (∀ (i : Nat) (W : World), i < 5 → Calls Tryz.prog 58 #[.agg #[.string S, .int .i64 (pm k), .int .i64 (kl k), .func (.func (pfn k)) #[] #[]], .int .i64 (pb i)] W fun e w' => e = .returned (.bool (pu k i)) ∧ Below W.heap.size W w') := fun i W hi => puse_any k i hk hi S _ _ W
  have HU0 : Hid (∀ (W : World), Calls Tryz.prog 58 #[.agg #[.string S, .int .i64 (pm k), .int .i64 (kl k), .func (.func (pfn k)) #[] #[]], .int .i64 1] W fun e w' => e = .returned (.bool true) ∧ Below W.heap.size W w') := fun W => by rw [← uq]; exact HU.out 0 W (by decide)
  have HU1 : Hid (∀ (W : World), Calls Tryz.prog 58 #[.agg #[.string S, .int .i64 (pm k), .int .i64 (kl k), .func (.func (pfn k)) #[] #[]], .int .i64 2] W fun e w' => e = .returned (.bool false) ∧ Below W.heap.size W w') := fun W => by rw [← un]; exact HU.out 1 W (by decide)
  have HU2 : Hid (∀ (W : World), Calls Tryz.prog 58 #[.agg #[.string S, .int .i64 (pm k), .int .i64 (kl k), .func (.func (pfn k)) #[] #[]], .int .i64 4] W fun e w' => e = .returned (.bool true) ∧ Below W.heap.size W w') := fun W => by rw [← ua]; exact HU.out 2 W (by decide)
  have HU3 : Hid (∀ (W : World), Calls Tryz.prog 58 #[.agg #[.string S, .int .i64 (pm k), .int .i64 (kl k), .func (.func (pfn k)) #[] #[]], .int .i64 8] W fun e w' => e = .returned (.bool true) ∧ Below W.heap.size W w') := fun W => by rw [← ub]; exact HU.out 3 W (by decide)
  have HU4 : Hid (∀ (W : World), Calls Tryz.prog 58 #[.agg #[.string S, .int .i64 (pm k), .int .i64 (kl k), .func (.func (pfn k)) #[] #[]], .int .i64 16] W fun e w' => e = .returned (.bool false) ∧ Below W.heap.size W w') := fun W => by rw [← uf]; exact HU.out 4 W (by decide)
  have c0 := HXc1.out.cell 0
  have e0 := HK2.out.cell 0
  have e1 := HK2.out.cell 1
  have e2 := HK2.out.cell 2
  have e3 := HK2.out.cell 3
  obtain ⟨klk, hklk⟩ : ∃ z, z = kl k := ⟨_, rfl⟩
  have HKl := Hd hklk.symm
  clear hb1 hb2 hx5 hb12 hb3 hx6 hW1 hW2 hpk HXg HXc HG0 HA0 HD0 HF0 HB0 HXg1 HXc1 HG1 HA1 HD1 HF1 HKi
  generalize pm k = pmk at *
  rw [← hklk] at p2 e2 HU HU0 HU1 HU2 HU3 HU4 HW2 HK2
  clear hklk
  generalize pfn k = pfk at *
  have UQ := Hd uq
  have UN := Hd un
  have UA := Hd ua
  have UB := Hd ub
  have UF := Hd uf
  clear uq un ua ub uf
  rw [show (⟨w1.heap.size, 0, none⟩ : Addr).add (k * 4) = ⟨w1.heap.size, k * 4, none⟩ from addr_addz _ _] at p0 p1 p2 p3
  rw [HW2.out] at e0 e1 e2 e3
  go_wp2_with (refine wpList_store_row rfl 86 _ _ rfl w1.heap.size pkL.toArray rfl rfl _ _ (heap_alloc_new w1 _) pk_size (by kernel_rfl) (by kernel_rfl) ?_; rw [World.setRow_alloc_new, ← HW1.out])
  rw [← HW2.out]
  clear p0 p1 p2 p3 c0 e0 e1 e2 e3
  refine (HU0.out _).mono ?_
  rintro e W3 ⟨rfl, hb3⟩
  have HB3 := Hd (HB2.out.trans (hb3.mono HB2.out.size))
  have HXg3 := Hd (HXg2.out.bel hb3)
  have HXc3 := Hd (HXc2.out.bel hb3)
  have HG3 := Hd (HG2.out.below hb3)
  have HA3 := Hd (RI.below HA2.out hb3)
  have HD3 := Hd (RI.below HD2.out hb3)
  have HF3 := Hd (RI.below HF2.out hb3)
  have HK3 := Hd (HK2.out.bel hb3)
  clear hb3 HXg2 HXc2 HG2 HA2 HD2 HF2 HK2
  have c1 := HXc3.out.cell 1
  have g0 := HXg3.out.cell 0
  by_cases hQ0 : Q < 0
  · skip
    have hR : Hid (E = 2) := by show _ = _; rw [HR.out, if_pos (.inl ⟨UQ.out, by omega⟩)]
    clear HR
    go_wp2
    go_ret
    exact ⟨ret_i hR.out.symm, HB3.out⟩
  by_cases hQm : (m : Int) ≤ Q
  · skip
    have hR : Hid (E = 2) := by show _ = _; rw [HR.out, if_pos (.inl ⟨UQ.out, by omega⟩)]
    clear HR
    go_wp2
    go_ret
    exact ⟨ret_i hR.out.symm, HB3.out⟩
  have k0 := HK3.out.cell 0
  have k1 := HK3.out.cell 1
  have k2 := HK3.out.cell 2
  have k3 := HK3.out.cell 3
  go_wp2_with fail
  refine (HU1.out _).mono ?_
  rintro e W4 ⟨rfl, hb4⟩
  have HB4 := Hd (HB3.out.trans (hb4.mono HB3.out.size))
  have HXg4 := Hd (HXg3.out.bel hb4)
  have HXc4 := Hd (HXc3.out.bel hb4)
  have HG4 := Hd (HG3.out.below hb4)
  have HA4 := Hd (RI.below HA3.out hb4)
  have HD4 := Hd (RI.below HD3.out hb4)
  have HF4 := Hd (RI.below HF3.out hb4)
  have HK4 := Hd (HK3.out.bel hb4)
  clear hb4 HXg3 HXc3 HG3 HA3 HD3 HF3 HK3
  clear c1 g0 k0 k1 k2 k3
  have HR1 : Hid (E = _) := HR.out.trans (if_neg (fun h => h.elim (fun h => by have := h.2; omega) (fun h => absurd (UN.out.symm.trans h.1) (by decide))))
  clear HR
  have k0 := HK4.out.cell 0
  have k1 := HK4.out.cell 1
  have k2 := HK4.out.cell 2
  have k3 := HK4.out.cell 3
  go_wp2_with fail
  refine (HU2.out _).mono ?_
  rintro e W5 ⟨rfl, hb5⟩
  have HB5 := Hd (HB4.out.trans (hb5.mono HB4.out.size))
  have HXg5 := Hd (HXg4.out.bel hb5)
  have HXc5 := Hd (HXc4.out.bel hb5)
  have HG5 := Hd (HG4.out.below hb5)
  have HA5 := Hd (RI.below HA4.out hb5)
  have HD5 := Hd (RI.below HD4.out hb5)
  have HF5 := Hd (RI.below HF4.out hb5)
  have HK5 := Hd (HK4.out.bel hb5)
  clear hb5 HXg4 HXc4 HG4 HA4 HD4 HF4 HK4
  clear k0 k1 k2 k3
  have c3 := HXc5.out.cell 3
  have g0 := HXg5.out.cell 0
  have HCk := Hd (check_any _ a (m : Int) W5 HA5.out)
  go_wp2_with fail
  refine HCk.out.mono ?_
  rintro e w_ ⟨rfl, rfl⟩
  clear HCk
  by_cases hE3 : checkE a m ≠ 0
  · have hR : Hid (E = checkE a m) := by show _ = _; rw [HR1.out, if_pos ⟨UA.out, hE3⟩]
    generalize checkE a m = ce at *
    have t1 : (ce != 0) = true := by simpa using hE3
    clear HR1 hE3
    go_wp2
    go_ret
    exact ⟨ret_i hR.out.symm, HB5.out⟩
  have HR2 : Hid (E = _) := HR1.out.trans (if_neg (fun h => hE3 h.2))
  have hE3' : checkE a m = 0 := by omega
  rw [hE3']
  clear HR1 hE3 hE3'
  clear c3 g0
  have k0 := HK5.out.cell 0
  have k1 := HK5.out.cell 1
  have k2 := HK5.out.cell 2
  have k3 := HK5.out.cell 3
  go_wp2_with fail
  refine (HU3.out _).mono ?_
  rintro e W6 ⟨rfl, hb6⟩
  have HB6 := Hd (HB5.out.trans (hb6.mono HB5.out.size))
  have HXg6 := Hd (HXg5.out.bel hb6)
  have HXc6 := Hd (HXc5.out.bel hb6)
  have HG6 := Hd (HG5.out.below hb6)
  have HA6 := Hd (RI.below HA5.out hb6)
  have HD6 := Hd (RI.below HD5.out hb6)
  have HF6 := Hd (RI.below HF5.out hb6)
  have HK6 := Hd (HK5.out.bel hb6)
  clear hb6 HXg5 HXc5 HG5 HA5 HD5 HF5 HK5
  clear k0 k1 k2 k3
  have c4 := HXc6.out.cell 4
  have g0 := HXg6.out.cell 0
  have HCk := Hd (check_any _ b (m : Int) W6 HD6.out)
  go_wp2_with fail
  refine HCk.out.mono ?_
  rintro e w_ ⟨rfl, rfl⟩
  clear HCk
  by_cases hE4 : checkE b m ≠ 0
  · have hR : Hid (E = checkE b m) := by show _ = _; rw [HR2.out, if_pos ⟨UB.out, hE4⟩]
    generalize checkE b m = ce at *
    have t1 : (ce != 0) = true := by simpa using hE4
    clear HR2 hE4
    go_wp2
    go_ret
    exact ⟨ret_i hR.out.symm, HB6.out⟩
  have HR3 : Hid (E = _) := HR2.out.trans (if_neg (fun h => hE4 h.2))
  have hE4' : checkE b m = 0 := by omega
  rw [hE4']
  clear HR2 hE4 hE4'
  clear c4 g0
  have k0 := HK6.out.cell 0
  have k1 := HK6.out.cell 1
  have k2 := HK6.out.cell 2
  have k3 := HK6.out.cell 3
  go_wp2_with fail
  refine (HU4.out _).mono ?_
  rintro e W7 ⟨rfl, hb7⟩
  have HB7 := Hd (HB6.out.trans (hb7.mono HB6.out.size))
  have HXg7 := Hd (HXg6.out.bel hb7)
  have HXc7 := Hd (HXc6.out.bel hb7)
  have HG7 := Hd (HG6.out.below hb7)
  have HA7 := Hd (RI.below HA6.out hb7)
  have HD7 := Hd (RI.below HD6.out hb7)
  have HF7 := Hd (RI.below HF6.out hb7)
  have HK7 := Hd (HK6.out.bel hb7)
  clear hb7 HXg6 HXc6 HG6 HA6 HD6 HF6 HK6
  clear k0 k1 k2 k3
  have HR4 : Hid (E = _) := HR3.out.trans (if_neg (fun h => absurd (UF.out.symm.trans h.1) (by decide)))
  clear HR3
  have c1 := HXc7.out.cell 1
  have c2 := HXc7.out.cell 2
  have c3 := HXc7.out.cell 3
  have c4 := HXc7.out.cell 4
  have c5 := HXc7.out.cell 5
  have HL : Hid (∀ i, i < 5 → givB Q N a b f i = true → pu k i = false → E = 3) := fun i hi h1 h2 => by
    show E = 3
    rw [HR4.out, if_pos (giv_not hi h1 h2)]
  have HZ : Hid ((∀ i, i < 5 → givB Q N a b f i = true → pu k i = true) → E = 0) := fun h => by
    show E = 0
    rw [HR4.out, if_neg]
    intro hh
    obtain ⟨i, h1, h2, h3⟩ := giv_any hh
    rw [h i h1 h2] at h3
    exact absurd h3 (by decide)
  clear HR4
  obtain ⟨WL, hWL⟩ : ∃ WL, WL = W7.alloc (.cells #[.bool (Q != 0), .bool (N != 0), .bool (decide (0 < a.length)), .bool (decide (0 < b.length)), .bool (decide (0 < f.length))] 111) := ⟨_, rfl⟩
  have hbL : Below W7.heap.size W7 WL := by rw [hWL]; exact below_alloc W7 _
  have HBL := Hd (HB7.out.trans (hbL.mono HB7.out.size))
  have HKL := Hd (HK7.out.bel hbL)
  have HWL := Hd hWL
  clear hWL hbL HXg7 HXc7 HK7
  go_upto_region 21 with fail
  rw [← HWL.out]
  generalize h0 : (Q != 0) = b0
  generalize h1 : (N != 0) = b1
  generalize h2 : (decide (0 < a.length)) = b2
  generalize h3 : (decide (0 < b.length)) = b3
  generalize h4 : (decide (0 < f.length)) = b4
  have HG0 := Hd h0
  have HG1 := Hd h1
  have HG2 := Hd h2
  have HG3 := Hd h3
  have HG4 := Hd h4
  have c10 : WL.cell? ⟨W7.heap.size, 0, none⟩ = some (.bool b0) := by rw [HWL.out, h0, h1, h2, h3, h4]; exact (BL.new' W7 _ _).cell 0
  have c11 : WL.cell? ⟨W7.heap.size, 1, none⟩ = some (.bool b1) := by rw [HWL.out, h0, h1, h2, h3, h4]; exact (BL.new' W7 _ _).cell 1
  have c12 : WL.cell? ⟨W7.heap.size, 2, none⟩ = some (.bool b2) := by rw [HWL.out, h0, h1, h2, h3, h4]; exact (BL.new' W7 _ _).cell 2
  have c13 : WL.cell? ⟨W7.heap.size, 3, none⟩ = some (.bool b3) := by rw [HWL.out, h0, h1, h2, h3, h4]; exact (BL.new' W7 _ _).cell 3
  have c14 : WL.cell? ⟨W7.heap.size, 4, none⟩ = some (.bool b4) := by rw [HWL.out, h0, h1, h2, h3, h4]; exact (BL.new' W7 _ _).cell 4
  clear h0 h1 h2 h3 h4 HWL c1 c2 c3 c4 c5 hk0 hk9 hk9'
  go_wp2_with fail
  go_loopw [104] (fun i wr => ∃ j : Nat, j ≤ 5 ∧ i = .int .i64 (j : Int) ∧ Hid (∀ i, i < j → givB Q N a b f i = true → pu k i = true) ∧ Hid (Below WL.heap.size WL wr)) (fun i _ => 5 - (intOf i).toNat)
  case atStart => exact ⟨0, Nat.zero_le _, rfl, fun i hi => absurd hi (Nat.not_lt_zero _), Below.refl _ _⟩
  case round =>
    obtain ⟨j, hj, rfl, hin, hbw⟩ := hrel
    have HBw := Hd (HBL.out.trans (hbw.out.mono HBL.out.size))
    by_cases hlt : j < 5
    · have e0 := (HKL.out.bel hbw.out).cell 0
      have e1 := (HKL.out.bel hbw.out).cell 1
      have e2 := (HKL.out.bel hbw.out).cell 2
      have e3 := (HKL.out.bel hbw.out).cell 3
      clear c10 c11 c12 c13 c14
      obtain rfl | rfl | rfl | rfl | rfl : j = 0 ∨ j = 1 ∨ j = 2 ∨ j = 3 ∨ j = 4 := by omega
      · have hix : ∀ W : World, (Instr.index 111 (.agg #[.bool b0, .bool b1, .bool b2, .bool b3, .bool b4]) (.int .i64 0)).run Tryz.prog W = .ok (.bool b0) W := fun W => idx_bool5 b0 b1 b2 b3 b4 W 0 0 rfl (by decide)
        cases b0
        · go_wp2_with fail
          go_region
          all_goals
            go_wp2
            go_roundw
            case rel => exact ⟨1, by omega, by go_num, (fun i hi h1 => by
              rcases Nat.lt_succ_iff_lt_or_eq.1 hi with h | rfl
              · exact hin.out i h h1
              · exact absurd (HG0.out.symm.trans h1) (by decide)), by first | exact hbw.out | exact hbw.out.drew⟩
            case measure => simp [intOf]
        · go_wp2_with fail
          go_region_with (go_at_call 58; refine (HU0.out _).mono ?_; rintro e wu ⟨rfl, hbu⟩; have HBu := Hd (hbw.out.trans (((Below.refl wr.heap.size wr).drew.trans hbu).mono hbw.out.size)); clear hbu)
          all_goals
            go_wp2
            go_roundw
            case rel => exact ⟨1, by omega, by go_num, (fun i hi h1 => by
              rcases Nat.lt_succ_iff_lt_or_eq.1 hi with h | rfl
              · exact hin.out i h h1
              · exact UQ.out), HBu.out⟩
            case measure => simp [intOf]
      · have hix : ∀ W : World, (Instr.index 111 (.agg #[.bool b0, .bool b1, .bool b2, .bool b3, .bool b4]) (.int .i64 1)).run Tryz.prog W = .ok (.bool b1) W := fun W => idx_bool5 b0 b1 b2 b3 b4 W 1 1 rfl (by decide)
        cases b1
        · go_wp2_with fail
          go_region
          all_goals
            go_wp2
            go_roundw
            case rel => exact ⟨2, by omega, by go_num, (fun i hi h1 => by
              rcases Nat.lt_succ_iff_lt_or_eq.1 hi with h | rfl
              · exact hin.out i h h1
              · exact absurd (HG1.out.symm.trans h1) (by decide)), by first | exact hbw.out | exact hbw.out.drew⟩
            case measure => simp [intOf]
        · have hR : Hid (E = 3) := HL.out 1 (by decide) HG1.out UN.out
          go_wp2_with fail
          go_region_with (go_at_call 58; refine (HU1.out _).mono ?_; rintro e wu ⟨rfl, hbu⟩; have HBu := Hd (HBw.out.trans (((Below.refl wr.heap.size wr).drew.trans hbu).mono HBw.out.size)); clear hbu)
          all_goals
            go_wp2
            go_ret
            exact ⟨ret_i hR.out.symm, HBu.out⟩
      · have hix : ∀ W : World, (Instr.index 111 (.agg #[.bool b0, .bool b1, .bool b2, .bool b3, .bool b4]) (.int .i64 2)).run Tryz.prog W = .ok (.bool b2) W := fun W => idx_bool5 b0 b1 b2 b3 b4 W 2 2 rfl (by decide)
        cases b2
        · go_wp2_with fail
          go_region
          all_goals
            go_wp2
            go_roundw
            case rel => exact ⟨3, by omega, by go_num, (fun i hi h1 => by
              rcases Nat.lt_succ_iff_lt_or_eq.1 hi with h | rfl
              · exact hin.out i h h1
              · exact absurd (HG2.out.symm.trans h1) (by decide)), by first | exact hbw.out | exact hbw.out.drew⟩
            case measure => simp [intOf]
        · go_wp2_with fail
          go_region_with (go_at_call 58; refine (HU2.out _).mono ?_; rintro e wu ⟨rfl, hbu⟩; have HBu := Hd (hbw.out.trans (((Below.refl wr.heap.size wr).drew.trans hbu).mono hbw.out.size)); clear hbu)
          all_goals
            go_wp2
            go_roundw
            case rel => exact ⟨3, by omega, by go_num, (fun i hi h1 => by
              rcases Nat.lt_succ_iff_lt_or_eq.1 hi with h | rfl
              · exact hin.out i h h1
              · exact UA.out), HBu.out⟩
            case measure => simp [intOf]
      · have hix : ∀ W : World, (Instr.index 111 (.agg #[.bool b0, .bool b1, .bool b2, .bool b3, .bool b4]) (.int .i64 3)).run Tryz.prog W = .ok (.bool b3) W := fun W => idx_bool5 b0 b1 b2 b3 b4 W 3 3 rfl (by decide)
        cases b3
        · go_wp2_with fail
          go_region
          all_goals
            go_wp2
            go_roundw
            case rel => exact ⟨4, by omega, by go_num, (fun i hi h1 => by
              rcases Nat.lt_succ_iff_lt_or_eq.1 hi with h | rfl
              · exact hin.out i h h1
              · exact absurd (HG3.out.symm.trans h1) (by decide)), by first | exact hbw.out | exact hbw.out.drew⟩
            case measure => simp [intOf]
        · go_wp2_with fail
          go_region_with (go_at_call 58; refine (HU3.out _).mono ?_; rintro e wu ⟨rfl, hbu⟩; have HBu := Hd (hbw.out.trans (((Below.refl wr.heap.size wr).drew.trans hbu).mono hbw.out.size)); clear hbu)
          all_goals
            go_wp2
            go_roundw
            case rel => exact ⟨4, by omega, by go_num, (fun i hi h1 => by
              rcases Nat.lt_succ_iff_lt_or_eq.1 hi with h | rfl
              · exact hin.out i h h1
              · exact UB.out), HBu.out⟩
            case measure => simp [intOf]
      · have hix : ∀ W : World, (Instr.index 111 (.agg #[.bool b0, .bool b1, .bool b2, .bool b3, .bool b4]) (.int .i64 4)).run Tryz.prog W = .ok (.bool b4) W := fun W => idx_bool5 b0 b1 b2 b3 b4 W 4 4 rfl (by decide)
        cases b4
        · go_wp2_with fail
          go_region
          all_goals
            go_wp2
            go_roundw
            case rel => exact ⟨5, by omega, by go_num, (fun i hi h1 => by
              rcases Nat.lt_succ_iff_lt_or_eq.1 hi with h | rfl
              · exact hin.out i h h1
              · exact absurd (HG4.out.symm.trans h1) (by decide)), by first | exact hbw.out | exact hbw.out.drew⟩
            case measure => simp [intOf]
        · have hR : Hid (E = 3) := HL.out 4 (by decide) HG4.out UF.out
          go_wp2_with fail
          go_region_with (go_at_call 58; refine (HU4.out _).mono ?_; rintro e wu ⟨rfl, hbu⟩; have HBu := Hd (HBw.out.trans (((Below.refl wr.heap.size wr).drew.trans hbu).mono HBw.out.size)); clear hbu)
          all_goals
            go_wp2
            go_ret
            exact ⟨ret_i hR.out.symm, HBu.out⟩
    · have hR : Hid (E = 0) := HZ.out fun i hi h1 => hin.out i (by omega) h1
      clear hin
      go_wp2
      go_ret
      exact ⟨ret_i hR.out.symm, HBw.out⟩
theorem pForm_00001 (g va vb vf : Value) (m k : Nat) (Q N : Int) (es : List Tri) (a b f : List Int) (w : World) (hk : k < 9) (hg : GV w g m es) (ha : RI w va a) (hb : RI w vb b) (hf : RI w vf f) (_hm1 : 1 ≤ m) (hm : m ≤ 12)
    (uq : kq k = false) (un : kn k = false) (ua : ka k = false) (ub : kb k = false) (uf : kf k = true) :
    Calls Tryz.prog 35 #[g, .agg #[.int .i64 (k : Int), .int .i64 Q, .int .i64 N, va, vb, vf]] w fun e w' => e = .returned (.int .i64 (formG m k Q N a b f)) ∧ Below w.heap.size w w' := by
  obtain ⟨Ag, cg, rfl, -⟩ := hg.open_
  obtain ⟨Aa, ca, rfl, -, hla, -⟩ := ha.open_
  obtain ⟨Ab, cb, rfl, -, hlb, -⟩ := hb.open_
  obtain ⟨Af, cf, rfl, -, hlf, -⟩ := hf.open_
  obtain ⟨W0, hW0⟩ : ∃ W0, W0 = (w.alloc (.cells #[.int .i64 (m : Int), .slice Ag es.length cg] 25)).alloc (.cells #[.int .i64 (k : Int), .int .i64 Q, .int .i64 N, .slice Aa a.length ca, .slice Ab b.length cb, .slice Af f.length cf] 40) := ⟨_, rfl⟩
  have hb0 : Below w.heap.size w W0 := by rw [hW0]; exact (below_alloc w _).alloc (by simp) _
  have hxg : BL W0 w.heap.size 25 [.int .i64 (m : Int), .slice Ag es.length cg] := by rw [hW0]; exact (BL.new' w _ _).alloc _
  have hxc : BL W0 (w.heap.size + 1) 40 [.int .i64 (k : Int), .int .i64 Q, .int .i64 N, .slice Aa a.length ca, .slice Ab b.length cb, .slice Af f.length cf] := by
    rw [hW0]
    have := BL.new' (w.alloc (.cells #[.int .i64 (m : Int), .slice Ag es.length cg] 25)) #[.int .i64 (k : Int), .int .i64 Q, .int .i64 N, .slice Aa a.length ca, .slice Ab b.length cb, .slice Af f.length cf] 40
    rwa [World.size_alloc] at this
  have HXg := Hd hxg
  have HXc := Hd hxc
  have HG0 := Hd (hg.below hb0)
  have HA0 := Hd (RI.below ha hb0)
  have HD0 := Hd (RI.below hb hb0)
  have HF0 := Hd (RI.below hf hb0)
  have HB0 := Hd hb0
  have HW0 := Hd hW0
  have HKi := Hd (pKinds_any W0)
  have HR : Hid (formG m k Q N a b f = if (kq k = true ∧ ¬ (0 ≤ Q ∧ Q < m)) ∨ (kn k = true ∧ (N < kl k ∨ 12 < N)) then 2
    else if ka k = true ∧ checkE a m ≠ 0 then checkE a m
    else if kb k = true ∧ checkE b m ≠ 0 then checkE b m
    else if kf k = true ∧ facNG m f ≠ 0 then facNG m f
    else if (kq k = false ∧ Q ≠ 0) ∨ (kn k = false ∧ N ≠ 0) ∨ (ka k = false ∧ a ≠ []) ∨ (kb k = false ∧ b ≠ []) ∨ (kf k = false ∧ f ≠ []) then 3 else 0) := rfl
  generalize formG m k Q N a b f = E at *
  have hk0 : ¬ (k : Int) < 0 := by omega
  have hk9 : ¬ (9 : Int) ≤ (k : Int) := by omega
  have hk9' : (k : Int) < 9 := by omega
  clear hg hxg hxc hW0 hb0 ha hb hf
  go_enter Tryz.func35, Tryz.ntmps35
  go_wp2_with fail
  rw [← HW0.out]
  refine HKi.out.mono ?_
  rintro e w1 ⟨rfl, hb1⟩
  obtain ⟨W1, hW1⟩ : ∃ W1, W1 = w1.alloc (.cells pkL.toArray 86) := ⟨_, rfl⟩
  have hb2 : Below w1.heap.size w1 W1 := by rw [hW1]; exact below_alloc w1 _
  have hx5 : BL W1 w1.heap.size 86 pkL := by rw [hW1]; exact BL.new' w1 _ _
  have HW1 := Hd hW1
  have hb12 : Below W0.heap.size W0 W1 := hb1.trans (hb2.mono hb1.size)
  have HB1 := Hd (HB0.out.trans (hb12.mono HB0.out.size))
  have HXg1 := Hd (HXg.out.bel hb12)
  have HXc1 := Hd (HXc.out.bel hb12)
  have HG1 := Hd (HG0.out.below hb12)
  have HA1 := Hd (RI.below HA0.out hb12)
  have HD1 := Hd (RI.below HD0.out hb12)
  have HF1 := Hd (RI.below HF0.out hb12)
  have hpk := PK.of hx5
  obtain ⟨S, -, p0, p1, p2, p3⟩ := hpk.2 k hk
  obtain ⟨W2, hW2⟩ : ∃ W2, W2 = W1.alloc (.cells #[.string S, .int .i64 (pm k), .int .i64 (kl k), .func (.func (pfn k)) #[] #[]] 85) := ⟨_, rfl⟩
  have hb3 : Below W1.heap.size W1 W2 := by rw [hW2]; exact below_alloc W1 _
  have hx6 : BL W2 W1.heap.size 85 [.string S, .int .i64 (pm k), .int .i64 (kl k), .func (.func (pfn k)) #[] #[]] := by rw [hW2]; exact BL.new' W1 _ _
  have HB2 := Hd (HB1.out.trans (hb3.mono HB1.out.size))
  have HXg2 := Hd (HXg1.out.bel hb3)
  have HXc2 := Hd (HXc1.out.bel hb3)
  have HG2 := Hd (HG1.out.below hb3)
  have HA2 := Hd (RI.below HA1.out hb3)
  have HD2 := Hd (RI.below HD1.out hb3)
  have HF2 := Hd (RI.below HF1.out hb3)
  have HK2 := Hd hx6
  have HW2 := Hd hW2
  have HU : Hid (∀ (i : Nat) (W : World), i < 5 → Calls Tryz.prog 58 #[.agg #[.string S, .int .i64 (pm k), .int .i64 (kl k), .func (.func (pfn k)) #[] #[]], .int .i64 (pb i)] W fun e w' => e = .returned (.bool (pu k i)) ∧ Below W.heap.size W w') := fun i W hi => puse_any k i hk hi S _ _ W
  have HU0 : Hid (∀ (W : World), Calls Tryz.prog 58 #[.agg #[.string S, .int .i64 (pm k), .int .i64 (kl k), .func (.func (pfn k)) #[] #[]], .int .i64 1] W fun e w' => e = .returned (.bool false) ∧ Below W.heap.size W w') := fun W => by rw [← uq]; exact HU.out 0 W (by decide)
  have HU1 : Hid (∀ (W : World), Calls Tryz.prog 58 #[.agg #[.string S, .int .i64 (pm k), .int .i64 (kl k), .func (.func (pfn k)) #[] #[]], .int .i64 2] W fun e w' => e = .returned (.bool false) ∧ Below W.heap.size W w') := fun W => by rw [← un]; exact HU.out 1 W (by decide)
  have HU2 : Hid (∀ (W : World), Calls Tryz.prog 58 #[.agg #[.string S, .int .i64 (pm k), .int .i64 (kl k), .func (.func (pfn k)) #[] #[]], .int .i64 4] W fun e w' => e = .returned (.bool false) ∧ Below W.heap.size W w') := fun W => by rw [← ua]; exact HU.out 2 W (by decide)
  have HU3 : Hid (∀ (W : World), Calls Tryz.prog 58 #[.agg #[.string S, .int .i64 (pm k), .int .i64 (kl k), .func (.func (pfn k)) #[] #[]], .int .i64 8] W fun e w' => e = .returned (.bool false) ∧ Below W.heap.size W w') := fun W => by rw [← ub]; exact HU.out 3 W (by decide)
  have HU4 : Hid (∀ (W : World), Calls Tryz.prog 58 #[.agg #[.string S, .int .i64 (pm k), .int .i64 (kl k), .func (.func (pfn k)) #[] #[]], .int .i64 16] W fun e w' => e = .returned (.bool true) ∧ Below W.heap.size W w') := fun W => by rw [← uf]; exact HU.out 4 W (by decide)
  have c0 := HXc1.out.cell 0
  have e0 := HK2.out.cell 0
  have e1 := HK2.out.cell 1
  have e2 := HK2.out.cell 2
  have e3 := HK2.out.cell 3
  obtain ⟨klk, hklk⟩ : ∃ z, z = kl k := ⟨_, rfl⟩
  have HKl := Hd hklk.symm
  clear hb1 hb2 hx5 hb12 hb3 hx6 hW1 hW2 hpk HXg HXc HG0 HA0 HD0 HF0 HB0 HXg1 HXc1 HG1 HA1 HD1 HF1 HKi
  generalize pm k = pmk at *
  rw [← hklk] at p2 e2 HU HU0 HU1 HU2 HU3 HU4 HW2 HK2
  clear hklk
  generalize pfn k = pfk at *
  have UQ := Hd uq
  have UN := Hd un
  have UA := Hd ua
  have UB := Hd ub
  have UF := Hd uf
  clear uq un ua ub uf
  rw [show (⟨w1.heap.size, 0, none⟩ : Addr).add (k * 4) = ⟨w1.heap.size, k * 4, none⟩ from addr_addz _ _] at p0 p1 p2 p3
  rw [HW2.out] at e0 e1 e2 e3
  go_wp2_with (refine wpList_store_row rfl 86 _ _ rfl w1.heap.size pkL.toArray rfl rfl _ _ (heap_alloc_new w1 _) pk_size (by kernel_rfl) (by kernel_rfl) ?_; rw [World.setRow_alloc_new, ← HW1.out])
  rw [← HW2.out]
  clear p0 p1 p2 p3 c0 e0 e1 e2 e3
  refine (HU0.out _).mono ?_
  rintro e W3 ⟨rfl, hb3⟩
  have HB3 := Hd (HB2.out.trans (hb3.mono HB2.out.size))
  have HXg3 := Hd (HXg2.out.bel hb3)
  have HXc3 := Hd (HXc2.out.bel hb3)
  have HG3 := Hd (HG2.out.below hb3)
  have HA3 := Hd (RI.below HA2.out hb3)
  have HD3 := Hd (RI.below HD2.out hb3)
  have HF3 := Hd (RI.below HF2.out hb3)
  have HK3 := Hd (HK2.out.bel hb3)
  clear hb3 HXg2 HXc2 HG2 HA2 HD2 HF2 HK2
  have k0 := HK3.out.cell 0
  have k1 := HK3.out.cell 1
  have k2 := HK3.out.cell 2
  have k3 := HK3.out.cell 3
  go_wp2_with fail
  refine (HU1.out _).mono ?_
  rintro e W4 ⟨rfl, hb4⟩
  have HB4 := Hd (HB3.out.trans (hb4.mono HB3.out.size))
  have HXg4 := Hd (HXg3.out.bel hb4)
  have HXc4 := Hd (HXc3.out.bel hb4)
  have HG4 := Hd (HG3.out.below hb4)
  have HA4 := Hd (RI.below HA3.out hb4)
  have HD4 := Hd (RI.below HD3.out hb4)
  have HF4 := Hd (RI.below HF3.out hb4)
  have HK4 := Hd (HK3.out.bel hb4)
  clear hb4 HXg3 HXc3 HG3 HA3 HD3 HF3 HK3
  clear k0 k1 k2 k3
  have HR1 : Hid (E = _) := HR.out.trans (if_neg (fun h => h.elim (fun h => absurd (UQ.out.symm.trans h.1) (by decide)) (fun h => absurd (UN.out.symm.trans h.1) (by decide))))
  clear HR
  have k0 := HK4.out.cell 0
  have k1 := HK4.out.cell 1
  have k2 := HK4.out.cell 2
  have k3 := HK4.out.cell 3
  go_wp2_with fail
  refine (HU2.out _).mono ?_
  rintro e W5 ⟨rfl, hb5⟩
  have HB5 := Hd (HB4.out.trans (hb5.mono HB4.out.size))
  have HXg5 := Hd (HXg4.out.bel hb5)
  have HXc5 := Hd (HXc4.out.bel hb5)
  have HG5 := Hd (HG4.out.below hb5)
  have HA5 := Hd (RI.below HA4.out hb5)
  have HD5 := Hd (RI.below HD4.out hb5)
  have HF5 := Hd (RI.below HF4.out hb5)
  have HK5 := Hd (HK4.out.bel hb5)
  clear hb5 HXg4 HXc4 HG4 HA4 HD4 HF4 HK4
  clear k0 k1 k2 k3
  have HR2 : Hid (E = _) := HR1.out.trans (if_neg (fun h => absurd (UA.out.symm.trans h.1) (by decide)))
  clear HR1
  have k0 := HK5.out.cell 0
  have k1 := HK5.out.cell 1
  have k2 := HK5.out.cell 2
  have k3 := HK5.out.cell 3
  go_wp2_with fail
  refine (HU3.out _).mono ?_
  rintro e W6 ⟨rfl, hb6⟩
  have HB6 := Hd (HB5.out.trans (hb6.mono HB5.out.size))
  have HXg6 := Hd (HXg5.out.bel hb6)
  have HXc6 := Hd (HXc5.out.bel hb6)
  have HG6 := Hd (HG5.out.below hb6)
  have HA6 := Hd (RI.below HA5.out hb6)
  have HD6 := Hd (RI.below HD5.out hb6)
  have HF6 := Hd (RI.below HF5.out hb6)
  have HK6 := Hd (HK5.out.bel hb6)
  clear hb6 HXg5 HXc5 HG5 HA5 HD5 HF5 HK5
  clear k0 k1 k2 k3
  have HR3 : Hid (E = _) := HR2.out.trans (if_neg (fun h => absurd (UB.out.symm.trans h.1) (by decide)))
  clear HR2
  have k0 := HK6.out.cell 0
  have k1 := HK6.out.cell 1
  have k2 := HK6.out.cell 2
  have k3 := HK6.out.cell 3
  go_wp2_with fail
  refine (HU4.out _).mono ?_
  rintro e W7 ⟨rfl, hb7⟩
  have HB7 := Hd (HB6.out.trans (hb7.mono HB6.out.size))
  have HXg7 := Hd (HXg6.out.bel hb7)
  have HXc7 := Hd (HXc6.out.bel hb7)
  have HG7 := Hd (HG6.out.below hb7)
  have HA7 := Hd (RI.below HA6.out hb7)
  have HD7 := Hd (RI.below HD6.out hb7)
  have HF7 := Hd (RI.below HF6.out hb7)
  have HK7 := Hd (HK6.out.bel hb7)
  clear hb7 HXg6 HXc6 HG6 HA6 HD6 HF6 HK6
  clear k0 k1 k2 k3
  have c5 := HXc7.out.cell 5
  have g0 := HXg7.out.cell 0
  have g1 := HXg7.out.cell 1
  have HCk := Hd (pFac_any _ _ m es f W7 HG7.out HF7.out hm)
  go_wp2_with fail
  refine HCk.out.mono ?_
  rintro e W8 ⟨rfl, hb8⟩
  have HB8 := Hd (HB7.out.trans (hb8.mono HB7.out.size))
  have HXg8 := Hd (HXg7.out.bel hb8)
  have HXc8 := Hd (HXc7.out.bel hb8)
  have HK8 := Hd (HK7.out.bel hb8)
  clear hb8 HXg7 HXc7 HK7 HCk c5 g0 g1
  by_cases hE5 : facNG m f ≠ 0
  · have hR : Hid (E = facNG m f) := by show _ = _; rw [HR3.out, if_pos ⟨UF.out, hE5⟩]
    generalize facNG m f = ce at *
    have t1 : (ce != 0) = true := by simpa using hE5
    clear HR3 hE5
    go_wp2
    go_ret
    exact ⟨ret_i hR.out.symm, HB8.out⟩
  have HR4 : Hid (E = _) := HR3.out.trans (if_neg (fun h => hE5 h.2))
  have hE5' : facNG m f = 0 := by omega
  rw [hE5']
  clear HR3 hE5 hE5'
  have c1 := HXc8.out.cell 1
  have c2 := HXc8.out.cell 2
  have c3 := HXc8.out.cell 3
  have c4 := HXc8.out.cell 4
  have c5 := HXc8.out.cell 5
  have HL : Hid (∀ i, i < 5 → givB Q N a b f i = true → pu k i = false → E = 3) := fun i hi h1 h2 => by
    show E = 3
    rw [HR4.out, if_pos (giv_not hi h1 h2)]
  have HZ : Hid ((∀ i, i < 5 → givB Q N a b f i = true → pu k i = true) → E = 0) := fun h => by
    show E = 0
    rw [HR4.out, if_neg]
    intro hh
    obtain ⟨i, h1, h2, h3⟩ := giv_any hh
    rw [h i h1 h2] at h3
    exact absurd h3 (by decide)
  clear HR4
  obtain ⟨WL, hWL⟩ : ∃ WL, WL = W8.alloc (.cells #[.bool (Q != 0), .bool (N != 0), .bool (decide (0 < a.length)), .bool (decide (0 < b.length)), .bool (decide (0 < f.length))] 111) := ⟨_, rfl⟩
  have hbL : Below W8.heap.size W8 WL := by rw [hWL]; exact below_alloc W8 _
  have HBL := Hd (HB8.out.trans (hbL.mono HB8.out.size))
  have HKL := Hd (HK8.out.bel hbL)
  have HWL := Hd hWL
  clear hWL hbL HXg8 HXc8 HK8
  go_upto_region 21 with fail
  rw [← HWL.out]
  generalize h0 : (Q != 0) = b0
  generalize h1 : (N != 0) = b1
  generalize h2 : (decide (0 < a.length)) = b2
  generalize h3 : (decide (0 < b.length)) = b3
  generalize h4 : (decide (0 < f.length)) = b4
  have HG0 := Hd h0
  have HG1 := Hd h1
  have HG2 := Hd h2
  have HG3 := Hd h3
  have HG4 := Hd h4
  have c10 : WL.cell? ⟨W8.heap.size, 0, none⟩ = some (.bool b0) := by rw [HWL.out, h0, h1, h2, h3, h4]; exact (BL.new' W8 _ _).cell 0
  have c11 : WL.cell? ⟨W8.heap.size, 1, none⟩ = some (.bool b1) := by rw [HWL.out, h0, h1, h2, h3, h4]; exact (BL.new' W8 _ _).cell 1
  have c12 : WL.cell? ⟨W8.heap.size, 2, none⟩ = some (.bool b2) := by rw [HWL.out, h0, h1, h2, h3, h4]; exact (BL.new' W8 _ _).cell 2
  have c13 : WL.cell? ⟨W8.heap.size, 3, none⟩ = some (.bool b3) := by rw [HWL.out, h0, h1, h2, h3, h4]; exact (BL.new' W8 _ _).cell 3
  have c14 : WL.cell? ⟨W8.heap.size, 4, none⟩ = some (.bool b4) := by rw [HWL.out, h0, h1, h2, h3, h4]; exact (BL.new' W8 _ _).cell 4
  clear h0 h1 h2 h3 h4 HWL c1 c2 c3 c4 c5 hk0 hk9 hk9'
  go_wp2_with fail
  go_loopw [104] (fun i wr => ∃ j : Nat, j ≤ 5 ∧ i = .int .i64 (j : Int) ∧ Hid (∀ i, i < j → givB Q N a b f i = true → pu k i = true) ∧ Hid (Below WL.heap.size WL wr)) (fun i _ => 5 - (intOf i).toNat)
  case atStart => exact ⟨0, Nat.zero_le _, rfl, fun i hi => absurd hi (Nat.not_lt_zero _), Below.refl _ _⟩
  case round =>
    obtain ⟨j, hj, rfl, hin, hbw⟩ := hrel
    have HBw := Hd (HBL.out.trans (hbw.out.mono HBL.out.size))
    by_cases hlt : j < 5
    · have e0 := (HKL.out.bel hbw.out).cell 0
      have e1 := (HKL.out.bel hbw.out).cell 1
      have e2 := (HKL.out.bel hbw.out).cell 2
      have e3 := (HKL.out.bel hbw.out).cell 3
      clear c10 c11 c12 c13 c14
      obtain rfl | rfl | rfl | rfl | rfl : j = 0 ∨ j = 1 ∨ j = 2 ∨ j = 3 ∨ j = 4 := by omega
      · have hix : ∀ W : World, (Instr.index 111 (.agg #[.bool b0, .bool b1, .bool b2, .bool b3, .bool b4]) (.int .i64 0)).run Tryz.prog W = .ok (.bool b0) W := fun W => idx_bool5 b0 b1 b2 b3 b4 W 0 0 rfl (by decide)
        cases b0
        · go_wp2_with fail
          go_region
          all_goals
            go_wp2
            go_roundw
            case rel => exact ⟨1, by omega, by go_num, (fun i hi h1 => by
              rcases Nat.lt_succ_iff_lt_or_eq.1 hi with h | rfl
              · exact hin.out i h h1
              · exact absurd (HG0.out.symm.trans h1) (by decide)), by first | exact hbw.out | exact hbw.out.drew⟩
            case measure => simp [intOf]
        · have hR : Hid (E = 3) := HL.out 0 (by decide) HG0.out UQ.out
          go_wp2_with fail
          go_region_with (go_at_call 58; refine (HU0.out _).mono ?_; rintro e wu ⟨rfl, hbu⟩; have HBu := Hd (HBw.out.trans (((Below.refl wr.heap.size wr).drew.trans hbu).mono HBw.out.size)); clear hbu)
          all_goals
            go_wp2
            go_ret
            exact ⟨ret_i hR.out.symm, HBu.out⟩
      · have hix : ∀ W : World, (Instr.index 111 (.agg #[.bool b0, .bool b1, .bool b2, .bool b3, .bool b4]) (.int .i64 1)).run Tryz.prog W = .ok (.bool b1) W := fun W => idx_bool5 b0 b1 b2 b3 b4 W 1 1 rfl (by decide)
        cases b1
        · go_wp2_with fail
          go_region
          all_goals
            go_wp2
            go_roundw
            case rel => exact ⟨2, by omega, by go_num, (fun i hi h1 => by
              rcases Nat.lt_succ_iff_lt_or_eq.1 hi with h | rfl
              · exact hin.out i h h1
              · exact absurd (HG1.out.symm.trans h1) (by decide)), by first | exact hbw.out | exact hbw.out.drew⟩
            case measure => simp [intOf]
        · have hR : Hid (E = 3) := HL.out 1 (by decide) HG1.out UN.out
          go_wp2_with fail
          go_region_with (go_at_call 58; refine (HU1.out _).mono ?_; rintro e wu ⟨rfl, hbu⟩; have HBu := Hd (HBw.out.trans (((Below.refl wr.heap.size wr).drew.trans hbu).mono HBw.out.size)); clear hbu)
          all_goals
            go_wp2
            go_ret
            exact ⟨ret_i hR.out.symm, HBu.out⟩
      · have hix : ∀ W : World, (Instr.index 111 (.agg #[.bool b0, .bool b1, .bool b2, .bool b3, .bool b4]) (.int .i64 2)).run Tryz.prog W = .ok (.bool b2) W := fun W => idx_bool5 b0 b1 b2 b3 b4 W 2 2 rfl (by decide)
        cases b2
        · go_wp2_with fail
          go_region
          all_goals
            go_wp2
            go_roundw
            case rel => exact ⟨3, by omega, by go_num, (fun i hi h1 => by
              rcases Nat.lt_succ_iff_lt_or_eq.1 hi with h | rfl
              · exact hin.out i h h1
              · exact absurd (HG2.out.symm.trans h1) (by decide)), by first | exact hbw.out | exact hbw.out.drew⟩
            case measure => simp [intOf]
        · have hR : Hid (E = 3) := HL.out 2 (by decide) HG2.out UA.out
          go_wp2_with fail
          go_region_with (go_at_call 58; refine (HU2.out _).mono ?_; rintro e wu ⟨rfl, hbu⟩; have HBu := Hd (HBw.out.trans (((Below.refl wr.heap.size wr).drew.trans hbu).mono HBw.out.size)); clear hbu)
          all_goals
            go_wp2
            go_ret
            exact ⟨ret_i hR.out.symm, HBu.out⟩
      · have hix : ∀ W : World, (Instr.index 111 (.agg #[.bool b0, .bool b1, .bool b2, .bool b3, .bool b4]) (.int .i64 3)).run Tryz.prog W = .ok (.bool b3) W := fun W => idx_bool5 b0 b1 b2 b3 b4 W 3 3 rfl (by decide)
        cases b3
        · go_wp2_with fail
          go_region
          all_goals
            go_wp2
            go_roundw
            case rel => exact ⟨4, by omega, by go_num, (fun i hi h1 => by
              rcases Nat.lt_succ_iff_lt_or_eq.1 hi with h | rfl
              · exact hin.out i h h1
              · exact absurd (HG3.out.symm.trans h1) (by decide)), by first | exact hbw.out | exact hbw.out.drew⟩
            case measure => simp [intOf]
        · have hR : Hid (E = 3) := HL.out 3 (by decide) HG3.out UB.out
          go_wp2_with fail
          go_region_with (go_at_call 58; refine (HU3.out _).mono ?_; rintro e wu ⟨rfl, hbu⟩; have HBu := Hd (HBw.out.trans (((Below.refl wr.heap.size wr).drew.trans hbu).mono HBw.out.size)); clear hbu)
          all_goals
            go_wp2
            go_ret
            exact ⟨ret_i hR.out.symm, HBu.out⟩
      · have hix : ∀ W : World, (Instr.index 111 (.agg #[.bool b0, .bool b1, .bool b2, .bool b3, .bool b4]) (.int .i64 4)).run Tryz.prog W = .ok (.bool b4) W := fun W => idx_bool5 b0 b1 b2 b3 b4 W 4 4 rfl (by decide)
        cases b4
        · go_wp2_with fail
          go_region
          all_goals
            go_wp2
            go_roundw
            case rel => exact ⟨5, by omega, by go_num, (fun i hi h1 => by
              rcases Nat.lt_succ_iff_lt_or_eq.1 hi with h | rfl
              · exact hin.out i h h1
              · exact absurd (HG4.out.symm.trans h1) (by decide)), by first | exact hbw.out | exact hbw.out.drew⟩
            case measure => simp [intOf]
        · go_wp2_with fail
          go_region_with (go_at_call 58; refine (HU4.out _).mono ?_; rintro e wu ⟨rfl, hbu⟩; have HBu := Hd (hbw.out.trans (((Below.refl wr.heap.size wr).drew.trans hbu).mono hbw.out.size)); clear hbu)
          all_goals
            go_wp2
            go_roundw
            case rel => exact ⟨5, by omega, by go_num, (fun i hi h1 => by
              rcases Nat.lt_succ_iff_lt_or_eq.1 hi with h | rfl
              · exact hin.out i h h1
              · exact UF.out), HBu.out⟩
            case measure => simp [intOf]
    · have hR : Hid (E = 0) := HZ.out fun i hi h1 => hin.out i (by omega) h1
      clear hin
      go_wp2
      go_ret
      exact ⟨ret_i hR.out.symm, HBw.out⟩
theorem pForm_any (g va vb vf : Value) (m k : Nat) (Q N : Int) (es : List Tri) (a b f : List Int) (w : World) (hk : k < 9) (hg : GV w g m es) (ha : RI w va a) (hb : RI w vb b) (hf : RI w vf f) (hm1 : 1 ≤ m) (hm : m ≤ 12) :
    Calls Tryz.prog 35 #[g, .agg #[.int .i64 (k : Int), .int .i64 Q, .int .i64 N, va, vb, vf]] w fun e w' => e = .returned (.int .i64 (formG m k Q N a b f)) ∧ Below w.heap.size w w' := by
  obtain rfl | rfl | rfl | rfl | rfl | rfl | rfl | rfl | rfl : k = 0 ∨ k = 1 ∨ k = 2 ∨ k = 3 ∨ k = 4 ∨ k = 5 ∨ k = 6 ∨ k = 7 ∨ k = 8 := by omega
  · exact pForm_00110 g va vb vf m 0 Q N es a b f w hk hg ha hb hf hm1 hm rfl rfl rfl rfl rfl
  · exact pForm_00100 g va vb vf m 1 Q N es a b f w hk hg ha hb hf hm1 hm rfl rfl rfl rfl rfl
  · exact pForm_00100 g va vb vf m 2 Q N es a b f w hk hg ha hb hf hm1 hm rfl rfl rfl rfl rfl
  · exact pForm_01100 g va vb vf m 3 Q N es a b f w hk hg ha hb hf hm1 hm rfl rfl rfl rfl rfl
  · exact pForm_01100 g va vb vf m 4 Q N es a b f w hk hg ha hb hf hm1 hm rfl rfl rfl rfl rfl
  · exact pForm_10100 g va vb vf m 5 Q N es a b f w hk hg ha hb hf hm1 hm rfl rfl rfl rfl rfl
  · exact pForm_10100 g va vb vf m 6 Q N es a b f w hk hg ha hb hf hm1 hm rfl rfl rfl rfl rfl
  · exact pForm_10110 g va vb vf m 7 Q N es a b f w hk hg ha hb hf hm1 hm rfl rfl rfl rfl rfl
  · exact pForm_00001 g va vb vf m 8 Q N es a b f w hk hg ha hb hf hm1 hm rfl rfl rfl rfl rfl
end Go.Proofs.YteamhbohgoclgaaGreatDoor

