/- Contract of package proof's filled: 00100 00001 01100 (printed by gen/fill57.py) -/
import Derived.Test.YteamhbohgoclgaaGreatDoorR31
set_option maxRecDepth 100000
set_option maxHeartbeats 16000000
namespace Go.Proofs.YteamhbohgoclgaaGreatDoor
open Go.RowKit Go.Shelf
theorem pFill_00100 (g lv : Value) (m k : Nat) (S : ByteArray) (es : List Tri) (l : List Int) (w : World) (hk : k < 9) (hg : GV w g m es) (hl : RI w lv l) (hm1 : 1 <= m) (hm : m <= 12) (hll : l.length <= 100000)
   (uq : kq k = false) (un : kn k = false) (ua : ka k = true) (ub : kb k = false) (uf : kf k = false) :
   Calls Tryz.prog 49 #[g, .int .i64 (k : Int), .agg #[.string S, .int .i64 (pm k), .int .i64 (kl k), .func (.func (pfn k)) #[] #[]], lv] w fun e w' => GivQ m k false false false false lv l w e w' := by
 obtain ⟨Al, cl, rfl, hlc, -, hcell⟩ := id hl |>.open_
 obtain ⟨Ag, cg, rfl, -⟩ := hg.open_
 have HU : Hid (∀ (i : Nat) (W : World), i < 5 -> Calls Tryz.prog 58 #[.agg #[.string S, .int .i64 (pm k), .int .i64 (kl k), .func (.func (pfn k)) #[] #[]], .int .i64 (pb i)] W fun e w' => e = .returned (.bool (pu k i)) /\ Below W.heap.size W w') := fun i W hi => puse_any k i hk hi S _ _ W
 have HU0 : Hid (∀ (W : World), Calls Tryz.prog 58 #[.agg #[.string S, .int .i64 (pm k), .int .i64 (kl k), .func (.func (pfn k)) #[] #[]], .int .i64 1] W fun e w' => e = .returned (.bool false) /\ Below W.heap.size W w') := fun W => by rw [<- uq]; exact HU.out 0 W (by decide)
 have HU1 : Hid (∀ (W : World), Calls Tryz.prog 58 #[.agg #[.string S, .int .i64 (pm k), .int .i64 (kl k), .func (.func (pfn k)) #[] #[]], .int .i64 2] W fun e w' => e = .returned (.bool false) /\ Below W.heap.size W w') := fun W => by rw [<- un]; exact HU.out 1 W (by decide)
 have HU2 : Hid (∀ (W : World), Calls Tryz.prog 58 #[.agg #[.string S, .int .i64 (pm k), .int .i64 (kl k), .func (.func (pfn k)) #[] #[]], .int .i64 4] W fun e w' => e = .returned (.bool true) /\ Below W.heap.size W w') := fun W => by rw [<- ua]; exact HU.out 2 W (by decide)
 have HU3 : Hid (∀ (W : World), Calls Tryz.prog 58 #[.agg #[.string S, .int .i64 (pm k), .int .i64 (kl k), .func (.func (pfn k)) #[] #[]], .int .i64 8] W fun e w' => e = .returned (.bool false) /\ Below W.heap.size W w') := fun W => by rw [<- ub]; exact HU.out 3 W (by decide)
 have HU4 : Hid (∀ (W : World), Calls Tryz.prog 58 #[.agg #[.string S, .int .i64 (pm k), .int .i64 (kl k), .func (.func (pfn k)) #[] #[]], .int .i64 16] W fun e w' => e = .returned (.bool false) /\ Below W.heap.size W w') := fun W => by rw [<- uf]; exact HU.out 4 W (by decide)
 generalize pm k = pmk at *
 generalize kl k = klk at *
 generalize pfn k = pfk at *
 obtain ⟨W1, hW1⟩ : ∃ W1, W1 = ((((w.alloc (.cells #[.int .i64 (m : Int), .slice Ag es.length cg] 25)).alloc (.cells #[.string S, .int .i64 pmk, .int .i64 klk, .func (.func pfk) #[] #[]] 85)).alloc (.cells #[.int .i64 0, .int .i64 0, .int .i64 0, .slice none 0 0, .slice none 0 0, .slice none 0 0] 40)).alloc (.cells #[.int .i64 (k : Int), .int .i64 0, .int .i64 0, .slice none 0 0, .slice none 0 0, .slice none 0 0] 40)).alloc (.cells #[.int .i64 1, .pointer (some ⟨w.heap.size + 1 + 1 + 1, 1, none⟩), .int .i64 2, .pointer (some ⟨w.heap.size + 1 + 1 + 1, 2, none⟩)] 125) := ⟨_, rfl⟩
 have hb1 : Below w.heap.size w W1 := by rw [hW1]; exact ((((below_alloc w _).alloc (by simp) _).alloc (by simp; omega) _).alloc (by simp; omega) _).alloc (by simp; omega) _
 have hz1 : W1.heap.size = w.heap.size + 1 + 1 + 1 + 1 + 1 := by rw [hW1]; simp
 have e1 := BL.new' w #[.int .i64 (m : Int), .slice Ag es.length cg] 25
 have e2 := BL.new' (w.alloc (.cells #[.int .i64 (m : Int), .slice Ag es.length cg] 25)) #[.string S, .int .i64 pmk, .int .i64 klk, .func (.func pfk) #[] #[]] 85
 have e3 := BL.new' ((w.alloc (.cells #[.int .i64 (m : Int), .slice Ag es.length cg] 25)).alloc (.cells #[.string S, .int .i64 pmk, .int .i64 klk, .func (.func pfk) #[] #[]] 85)) #[.int .i64 0, .int .i64 0, .int .i64 0, .slice none 0 0, .slice none 0 0, .slice none 0 0] 40
 have e4 := BL.new' (((w.alloc (.cells #[.int .i64 (m : Int), .slice Ag es.length cg] 25)).alloc (.cells #[.string S, .int .i64 pmk, .int .i64 klk, .func (.func pfk) #[] #[]] 85)).alloc (.cells #[.int .i64 0, .int .i64 0, .int .i64 0, .slice none 0 0, .slice none 0 0, .slice none 0 0] 40)) #[.int .i64 (k : Int), .int .i64 0, .int .i64 0, .slice none 0 0, .slice none 0 0, .slice none 0 0] 40
 have e5 := BL.new' ((((w.alloc (.cells #[.int .i64 (m : Int), .slice Ag es.length cg] 25)).alloc (.cells #[.string S, .int .i64 pmk, .int .i64 klk, .func (.func pfk) #[] #[]] 85)).alloc (.cells #[.int .i64 0, .int .i64 0, .int .i64 0, .slice none 0 0, .slice none 0 0, .slice none 0 0] 40)).alloc (.cells #[.int .i64 (k : Int), .int .i64 0, .int .i64 0, .slice none 0 0, .slice none 0 0, .slice none 0 0] 40)) #[.int .i64 1, .pointer (some ⟨w.heap.size + 1 + 1 + 1, 1, none⟩), .int .i64 2, .pointer (some ⟨w.heap.size + 1 + 1 + 1, 2, none⟩)] 125
 rw [World.size_alloc] at e2
 rw [World.size_alloc, World.size_alloc] at e3
 rw [World.size_alloc, World.size_alloc, World.size_alloc] at e4
 rw [World.size_alloc, World.size_alloc, World.size_alloc, World.size_alloc] at e5
 have HG1 := Hd (show BL W1 (w.heap.size) 25 _ by rw [hW1]; exact (((e1.alloc _).alloc _).alloc _).alloc _)
 have HK1 := Hd (show BL W1 (w.heap.size + 1) 85 _ by rw [hW1]; exact ((e2.alloc _).alloc _).alloc _)
 have HR1 := Hd (show BL W1 (w.heap.size + 1 + 1) 40 _ by rw [hW1]; exact (e3.alloc _).alloc _)
 have HC1 := Hd (show BL W1 (w.heap.size + 1 + 1 + 1) 40 _ by rw [hW1]; exact e4.alloc _)
 have HS1 := Hd (show BL W1 (w.heap.size + 1 + 1 + 1 + 1) 125 _ by rw [hW1]; exact e5)
 have HB1 := Hd hb1
 have HW1 := Hd hW1
 have HRl := Hd hl
 have HZ1 := Hd hz1
 have HCl := Hd hcell
 clear hW1 hb1 hz1 e1 e2 e3 e4 e5 hg hl HU uq un ua ub uf hcell
 go_enter Tryz.func49, Tryz.ntmps49
 go_wp2_with fail
 rw [<- HW1.out]
 refine wp_loop_rounds 3 ?_
 rw [rounds_succ]

 obtain ⟨W2, hW2⟩ : ∃ W2, W2 = W1.alloc (.cells #[.int .i64 1, .pointer (some ⟨w.heap.size + 1 + 1 + 1, 1, none⟩)] 125) := ⟨_, rfl⟩
 have hb : Below W1.heap.size W1 W2 := by rw [hW2]; exact below_alloc W1 _
 have HG2 := Hd (HG1.out.bel hb)
 have HK2 := Hd (HK1.out.bel hb)
 have HR2 := Hd (HR1.out.bel hb)
 have HC2 := Hd (HC1.out.bel hb)
 have HS2 := Hd (HS1.out.bel hb)
 have HB2 := Hd (HB1.out.trans (hb.mono HB1.out.size))
 have HX2 := Hd (show BL W2 W1.heap.size 125 [.int .i64 1, .pointer (some ⟨w.heap.size + 1 + 1 + 1, 1, none⟩)] by rw [hW2]; exact BL.new' W1 _ _)
 have HW2 := Hd hW2
 have s0 := HS1.out.cell 0
 have s1 := HS1.out.cell 1
 have k0 := HK2.out.cell 0
 have k1 := HK2.out.cell 1
 have k2 := HK2.out.cell 2
 have k3 := HK2.out.cell 3
 have x0 := HX2.out.cell 0
 rw [hW2] at k0 k1 k2 k3 x0
 clear hW2 hb
 go_wp2_with fail
 rw [<- HW2.out]
 refine (HU0.out _).mono ?_
 rintro e W3 ⟨rfl, hb⟩
 have HG3 := Hd (HG2.out.bel hb)
 have HK3 := Hd (HK2.out.bel hb)
 have HR3 := Hd (HR2.out.bel hb)
 have HC3 := Hd (HC2.out.bel hb)
 have HS3 := Hd (HS2.out.bel hb)
 have HX3 := Hd (HX2.out.bel hb)
 have HB3 := Hd (HB2.out.trans (hb.mono HB2.out.size))
 clear hb s0 s1 k0 k1 k2 k3 x0 HG1 HK1 HR1 HC1 HS1 HG2 HK2 HR2 HC2 HS2 HX2
 go_wp2_with fail
 rw [rounds_succ]
 obtain ⟨W4, hW4⟩ : ∃ W4, W4 = W3.alloc (.cells #[.int .i64 2, .pointer (some ⟨w.heap.size + 1 + 1 + 1, 2, none⟩)] 125) := ⟨_, rfl⟩
 have hb : Below W3.heap.size W3 W4 := by rw [hW4]; exact below_alloc W3 _
 have HG4 := Hd (HG3.out.bel hb)
 have HK4 := Hd (HK3.out.bel hb)
 have HR4 := Hd (HR3.out.bel hb)
 have HC4 := Hd (HC3.out.bel hb)
 have HS4 := Hd (HS3.out.bel hb)
 have HB4 := Hd (HB3.out.trans (hb.mono HB3.out.size))
 have HX4 := Hd (show BL W4 W3.heap.size 125 [.int .i64 2, .pointer (some ⟨w.heap.size + 1 + 1 + 1, 2, none⟩)] by rw [hW4]; exact BL.new' W3 _ _)
 have HW4 := Hd hW4
 have s0 := HS3.out.cell 2
 have s1 := HS3.out.cell 3
 have k0 := HK4.out.cell 0
 have k1 := HK4.out.cell 1
 have k2 := HK4.out.cell 2
 have k3 := HK4.out.cell 3
 have x0 := HX4.out.cell 0
 rw [hW4] at k0 k1 k2 k3 x0
 clear hW4 hb
 go_wp2_with fail
 rw [<- HW4.out]
 refine (HU1.out _).mono ?_
 rintro e W5 ⟨rfl, hb⟩
 have HG5 := Hd (HG4.out.bel hb)
 have HK5 := Hd (HK4.out.bel hb)
 have HR5 := Hd (HR4.out.bel hb)
 have HC5 := Hd (HC4.out.bel hb)
 have HS5 := Hd (HS4.out.bel hb)
 have HX5 := Hd (HX4.out.bel hb)
 have HB5 := Hd (HB4.out.trans (hb.mono HB4.out.size))
 clear hb s0 s1 k0 k1 k2 k3 x0 HG3 HK3 HR3 HC3 HS3 HG4 HK4 HR4 HC4 HS4 HX4
 go_wp2_with fail
 rw [rounds_succ]
 have HRc : Hid (∀ W, RI W (.slice Al l.length cl) l -> RI W (.slice Al l.length cl) l) := fun _ h => h
 have k0 := HK5.out.cell 0
 have k1 := HK5.out.cell 1
 have k2 := HK5.out.cell 2
 have k3 := HK5.out.cell 3
 go_wp2_with fail
 refine (HU4.out _).mono ?_
 rintro e W6 ⟨rfl, hb⟩
 have HG6 := Hd (HG5.out.bel hb)
 have HK6 := Hd (HK5.out.bel hb)
 have HR6 := Hd (HR5.out.bel hb)
 have HC6 := Hd (HC5.out.bel hb)
 have HB6 := Hd (HB5.out.trans (hb.mono HB5.out.size))
 clear hb k0 k1 k2 k3 HG5 HK5 HR5 HC5
 have HFe : Hid (fillE m false false false false l = if (l.length : Int) ≠ m then 8 else 0) := by
   show _ = _
   unfold fillE
   rw [if_neg (fun h => absurd h.1 (by decide)), if_neg (fun h => absurd h.1 (by decide)), if_neg (by decide), if_neg (by decide)]
   rfl
 obtain ⟨W7, hW7⟩ : ∃ W7, W7 = W6.alloc (.cells #[.int .i64 4, .pointer (some ⟨w.heap.size + 1 + 1 + 1, 3, none⟩), .int .i64 8, .pointer (some ⟨w.heap.size + 1 + 1 + 1, 4, none⟩)] 128) := ⟨_, rfl⟩
 have hb : Below W6.heap.size W6 W7 := by rw [hW7]; exact below_alloc W6 _
 have HG7 := Hd (HG6.out.bel hb)
 have HK7 := Hd (HK6.out.bel hb)
 have HR7 := Hd (HR6.out.bel hb)
 have HC7 := Hd (HC6.out.bel hb)
 have HB7 := Hd (HB6.out.trans (hb.mono HB6.out.size))
 have HS7 := Hd (show BL W7 W6.heap.size 128 [.int .i64 4, .pointer (some ⟨w.heap.size + 1 + 1 + 1, 3, none⟩), .int .i64 8, .pointer (some ⟨w.heap.size + 1 + 1 + 1, 4, none⟩)] by rw [hW7]; exact BL.new' W6 _ _)
 have HW7 := Hd hW7
 have HSbl := Hd HC6.out.lt
 clear hW7 hb HG6 HK6 HR6 HC6
 go_wp2_with fail
 rw [<- HW7.out]
 refine wp_loop_rounds 3 ?_
 rw [rounds_succ]
 obtain ⟨W8, hW8⟩ : ∃ W8, W8 = W7.alloc (.cells #[.int .i64 4, .pointer (some ⟨w.heap.size + 1 + 1 + 1, 3, none⟩)] 128) := ⟨_, rfl⟩
 have hb : Below W7.heap.size W7 W8 := by rw [hW8]; exact below_alloc W7 _
 have HG8 := Hd (HG7.out.bel hb)
 have HK8 := Hd (HK7.out.bel hb)
 have HR8 := Hd (HR7.out.bel hb)
 have HC8 := Hd (HC7.out.bel hb)
 have HS8 := Hd (HS7.out.bel hb)
 have HB8 := Hd (HB7.out.trans (hb.mono HB7.out.size))
 have HX8 := Hd (show BL W8 W7.heap.size 128 [.int .i64 4, .pointer (some ⟨w.heap.size + 1 + 1 + 1, 3, none⟩)] by rw [hW8]; exact BL.new' W7 _ _)
 have HW8 := Hd hW8
 have s0 := HS7.out.cell 0
 have s1 := HS7.out.cell 1
 have k0 := HK8.out.cell 0
 have k1 := HK8.out.cell 1
 have k2 := HK8.out.cell 2
 have k3 := HK8.out.cell 3
 have x0 := HX8.out.cell 0
 rw [hW8] at k0 k1 k2 k3 x0
 clear hW8 hb
 go_wp2_with fail
 rw [<- HW8.out]
 refine (HU2.out _).mono ?_
 rintro e W9 ⟨rfl, hb⟩
 have HG9 := Hd (HG8.out.bel hb)
 have HK9 := Hd (HK8.out.bel hb)
 have HR9 := Hd (HR8.out.bel hb)
 have HC9 := Hd (HC8.out.bel hb)
 have HS9 := Hd (HS8.out.bel hb)
 have HX9 := Hd (HX8.out.bel hb)
 have HB9 := Hd (HB8.out.trans (hb.mono HB8.out.size))
 clear hb s0 s1 k0 k1 k2 k3 x0 HG7 HK7 HR7 HC7 HS7 HG8 HK8 HR8 HC8 HS8 HX8
 have g0 := HG9.out.cell 0
 by_cases hlt : (l.length : Int) < (m : Int)
 · skip
   have HRes : Hid (fillE m false false false false l = 8) := by
     show _ = _
     rw [HFe.out, if_pos (by have := (rfl : l.length = l.length); omega)]
   have HR' := Hd (HR9.out.set6 (.int .i64 0) (.int .i64 0) (.int .i64 0) (.slice none 0 0) (.slice none 0 0) (.slice none 0 0))
   have HB' := Hd (below6 HB9.out (show w.heap.size <= w.heap.size + 1 + 1 by omega) (.int .i64 0) (.int .i64 0) (.int .i64 0) (.slice none 0 0) (.slice none 0 0) (.slice none 0 0))
   have f0 := HR9.out.frozen 0
   have f1 := HR9.out.frozen 1
   have f2 := HR9.out.frozen 2
   have f3 := HR9.out.frozen 3
   have f4 := HR9.out.frozen 4
   have f5 := HR9.out.frozen 5
   have c0 := HR9.out.cell 0
   have c1 := HR9.out.cell 1
   have c2 := HR9.out.cell 2
   have c3 := HR9.out.cell 3
   have c4 := HR9.out.cell 4
   have c5 := HR9.out.cell 5
   go_wp2_with fail
   refine bodyPost_ret (results_row_tmp rfl _ _ (w.heap.size + 1 + 1) 40 #[.int .i64 0, .int .i64 0, .int .i64 0, .slice none 0 0, .slice none 0 0, .slice none 0 0] (0, 0) _ rfl HR'.out Tryz.underlying40 rfl pclaim_size) rfl ?_
   exact ⟨0, 0, 0, .slice none 0 0, .slice none 0 0, .slice none 0 0, by rw [HRes.out]; rfl, fun h => absurd (HRes.out.symm.trans h) (by decide), ⟨⟨_, _, _, rfl⟩, ⟨_, _, _, rfl⟩, ⟨_, _, _, rfl⟩⟩, HB'.out⟩
 obtain ⟨adA, hCA⟩ : ∃ ad, Al = some ad := by
   obtain ⟨A', c', he, -, -, hcc⟩ := (HRc.out w HRl.out).open_
   obtain ⟨ad, _, h, -⟩ := hcc 0 (by have := (rfl : l.length = l.length); omega)
   simp only [Value.slice.injEq] at he
   exact ⟨ad, he.1.trans h⟩
 subst hCA
 obtain ⟨AA, hAA⟩ : ∃ A, A = if cl = m then some adA else some (adA.add m) := ⟨_, rfl⟩
 have hslA : ∀ W : World, (Instr.slice 37 (.slice (some adA) (l.length) (cl)) none (some (.int .i64 (m : Int))) (some (.int .i64 (m : Int)))).run Tryz.prog W = .ok (.slice (some adA) m m) W := fun W => by
   rw [run_slice_hm W 37 (some adA) (l.length) (cl) Tryz.underlying37 .i64 .i64 (m : Int) (m : Int) (by omega) (by omega) (by omega)]
   simp [go_sem]
 have hslB : ∀ W : World, (Instr.slice 37 (.slice (some adA) (l.length) (cl)) (some (.int .i64 (m : Int))) none none).run Tryz.prog W = .ok (.slice AA (l.length - m) (cl - m)) W := fun W => by
   rw [run_slice_l W 37 (some adA) (l.length) (cl) Tryz.underlying37 .i64 (m : Int) (by omega) (by omega), hAA]
   simp [go_sem]
 have HTA : Hid (∀ W, RI W (.slice (some adA) l.length cl) l -> RI W (.slice (some adA) m m) ((l).take m)) := fun W hW => RI.cap (RI.pre (HRc.out W hW) (by have := (rfl : l.length = l.length); omega)) (Nat.le_refl m)
 have HRA : Hid (∀ W, RI W (.slice (some adA) l.length cl) l -> RI W (.slice AA (l.length - m) (cl - m)) ((l).drop m)) := fun W hW => by
   obtain ⟨ad', he, -, -, hsf⟩ := RI.suf' (HRc.out W hW) (by have := (rfl : l.length = l.length); omega) m (by have := (rfl : l.length = l.length); omega)
   obtain rfl : adA = ad' := by simpa using he
   rw [(rfl : l.length = l.length)] at hsf
   rw [hAA]; exact hsf
 have HLA : Hid (((l).drop m).length = l.length - m) := by show _ = _; rw [List.length_drop, (rfl : l.length = l.length)]
 have x1 := HX9.out.cell 1
 have c0 := HC9.out.cell 3
 have f0 := HC9.out.frozen 3
 have hsb := HB9.out.size
 obtain ⟨W10, hW10⟩ : ∃ W10, W10 = (W9.setCell ⟨w.heap.size + 1 + 1 + 1, 3, none⟩ (.slice (some adA) m m)).drew := ⟨_, rfl⟩
 have hszs := HSbl.out
 have HC10 := Hd (show BL W10 (w.heap.size + 1 + 1 + 1) 40 _ by rw [hW10]; exact HC9.out.set 3 (.slice (some adA) m m))
 have HG10 := Hd (show BL W10 (w.heap.size) 25 _ by rw [hW10]; exact HG9.out.set_other (a := ⟨w.heap.size + 1 + 1 + 1, 3, none⟩) (by dsimp only; omega) (.slice (some adA) m m))
 have HK10 := Hd (show BL W10 (w.heap.size + 1) 85 _ by rw [hW10]; exact HK9.out.set_other (a := ⟨w.heap.size + 1 + 1 + 1, 3, none⟩) (by dsimp only; omega) (.slice (some adA) m m))
 have HR10 := Hd (show BL W10 (w.heap.size + 1 + 1) 40 _ by rw [hW10]; exact HR9.out.set_other (a := ⟨w.heap.size + 1 + 1 + 1, 3, none⟩) (by dsimp only; omega) (.slice (some adA) m m))
 have HS10 := Hd (show BL W10 W6.heap.size 128 _ by rw [hW10]; exact HS9.out.set_other (a := ⟨w.heap.size + 1 + 1 + 1, 3, none⟩) (by dsimp only; omega) (.slice (some adA) m m))
 have HB10 := Hd (show Below w.heap.size w W10 by rw [hW10]; exact (HB9.out.setCell (p := ⟨w.heap.size + 1 + 1 + 1, 3, none⟩) (by dsimp only; omega) (.slice (some adA) m m)).drew)
 have HW10 := Hd hW10
 clear hW10 hAA
 go_wp2_with fail
 go_region
 rw [<- HW10.out]
 clear hslA hslB x1 c0 f0 hsb hszs HG9 HK9 HR9 HC9 HS9 HX9 g0
 have hcn' : l.length = l.length - m + m := by omega
 have hlcA : l.length - m <= cl - m := by omega
 have hllA : l.length - m <= 100000 := by omega
 generalize hg1 : l.length - m = n2 at *
 generalize hg2 : cl - m = c2 at *
 have HCnA := Hd hcn'
 clear hcn' hlt hg1 hg2
 go_wp2_with fail
 rw [rounds_succ]
 obtain ⟨W11, hW11⟩ : ∃ W11, W11 = W10.alloc (.cells #[.int .i64 8, .pointer (some ⟨w.heap.size + 1 + 1 + 1, 4, none⟩)] 128) := ⟨_, rfl⟩
 have hb : Below W10.heap.size W10 W11 := by rw [hW11]; exact below_alloc W10 _
 have HG11 := Hd (HG10.out.bel hb)
 have HK11 := Hd (HK10.out.bel hb)
 have HR11 := Hd (HR10.out.bel hb)
 have HC11 := Hd (HC10.out.bel hb)
 have HS11 := Hd (HS10.out.bel hb)
 have HB11 := Hd (HB10.out.trans (hb.mono HB10.out.size))
 have HX11 := Hd (show BL W11 W10.heap.size 128 [.int .i64 8, .pointer (some ⟨w.heap.size + 1 + 1 + 1, 4, none⟩)] by rw [hW11]; exact BL.new' W10 _ _)
 have HW11 := Hd hW11
 have s0 := HS10.out.cell 2
 have s1 := HS10.out.cell 3
 have k0 := HK11.out.cell 0
 have k1 := HK11.out.cell 1
 have k2 := HK11.out.cell 2
 have k3 := HK11.out.cell 3
 have x0 := HX11.out.cell 0
 rw [hW11] at k0 k1 k2 k3 x0
 clear hW11 hb
 go_wp2_with fail
 rw [<- HW11.out]
 refine (HU3.out _).mono ?_
 rintro e W12 ⟨rfl, hb⟩
 have HG12 := Hd (HG11.out.bel hb)
 have HK12 := Hd (HK11.out.bel hb)
 have HR12 := Hd (HR11.out.bel hb)
 have HC12 := Hd (HC11.out.bel hb)
 have HS12 := Hd (HS11.out.bel hb)
 have HX12 := Hd (HX11.out.bel hb)
 have HB12 := Hd (HB11.out.trans (hb.mono HB11.out.size))
 clear hb s0 s1 k0 k1 k2 k3 x0 HG10 HK10 HR10 HC10 HS10 HG11 HK11 HR11 HC11 HS11 HX11
 go_wp2_with fail
 rw [rounds_succ]
 have HOk : Hid (decide (fillE m false false false false l = 0) = ((n2 : Int) == 0)) := by
   show _ = _
   have e1 := (rfl : l.length = l.length)
   have e2 := HCnA.out
   rw [HFe.out]
   by_cases h : n2 = 0
   · rw [if_neg (by omega), h]; rfl
   · rw [if_pos (by omega)]; simp [h]
 have HOz : Hid (fillE m false false false false l = 0 -> (l.length : Int) = m) := fun h => by
   rw [HFe.out] at h
   by_cases h2 : (l.length : Int) ≠ m
   · rw [if_pos h2] at h; cases h
   · exact Decidable.not_not.1 h2
 have d0 := HC12.out.cell 0
 have d1 := HC12.out.cell 1
 have d2 := HC12.out.cell 2
 have d3 := HC12.out.cell 3
 have d4 := HC12.out.cell 4
 have d5 := HC12.out.cell 5
 have r0 := HR12.out.cell 0
 have r1 := HR12.out.cell 1
 have r2 := HR12.out.cell 2
 have r3 := HR12.out.cell 3
 have r4 := HR12.out.cell 4
 have r5 := HR12.out.cell 5
 have g0 := HR12.out.frozen 0
 have g1 := HR12.out.frozen 1
 have g2 := HR12.out.frozen 2
 have g3 := HR12.out.frozen 3
 have g4 := HR12.out.frozen 4
 have g5 := HR12.out.frozen 5
 go_wp2_with fail
 refine bodyPost_ret (results_row_tmp rfl _ _ (w.heap.size + 1 + 1) 40 #[.int .i64 (k : Int), .int .i64 0, .int .i64 0, .slice (some adA) m m, .slice none 0 0, .slice none 0 0] (0, 0) _ rfl (HR12.out.set6 _ _ _ _ _ _) Tryz.underlying40 rfl pclaim_size) rfl ?_
 exact ⟨k, 0, 0, .slice (some adA) m m, .slice none 0 0, .slice none 0 0, by rw [HOk.out]; rfl, fun hz => ⟨rfl, rfl, rfl, fun W hW => ⟨(by have h := HTA.out W hW; rw [List.take_of_length_le (by have := HOz.out hz; omega)] at h; exact h), RI.emp rfl rfl rfl, RI.emp rfl rfl rfl⟩⟩, ⟨⟨_, _, _, rfl⟩, ⟨_, _, _, rfl⟩, ⟨_, _, _, rfl⟩⟩, below6 HB12.out (show w.heap.size <= w.heap.size + 1 + 1 by omega) _ _ _ _ _ _⟩
theorem pFill_00001 (g lv : Value) (m k : Nat) (S : ByteArray) (es : List Tri) (l : List Int) (w : World) (hk : k < 9) (hg : GV w g m es) (hl : RI w lv l) (_hm1 : 1 <= m) (_hm : m <= 12) (hll : l.length <= 100000)
   (uq : kq k = false) (un : kn k = false) (ua : ka k = false) (ub : kb k = false) (uf : kf k = true) :
   Calls Tryz.prog 49 #[g, .int .i64 (k : Int), .agg #[.string S, .int .i64 (pm k), .int .i64 (kl k), .func (.func (pfn k)) #[] #[]], lv] w fun e w' => GivQ m k false false false true lv l w e w' := by
 obtain ⟨Al, cl, rfl, hlc, -, hcell⟩ := id hl |>.open_
 obtain ⟨Ag, cg, rfl, -⟩ := hg.open_
 have HU : Hid (∀ (i : Nat) (W : World), i < 5 -> Calls Tryz.prog 58 #[.agg #[.string S, .int .i64 (pm k), .int .i64 (kl k), .func (.func (pfn k)) #[] #[]], .int .i64 (pb i)] W fun e w' => e = .returned (.bool (pu k i)) /\ Below W.heap.size W w') := fun i W hi => puse_any k i hk hi S _ _ W
 have HU0 : Hid (∀ (W : World), Calls Tryz.prog 58 #[.agg #[.string S, .int .i64 (pm k), .int .i64 (kl k), .func (.func (pfn k)) #[] #[]], .int .i64 1] W fun e w' => e = .returned (.bool false) /\ Below W.heap.size W w') := fun W => by rw [<- uq]; exact HU.out 0 W (by decide)
 have HU1 : Hid (∀ (W : World), Calls Tryz.prog 58 #[.agg #[.string S, .int .i64 (pm k), .int .i64 (kl k), .func (.func (pfn k)) #[] #[]], .int .i64 2] W fun e w' => e = .returned (.bool false) /\ Below W.heap.size W w') := fun W => by rw [<- un]; exact HU.out 1 W (by decide)
 have HU2 : Hid (∀ (W : World), Calls Tryz.prog 58 #[.agg #[.string S, .int .i64 (pm k), .int .i64 (kl k), .func (.func (pfn k)) #[] #[]], .int .i64 4] W fun e w' => e = .returned (.bool false) /\ Below W.heap.size W w') := fun W => by rw [<- ua]; exact HU.out 2 W (by decide)
 have HU3 : Hid (∀ (W : World), Calls Tryz.prog 58 #[.agg #[.string S, .int .i64 (pm k), .int .i64 (kl k), .func (.func (pfn k)) #[] #[]], .int .i64 8] W fun e w' => e = .returned (.bool false) /\ Below W.heap.size W w') := fun W => by rw [<- ub]; exact HU.out 3 W (by decide)
 have HU4 : Hid (∀ (W : World), Calls Tryz.prog 58 #[.agg #[.string S, .int .i64 (pm k), .int .i64 (kl k), .func (.func (pfn k)) #[] #[]], .int .i64 16] W fun e w' => e = .returned (.bool true) /\ Below W.heap.size W w') := fun W => by rw [<- uf]; exact HU.out 4 W (by decide)
 generalize pm k = pmk at *
 generalize kl k = klk at *
 generalize pfn k = pfk at *
 obtain ⟨W1, hW1⟩ : ∃ W1, W1 = ((((w.alloc (.cells #[.int .i64 (m : Int), .slice Ag es.length cg] 25)).alloc (.cells #[.string S, .int .i64 pmk, .int .i64 klk, .func (.func pfk) #[] #[]] 85)).alloc (.cells #[.int .i64 0, .int .i64 0, .int .i64 0, .slice none 0 0, .slice none 0 0, .slice none 0 0] 40)).alloc (.cells #[.int .i64 (k : Int), .int .i64 0, .int .i64 0, .slice none 0 0, .slice none 0 0, .slice none 0 0] 40)).alloc (.cells #[.int .i64 1, .pointer (some ⟨w.heap.size + 1 + 1 + 1, 1, none⟩), .int .i64 2, .pointer (some ⟨w.heap.size + 1 + 1 + 1, 2, none⟩)] 125) := ⟨_, rfl⟩
 have hb1 : Below w.heap.size w W1 := by rw [hW1]; exact ((((below_alloc w _).alloc (by simp) _).alloc (by simp; omega) _).alloc (by simp; omega) _).alloc (by simp; omega) _
 have hz1 : W1.heap.size = w.heap.size + 1 + 1 + 1 + 1 + 1 := by rw [hW1]; simp
 have e1 := BL.new' w #[.int .i64 (m : Int), .slice Ag es.length cg] 25
 have e2 := BL.new' (w.alloc (.cells #[.int .i64 (m : Int), .slice Ag es.length cg] 25)) #[.string S, .int .i64 pmk, .int .i64 klk, .func (.func pfk) #[] #[]] 85
 have e3 := BL.new' ((w.alloc (.cells #[.int .i64 (m : Int), .slice Ag es.length cg] 25)).alloc (.cells #[.string S, .int .i64 pmk, .int .i64 klk, .func (.func pfk) #[] #[]] 85)) #[.int .i64 0, .int .i64 0, .int .i64 0, .slice none 0 0, .slice none 0 0, .slice none 0 0] 40
 have e4 := BL.new' (((w.alloc (.cells #[.int .i64 (m : Int), .slice Ag es.length cg] 25)).alloc (.cells #[.string S, .int .i64 pmk, .int .i64 klk, .func (.func pfk) #[] #[]] 85)).alloc (.cells #[.int .i64 0, .int .i64 0, .int .i64 0, .slice none 0 0, .slice none 0 0, .slice none 0 0] 40)) #[.int .i64 (k : Int), .int .i64 0, .int .i64 0, .slice none 0 0, .slice none 0 0, .slice none 0 0] 40
 have e5 := BL.new' ((((w.alloc (.cells #[.int .i64 (m : Int), .slice Ag es.length cg] 25)).alloc (.cells #[.string S, .int .i64 pmk, .int .i64 klk, .func (.func pfk) #[] #[]] 85)).alloc (.cells #[.int .i64 0, .int .i64 0, .int .i64 0, .slice none 0 0, .slice none 0 0, .slice none 0 0] 40)).alloc (.cells #[.int .i64 (k : Int), .int .i64 0, .int .i64 0, .slice none 0 0, .slice none 0 0, .slice none 0 0] 40)) #[.int .i64 1, .pointer (some ⟨w.heap.size + 1 + 1 + 1, 1, none⟩), .int .i64 2, .pointer (some ⟨w.heap.size + 1 + 1 + 1, 2, none⟩)] 125
 rw [World.size_alloc] at e2
 rw [World.size_alloc, World.size_alloc] at e3
 rw [World.size_alloc, World.size_alloc, World.size_alloc] at e4
 rw [World.size_alloc, World.size_alloc, World.size_alloc, World.size_alloc] at e5
 have HG1 := Hd (show BL W1 (w.heap.size) 25 _ by rw [hW1]; exact (((e1.alloc _).alloc _).alloc _).alloc _)
 have HK1 := Hd (show BL W1 (w.heap.size + 1) 85 _ by rw [hW1]; exact ((e2.alloc _).alloc _).alloc _)
 have HR1 := Hd (show BL W1 (w.heap.size + 1 + 1) 40 _ by rw [hW1]; exact (e3.alloc _).alloc _)
 have HC1 := Hd (show BL W1 (w.heap.size + 1 + 1 + 1) 40 _ by rw [hW1]; exact e4.alloc _)
 have HS1 := Hd (show BL W1 (w.heap.size + 1 + 1 + 1 + 1) 125 _ by rw [hW1]; exact e5)
 have HB1 := Hd hb1
 have HW1 := Hd hW1
 have HRl := Hd hl
 have HZ1 := Hd hz1
 have HCl := Hd hcell
 clear hW1 hb1 hz1 e1 e2 e3 e4 e5 hg hl HU uq un ua ub uf hcell
 go_enter Tryz.func49, Tryz.ntmps49
 go_wp2_with fail
 rw [<- HW1.out]
 refine wp_loop_rounds 3 ?_
 rw [rounds_succ]

 obtain ⟨W2, hW2⟩ : ∃ W2, W2 = W1.alloc (.cells #[.int .i64 1, .pointer (some ⟨w.heap.size + 1 + 1 + 1, 1, none⟩)] 125) := ⟨_, rfl⟩
 have hb : Below W1.heap.size W1 W2 := by rw [hW2]; exact below_alloc W1 _
 have HG2 := Hd (HG1.out.bel hb)
 have HK2 := Hd (HK1.out.bel hb)
 have HR2 := Hd (HR1.out.bel hb)
 have HC2 := Hd (HC1.out.bel hb)
 have HS2 := Hd (HS1.out.bel hb)
 have HB2 := Hd (HB1.out.trans (hb.mono HB1.out.size))
 have HX2 := Hd (show BL W2 W1.heap.size 125 [.int .i64 1, .pointer (some ⟨w.heap.size + 1 + 1 + 1, 1, none⟩)] by rw [hW2]; exact BL.new' W1 _ _)
 have HW2 := Hd hW2
 have s0 := HS1.out.cell 0
 have s1 := HS1.out.cell 1
 have k0 := HK2.out.cell 0
 have k1 := HK2.out.cell 1
 have k2 := HK2.out.cell 2
 have k3 := HK2.out.cell 3
 have x0 := HX2.out.cell 0
 rw [hW2] at k0 k1 k2 k3 x0
 clear hW2 hb
 go_wp2_with fail
 rw [<- HW2.out]
 refine (HU0.out _).mono ?_
 rintro e W3 ⟨rfl, hb⟩
 have HG3 := Hd (HG2.out.bel hb)
 have HK3 := Hd (HK2.out.bel hb)
 have HR3 := Hd (HR2.out.bel hb)
 have HC3 := Hd (HC2.out.bel hb)
 have HS3 := Hd (HS2.out.bel hb)
 have HX3 := Hd (HX2.out.bel hb)
 have HB3 := Hd (HB2.out.trans (hb.mono HB2.out.size))
 clear hb s0 s1 k0 k1 k2 k3 x0 HG1 HK1 HR1 HC1 HS1 HG2 HK2 HR2 HC2 HS2 HX2
 go_wp2_with fail
 rw [rounds_succ]
 obtain ⟨W4, hW4⟩ : ∃ W4, W4 = W3.alloc (.cells #[.int .i64 2, .pointer (some ⟨w.heap.size + 1 + 1 + 1, 2, none⟩)] 125) := ⟨_, rfl⟩
 have hb : Below W3.heap.size W3 W4 := by rw [hW4]; exact below_alloc W3 _
 have HG4 := Hd (HG3.out.bel hb)
 have HK4 := Hd (HK3.out.bel hb)
 have HR4 := Hd (HR3.out.bel hb)
 have HC4 := Hd (HC3.out.bel hb)
 have HS4 := Hd (HS3.out.bel hb)
 have HB4 := Hd (HB3.out.trans (hb.mono HB3.out.size))
 have HX4 := Hd (show BL W4 W3.heap.size 125 [.int .i64 2, .pointer (some ⟨w.heap.size + 1 + 1 + 1, 2, none⟩)] by rw [hW4]; exact BL.new' W3 _ _)
 have HW4 := Hd hW4
 have s0 := HS3.out.cell 2
 have s1 := HS3.out.cell 3
 have k0 := HK4.out.cell 0
 have k1 := HK4.out.cell 1
 have k2 := HK4.out.cell 2
 have k3 := HK4.out.cell 3
 have x0 := HX4.out.cell 0
 rw [hW4] at k0 k1 k2 k3 x0
 clear hW4 hb
 go_wp2_with fail
 rw [<- HW4.out]
 refine (HU1.out _).mono ?_
 rintro e W5 ⟨rfl, hb⟩
 have HG5 := Hd (HG4.out.bel hb)
 have HK5 := Hd (HK4.out.bel hb)
 have HR5 := Hd (HR4.out.bel hb)
 have HC5 := Hd (HC4.out.bel hb)
 have HS5 := Hd (HS4.out.bel hb)
 have HX5 := Hd (HX4.out.bel hb)
 have HB5 := Hd (HB4.out.trans (hb.mono HB4.out.size))
 clear hb s0 s1 k0 k1 k2 k3 x0 HG3 HK3 HR3 HC3 HS3 HG4 HK4 HR4 HC4 HS4 HX4
 go_wp2_with fail
 rw [rounds_succ]
 have HRc : Hid (∀ W, RI W (.slice Al l.length cl) l -> RI W (.slice Al l.length cl) l) := fun _ h => h
 have k0 := HK5.out.cell 0
 have k1 := HK5.out.cell 1
 have k2 := HK5.out.cell 2
 have k3 := HK5.out.cell 3
 go_wp2_with fail
 refine (HU4.out _).mono ?_
 rintro e W6 ⟨rfl, hb⟩
 have HG6 := Hd (HG5.out.bel hb)
 have HK6 := Hd (HK5.out.bel hb)
 have HR6 := Hd (HR5.out.bel hb)
 have HC6 := Hd (HC5.out.bel hb)
 have HB6 := Hd (HB5.out.trans (hb.mono HB5.out.size))
 clear hb k0 k1 k2 k3 HG5 HK5 HR5 HC5
 have HFe : Hid (fillE m false false false true l = if l = [] \/ l.getD 0 0 ≠ (l.length : Int) - 1 then 8 else 0) := by
   show _ = _
   unfold fillE
   rw [if_neg (fun h => absurd h.1 (by decide)), if_neg (fun h => absurd h.1 (by decide)), if_pos rfl]
   rfl
 by_cases hne : l = []
 · have hl0 : l.length = 0 := by rw [hne]; rfl
   have HRes : Hid (fillE m false false false true l = 8) := by
     show _ = _
     rw [HFe.out, if_pos (.inl hne)]
   have HR' := Hd (HR6.out.set6 (.int .i64 0) (.int .i64 0) (.int .i64 0) (.slice none 0 0) (.slice none 0 0) (.slice none 0 0))
   have HB' := Hd (below6 HB6.out (show w.heap.size <= w.heap.size + 1 + 1 by omega) (.int .i64 0) (.int .i64 0) (.int .i64 0) (.slice none 0 0) (.slice none 0 0) (.slice none 0 0))
   have f0 := HR6.out.frozen 0
   have f1 := HR6.out.frozen 1
   have f2 := HR6.out.frozen 2
   have f3 := HR6.out.frozen 3
   have f4 := HR6.out.frozen 4
   have f5 := HR6.out.frozen 5
   have c0 := HR6.out.cell 0
   have c1 := HR6.out.cell 1
   have c2 := HR6.out.cell 2
   have c3 := HR6.out.cell 3
   have c4 := HR6.out.cell 4
   have c5 := HR6.out.cell 5
   go_wp2_with fail
   refine bodyPost_ret (results_row_tmp rfl _ _ (w.heap.size + 1 + 1) 40 #[.int .i64 0, .int .i64 0, .int .i64 0, .slice none 0 0, .slice none 0 0, .slice none 0 0] (0, 0) _ rfl HR'.out Tryz.underlying40 rfl pclaim_size) rfl ?_
   exact ⟨0, 0, 0, .slice none 0 0, .slice none 0 0, .slice none 0 0, by rw [HRes.out]; rfl, fun h => absurd (HRes.out.symm.trans h) (by decide), ⟨⟨_, _, _, rfl⟩, ⟨_, _, _, rfl⟩, ⟨_, _, _, rfl⟩⟩, HB'.out⟩
 have hpos : 0 < l.length := List.length_pos_iff.2 hne
 have h1 : 1 <= l.length := hpos
 have hli : (0 : Int) < (l.length : Int) := by omega
 have hl0 : ¬ l.length = 0 := by omega
 obtain ⟨ad, z, rfl, hzb, hz, hcz⟩ := HCl.out 0 hpos
 rw [add_zero'] at hcz
 have HZ : Hid (l.getD 0 0 = z) := getD_of' hz.out
 have hcz2 := (HB6.out.cell (p := ad) hzb).trans hcz
 clear hcz hzb hz
 by_cases hzl : z ≠ (l.length : Int) - 1
 · have t1 : (z != (l.length : Int) - 1) = true := by simpa using hzl
   have HRes : Hid (fillE m false false false true l = 8) := by
     show _ = _
     rw [HFe.out, if_pos (.inr (by rw [HZ.out]; exact hzl))]
   have HR' := Hd (HR6.out.set6 (.int .i64 0) (.int .i64 0) (.int .i64 0) (.slice none 0 0) (.slice none 0 0) (.slice none 0 0))
   have HB' := Hd (below6 HB6.out (show w.heap.size <= w.heap.size + 1 + 1 by omega) (.int .i64 0) (.int .i64 0) (.int .i64 0) (.slice none 0 0) (.slice none 0 0) (.slice none 0 0))
   have f0 := HR6.out.frozen 0
   have f1 := HR6.out.frozen 1
   have f2 := HR6.out.frozen 2
   have f3 := HR6.out.frozen 3
   have f4 := HR6.out.frozen 4
   have f5 := HR6.out.frozen 5
   have c0 := HR6.out.cell 0
   have c1 := HR6.out.cell 1
   have c2 := HR6.out.cell 2
   have c3 := HR6.out.cell 3
   have c4 := HR6.out.cell 4
   have c5 := HR6.out.cell 5
   go_wp2_with fail
   refine bodyPost_ret (results_row_tmp rfl _ _ (w.heap.size + 1 + 1) 40 #[.int .i64 0, .int .i64 0, .int .i64 0, .slice none 0 0, .slice none 0 0, .slice none 0 0] (0, 0) _ rfl HR'.out Tryz.underlying40 rfl pclaim_size) rfl ?_
   exact ⟨0, 0, 0, .slice none 0 0, .slice none 0 0, .slice none 0 0, by rw [HRes.out]; rfl, fun h => absurd (HRes.out.symm.trans h) (by decide), ⟨⟨_, _, _, rfl⟩, ⟨_, _, _, rfl⟩, ⟨_, _, _, rfl⟩⟩, HB'.out⟩
 have t1 : (z != (l.length : Int) - 1) = false := by simpa using hzl
 obtain ⟨A1, hA1⟩ : ∃ A1, A1 = if cl = 1 then some ad else some (ad.add 1) := ⟨_, rfl⟩
 have hslice : ∀ W : World, (Instr.slice 37 (.slice (some ad) l.length cl) (some (.int .i64 1)) none none).run Tryz.prog W = .ok (.slice A1 (l.length - 1) (cl - 1)) W := fun W => by
   rw [run_slice_l W 37 (some ad) l.length cl Tryz.underlying37 .i64 1 (by omega) (by omega), hA1]
   simp [go_sem]
 have HSf : Hid (∀ W, RI W (.slice (some ad) l.length cl) l -> RI W (.slice A1 (l.length - 1) (cl - 1)) (l.drop 1)) := fun W hW => by
   obtain ⟨ad', he, -, -, hsf⟩ := RI.suf' hW h1 1 h1
   obtain rfl : ad = ad' := by simpa using he
   rw [hA1]; exact hsf
 have HRes : Hid (fillE m false false false true l = 0) := by
   show _ = _
   rw [HFe.out, if_neg]
   rintro (h | h)
   · exact hne h
   · rw [HZ.out] at h; exact h (by simpa using hzl)
 have hsb := HB6.out.size
 have HC' := Hd (HC6.out.set 5 (.slice A1 (l.length - 1) (cl - 1)))
 have HRo := Hd (HR6.out.set_other (a := ⟨w.heap.size + 1 + 1 + 1, 5, none⟩) (by dsimp only; omega) (.slice A1 (l.length - 1) (cl - 1)))
 have HBo := Hd (HB6.out.setCell (p := ⟨w.heap.size + 1 + 1 + 1, 5, none⟩) (by dsimp only; omega) (.slice A1 (l.length - 1) (cl - 1)))
 have c5 := HC6.out.cell 5
 have f5 := HC6.out.frozen 5
 have d0 := HC'.out.cell 0
 have d1 := HC'.out.cell 1
 have d2 := HC'.out.cell 2
 have d3 := HC'.out.cell 3
 have d4 := HC'.out.cell 4
 have d5 := HC'.out.cell 5
 have r0 := HRo.out.cell 0
 have r1 := HRo.out.cell 1
 have r2 := HRo.out.cell 2
 have r3 := HRo.out.cell 3
 have r4 := HRo.out.cell 4
 have r5 := HRo.out.cell 5
 have g0 := HRo.out.frozen 0
 have g1 := HRo.out.frozen 1
 have g2 := HRo.out.frozen 2
 have g3 := HRo.out.frozen 3
 have g4 := HRo.out.frozen 4
 have g5 := HRo.out.frozen 5
 clear hA1 hzl hne
 go_wp2_with fail
 refine bodyPost_ret (results_row_tmp rfl _ _ (w.heap.size + 1 + 1) 40 #[.int .i64 (k : Int), .int .i64 0, .int .i64 0, .slice none 0 0, .slice none 0 0, .slice A1 (l.length - 1) (cl - 1)] (0, 0) _ rfl (HRo.out.set6 _ _ _ _ _ _) Tryz.underlying40 rfl pclaim_size) rfl ?_
 exact ⟨k, 0, 0, .slice none 0 0, .slice none 0 0, .slice A1 (l.length - 1) (cl - 1), by rw [HRes.out]; rfl, fun _ => ⟨rfl, rfl, rfl, fun W hW => ⟨RI.emp rfl rfl rfl, RI.emp rfl rfl rfl, HSf.out W hW⟩⟩, ⟨⟨_, _, _, rfl⟩, ⟨_, _, _, rfl⟩, ⟨_, _, _, rfl⟩⟩, below6 HBo.out (show w.heap.size <= w.heap.size + 1 + 1 by omega) _ _ _ _ _ _⟩
theorem pFill_01100 (g lv : Value) (m k : Nat) (S : ByteArray) (es : List Tri) (l : List Int) (w : World) (hk : k < 9) (hg : GV w g m es) (hl : RI w lv l) (hm1 : 1 <= m) (hm : m <= 12) (hll : l.length <= 100000)
   (uq : kq k = false) (un : kn k = true) (ua : ka k = true) (ub : kb k = false) (uf : kf k = false) :
   Calls Tryz.prog 49 #[g, .int .i64 (k : Int), .agg #[.string S, .int .i64 (pm k), .int .i64 (kl k), .func (.func (pfn k)) #[] #[]], lv] w fun e w' => GivQ m k false true false false lv l w e w' := by
 obtain ⟨Al, cl, rfl, hlc, -, hcell⟩ := id hl |>.open_
 obtain ⟨Ag, cg, rfl, -⟩ := hg.open_
 have HU : Hid (∀ (i : Nat) (W : World), i < 5 -> Calls Tryz.prog 58 #[.agg #[.string S, .int .i64 (pm k), .int .i64 (kl k), .func (.func (pfn k)) #[] #[]], .int .i64 (pb i)] W fun e w' => e = .returned (.bool (pu k i)) /\ Below W.heap.size W w') := fun i W hi => puse_any k i hk hi S _ _ W
 have HU0 : Hid (∀ (W : World), Calls Tryz.prog 58 #[.agg #[.string S, .int .i64 (pm k), .int .i64 (kl k), .func (.func (pfn k)) #[] #[]], .int .i64 1] W fun e w' => e = .returned (.bool false) /\ Below W.heap.size W w') := fun W => by rw [<- uq]; exact HU.out 0 W (by decide)
 have HU1 : Hid (∀ (W : World), Calls Tryz.prog 58 #[.agg #[.string S, .int .i64 (pm k), .int .i64 (kl k), .func (.func (pfn k)) #[] #[]], .int .i64 2] W fun e w' => e = .returned (.bool true) /\ Below W.heap.size W w') := fun W => by rw [<- un]; exact HU.out 1 W (by decide)
 have HU2 : Hid (∀ (W : World), Calls Tryz.prog 58 #[.agg #[.string S, .int .i64 (pm k), .int .i64 (kl k), .func (.func (pfn k)) #[] #[]], .int .i64 4] W fun e w' => e = .returned (.bool true) /\ Below W.heap.size W w') := fun W => by rw [<- ua]; exact HU.out 2 W (by decide)
 have HU3 : Hid (∀ (W : World), Calls Tryz.prog 58 #[.agg #[.string S, .int .i64 (pm k), .int .i64 (kl k), .func (.func (pfn k)) #[] #[]], .int .i64 8] W fun e w' => e = .returned (.bool false) /\ Below W.heap.size W w') := fun W => by rw [<- ub]; exact HU.out 3 W (by decide)
 have HU4 : Hid (∀ (W : World), Calls Tryz.prog 58 #[.agg #[.string S, .int .i64 (pm k), .int .i64 (kl k), .func (.func (pfn k)) #[] #[]], .int .i64 16] W fun e w' => e = .returned (.bool false) /\ Below W.heap.size W w') := fun W => by rw [<- uf]; exact HU.out 4 W (by decide)
 generalize pm k = pmk at *
 generalize kl k = klk at *
 generalize pfn k = pfk at *
 obtain ⟨W1, hW1⟩ : ∃ W1, W1 = ((((w.alloc (.cells #[.int .i64 (m : Int), .slice Ag es.length cg] 25)).alloc (.cells #[.string S, .int .i64 pmk, .int .i64 klk, .func (.func pfk) #[] #[]] 85)).alloc (.cells #[.int .i64 0, .int .i64 0, .int .i64 0, .slice none 0 0, .slice none 0 0, .slice none 0 0] 40)).alloc (.cells #[.int .i64 (k : Int), .int .i64 0, .int .i64 0, .slice none 0 0, .slice none 0 0, .slice none 0 0] 40)).alloc (.cells #[.int .i64 1, .pointer (some ⟨w.heap.size + 1 + 1 + 1, 1, none⟩), .int .i64 2, .pointer (some ⟨w.heap.size + 1 + 1 + 1, 2, none⟩)] 125) := ⟨_, rfl⟩
 have hb1 : Below w.heap.size w W1 := by rw [hW1]; exact ((((below_alloc w _).alloc (by simp) _).alloc (by simp; omega) _).alloc (by simp; omega) _).alloc (by simp; omega) _
 have hz1 : W1.heap.size = w.heap.size + 1 + 1 + 1 + 1 + 1 := by rw [hW1]; simp
 have e1 := BL.new' w #[.int .i64 (m : Int), .slice Ag es.length cg] 25
 have e2 := BL.new' (w.alloc (.cells #[.int .i64 (m : Int), .slice Ag es.length cg] 25)) #[.string S, .int .i64 pmk, .int .i64 klk, .func (.func pfk) #[] #[]] 85
 have e3 := BL.new' ((w.alloc (.cells #[.int .i64 (m : Int), .slice Ag es.length cg] 25)).alloc (.cells #[.string S, .int .i64 pmk, .int .i64 klk, .func (.func pfk) #[] #[]] 85)) #[.int .i64 0, .int .i64 0, .int .i64 0, .slice none 0 0, .slice none 0 0, .slice none 0 0] 40
 have e4 := BL.new' (((w.alloc (.cells #[.int .i64 (m : Int), .slice Ag es.length cg] 25)).alloc (.cells #[.string S, .int .i64 pmk, .int .i64 klk, .func (.func pfk) #[] #[]] 85)).alloc (.cells #[.int .i64 0, .int .i64 0, .int .i64 0, .slice none 0 0, .slice none 0 0, .slice none 0 0] 40)) #[.int .i64 (k : Int), .int .i64 0, .int .i64 0, .slice none 0 0, .slice none 0 0, .slice none 0 0] 40
 have e5 := BL.new' ((((w.alloc (.cells #[.int .i64 (m : Int), .slice Ag es.length cg] 25)).alloc (.cells #[.string S, .int .i64 pmk, .int .i64 klk, .func (.func pfk) #[] #[]] 85)).alloc (.cells #[.int .i64 0, .int .i64 0, .int .i64 0, .slice none 0 0, .slice none 0 0, .slice none 0 0] 40)).alloc (.cells #[.int .i64 (k : Int), .int .i64 0, .int .i64 0, .slice none 0 0, .slice none 0 0, .slice none 0 0] 40)) #[.int .i64 1, .pointer (some ⟨w.heap.size + 1 + 1 + 1, 1, none⟩), .int .i64 2, .pointer (some ⟨w.heap.size + 1 + 1 + 1, 2, none⟩)] 125
 rw [World.size_alloc] at e2
 rw [World.size_alloc, World.size_alloc] at e3
 rw [World.size_alloc, World.size_alloc, World.size_alloc] at e4
 rw [World.size_alloc, World.size_alloc, World.size_alloc, World.size_alloc] at e5
 have HG1 := Hd (show BL W1 (w.heap.size) 25 _ by rw [hW1]; exact (((e1.alloc _).alloc _).alloc _).alloc _)
 have HK1 := Hd (show BL W1 (w.heap.size + 1) 85 _ by rw [hW1]; exact ((e2.alloc _).alloc _).alloc _)
 have HR1 := Hd (show BL W1 (w.heap.size + 1 + 1) 40 _ by rw [hW1]; exact (e3.alloc _).alloc _)
 have HC1 := Hd (show BL W1 (w.heap.size + 1 + 1 + 1) 40 _ by rw [hW1]; exact e4.alloc _)
 have HS1 := Hd (show BL W1 (w.heap.size + 1 + 1 + 1 + 1) 125 _ by rw [hW1]; exact e5)
 have HB1 := Hd hb1
 have HW1 := Hd hW1
 have HRl := Hd hl
 have HZ1 := Hd hz1
 have HCl := Hd hcell
 clear hW1 hb1 hz1 e1 e2 e3 e4 e5 hg hl HU uq un ua ub uf hcell
 go_enter Tryz.func49, Tryz.ntmps49
 go_wp2_with fail
 rw [<- HW1.out]
 refine wp_loop_rounds 3 ?_
 rw [rounds_succ]

 obtain ⟨W2, hW2⟩ : ∃ W2, W2 = W1.alloc (.cells #[.int .i64 1, .pointer (some ⟨w.heap.size + 1 + 1 + 1, 1, none⟩)] 125) := ⟨_, rfl⟩
 have hb : Below W1.heap.size W1 W2 := by rw [hW2]; exact below_alloc W1 _
 have HG2 := Hd (HG1.out.bel hb)
 have HK2 := Hd (HK1.out.bel hb)
 have HR2 := Hd (HR1.out.bel hb)
 have HC2 := Hd (HC1.out.bel hb)
 have HS2 := Hd (HS1.out.bel hb)
 have HB2 := Hd (HB1.out.trans (hb.mono HB1.out.size))
 have HX2 := Hd (show BL W2 W1.heap.size 125 [.int .i64 1, .pointer (some ⟨w.heap.size + 1 + 1 + 1, 1, none⟩)] by rw [hW2]; exact BL.new' W1 _ _)
 have HW2 := Hd hW2
 have s0 := HS1.out.cell 0
 have s1 := HS1.out.cell 1
 have k0 := HK2.out.cell 0
 have k1 := HK2.out.cell 1
 have k2 := HK2.out.cell 2
 have k3 := HK2.out.cell 3
 have x0 := HX2.out.cell 0
 rw [hW2] at k0 k1 k2 k3 x0
 clear hW2 hb
 go_wp2_with fail
 rw [<- HW2.out]
 refine (HU0.out _).mono ?_
 rintro e W3 ⟨rfl, hb⟩
 have HG3 := Hd (HG2.out.bel hb)
 have HK3 := Hd (HK2.out.bel hb)
 have HR3 := Hd (HR2.out.bel hb)
 have HC3 := Hd (HC2.out.bel hb)
 have HS3 := Hd (HS2.out.bel hb)
 have HX3 := Hd (HX2.out.bel hb)
 have HB3 := Hd (HB2.out.trans (hb.mono HB2.out.size))
 clear hb s0 s1 k0 k1 k2 k3 x0 HG1 HK1 HR1 HC1 HS1 HG2 HK2 HR2 HC2 HS2 HX2
 go_wp2_with fail
 rw [rounds_succ]
 obtain ⟨W4, hW4⟩ : ∃ W4, W4 = W3.alloc (.cells #[.int .i64 2, .pointer (some ⟨w.heap.size + 1 + 1 + 1, 2, none⟩)] 125) := ⟨_, rfl⟩
 have hb : Below W3.heap.size W3 W4 := by rw [hW4]; exact below_alloc W3 _
 have HG4 := Hd (HG3.out.bel hb)
 have HK4 := Hd (HK3.out.bel hb)
 have HR4 := Hd (HR3.out.bel hb)
 have HC4 := Hd (HC3.out.bel hb)
 have HS4 := Hd (HS3.out.bel hb)
 have HB4 := Hd (HB3.out.trans (hb.mono HB3.out.size))
 have HX4 := Hd (show BL W4 W3.heap.size 125 [.int .i64 2, .pointer (some ⟨w.heap.size + 1 + 1 + 1, 2, none⟩)] by rw [hW4]; exact BL.new' W3 _ _)
 have HW4 := Hd hW4
 have s0 := HS3.out.cell 2
 have s1 := HS3.out.cell 3
 have k0 := HK4.out.cell 0
 have k1 := HK4.out.cell 1
 have k2 := HK4.out.cell 2
 have k3 := HK4.out.cell 3
 have x0 := HX4.out.cell 0
 rw [hW4] at k0 k1 k2 k3 x0
 clear hW4 hb
 go_wp2_with fail
 rw [<- HW4.out]
 refine (HU1.out _).mono ?_
 rintro e W5 ⟨rfl, hb⟩
 have HG5 := Hd (HG4.out.bel hb)
 have HK5 := Hd (HK4.out.bel hb)
 have HR5 := Hd (HR4.out.bel hb)
 have HC5 := Hd (HC4.out.bel hb)
 have HS5 := Hd (HS4.out.bel hb)
 have HX5 := Hd (HX4.out.bel hb)
 have HB5 := Hd (HB4.out.trans (hb.mono HB4.out.size))
 clear hb s0 s1 k0 k1 k2 k3 x0 HG3 HK3 HR3 HC3 HS3 HG4 HK4 HR4 HC4 HS4 HX4
 by_cases hne : l = []
 · skip
   have HRes : Hid (fillE m false true false false l = 8) := by
     show _ = _
     unfold fillE; rw [if_neg (fun h => absurd h.1 (by decide)), if_pos ⟨rfl, hne⟩]
   have HR' := Hd (HR5.out.set6 (.int .i64 0) (.int .i64 0) (.int .i64 0) (.slice none 0 0) (.slice none 0 0) (.slice none 0 0))
   have HB' := Hd (below6 HB5.out (show w.heap.size <= w.heap.size + 1 + 1 by omega) (.int .i64 0) (.int .i64 0) (.int .i64 0) (.slice none 0 0) (.slice none 0 0) (.slice none 0 0))
   have f0 := HR5.out.frozen 0
   have f1 := HR5.out.frozen 1
   have f2 := HR5.out.frozen 2
   have f3 := HR5.out.frozen 3
   have f4 := HR5.out.frozen 4
   have f5 := HR5.out.frozen 5
   have c0 := HR5.out.cell 0
   have c1 := HR5.out.cell 1
   have c2 := HR5.out.cell 2
   have c3 := HR5.out.cell 3
   have c4 := HR5.out.cell 4
   have c5 := HR5.out.cell 5
   go_wp2_with fail
   refine bodyPost_ret (results_row_tmp rfl _ _ (w.heap.size + 1 + 1) 40 #[.int .i64 0, .int .i64 0, .int .i64 0, .slice none 0 0, .slice none 0 0, .slice none 0 0] (0, 0) _ rfl HR'.out Tryz.underlying40 rfl pclaim_size) rfl ?_
   exact ⟨0, 0, 0, .slice none 0 0, .slice none 0 0, .slice none 0 0, by rw [HRes.out]; rfl, fun h => absurd (HRes.out.symm.trans h) (by decide), ⟨⟨_, _, _, rfl⟩, ⟨_, _, _, rfl⟩, ⟨_, _, _, rfl⟩⟩, HB'.out⟩
 have hpos : 0 < l.length := List.length_pos_iff.2 hne
 have h1 : 1 <= l.length := hpos
 have hli : (0 : Int) < (l.length : Int) := by omega
 have hl0 : ¬ l.length = 0 := by omega
 obtain ⟨ad, z, rfl, hzb, hz, hcz⟩ := HCl.out 0 hpos
 rw [add_zero'] at hcz
 have HZ : Hid (l.getD 0 0 = z) := getD_of' hz.out
 have hcz2 := (HB5.out.cell (p := ad) hzb).trans hcz
 obtain ⟨A1, hA1⟩ : ∃ A1, A1 = if cl = 1 then some ad else some (ad.add 1) := ⟨_, rfl⟩
 have hslice : ∀ W : World, (Instr.slice 37 (.slice (some ad) l.length cl) (some (.int .i64 1)) none none).run Tryz.prog W = .ok (.slice A1 (l.length - 1) (cl - 1)) W := fun W => by
   rw [run_slice_l W 37 (some ad) l.length cl Tryz.underlying37 .i64 1 (by omega) (by omega), hA1]
   simp [go_sem]
 have HSf : Hid (∀ W, RI W (.slice (some ad) l.length cl) l -> RI W (.slice A1 (l.length - 1) (cl - 1)) (l.drop 1)) := fun W hW => by
   obtain ⟨ad', he, -, -, hsf⟩ := RI.suf' hW h1 1 h1
   obtain rfl : ad = ad' := by simpa using he
   rw [hA1]; exact hsf
 have x1 := HX5.out.cell 1
 have c0 := HC5.out.cell 2
 have f0 := HC5.out.frozen 2
 have hsb := HB5.out.size
 obtain ⟨W6, hW6⟩ : ∃ W6, W6 = (W5.setCell ⟨w.heap.size + 1 + 1 + 1, 2, none⟩ (.int .i64 z)).drew := ⟨_, rfl⟩
 have hszs := HS5.out.lt
 have HC6 := Hd (show BL W6 (w.heap.size + 1 + 1 + 1) 40 _ by rw [hW6]; exact HC5.out.set 2 (.int .i64 z))
 have HG6 := Hd (show BL W6 (w.heap.size) 25 _ by rw [hW6]; exact HG5.out.set_other (a := ⟨w.heap.size + 1 + 1 + 1, 2, none⟩) (by dsimp only; omega) (.int .i64 z))
 have HK6 := Hd (show BL W6 (w.heap.size + 1) 85 _ by rw [hW6]; exact HK5.out.set_other (a := ⟨w.heap.size + 1 + 1 + 1, 2, none⟩) (by dsimp only; omega) (.int .i64 z))
 have HR6 := Hd (show BL W6 (w.heap.size + 1 + 1) 40 _ by rw [hW6]; exact HR5.out.set_other (a := ⟨w.heap.size + 1 + 1 + 1, 2, none⟩) (by dsimp only; omega) (.int .i64 z))
 have HS6 := Hd (show BL W6 (w.heap.size + 1 + 1 + 1 + 1) 125 _ by rw [hW6]; exact HS5.out.set_other (a := ⟨w.heap.size + 1 + 1 + 1, 2, none⟩) (by dsimp only; omega) (.int .i64 z))
 have HB6 := Hd (show Below w.heap.size w W6 by rw [hW6]; exact (HB5.out.setCell (p := ⟨w.heap.size + 1 + 1 + 1, 2, none⟩) (by dsimp only; omega) (.int .i64 z)).drew)
 have HW6 := Hd hW6
 have HNe := Hd hne
 clear hW6 hcz hz hA1 hne
 go_wp2_with fail
 go_region
 rw [<- HW6.out]
 clear hslice x1 c0 f0 hsb hszs hcz2 HG5 HK5 HR5 HC5 HS5 HX5
 have HM1 : Hid ((l.drop 1).length = l.length - 1) := List.length_drop
 generalize hm1' : l.length - 1 = m1 at *
 generalize he1 : cl - 1 = e1 at *
 have hlc : m1 <= e1 := by omega
 have hll : m1 <= 100000 := by omega
 clear hm1' he1 hpos h1 hli hl0
 go_wp2_with fail
 rw [rounds_succ]
 have HRc := HSf
 have HLn := HM1
 have k0 := HK6.out.cell 0
 have k1 := HK6.out.cell 1
 have k2 := HK6.out.cell 2
 have k3 := HK6.out.cell 3
 go_wp2_with fail
 refine (HU4.out _).mono ?_
 rintro e W7 ⟨rfl, hb⟩
 have HG7 := Hd (HG6.out.bel hb)
 have HK7 := Hd (HK6.out.bel hb)
 have HR7 := Hd (HR6.out.bel hb)
 have HC7 := Hd (HC6.out.bel hb)
 have HB7 := Hd (HB6.out.trans (hb.mono HB6.out.size))
 clear hb k0 k1 k2 k3 HG6 HK6 HR6 HC6
 have HFe : Hid (fillE m false true false false l = if ((l.drop 1).length : Int) ≠ m then 8 else 0) := by
   show _ = _
   unfold fillE
   rw [if_neg (fun h => absurd h.1 (by decide)), if_neg (fun h => HNe.out h.2), if_neg (by decide), if_neg (by decide)]
   rfl
 obtain ⟨W8, hW8⟩ : ∃ W8, W8 = W7.alloc (.cells #[.int .i64 4, .pointer (some ⟨w.heap.size + 1 + 1 + 1, 3, none⟩), .int .i64 8, .pointer (some ⟨w.heap.size + 1 + 1 + 1, 4, none⟩)] 128) := ⟨_, rfl⟩
 have hb : Below W7.heap.size W7 W8 := by rw [hW8]; exact below_alloc W7 _
 have HG8 := Hd (HG7.out.bel hb)
 have HK8 := Hd (HK7.out.bel hb)
 have HR8 := Hd (HR7.out.bel hb)
 have HC8 := Hd (HC7.out.bel hb)
 have HB8 := Hd (HB7.out.trans (hb.mono HB7.out.size))
 have HS8 := Hd (show BL W8 W7.heap.size 128 [.int .i64 4, .pointer (some ⟨w.heap.size + 1 + 1 + 1, 3, none⟩), .int .i64 8, .pointer (some ⟨w.heap.size + 1 + 1 + 1, 4, none⟩)] by rw [hW8]; exact BL.new' W7 _ _)
 have HW8 := Hd hW8
 have HSbl := Hd HC7.out.lt
 clear hW8 hb HG7 HK7 HR7 HC7
 go_wp2_with fail
 rw [<- HW8.out]
 refine wp_loop_rounds 3 ?_
 rw [rounds_succ]
 obtain ⟨W9, hW9⟩ : ∃ W9, W9 = W8.alloc (.cells #[.int .i64 4, .pointer (some ⟨w.heap.size + 1 + 1 + 1, 3, none⟩)] 128) := ⟨_, rfl⟩
 have hb : Below W8.heap.size W8 W9 := by rw [hW9]; exact below_alloc W8 _
 have HG9 := Hd (HG8.out.bel hb)
 have HK9 := Hd (HK8.out.bel hb)
 have HR9 := Hd (HR8.out.bel hb)
 have HC9 := Hd (HC8.out.bel hb)
 have HS9 := Hd (HS8.out.bel hb)
 have HB9 := Hd (HB8.out.trans (hb.mono HB8.out.size))
 have HX9 := Hd (show BL W9 W8.heap.size 128 [.int .i64 4, .pointer (some ⟨w.heap.size + 1 + 1 + 1, 3, none⟩)] by rw [hW9]; exact BL.new' W8 _ _)
 have HW9 := Hd hW9
 have s0 := HS8.out.cell 0
 have s1 := HS8.out.cell 1
 have k0 := HK9.out.cell 0
 have k1 := HK9.out.cell 1
 have k2 := HK9.out.cell 2
 have k3 := HK9.out.cell 3
 have x0 := HX9.out.cell 0
 rw [hW9] at k0 k1 k2 k3 x0
 clear hW9 hb
 go_wp2_with fail
 rw [<- HW9.out]
 refine (HU2.out _).mono ?_
 rintro e W10 ⟨rfl, hb⟩
 have HG10 := Hd (HG9.out.bel hb)
 have HK10 := Hd (HK9.out.bel hb)
 have HR10 := Hd (HR9.out.bel hb)
 have HC10 := Hd (HC9.out.bel hb)
 have HS10 := Hd (HS9.out.bel hb)
 have HX10 := Hd (HX9.out.bel hb)
 have HB10 := Hd (HB9.out.trans (hb.mono HB9.out.size))
 clear hb s0 s1 k0 k1 k2 k3 x0 HG8 HK8 HR8 HC8 HS8 HG9 HK9 HR9 HC9 HS9 HX9
 have g0 := HG10.out.cell 0
 by_cases hlt : (m1 : Int) < (m : Int)
 · skip
   have HRes : Hid (fillE m false true false false l = 8) := by
     show _ = _
     rw [HFe.out, if_pos (by have := HLn.out; omega)]
   have HR' := Hd (HR10.out.set6 (.int .i64 0) (.int .i64 0) (.int .i64 0) (.slice none 0 0) (.slice none 0 0) (.slice none 0 0))
   have HB' := Hd (below6 HB10.out (show w.heap.size <= w.heap.size + 1 + 1 by omega) (.int .i64 0) (.int .i64 0) (.int .i64 0) (.slice none 0 0) (.slice none 0 0) (.slice none 0 0))
   have f0 := HR10.out.frozen 0
   have f1 := HR10.out.frozen 1
   have f2 := HR10.out.frozen 2
   have f3 := HR10.out.frozen 3
   have f4 := HR10.out.frozen 4
   have f5 := HR10.out.frozen 5
   have c0 := HR10.out.cell 0
   have c1 := HR10.out.cell 1
   have c2 := HR10.out.cell 2
   have c3 := HR10.out.cell 3
   have c4 := HR10.out.cell 4
   have c5 := HR10.out.cell 5
   go_wp2_with fail
   refine bodyPost_ret (results_row_tmp rfl _ _ (w.heap.size + 1 + 1) 40 #[.int .i64 0, .int .i64 0, .int .i64 0, .slice none 0 0, .slice none 0 0, .slice none 0 0] (0, 0) _ rfl HR'.out Tryz.underlying40 rfl pclaim_size) rfl ?_
   exact ⟨0, 0, 0, .slice none 0 0, .slice none 0 0, .slice none 0 0, by rw [HRes.out]; rfl, fun h => absurd (HRes.out.symm.trans h) (by decide), ⟨⟨_, _, _, rfl⟩, ⟨_, _, _, rfl⟩, ⟨_, _, _, rfl⟩⟩, HB'.out⟩
 obtain ⟨adA, hCA⟩ : ∃ ad, A1 = some ad := by
   obtain ⟨A', c', he, -, -, hcc⟩ := (HRc.out w HRl.out).open_
   obtain ⟨ad, _, h, -⟩ := hcc 0 (by have := HLn.out; omega)
   simp only [Value.slice.injEq] at he
   exact ⟨ad, he.1.trans h⟩
 subst hCA
 obtain ⟨AA, hAA⟩ : ∃ A, A = if e1 = m then some adA else some (adA.add m) := ⟨_, rfl⟩
 have hslA : ∀ W : World, (Instr.slice 37 (.slice (some adA) (m1) (e1)) none (some (.int .i64 (m : Int))) (some (.int .i64 (m : Int)))).run Tryz.prog W = .ok (.slice (some adA) m m) W := fun W => by
   rw [run_slice_hm W 37 (some adA) (m1) (e1) Tryz.underlying37 .i64 .i64 (m : Int) (m : Int) (by omega) (by omega) (by omega)]
   simp [go_sem]
 have hslB : ∀ W : World, (Instr.slice 37 (.slice (some adA) (m1) (e1)) (some (.int .i64 (m : Int))) none none).run Tryz.prog W = .ok (.slice AA (m1 - m) (e1 - m)) W := fun W => by
   rw [run_slice_l W 37 (some adA) (m1) (e1) Tryz.underlying37 .i64 (m : Int) (by omega) (by omega), hAA]
   simp [go_sem]
 have HTA : Hid (∀ W, RI W (.slice (some ad) l.length cl) l -> RI W (.slice (some adA) m m) (((l.drop 1)).take m)) := fun W hW => RI.cap (RI.pre (HRc.out W hW) (by have := HLn.out; omega)) (Nat.le_refl m)
 have HRA : Hid (∀ W, RI W (.slice (some ad) l.length cl) l -> RI W (.slice AA (m1 - m) (e1 - m)) (((l.drop 1)).drop m)) := fun W hW => by
   obtain ⟨ad', he, -, -, hsf⟩ := RI.suf' (HRc.out W hW) (by have := HLn.out; omega) m (by have := HLn.out; omega)
   obtain rfl : adA = ad' := by simpa using he
   rw [HLn.out] at hsf
   rw [hAA]; exact hsf
 have HLA : Hid ((((l.drop 1)).drop m).length = m1 - m) := by show _ = _; rw [List.length_drop, HLn.out]
 have x1 := HX10.out.cell 1
 have c0 := HC10.out.cell 3
 have f0 := HC10.out.frozen 3
 have hsb := HB10.out.size
 obtain ⟨W11, hW11⟩ : ∃ W11, W11 = (W10.setCell ⟨w.heap.size + 1 + 1 + 1, 3, none⟩ (.slice (some adA) m m)).drew := ⟨_, rfl⟩
 have hszs := HSbl.out
 have HC11 := Hd (show BL W11 (w.heap.size + 1 + 1 + 1) 40 _ by rw [hW11]; exact HC10.out.set 3 (.slice (some adA) m m))
 have HG11 := Hd (show BL W11 (w.heap.size) 25 _ by rw [hW11]; exact HG10.out.set_other (a := ⟨w.heap.size + 1 + 1 + 1, 3, none⟩) (by dsimp only; omega) (.slice (some adA) m m))
 have HK11 := Hd (show BL W11 (w.heap.size + 1) 85 _ by rw [hW11]; exact HK10.out.set_other (a := ⟨w.heap.size + 1 + 1 + 1, 3, none⟩) (by dsimp only; omega) (.slice (some adA) m m))
 have HR11 := Hd (show BL W11 (w.heap.size + 1 + 1) 40 _ by rw [hW11]; exact HR10.out.set_other (a := ⟨w.heap.size + 1 + 1 + 1, 3, none⟩) (by dsimp only; omega) (.slice (some adA) m m))
 have HS11 := Hd (show BL W11 W7.heap.size 128 _ by rw [hW11]; exact HS10.out.set_other (a := ⟨w.heap.size + 1 + 1 + 1, 3, none⟩) (by dsimp only; omega) (.slice (some adA) m m))
 have HB11 := Hd (show Below w.heap.size w W11 by rw [hW11]; exact (HB10.out.setCell (p := ⟨w.heap.size + 1 + 1 + 1, 3, none⟩) (by dsimp only; omega) (.slice (some adA) m m)).drew)
 have HW11 := Hd hW11
 clear hW11 hAA
 go_wp2_with fail
 go_region
 rw [<- HW11.out]
 clear hslA hslB x1 c0 f0 hsb hszs HG10 HK10 HR10 HC10 HS10 HX10 g0
 have hcn' : m1 = m1 - m + m := by omega
 have hlcA : m1 - m <= e1 - m := by omega
 have hllA : m1 - m <= 100000 := by omega
 generalize hg1 : m1 - m = n2 at *
 generalize hg2 : e1 - m = c2 at *
 have HCnA := Hd hcn'
 clear hcn' hlt hg1 hg2
 go_wp2_with fail
 rw [rounds_succ]
 obtain ⟨W12, hW12⟩ : ∃ W12, W12 = W11.alloc (.cells #[.int .i64 8, .pointer (some ⟨w.heap.size + 1 + 1 + 1, 4, none⟩)] 128) := ⟨_, rfl⟩
 have hb : Below W11.heap.size W11 W12 := by rw [hW12]; exact below_alloc W11 _
 have HG12 := Hd (HG11.out.bel hb)
 have HK12 := Hd (HK11.out.bel hb)
 have HR12 := Hd (HR11.out.bel hb)
 have HC12 := Hd (HC11.out.bel hb)
 have HS12 := Hd (HS11.out.bel hb)
 have HB12 := Hd (HB11.out.trans (hb.mono HB11.out.size))
 have HX12 := Hd (show BL W12 W11.heap.size 128 [.int .i64 8, .pointer (some ⟨w.heap.size + 1 + 1 + 1, 4, none⟩)] by rw [hW12]; exact BL.new' W11 _ _)
 have HW12 := Hd hW12
 have s0 := HS11.out.cell 2
 have s1 := HS11.out.cell 3
 have k0 := HK12.out.cell 0
 have k1 := HK12.out.cell 1
 have k2 := HK12.out.cell 2
 have k3 := HK12.out.cell 3
 have x0 := HX12.out.cell 0
 rw [hW12] at k0 k1 k2 k3 x0
 clear hW12 hb
 go_wp2_with fail
 rw [<- HW12.out]
 refine (HU3.out _).mono ?_
 rintro e W13 ⟨rfl, hb⟩
 have HG13 := Hd (HG12.out.bel hb)
 have HK13 := Hd (HK12.out.bel hb)
 have HR13 := Hd (HR12.out.bel hb)
 have HC13 := Hd (HC12.out.bel hb)
 have HS13 := Hd (HS12.out.bel hb)
 have HX13 := Hd (HX12.out.bel hb)
 have HB13 := Hd (HB12.out.trans (hb.mono HB12.out.size))
 clear hb s0 s1 k0 k1 k2 k3 x0 HG11 HK11 HR11 HC11 HS11 HG12 HK12 HR12 HC12 HS12 HX12
 go_wp2_with fail
 rw [rounds_succ]
 have HOk : Hid (decide (fillE m false true false false l = 0) = ((n2 : Int) == 0)) := by
   show _ = _
   have e1 := HLn.out
   have e2 := HCnA.out
   rw [HFe.out]
   by_cases h : n2 = 0
   · rw [if_neg (by omega), h]; rfl
   · rw [if_pos (by omega)]; simp [h]
 have HOz : Hid (fillE m false true false false l = 0 -> ((l.drop 1).length : Int) = m) := fun h => by
   rw [HFe.out] at h
   by_cases h2 : ((l.drop 1).length : Int) ≠ m
   · rw [if_pos h2] at h; cases h
   · exact Decidable.not_not.1 h2
 have d0 := HC13.out.cell 0
 have d1 := HC13.out.cell 1
 have d2 := HC13.out.cell 2
 have d3 := HC13.out.cell 3
 have d4 := HC13.out.cell 4
 have d5 := HC13.out.cell 5
 have r0 := HR13.out.cell 0
 have r1 := HR13.out.cell 1
 have r2 := HR13.out.cell 2
 have r3 := HR13.out.cell 3
 have r4 := HR13.out.cell 4
 have r5 := HR13.out.cell 5
 have g0 := HR13.out.frozen 0
 have g1 := HR13.out.frozen 1
 have g2 := HR13.out.frozen 2
 have g3 := HR13.out.frozen 3
 have g4 := HR13.out.frozen 4
 have g5 := HR13.out.frozen 5
 go_wp2_with fail
 refine bodyPost_ret (results_row_tmp rfl _ _ (w.heap.size + 1 + 1) 40 #[.int .i64 (k : Int), .int .i64 0, .int .i64 z, .slice (some adA) m m, .slice none 0 0, .slice none 0 0] (0, 0) _ rfl (HR13.out.set6 _ _ _ _ _ _) Tryz.underlying40 rfl pclaim_size) rfl ?_
 exact ⟨k, 0, z, .slice (some adA) m m, .slice none 0 0, .slice none 0 0, by rw [HOk.out]; rfl, fun hz => ⟨rfl, rfl, HZ.out.symm, fun W hW => ⟨(by have h := HTA.out W hW; rw [List.take_of_length_le (by have := HOz.out hz; omega)] at h; exact h), RI.emp rfl rfl rfl, RI.emp rfl rfl rfl⟩⟩, ⟨⟨_, _, _, rfl⟩, ⟨_, _, _, rfl⟩, ⟨_, _, _, rfl⟩⟩, below6 HB13.out (show w.heap.size <= w.heap.size + 1 + 1 by omega) _ _ _ _ _ _⟩
end Go.Proofs.YteamhbohgoclgaaGreatDoor
