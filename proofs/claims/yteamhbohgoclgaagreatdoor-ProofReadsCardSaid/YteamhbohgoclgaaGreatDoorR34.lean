/- Contract of package proof's filled: 10110 (printed by gen/fill57.py) -/
import Derived.Test.YteamhbohgoclgaaGreatDoorR32
import Derived.Test.YteamhbohgoclgaaGreatDoorR33
set_option maxRecDepth 100000
set_option maxHeartbeats 16000000
namespace Go.Proofs.YteamhbohgoclgaaGreatDoor
open Go.RowKit Go.Shelf
theorem pFill_10110 (g lv : Value) (m k : Nat) (S : ByteArray) (es : List Tri) (l : List Int) (w : World) (hk : k < 9) (hg : GV w g m es) (hl : RI w lv l) (hm1 : 1 <= m) (hm : m <= 12) (hll : l.length <= 100000)
   (uq : kq k = true) (un : kn k = false) (ua : ka k = true) (ub : kb k = true) (uf : kf k = false) :
   Calls Tryz.prog 49 #[g, .int .i64 (k : Int), .agg #[.string S, .int .i64 (pm k), .int .i64 (kl k), .func (.func (pfn k)) #[] #[]], lv] w fun e w' => GivQ m k true false true false lv l w e w' := by
 obtain ⟨Al, cl, rfl, hlc, -, hcell⟩ := id hl |>.open_
 obtain ⟨Ag, cg, rfl, -⟩ := hg.open_
 have HU : Hid (∀ (i : Nat) (W : World), i < 5 -> Calls Tryz.prog 58 #[.agg #[.string S, .int .i64 (pm k), .int .i64 (kl k), .func (.func (pfn k)) #[] #[]], .int .i64 (pb i)] W fun e w' => e = .returned (.bool (pu k i)) /\ Below W.heap.size W w') := fun i W hi => puse_any k i hk hi S _ _ W
 have HU0 : Hid (∀ (W : World), Calls Tryz.prog 58 #[.agg #[.string S, .int .i64 (pm k), .int .i64 (kl k), .func (.func (pfn k)) #[] #[]], .int .i64 1] W fun e w' => e = .returned (.bool true) /\ Below W.heap.size W w') := fun W => by rw [<- uq]; exact HU.out 0 W (by decide)
 have HU1 : Hid (∀ (W : World), Calls Tryz.prog 58 #[.agg #[.string S, .int .i64 (pm k), .int .i64 (kl k), .func (.func (pfn k)) #[] #[]], .int .i64 2] W fun e w' => e = .returned (.bool false) /\ Below W.heap.size W w') := fun W => by rw [<- un]; exact HU.out 1 W (by decide)
 have HU2 : Hid (∀ (W : World), Calls Tryz.prog 58 #[.agg #[.string S, .int .i64 (pm k), .int .i64 (kl k), .func (.func (pfn k)) #[] #[]], .int .i64 4] W fun e w' => e = .returned (.bool true) /\ Below W.heap.size W w') := fun W => by rw [<- ua]; exact HU.out 2 W (by decide)
 have HU3 : Hid (∀ (W : World), Calls Tryz.prog 58 #[.agg #[.string S, .int .i64 (pm k), .int .i64 (kl k), .func (.func (pfn k)) #[] #[]], .int .i64 8] W fun e w' => e = .returned (.bool true) /\ Below W.heap.size W w') := fun W => by rw [<- ub]; exact HU.out 3 W (by decide)
 have HU4 : Hid (∀ (W : World), Calls Tryz.prog 58 #[.agg #[.string S, .int .i64 (pm k), .int .i64 (kl k), .func (.func (pfn k)) #[] #[]], .int .i64 16] W fun e w' => e = .returned (.bool false) /\ Below W.heap.size W w') := fun W => by rw [<- uf]; exact HU.out 4 W (by decide)
 generalize pm k = pmk at *
 generalize kl k = klk at *
 generalize pfn k = pfk at *
 obtain ⟨W1, hW1⟩ : ∃ W1, W1 = ((((w.alloc (.cells #[.int .i64 (m : Int), .slice Ag es.length cg] 25)).alloc (.cells #[.string S, .int .i64 pmk, .int .i64 klk, .func (.func pfk) #[] #[]] 85)).alloc (.cells #[.int .i64 0, .int .i64 0, .int .i64 0, .slice none 0 0, .slice none 0 0, .slice none 0 0] 40)).alloc (.cells #[.int .i64 (k : Int), .int .i64 0, .int .i64 0, .slice none 0 0, .slice none 0 0, .slice none 0 0] 40)).alloc (.cells #[.int .i64 1, .pointer (some ⟨w.heap.size + 1 + 1 + 1, 1, none⟩), .int .i64 2, .pointer (some ⟨w.heap.size + 1 + 1 + 1, 2, none⟩)] 125) := ⟨_, rfl⟩
 have hb1 : Below w.heap.size w W1 := by rw [hW1]; exact ((((below_alloc w _).alloc (by simp) _).alloc (by simp; omega) _).alloc (by simp; omega) _).alloc (by simp; omega) _
 have hz1 : W1.heap.size = w.heap.size + 1 + 1 + 1 + 1 + 1 := by rw [hW1]; simp
 have e1 := BL.new' w #[.int .i64 (m : Int), .slice Ag es.length cg] 25
 have e2 := BL.new' (w.alloc (.cells #[.int .i64 (m : Int), .slice Ag es.length cg] 25)) #[.string S, .int .i64 pmk, .int .i64 klk, .func (.func pfk) #[] #[]] 85
 have e3 := BL.new' ((w.alloc (.cells #[.int .i64 (m : Int), .slice Ag es.length cg] 25)).alloc (.cells #[.string S, .int .i64 pmk, .int .i64 klk, .func (.func pfk) #[] #[]] 85)) #[.int .i64 0, .int .i64 0, .int .i64 0, .slice none 0 0, .slice none 0 0, .slice none 0 0] 40
 have e4 := BL.new' (((w.alloc (.cells #[.int .i64 (m : Int), .slice Ag es.length cg] 25)).alloc (.cells #[.string S, .int .i64 pmk, .int .i64 klk, .func (.func pfk) #[] #[]] 85)).alloc (.cells #[.int .i64 0, .int .i64 0, .int .i64 0, .slice none 0 0, .slice none 0 0, .slice none 0 0] 40)) #[.int .i64 (k : Int), .int .i64 0, .int .i64 0, .slice none 0 0, .slice none 0 0, .slice none 0 0] 40
 have e5 := BL.new' ((((w.alloc (.cells #[.int .i64 (m : Int), .slice Ag es.length cg] 25)).alloc (.cells #[.string S, .int .i64 pmk, .int .i64 klk, .func (.func pfk) #[] #[]] 85)).alloc (.cells #[.int .i64 0, .int .i64 0, .int .i64 0, .slice none 0 0, .slice none 0 0, .slice none 0 0] 40)).alloc (.cells #[.int .i64 (k : Int), .int .i64 0, .int .i64 0, .slice none 0 0, .slice none 0 0, .slice none 0 0] 40)) #[.int .i64 1, .pointer (some ⟨w.heap.size + 1 + 1 + 1, 1, none⟩), .int .i64 2, .pointer (some ⟨w.heap.size + 1 + 1 + 1, 2, none⟩)] 125
 rw [World.size_alloc] at e2
 rw [World.size_alloc, World.size_alloc] at e3
 rw [World.size_alloc, World.size_alloc, World.size_alloc] at e4
 rw [World.size_alloc, World.size_alloc, World.size_alloc, World.size_alloc] at e5
 have HG1 := Hd (show BL W1 (w.heap.size) 25 _ by rw [hW1]; exact (((e1.alloc _).alloc _).alloc _).alloc _)
 have HK1 := Hd (show BL W1 (w.heap.size + 1) 85 _ by rw [hW1]; exact ((e2.alloc _).alloc _).alloc _)
 have HR1 := Hd (show BL W1 (w.heap.size + 1 + 1) 40 _ by rw [hW1]; exact (e3.alloc _).alloc _)
 have HC1 := Hd (show BL W1 (w.heap.size + 1 + 1 + 1) 40 _ by rw [hW1]; exact e4.alloc _)
 have HS1 := Hd (show BL W1 (w.heap.size + 1 + 1 + 1 + 1) 125 _ by rw [hW1]; exact e5)
 have HB1 := Hd hb1
 have HW1 := Hd hW1
 have HRl := Hd hl
 have HZ1 := Hd hz1
 have HCl := Hd hcell
 clear hW1 hb1 hz1 e1 e2 e3 e4 e5 hg hl HU uq un ua ub uf hcell
 go_enter Tryz.func49, Tryz.ntmps49
 go_wp2_with fail
 rw [<- HW1.out]
 refine wp_loop_rounds 3 ?_
 rw [rounds_succ]

 obtain ⟨W2, hW2⟩ : ∃ W2, W2 = W1.alloc (.cells #[.int .i64 1, .pointer (some ⟨w.heap.size + 1 + 1 + 1, 1, none⟩)] 125) := ⟨_, rfl⟩
 have hb : Below W1.heap.size W1 W2 := by rw [hW2]; exact below_alloc W1 _
 have HG2 := Hd (HG1.out.bel hb)
 have HK2 := Hd (HK1.out.bel hb)
 have HR2 := Hd (HR1.out.bel hb)
 have HC2 := Hd (HC1.out.bel hb)
 have HS2 := Hd (HS1.out.bel hb)
 have HB2 := Hd (HB1.out.trans (hb.mono HB1.out.size))
 have HX2 := Hd (show BL W2 W1.heap.size 125 [.int .i64 1, .pointer (some ⟨w.heap.size + 1 + 1 + 1, 1, none⟩)] by rw [hW2]; exact BL.new' W1 _ _)
 have HW2 := Hd hW2
 have s0 := HS1.out.cell 0
 have s1 := HS1.out.cell 1
 have k0 := HK2.out.cell 0
 have k1 := HK2.out.cell 1
 have k2 := HK2.out.cell 2
 have k3 := HK2.out.cell 3
 have x0 := HX2.out.cell 0
 rw [hW2] at k0 k1 k2 k3 x0
 clear hW2 hb
 go_wp2_with fail
 rw [<- HW2.out]
 refine (HU0.out _).mono ?_
 rintro e W3 ⟨rfl, hb⟩
 have HG3 := Hd (HG2.out.bel hb)
 have HK3 := Hd (HK2.out.bel hb)
 have HR3 := Hd (HR2.out.bel hb)
 have HC3 := Hd (HC2.out.bel hb)
 have HS3 := Hd (HS2.out.bel hb)
 have HX3 := Hd (HX2.out.bel hb)
 have HB3 := Hd (HB2.out.trans (hb.mono HB2.out.size))
 clear hb s0 s1 k0 k1 k2 k3 x0 HG1 HK1 HR1 HC1 HS1 HG2 HK2 HR2 HC2 HS2 HX2
 by_cases hne : l = []
 · skip
   have HRes : Hid (fillE m true false true false l = 8) := by
     show _ = _
     unfold fillE; rw [if_pos ⟨rfl, hne⟩]
   have HR' := Hd (HR3.out.set6 (.int .i64 0) (.int .i64 0) (.int .i64 0) (.slice none 0 0) (.slice none 0 0) (.slice none 0 0))
   have HB' := Hd (below6 HB3.out (show w.heap.size <= w.heap.size + 1 + 1 by omega) (.int .i64 0) (.int .i64 0) (.int .i64 0) (.slice none 0 0) (.slice none 0 0) (.slice none 0 0))
   have f0 := HR3.out.frozen 0
   have f1 := HR3.out.frozen 1
   have f2 := HR3.out.frozen 2
   have f3 := HR3.out.frozen 3
   have f4 := HR3.out.frozen 4
   have f5 := HR3.out.frozen 5
   have c0 := HR3.out.cell 0
   have c1 := HR3.out.cell 1
   have c2 := HR3.out.cell 2
   have c3 := HR3.out.cell 3
   have c4 := HR3.out.cell 4
   have c5 := HR3.out.cell 5
   go_wp2_with fail
   refine bodyPost_ret (results_row_tmp rfl _ _ (w.heap.size + 1 + 1) 40 #[.int .i64 0, .int .i64 0, .int .i64 0, .slice none 0 0, .slice none 0 0, .slice none 0 0] (0, 0) _ rfl HR'.out Tryz.underlying40 rfl pclaim_size) rfl ?_
   exact ⟨0, 0, 0, .slice none 0 0, .slice none 0 0, .slice none 0 0, by rw [HRes.out]; rfl, fun h => absurd (HRes.out.symm.trans h) (by decide), ⟨⟨_, _, _, rfl⟩, ⟨_, _, _, rfl⟩, ⟨_, _, _, rfl⟩⟩, HB'.out⟩
 have hpos : 0 < l.length := List.length_pos_iff.2 hne
 have h1 : 1 <= l.length := hpos
 have hli : (0 : Int) < (l.length : Int) := by omega
 have hl0 : ¬ l.length = 0 := by omega
 obtain ⟨ad, z, rfl, hzb, hz, hcz⟩ := HCl.out 0 hpos
 rw [add_zero'] at hcz
 have HZ : Hid (l.getD 0 0 = z) := getD_of' hz.out
 have hcz2 := (HB3.out.cell (p := ad) hzb).trans hcz
 obtain ⟨A1, hA1⟩ : ∃ A1, A1 = if cl = 1 then some ad else some (ad.add 1) := ⟨_, rfl⟩
 have hslice : ∀ W : World, (Instr.slice 37 (.slice (some ad) l.length cl) (some (.int .i64 1)) none none).run Tryz.prog W = .ok (.slice A1 (l.length - 1) (cl - 1)) W := fun W => by
   rw [run_slice_l W 37 (some ad) l.length cl Tryz.underlying37 .i64 1 (by omega) (by omega), hA1]
   simp [go_sem]
 have HSf : Hid (∀ W, RI W (.slice (some ad) l.length cl) l -> RI W (.slice A1 (l.length - 1) (cl - 1)) (l.drop 1)) := fun W hW => by
   obtain ⟨ad', he, -, -, hsf⟩ := RI.suf' hW h1 1 h1
   obtain rfl : ad = ad' := by simpa using he
   rw [hA1]; exact hsf
 have x1 := HX3.out.cell 1
 have c0 := HC3.out.cell 1
 have f0 := HC3.out.frozen 1
 have hsb := HB3.out.size
 obtain ⟨W4, hW4⟩ : ∃ W4, W4 = (W3.setCell ⟨w.heap.size + 1 + 1 + 1, 1, none⟩ (.int .i64 z)).drew := ⟨_, rfl⟩
 have hszs := HS3.out.lt
 have HC4 := Hd (show BL W4 (w.heap.size + 1 + 1 + 1) 40 _ by rw [hW4]; exact HC3.out.set 1 (.int .i64 z))
 have HG4 := Hd (show BL W4 (w.heap.size) 25 _ by rw [hW4]; exact HG3.out.set_other (a := ⟨w.heap.size + 1 + 1 + 1, 1, none⟩) (by dsimp only; omega) (.int .i64 z))
 have HK4 := Hd (show BL W4 (w.heap.size + 1) 85 _ by rw [hW4]; exact HK3.out.set_other (a := ⟨w.heap.size + 1 + 1 + 1, 1, none⟩) (by dsimp only; omega) (.int .i64 z))
 have HR4 := Hd (show BL W4 (w.heap.size + 1 + 1) 40 _ by rw [hW4]; exact HR3.out.set_other (a := ⟨w.heap.size + 1 + 1 + 1, 1, none⟩) (by dsimp only; omega) (.int .i64 z))
 have HS4 := Hd (show BL W4 (w.heap.size + 1 + 1 + 1 + 1) 125 _ by rw [hW4]; exact HS3.out.set_other (a := ⟨w.heap.size + 1 + 1 + 1, 1, none⟩) (by dsimp only; omega) (.int .i64 z))
 have HB4 := Hd (show Below w.heap.size w W4 by rw [hW4]; exact (HB3.out.setCell (p := ⟨w.heap.size + 1 + 1 + 1, 1, none⟩) (by dsimp only; omega) (.int .i64 z)).drew)
 have HW4 := Hd hW4
 have HNe := Hd hne
 clear hW4 hcz hz hA1 hne
 go_wp2_with fail
 go_region
 rw [<- HW4.out]
 clear hslice x1 c0 f0 hsb hszs hcz2 HG3 HK3 HR3 HC3 HS3 HX3
 have HM1 : Hid ((l.drop 1).length = l.length - 1) := List.length_drop
 generalize hm1' : l.length - 1 = m1 at *
 generalize he1 : cl - 1 = e1 at *
 have hlc : m1 <= e1 := by omega
 have hll : m1 <= 100000 := by omega
 clear hm1' he1 hpos h1 hli hl0
 go_wp2_with fail
 rw [rounds_succ]
 obtain ⟨W5, hW5⟩ : ∃ W5, W5 = W4.alloc (.cells #[.int .i64 2, .pointer (some ⟨w.heap.size + 1 + 1 + 1, 2, none⟩)] 125) := ⟨_, rfl⟩
 have hb : Below W4.heap.size W4 W5 := by rw [hW5]; exact below_alloc W4 _
 have HG5 := Hd (HG4.out.bel hb)
 have HK5 := Hd (HK4.out.bel hb)
 have HR5 := Hd (HR4.out.bel hb)
 have HC5 := Hd (HC4.out.bel hb)
 have HS5 := Hd (HS4.out.bel hb)
 have HB5 := Hd (HB4.out.trans (hb.mono HB4.out.size))
 have HX5 := Hd (show BL W5 W4.heap.size 125 [.int .i64 2, .pointer (some ⟨w.heap.size + 1 + 1 + 1, 2, none⟩)] by rw [hW5]; exact BL.new' W4 _ _)
 have HW5 := Hd hW5
 have s0 := HS4.out.cell 2
 have s1 := HS4.out.cell 3
 have k0 := HK5.out.cell 0
 have k1 := HK5.out.cell 1
 have k2 := HK5.out.cell 2
 have k3 := HK5.out.cell 3
 have x0 := HX5.out.cell 0
 rw [hW5] at k0 k1 k2 k3 x0
 clear hW5 hb
 go_wp2_with fail
 rw [<- HW5.out]
 refine (HU1.out _).mono ?_
 rintro e W6 ⟨rfl, hb⟩
 have HG6 := Hd (HG5.out.bel hb)
 have HK6 := Hd (HK5.out.bel hb)
 have HR6 := Hd (HR5.out.bel hb)
 have HC6 := Hd (HC5.out.bel hb)
 have HS6 := Hd (HS5.out.bel hb)
 have HX6 := Hd (HX5.out.bel hb)
 have HB6 := Hd (HB5.out.trans (hb.mono HB5.out.size))
 clear hb s0 s1 k0 k1 k2 k3 x0 HG4 HK4 HR4 HC4 HS4 HG5 HK5 HR5 HC5 HS5 HX5
 go_wp2_with fail
 rw [rounds_succ]
 have HRc := HSf
 have HLn := HM1
 have k0 := HK6.out.cell 0
 have k1 := HK6.out.cell 1
 have k2 := HK6.out.cell 2
 have k3 := HK6.out.cell 3
 go_wp2_with fail
 refine (HU4.out _).mono ?_
 rintro e W7 ⟨rfl, hb⟩
 have HG7 := Hd (HG6.out.bel hb)
 have HK7 := Hd (HK6.out.bel hb)
 have HR7 := Hd (HR6.out.bel hb)
 have HC7 := Hd (HC6.out.bel hb)
 have HB7 := Hd (HB6.out.trans (hb.mono HB6.out.size))
 clear hb k0 k1 k2 k3 HG6 HK6 HR6 HC6
 have HFe : Hid (fillE m true false true false l = if ((l.drop 1).length : Int) ≠ 2 * m then 8 else 0) := by
   show _ = _
   unfold fillE
   rw [if_neg (fun h => HNe.out h.2), if_neg (fun h => absurd h.1 (by decide)), if_neg (by decide), if_pos rfl]
   rfl
 obtain ⟨W8, hW8⟩ : ∃ W8, W8 = W7.alloc (.cells #[.int .i64 4, .pointer (some ⟨w.heap.size + 1 + 1 + 1, 3, none⟩), .int .i64 8, .pointer (some ⟨w.heap.size + 1 + 1 + 1, 4, none⟩)] 128) := ⟨_, rfl⟩
 have hb : Below W7.heap.size W7 W8 := by rw [hW8]; exact below_alloc W7 _
 have HG8 := Hd (HG7.out.bel hb)
 have HK8 := Hd (HK7.out.bel hb)
 have HR8 := Hd (HR7.out.bel hb)
 have HC8 := Hd (HC7.out.bel hb)
 have HB8 := Hd (HB7.out.trans (hb.mono HB7.out.size))
 have HS8 := Hd (show BL W8 W7.heap.size 128 [.int .i64 4, .pointer (some ⟨w.heap.size + 1 + 1 + 1, 3, none⟩), .int .i64 8, .pointer (some ⟨w.heap.size + 1 + 1 + 1, 4, none⟩)] by rw [hW8]; exact BL.new' W7 _ _)
 have HW8 := Hd hW8
 have HSbl := Hd HC7.out.lt
 clear hW8 hb HG7 HK7 HR7 HC7
 go_wp2_with fail
 rw [<- HW8.out]
 refine wp_loop_rounds 3 ?_
 rw [rounds_succ]
 obtain ⟨W9, hW9⟩ : ∃ W9, W9 = W8.alloc (.cells #[.int .i64 4, .pointer (some ⟨w.heap.size + 1 + 1 + 1, 3, none⟩)] 128) := ⟨_, rfl⟩
 have hb : Below W8.heap.size W8 W9 := by rw [hW9]; exact below_alloc W8 _
 have HG9 := Hd (HG8.out.bel hb)
 have HK9 := Hd (HK8.out.bel hb)
 have HR9 := Hd (HR8.out.bel hb)
 have HC9 := Hd (HC8.out.bel hb)
 have HS9 := Hd (HS8.out.bel hb)
 have HB9 := Hd (HB8.out.trans (hb.mono HB8.out.size))
 have HX9 := Hd (show BL W9 W8.heap.size 128 [.int .i64 4, .pointer (some ⟨w.heap.size + 1 + 1 + 1, 3, none⟩)] by rw [hW9]; exact BL.new' W8 _ _)
 have HW9 := Hd hW9
 have s0 := HS8.out.cell 0
 have s1 := HS8.out.cell 1
 have k0 := HK9.out.cell 0
 have k1 := HK9.out.cell 1
 have k2 := HK9.out.cell 2
 have k3 := HK9.out.cell 3
 have x0 := HX9.out.cell 0
 rw [hW9] at k0 k1 k2 k3 x0
 clear hW9 hb
 go_wp2_with fail
 rw [<- HW9.out]
 refine (HU2.out _).mono ?_
 rintro e W10 ⟨rfl, hb⟩
 have HG10 := Hd (HG9.out.bel hb)
 have HK10 := Hd (HK9.out.bel hb)
 have HR10 := Hd (HR9.out.bel hb)
 have HC10 := Hd (HC9.out.bel hb)
 have HS10 := Hd (HS9.out.bel hb)
 have HX10 := Hd (HX9.out.bel hb)
 have HB10 := Hd (HB9.out.trans (hb.mono HB9.out.size))
 clear hb s0 s1 k0 k1 k2 k3 x0 HG8 HK8 HR8 HC8 HS8 HG9 HK9 HR9 HC9 HS9 HX9
 have g0 := HG10.out.cell 0
 by_cases hlt : (m1 : Int) < (m : Int)
 · skip
   have HRes : Hid (fillE m true false true false l = 8) := by
     show _ = _
     rw [HFe.out, if_pos (by have := HLn.out; omega)]
   have HR' := Hd (HR10.out.set6 (.int .i64 0) (.int .i64 0) (.int .i64 0) (.slice none 0 0) (.slice none 0 0) (.slice none 0 0))
   have HB' := Hd (below6 HB10.out (show w.heap.size <= w.heap.size + 1 + 1 by omega) (.int .i64 0) (.int .i64 0) (.int .i64 0) (.slice none 0 0) (.slice none 0 0) (.slice none 0 0))
   have f0 := HR10.out.frozen 0
   have f1 := HR10.out.frozen 1
   have f2 := HR10.out.frozen 2
   have f3 := HR10.out.frozen 3
   have f4 := HR10.out.frozen 4
   have f5 := HR10.out.frozen 5
   have c0 := HR10.out.cell 0
   have c1 := HR10.out.cell 1
   have c2 := HR10.out.cell 2
   have c3 := HR10.out.cell 3
   have c4 := HR10.out.cell 4
   have c5 := HR10.out.cell 5
   go_wp2_with fail
   refine bodyPost_ret (results_row_tmp rfl _ _ (w.heap.size + 1 + 1) 40 #[.int .i64 0, .int .i64 0, .int .i64 0, .slice none 0 0, .slice none 0 0, .slice none 0 0] (0, 0) _ rfl HR'.out Tryz.underlying40 rfl pclaim_size) rfl ?_
   exact ⟨0, 0, 0, .slice none 0 0, .slice none 0 0, .slice none 0 0, by rw [HRes.out]; rfl, fun h => absurd (HRes.out.symm.trans h) (by decide), ⟨⟨_, _, _, rfl⟩, ⟨_, _, _, rfl⟩, ⟨_, _, _, rfl⟩⟩, HB'.out⟩
 obtain ⟨adA, hCA⟩ : ∃ ad, A1 = some ad := by
   obtain ⟨A', c', he, -, -, hcc⟩ := (HRc.out w HRl.out).open_
   obtain ⟨ad, _, h, -⟩ := hcc 0 (by have := HLn.out; omega)
   simp only [Value.slice.injEq] at he
   exact ⟨ad, he.1.trans h⟩
 subst hCA
 obtain ⟨AA, hAA⟩ : ∃ A, A = if e1 = m then some adA else some (adA.add m) := ⟨_, rfl⟩
 have hslA : ∀ W : World, (Instr.slice 37 (.slice (some adA) (m1) (e1)) none (some (.int .i64 (m : Int))) (some (.int .i64 (m : Int)))).run Tryz.prog W = .ok (.slice (some adA) m m) W := fun W => by
   rw [run_slice_hm W 37 (some adA) (m1) (e1) Tryz.underlying37 .i64 .i64 (m : Int) (m : Int) (by omega) (by omega) (by omega)]
   simp [go_sem]
 have hslB : ∀ W : World, (Instr.slice 37 (.slice (some adA) (m1) (e1)) (some (.int .i64 (m : Int))) none none).run Tryz.prog W = .ok (.slice AA (m1 - m) (e1 - m)) W := fun W => by
   rw [run_slice_l W 37 (some adA) (m1) (e1) Tryz.underlying37 .i64 (m : Int) (by omega) (by omega), hAA]
   simp [go_sem]
 have HTA : Hid (∀ W, RI W (.slice (some ad) l.length cl) l -> RI W (.slice (some adA) m m) (((l.drop 1)).take m)) := fun W hW => RI.cap (RI.pre (HRc.out W hW) (by have := HLn.out; omega)) (Nat.le_refl m)
 have HRA : Hid (∀ W, RI W (.slice (some ad) l.length cl) l -> RI W (.slice AA (m1 - m) (e1 - m)) (((l.drop 1)).drop m)) := fun W hW => by
   obtain ⟨ad', he, -, -, hsf⟩ := RI.suf' (HRc.out W hW) (by have := HLn.out; omega) m (by have := HLn.out; omega)
   obtain rfl : adA = ad' := by simpa using he
   rw [HLn.out] at hsf
   rw [hAA]; exact hsf
 have HLA : Hid ((((l.drop 1)).drop m).length = m1 - m) := by show _ = _; rw [List.length_drop, HLn.out]
 have x1 := HX10.out.cell 1
 have c0 := HC10.out.cell 3
 have f0 := HC10.out.frozen 3
 have hsb := HB10.out.size
 obtain ⟨W11, hW11⟩ : ∃ W11, W11 = (W10.setCell ⟨w.heap.size + 1 + 1 + 1, 3, none⟩ (.slice (some adA) m m)).drew := ⟨_, rfl⟩
 have hszs := HSbl.out
 have HC11 := Hd (show BL W11 (w.heap.size + 1 + 1 + 1) 40 _ by rw [hW11]; exact HC10.out.set 3 (.slice (some adA) m m))
 have HG11 := Hd (show BL W11 (w.heap.size) 25 _ by rw [hW11]; exact HG10.out.set_other (a := ⟨w.heap.size + 1 + 1 + 1, 3, none⟩) (by dsimp only; omega) (.slice (some adA) m m))
 have HK11 := Hd (show BL W11 (w.heap.size + 1) 85 _ by rw [hW11]; exact HK10.out.set_other (a := ⟨w.heap.size + 1 + 1 + 1, 3, none⟩) (by dsimp only; omega) (.slice (some adA) m m))
 have HR11 := Hd (show BL W11 (w.heap.size + 1 + 1) 40 _ by rw [hW11]; exact HR10.out.set_other (a := ⟨w.heap.size + 1 + 1 + 1, 3, none⟩) (by dsimp only; omega) (.slice (some adA) m m))
 have HS11 := Hd (show BL W11 W7.heap.size 128 _ by rw [hW11]; exact HS10.out.set_other (a := ⟨w.heap.size + 1 + 1 + 1, 3, none⟩) (by dsimp only; omega) (.slice (some adA) m m))
 have HB11 := Hd (show Below w.heap.size w W11 by rw [hW11]; exact (HB10.out.setCell (p := ⟨w.heap.size + 1 + 1 + 1, 3, none⟩) (by dsimp only; omega) (.slice (some adA) m m)).drew)
 have HW11 := Hd hW11
 clear hW11 hAA
 go_wp2_with fail
 go_region
 rw [<- HW11.out]
 clear hslA hslB x1 c0 f0 hsb hszs HG10 HK10 HR10 HC10 HS10 HX10 g0
 have hcn' : m1 = m1 - m + m := by omega
 have hlcA : m1 - m <= e1 - m := by omega
 have hllA : m1 - m <= 100000 := by omega
 generalize hg1 : m1 - m = n2 at *
 generalize hg2 : e1 - m = c2 at *
 have HCnA := Hd hcn'
 clear hcn' hlt hg1 hg2
 go_wp2_with fail
 rw [rounds_succ]
 obtain ⟨W12, hW12⟩ : ∃ W12, W12 = W11.alloc (.cells #[.int .i64 8, .pointer (some ⟨w.heap.size + 1 + 1 + 1, 4, none⟩)] 128) := ⟨_, rfl⟩
 have hb : Below W11.heap.size W11 W12 := by rw [hW12]; exact below_alloc W11 _
 have HG12 := Hd (HG11.out.bel hb)
 have HK12 := Hd (HK11.out.bel hb)
 have HR12 := Hd (HR11.out.bel hb)
 have HC12 := Hd (HC11.out.bel hb)
 have HS12 := Hd (HS11.out.bel hb)
 have HB12 := Hd (HB11.out.trans (hb.mono HB11.out.size))
 have HX12 := Hd (show BL W12 W11.heap.size 128 [.int .i64 8, .pointer (some ⟨w.heap.size + 1 + 1 + 1, 4, none⟩)] by rw [hW12]; exact BL.new' W11 _ _)
 have HW12 := Hd hW12
 have s0 := HS11.out.cell 2
 have s1 := HS11.out.cell 3
 have k0 := HK12.out.cell 0
 have k1 := HK12.out.cell 1
 have k2 := HK12.out.cell 2
 have k3 := HK12.out.cell 3
 have x0 := HX12.out.cell 0
 rw [hW12] at k0 k1 k2 k3 x0
 clear hW12 hb
 go_wp2_with fail
 rw [<- HW12.out]
 refine (HU3.out _).mono ?_
 rintro e W13 ⟨rfl, hb⟩
 have HG13 := Hd (HG12.out.bel hb)
 have HK13 := Hd (HK12.out.bel hb)
 have HR13 := Hd (HR12.out.bel hb)
 have HC13 := Hd (HC12.out.bel hb)
 have HS13 := Hd (HS12.out.bel hb)
 have HX13 := Hd (HX12.out.bel hb)
 have HB13 := Hd (HB12.out.trans (hb.mono HB12.out.size))
 clear hb s0 s1 k0 k1 k2 k3 x0 HG11 HK11 HR11 HC11 HS11 HG12 HK12 HR12 HC12 HS12 HX12
 have g0 := HG13.out.cell 0
 by_cases hlt : (n2 : Int) < (m : Int)
 · skip
   have HRes : Hid (fillE m true false true false l = 8) := by
     show _ = _
     rw [HFe.out, if_pos (by have := HLn.out; have := HCnA.out; omega)]
   have HR' := Hd (HR13.out.set6 (.int .i64 0) (.int .i64 0) (.int .i64 0) (.slice none 0 0) (.slice none 0 0) (.slice none 0 0))
   have HB' := Hd (below6 HB13.out (show w.heap.size <= w.heap.size + 1 + 1 by omega) (.int .i64 0) (.int .i64 0) (.int .i64 0) (.slice none 0 0) (.slice none 0 0) (.slice none 0 0))
   have f0 := HR13.out.frozen 0
   have f1 := HR13.out.frozen 1
   have f2 := HR13.out.frozen 2
   have f3 := HR13.out.frozen 3
   have f4 := HR13.out.frozen 4
   have f5 := HR13.out.frozen 5
   have c0 := HR13.out.cell 0
   have c1 := HR13.out.cell 1
   have c2 := HR13.out.cell 2
   have c3 := HR13.out.cell 3
   have c4 := HR13.out.cell 4
   have c5 := HR13.out.cell 5
   go_wp2_with fail
   refine bodyPost_ret (results_row_tmp rfl _ _ (w.heap.size + 1 + 1) 40 #[.int .i64 0, .int .i64 0, .int .i64 0, .slice none 0 0, .slice none 0 0, .slice none 0 0] (0, 0) _ rfl HR'.out Tryz.underlying40 rfl pclaim_size) rfl ?_
   exact ⟨0, 0, 0, .slice none 0 0, .slice none 0 0, .slice none 0 0, by rw [HRes.out]; rfl, fun h => absurd (HRes.out.symm.trans h) (by decide), ⟨⟨_, _, _, rfl⟩, ⟨_, _, _, rfl⟩, ⟨_, _, _, rfl⟩⟩, HB'.out⟩
 obtain ⟨adB, hCA⟩ : ∃ ad, AA = some ad := by
   obtain ⟨A', c', he, -, -, hcc⟩ := (HRA.out w HRl.out).open_
   obtain ⟨ad, _, h, -⟩ := hcc 0 (by have := HLA.out; omega)
   simp only [Value.slice.injEq] at he
   exact ⟨ad, he.1.trans h⟩
 subst hCA
 obtain ⟨AB, hAB⟩ : ∃ A, A = if c2 = m then some adB else some (adB.add m) := ⟨_, rfl⟩
 have hslA : ∀ W : World, (Instr.slice 37 (.slice (some adB) (n2) (c2)) none (some (.int .i64 (m : Int))) (some (.int .i64 (m : Int)))).run Tryz.prog W = .ok (.slice (some adB) m m) W := fun W => by
   rw [run_slice_hm W 37 (some adB) (n2) (c2) Tryz.underlying37 .i64 .i64 (m : Int) (m : Int) (by omega) (by omega) (by omega)]
   simp [go_sem]
 have hslB : ∀ W : World, (Instr.slice 37 (.slice (some adB) (n2) (c2)) (some (.int .i64 (m : Int))) none none).run Tryz.prog W = .ok (.slice AB (n2 - m) (c2 - m)) W := fun W => by
   rw [run_slice_l W 37 (some adB) (n2) (c2) Tryz.underlying37 .i64 (m : Int) (by omega) (by omega), hAB]
   simp [go_sem]
 have HTB : Hid (∀ W, RI W (.slice (some ad) l.length cl) l -> RI W (.slice (some adB) m m) ((((l.drop 1).drop m)).take m)) := fun W hW => RI.cap (RI.pre (HRA.out W hW) (by have := HLA.out; omega)) (Nat.le_refl m)
 have HRB : Hid (∀ W, RI W (.slice (some ad) l.length cl) l -> RI W (.slice AB (n2 - m) (c2 - m)) ((((l.drop 1).drop m)).drop m)) := fun W hW => by
   obtain ⟨ad', he, -, -, hsf⟩ := RI.suf' (HRA.out W hW) (by have := HLA.out; omega) m (by have := HLA.out; omega)
   obtain rfl : adB = ad' := by simpa using he
   rw [HLA.out] at hsf
   rw [hAB]; exact hsf
 have HLB : Hid (((((l.drop 1).drop m)).drop m).length = n2 - m) := by show _ = _; rw [List.length_drop, HLA.out]
 have x1 := HX13.out.cell 1
 have c0 := HC13.out.cell 4
 have f0 := HC13.out.frozen 4
 have hsb := HB13.out.size
 obtain ⟨W14, hW14⟩ : ∃ W14, W14 = (W13.setCell ⟨w.heap.size + 1 + 1 + 1, 4, none⟩ (.slice (some adB) m m)).drew := ⟨_, rfl⟩
 have hszs := HSbl.out
 have HC14 := Hd (show BL W14 (w.heap.size + 1 + 1 + 1) 40 _ by rw [hW14]; exact HC13.out.set 4 (.slice (some adB) m m))
 have HG14 := Hd (show BL W14 (w.heap.size) 25 _ by rw [hW14]; exact HG13.out.set_other (a := ⟨w.heap.size + 1 + 1 + 1, 4, none⟩) (by dsimp only; omega) (.slice (some adB) m m))
 have HK14 := Hd (show BL W14 (w.heap.size + 1) 85 _ by rw [hW14]; exact HK13.out.set_other (a := ⟨w.heap.size + 1 + 1 + 1, 4, none⟩) (by dsimp only; omega) (.slice (some adB) m m))
 have HR14 := Hd (show BL W14 (w.heap.size + 1 + 1) 40 _ by rw [hW14]; exact HR13.out.set_other (a := ⟨w.heap.size + 1 + 1 + 1, 4, none⟩) (by dsimp only; omega) (.slice (some adB) m m))
 have HS14 := Hd (show BL W14 W7.heap.size 128 _ by rw [hW14]; exact HS13.out.set_other (a := ⟨w.heap.size + 1 + 1 + 1, 4, none⟩) (by dsimp only; omega) (.slice (some adB) m m))
 have HB14 := Hd (show Below w.heap.size w W14 by rw [hW14]; exact (HB13.out.setCell (p := ⟨w.heap.size + 1 + 1 + 1, 4, none⟩) (by dsimp only; omega) (.slice (some adB) m m)).drew)
 have HW14 := Hd hW14
 clear hW14 hAB
 go_wp2_with fail
 go_region
 rw [<- HW14.out]
 clear hslA hslB x1 c0 f0 hsb hszs HG13 HK13 HR13 HC13 HS13 HX13 g0
 have hcn' : n2 = n2 - m + m := by omega
 have hlcB : n2 - m <= c2 - m := by omega
 have hllB : n2 - m <= 100000 := by omega
 generalize hg1 : n2 - m = n3 at *
 generalize hg2 : c2 - m = c3 at *
 have HCnB := Hd hcn'
 clear hcn' hlt hg1 hg2
 go_wp2_with fail
 rw [rounds_succ]
 have HOk : Hid (decide (fillE m true false true false l = 0) = ((n3 : Int) == 0)) := by
   show _ = _
   have e1 := HLn.out
   have e2 := HCnA.out
   have e3 := HCnB.out
   rw [HFe.out]
   by_cases h : n3 = 0
   · rw [if_neg (by omega), h]; rfl
   · rw [if_pos (by omega)]; simp [h]
 have HOz : Hid (fillE m true false true false l = 0 -> ((l.drop 1).length : Int) = 2 * m) := fun h => by
   rw [HFe.out] at h
   by_cases h2 : ((l.drop 1).length : Int) ≠ 2 * m
   · rw [if_pos h2] at h; cases h
   · exact Decidable.not_not.1 h2
 have d0 := HC14.out.cell 0
 have d1 := HC14.out.cell 1
 have d2 := HC14.out.cell 2
 have d3 := HC14.out.cell 3
 have d4 := HC14.out.cell 4
 have d5 := HC14.out.cell 5
 have r0 := HR14.out.cell 0
 have r1 := HR14.out.cell 1
 have r2 := HR14.out.cell 2
 have r3 := HR14.out.cell 3
 have r4 := HR14.out.cell 4
 have r5 := HR14.out.cell 5
 have g0 := HR14.out.frozen 0
 have g1 := HR14.out.frozen 1
 have g2 := HR14.out.frozen 2
 have g3 := HR14.out.frozen 3
 have g4 := HR14.out.frozen 4
 have g5 := HR14.out.frozen 5
 go_wp2_with fail
 refine bodyPost_ret (results_row_tmp rfl _ _ (w.heap.size + 1 + 1) 40 #[.int .i64 (k : Int), .int .i64 z, .int .i64 0, .slice (some adA) m m, .slice (some adB) m m, .slice none 0 0] (0, 0) _ rfl (HR14.out.set6 _ _ _ _ _ _) Tryz.underlying40 rfl pclaim_size) rfl ?_
 exact ⟨k, z, 0, .slice (some adA) m m, .slice (some adB) m m, .slice none 0 0, by rw [HOk.out]; rfl, fun hz => ⟨rfl, HZ.out.symm, rfl, fun W hW => ⟨HTA.out W hW, (by have h := HTB.out W hW; rw [List.take_of_length_le (by have := HOz.out hz; rw [List.length_drop]; omega)] at h; exact h), RI.emp rfl rfl rfl⟩⟩, ⟨⟨_, _, _, rfl⟩, ⟨_, _, _, rfl⟩, ⟨_, _, _, rfl⟩⟩, below6 HB14.out (show w.heap.size <= w.heap.size + 1 + 1 by omega) _ _ _ _ _ _⟩
theorem pFilled_any (g lv : Value) (m k : Nat) (S : ByteArray) (es : List Tri) (l : List Int) (w : World) (hk : k < 9) (hg : GV w g m es) (hl : RI w lv l) (hm1 : 1 <= m) (hm : m <= 12) (hll : l.length <= 100000) :
   Calls Tryz.prog 49 #[g, .int .i64 (k : Int), .agg #[.string S, .int .i64 (pm k), .int .i64 (kl k), .func (.func (pfn k)) #[] #[]], lv] w fun e w' => GivQ m k (kq k) (kn k) (kb k) (kf k) lv l w e w' := by
 match k, hk with
 | 0, hk => exact pFill_00110 g lv m 0 S es l w hk hg hl hm1 hm hll rfl rfl rfl rfl rfl
 | 1, hk => exact pFill_00100 g lv m 1 S es l w hk hg hl hm1 hm hll rfl rfl rfl rfl rfl
 | 2, hk => exact pFill_00100 g lv m 2 S es l w hk hg hl hm1 hm hll rfl rfl rfl rfl rfl
 | 3, hk => exact pFill_01100 g lv m 3 S es l w hk hg hl hm1 hm hll rfl rfl rfl rfl rfl
 | 4, hk => exact pFill_01100 g lv m 4 S es l w hk hg hl hm1 hm hll rfl rfl rfl rfl rfl
 | 5, hk => exact pFill_10100 g lv m 5 S es l w hk hg hl hm1 hm hll rfl rfl rfl rfl rfl
 | 6, hk => exact pFill_10100 g lv m 6 S es l w hk hg hl hm1 hm hll rfl rfl rfl rfl rfl
 | 7, hk => exact pFill_10110 g lv m 7 S es l w hk hg hl hm1 hm hll rfl rfl rfl rfl rfl
 | 8, hk => exact pFill_00001 g lv m 8 S es l w hk hg hl hm1 hm hll rfl rfl rfl rfl rfl

theorem iCheckS_any (s : List UInt8) (w : World) (hs : s.length <= 1000000) :
   Calls Tryz.prog 149 #[strV s] w fun e w' => e = .returned (.int .i64 (chkE s)) /\ Below w.heap.size w w' := by
 have HC := Hd (cutp_any s w)
 have hml : (magW s).length <= s.length := by
   cases s with
   | nil => exact Nat.le_refl _
   | cons c r => by_cases h : c = 45 <;> simp [magW, h]
 have HCb : Hid (canB s = (decide (magW s ≠ []) && (magW s).all isDg && (decide ((magW s).getD 0 0 ≠ 48) || (decide (magW s = [48]) && !minW s)))) := rfl
 have HE3 : Hid (canB s = false -> chkE s = 3) := fun h => by show chkE s = 3; unfold chkE; rw [if_pos h]
 have HE1 : Hid (canB s = true -> chkE s = if 1024 < (magW s).length then 11 else 0) := fun h => by show chkE s = _; unfold chkE; rw [if_neg (by rw [h]; simp)]
 obtain ⟨T, hT⟩ : ∃ T : ByteArray, strV s = .string T := ⟨_, rfl⟩
 rw [hT] at HC ⊢
 generalize chkE s = E at *
 generalize canB s = cb at *
 generalize minW s = m at *
 generalize magW s = l at *
 have hll : l.length <= 1000000 := by omega
 obtain ⟨S, hS⟩ : ∃ S : ByteArray, S = ⟨l.toArray⟩ := ⟨_, rfl⟩
 have hsz : S.size = l.length := by rw [hS]; simp [ByteArray.size]
 have hSl : S.data.toList = l := by rw [hS]
 have hcv := Go.Lib.run_convert_string_bytes (P := Tryz.prog) w 9 130 5 S Tryz.underlying9 Tryz.underlying130 Tryz.underlying5
 have hcell : ∀ (k : Nat) (x : UInt8), l[k]? = some x -> (Go.Lib.bytesWorld w 5 S).cell? ⟨w.heap.size, k, none⟩ = some (.int .u8 (x.toNat : Int)) := fun k x hx => by
   obtain ⟨h1, h2⟩ := List.getElem?_eq_some_iff.1 hx
   rw [Go.Lib.bytesWorld_cell w 5 S k (by rw [hsz]; exact h1), hSl, List.getD_eq_getElem?_getD, hx]; rfl
 have hix : 0 < l.length -> ∀ W : World, (Instr.index 9 (.string S) (.int .i64 0)).run Tryz.prog W = .ok (.int .u8 ((l.getD 0 0).toNat : Int)) W := fun hp W => by
   rw [run_index_string _ _ _ _ _ Tryz.underlying9, dif_pos (by rw [hsz]; omega)]
   subst hS
   cases l with
   | nil => simp at hp
   | cons a r => simp [ByteArray.getElem_eq_getElem_data]
 have HB1 := Hd (Go.Lib.bytesWorld_below w 5 S)
 have hemp : (S.toList == []) = decide (l = []) := by
   rw [Go.Lib.toList_data, hSl]
   cases l with
   | nil => rfl
   | cons a r => rfl
 have HCell := Hd hcell
 have hN : S.size <= 1000000 := by omega
 have HSz := Hd hsz
 have HIx := Hd hix
 have HEm := Hd hemp
 rw [show strV l = .string S by rw [hS]; rfl] at HC
 generalize Go.Lib.bytesWorld w 5 S = W1 at *
 generalize grownCap w S.size 0 5 = cap at *
 clear hS hSl hcell hsz hix hT hml hemp hs hll
 go_enter Tryz.func149, Tryz.ntmps149
 go_wp2_with fail
 refine HC.out.mono ?_
 rintro e w2 ⟨rfl, rfl⟩
 go_wp2_with fail
 go_loopw [15] (fun i wr => ∃ k : Nat, k <= S.size /\ i = .int .i64 (k : Int) /\ Hid ((l.take k).all isDg = true) /\ wr = W1) (fun i _ => S.size - (intOf i).toNat)
 case atStart => exact ⟨0, Nat.zero_le _, rfl, rfl, rfl⟩
 case round =>
   obtain ⟨k, hk, rfl, ha, rfl⟩ := hrel
   by_cases hlt : k < S.size
   · obtain ⟨x, hx⟩ : ∃ x, l[k]? = some x := ⟨l[k]'(by have := HSz.out; omega), List.getElem?_eq_getElem _⟩
     have hc := HCell.out k x hx
     have HF : Hid (isDg x = false -> E = 3) := fun h => by
       have h1 := all_not hx h
       exact HE3.out (by rw [HCb.out, h1]; simp)
     have HT : Hid (isDg x = true -> (l.take (k + 1)).all isDg = true) := fun h => all_take hx ha.out h
     clear hx ha
     by_cases h1 : x.toNat < 48
     · have hR : Hid (E = 3) := HF.out (by unfold isDg; rw [decide_eq_false (by omega)]; rfl)
       have t1 : (x.toNat : Int) < 48 := by omega
       clear h1
       go_wp2
       go_ret
       exact ⟨ret_i hR.out.symm, HB1.out⟩
     · by_cases h2 : 57 < x.toNat
       · have hR : Hid (E = 3) := HF.out (by unfold isDg; rw [decide_eq_false (show ¬ x.toNat <= 57 by omega)]; simp)
         have t1 : ¬ (x.toNat : Int) < 48 := by omega
         have t2 : (57 : Int) < (x.toNat : Int) := by omega
         clear h1 h2
         go_wp2
         go_ret
         exact ⟨ret_i hR.out.symm, HB1.out⟩
       · have HT2 := Hd (HT.out (by unfold isDg; rw [decide_eq_true (by omega), decide_eq_true (by omega)]; rfl))
         have t1 : ¬ (x.toNat : Int) < 48 := by omega
         have t2 : ¬ (57 : Int) < (x.toNat : Int) := by omega
         clear h1 h2
         go_wp2
         go_roundw
         case rel => exact ⟨k + 1, by omega, by go_num, HT2.out, trivial⟩
         case measure => simp [intOf]; omega
   · have hall : l.all isDg = true := by
       have h := ha.out
       rwa [List.take_of_length_le (by have := HSz.out; omega)] at h
     have hcb := HCb.out
     rw [hall] at hcb
     by_cases hnil : l = []
     · have hR : Hid (E = 3) := HE3.out (by rw [hcb, hnil]; rfl)
       have hem : (S.toList == []) = true := by rw [HEm.out, hnil]; rfl
       clear hcb hall ha hnil
       go_wp2
       go_ret
       exact ⟨ret_i hR.out.symm, HB1.out⟩
     · have hlp : 0 < l.length := List.length_pos_iff.2 hnil
       have hem : (S.toList == []) = false := by rw [HEm.out]; simpa using hnil
       have hix := HIx.out hlp
       have hSz := HSz.out
       by_cases h48 : l.getD 0 0 = 48
       · have t0 : (((l.getD 0 0).toNat : Int) == 48) = true := by rw [h48]; rfl
         by_cases hl1 : l = [48]
         · have hle : ¬ (1 : Int) < (S.size : Int) := by rw [hSz, hl1]; decide
           cases m
           · have hR : Hid (E = 0) := by show _ = _; rw [HE1.out (by rw [hcb, hl1]; rfl), hl1]; rfl
             have h1k : ¬ (1024 : Int) < (S.size : Int) := by omega
             generalize ((l.getD 0 0).toNat : Int) = c0 at *
             clear hcb hall ha hnil hl1 h48 hSz hlp
             go_wp2
             go_ret
             exact ⟨ret_i hR.out.symm, HB1.out⟩
           · have hR : Hid (E = 3) := HE3.out (by rw [hcb, hl1]; rfl)
             generalize ((l.getD 0 0).toNat : Int) = c0 at *
             clear hcb hall ha hnil hl1 h48 hSz hlp
             go_wp2
             go_ret
             exact ⟨ret_i hR.out.symm, HB1.out⟩
         · have hR : Hid (E = 3) := HE3.out (by rw [hcb, h48]; simp [hl1])
           have hle : (1 : Int) < (S.size : Int) := by
             rw [hSz]
             match l, hlp, h48, hl1 with
             | [a], _, h, h' => exact absurd (by simpa using h) (by simpa using h')
             | a :: b :: r, _, _, _ => simp; omega
           generalize ((l.getD 0 0).toNat : Int) = c0 at *
           clear hcb hall ha hnil hl1 h48 hSz hlp
           go_wp2
           go_ret
           exact ⟨ret_i hR.out.symm, HB1.out⟩
       · have t0 : (((l.getD 0 0).toNat : Int) == 48) = false := by
           rw [beq_eq_false_iff_ne]
           intro h
           exact h48 (UInt8.toNat_inj.1 (by show (l.getD 0 0).toNat = 48; omega))
         have hR := HE1.out (by rw [hcb]; simp only [ne_eq, hnil, h48]; rfl)
         by_cases hL : 1024 < l.length
         · rw [if_pos hL] at hR
           have HR := Hd hR
           have h1k : (1024 : Int) < (S.size : Int) := by omega
           generalize ((l.getD 0 0).toNat : Int) = c0 at *
           clear hcb hall ha hnil h48 hSz hlp hR hL
           go_wp2
           go_ret
           exact ⟨ret_i HR.out.symm, HB1.out⟩
         · rw [if_neg hL] at hR
           have HR := Hd hR
           have h1k : ¬ (1024 : Int) < (S.size : Int) := by omega
           generalize ((l.getD 0 0).toNat : Int) = c0 at *
           clear hcb hall ha hnil h48 hSz hlp hR hL
           go_wp2
           go_ret
           exact ⟨ret_i HR.out.symm, HB1.out⟩
theorem iSmall_any (s : List UInt8) (w : World) (hs : s.length <= 1000000) (hv : LV w) :
   Calls Tryz.prog 107 #[strV s] w fun e w' => e = .returned (.tuple #[.int .i64 (if smE s = 0 then wv s else 0), .int .i64 (smE s)]) /\ Below w.heap.size w w' := by
 have HC := Hd (iCheckS_any s w hs)
 by_cases h0 : chkE s = 0
 · have hcan : canB s = true := by
     cases h : canB s with
     | true => rfl
     | false => unfold chkE at h0; rw [if_pos h] at h0; cases h0
   rw [h0] at HC
   by_cases hr : -9223372036854775808 <= wv s /\ wv s <= 9223372036854775807
   · have HA : Hid (∀ W, Calls Tryz.prog 150 #[strV s] W fun e w' => e = .returned (.tuple #[.int .i64 (wv s), .nilIface]) /\ Below W.heap.size W w') := fun W => atoi_in s W hcan hs hr
     have HR : Hid (smE s = 0) := by show _ = _; unfold smE; rw [if_neg (by simpa using h0), if_neg (by omega)]
     rw [if_pos HR.out, HR.out]
     generalize wv s = z at *
     obtain ⟨T, hT⟩ : ∃ T : ByteArray, strV s = .string T := ⟨_, rfl⟩
     rw [hT] at HC HA ⊢
     clear hT h0 hcan hr HR hs hv
     go_enter Tryz.func107, Tryz.ntmps107
     go_wp2_with fail
     refine HC.out.mono ?_
     rintro e w2 ⟨rfl, hb2⟩
     have HB2 := Hd hb2
     clear hb2
     go_wp2_with fail
     refine (HA.out w2).mono ?_
     rintro e w3 ⟨rfl, hb3⟩
     have HB3 := Hd (HB2.out.trans (hb3.mono HB2.out.size))
     clear hb3
     go_wp2
     go_ret2
     exact ⟨rfl, HB3.out⟩
   · have HA : Hid (∀ W, LV W -> Calls Tryz.prog 150 #[strV s] W fun e w' => ∃ x T p, e = .returned (.tuple #[.int .i64 x, .iface T p]) /\ Below W.heap.size W w') := fun W h => atoi_out s W h hcan hs hr
     have HR : Hid (smE s = 2) := by show _ = _; unfold smE; rw [if_neg (by simpa using h0), if_pos (by omega)]
     rw [if_neg (by rw [HR.out]; decide), HR.out]
     obtain ⟨T, hT⟩ : ∃ T : ByteArray, strV s = .string T := ⟨_, rfl⟩
     rw [hT] at HC HA ⊢
     have HV := Hd hv
     clear hT h0 hcan hr HR hs hv
     go_enter Tryz.func107, Tryz.ntmps107
     go_wp2_with fail
     refine HC.out.mono ?_
     rintro e w2 ⟨rfl, hb2⟩
     have HB2 := Hd hb2
     clear hb2
     go_wp2_with fail
     refine (HA.out w2 (HV.out.below HB2.out)).mono ?_
     rintro e w3 ⟨x, T', p, rfl, hb3⟩
     have HB3 := Hd (HB2.out.trans (hb3.mono HB2.out.size))
     clear hb3
     go_wp2
     go_ret2
     exact ⟨rfl, HB3.out⟩
 · have HR : Hid (smE s = chkE s) := by show _ = _; unfold smE; rw [if_pos h0]
   rw [if_neg (by rw [HR.out]; exact h0), HR.out]
   generalize chkE s = E at *
   have t1 : (E != 0) = true := by simpa using h0
   obtain ⟨T, hT⟩ : ∃ T : ByteArray, strV s = .string T := ⟨_, rfl⟩
   rw [hT] at HC ⊢
   clear hT h0 HR hs hv
   go_enter Tryz.func107, Tryz.ntmps107
   go_wp2_with fail
   refine HC.out.mono ?_
   rintro e w2 ⟨rfl, hb2⟩
   have HB2 := Hd hb2
   clear hb2
   go_wp2
   go_ret2
   exact ⟨rfl, HB2.out⟩
end Go.Proofs.YteamhbohgoclgaaGreatDoor
