/- Contract of the reference's given. -/
import Derived.Test.YteamhbohgoclgaaGreatDoorR29
set_option maxRecDepth 100000
set_option maxHeartbeats 16000000
namespace Go.Proofs.YteamhbohgoclgaaGreatDoor
open Go.RowKit Go.Shelf

theorem claim57_size : (Tryz.prog.info? 47).map (·.size) = some 6 := by kernel_rfl
def GivQ (m k : Nat) (q n b f : Bool) (lv : Value) (l : List Int) (w0 : World) (e : Ending) (w' : World) : Prop :=
 ∃ (kk Q N : Int) (va vb vf : Value), e = .returned (.tuple #[.agg #[.int .i64 kk, .int .i64 Q, .int .i64 N, va, vb, vf], .bool (decide (fillE m q n b f l = 0))]) /\
   (fillE m q n b f l = 0 -> kk = k /\ Q = fQ q l /\ N = fQ n (l1L q l) /\ ∀ W, RI W lv l -> RI W va (fA m b f (l2L q n l)) /\ RI W vb (fB m b f (l2L q n l)) /\ RI W vf (fF f (l2L q n l))) /\ ((∃ A n c, va = .slice A n c) /\ (∃ A n c, vb = .slice A n c) /\ (∃ A n c, vf = .slice A n c)) /\ Below w0.heap.size w0 w'
theorem given_00c (g lv : Value) (m k : Nat) (es : List Tri) (l : List Int) (w : World) (hg : GV w g m es) (hl : RI w lv l) 
   (hU : ∀ (f : Nat) (W : World), f < 5 -> Calls Tryz.prog 61 #[.int .i64 (k : Int), .int .i64 (f : Int)] W fun e w' => e = .returned (.bool (([false, false, true, false, false] : List Bool).getD f false)) /\ Below W.heap.size W w') :
   Calls Tryz.prog 54 #[g, .int .i64 (k : Int), lv] w fun e w' => GivQ m k false false false false lv l w e w' := by
 obtain ⟨Al, cl, rfl, hlc, -, hcell⟩ := id hl |>.open_
 obtain ⟨A, c, rfl, -⟩ := hg.open_
 obtain ⟨W1, hW1⟩ : ∃ W1, W1 = ((w.alloc (.cells #[.int .i64 (m : Int), .slice A es.length c] 25)).alloc (.cells #[.int .i64 0, .int .i64 0, .int .i64 0, .slice none 0 0, .slice none 0 0, .slice none 0 0] 47)).alloc (.cells #[.int .i64 (k : Int), .int .i64 0, .int .i64 0, .slice none 0 0, .slice none 0 0, .slice none 0 0] 47) := ⟨_, rfl⟩
 have hb1 : Below w.heap.size w W1 := by rw [hW1]; exact ((below_alloc w _).alloc (by simp) _).alloc (by simp; omega) _
 have hG1 : BL W1 w.heap.size 25 [.int .i64 (m : Int), .slice A es.length c] := by rw [hW1]; exact ((BL.new' w _ _).alloc _).alloc _
 have hR1 : BL W1 (w.heap.size + 1) 47 [.int .i64 0, .int .i64 0, .int .i64 0, .slice none 0 0, .slice none 0 0, .slice none 0 0] := by
   rw [hW1]
   have := BL.new' (w.alloc (.cells #[.int .i64 (m : Int), .slice A es.length c] 25)) #[.int .i64 0, .int .i64 0, .int .i64 0, .slice none 0 0, .slice none 0 0, .slice none 0 0] 47
   rw [World.size_alloc] at this
   exact this.alloc _
 have hC1 : BL W1 (w.heap.size + 1 + 1) 47 [.int .i64 (k : Int), .int .i64 0, .int .i64 0, .slice none 0 0, .slice none 0 0, .slice none 0 0] := by
   rw [hW1]
   have := BL.new' ((w.alloc (.cells #[.int .i64 (m : Int), .slice A es.length c] 25)).alloc (.cells #[.int .i64 0, .int .i64 0, .int .i64 0, .slice none 0 0, .slice none 0 0, .slice none 0 0] 47)) #[.int .i64 (k : Int), .int .i64 0, .int .i64 0, .slice none 0 0, .slice none 0 0, .slice none 0 0] 47
   rw [World.size_alloc, World.size_alloc] at this
   exact this
 have HU0 : Hid (∀ W, Calls Tryz.prog 61 #[.int .i64 (k : Int), .int .i64 0] W fun e w' => e = .returned (.bool false) /\ Below W.heap.size W w') := fun W => hU 0 W (by omega)
 have HU1 : Hid (∀ W, Calls Tryz.prog 61 #[.int .i64 (k : Int), .int .i64 1] W fun e w' => e = .returned (.bool false) /\ Below W.heap.size W w') := fun W => hU 1 W (by omega)
 have HU3 : Hid (∀ W, Calls Tryz.prog 61 #[.int .i64 (k : Int), .int .i64 3] W fun e w' => e = .returned (.bool false) /\ Below W.heap.size W w') := fun W => hU 3 W (by omega)
 have HU4 : Hid (∀ W, Calls Tryz.prog 61 #[.int .i64 (k : Int), .int .i64 4] W fun e w' => e = .returned (.bool false) /\ Below W.heap.size W w') := fun W => hU 4 W (by omega)
 have HG1 := Hd hG1
 have HR1 := Hd hR1
 have HC1 := Hd hC1
 have HB1 := Hd hb1
 have HW1 := Hd hW1
 have HRI := Hd hl
 clear hg hl hU hb1 hG1 hR1 hC1 hW1
 clear hcell
 go_enter Tryz.func54, Tryz.ntmps54
 go_wp2_with fail
 rw [<- HW1.out]
 refine (HU0.out _).mono ?_
 rintro e w2 ⟨rfl, hb2⟩
 have HG2 := Hd (HG1.out.bel hb2)
 have HR2 := Hd (HR1.out.bel hb2)
 have HC2 := Hd (HC1.out.bel hb2)
 have HB2 := Hd (HB1.out.trans (hb2.mono HB1.out.size))
 clear hb2 HU0
 go_wp2_with fail
 refine (HU1.out _).mono ?_
 rintro e w3 ⟨rfl, hb3⟩
 have HG3 := Hd (HG2.out.bel hb3)
 have HR3 := Hd (HR2.out.bel hb3)
 have HC3 := Hd (HC2.out.bel hb3)
 have HB3 := Hd (HB2.out.trans (hb3.mono HB2.out.size))
 clear hb3 HU1
 go_wp2_with fail
 refine (HU4.out _).mono ?_
 rintro e w4 ⟨rfl, hb4⟩
 have HG4 := Hd (HG3.out.bel hb4)
 have HR4 := Hd (HR3.out.bel hb4)
 have HC4 := Hd (HC3.out.bel hb4)
 have HB4 := Hd (HB3.out.trans (hb4.mono HB3.out.size))
 clear hb4 HU4
 go_wp2_with fail
 refine (HU3.out _).mono ?_
 rintro e w5 ⟨rfl, hb5⟩
 have HG5 := Hd (HG4.out.bel hb5)
 have HR5 := Hd (HR4.out.bel hb5)
 have HC5 := Hd (HC4.out.bel hb5)
 have HB5 := Hd (HB4.out.trans (hb5.mono HB4.out.size))
 clear hb5 HU3
 have HRc : Hid (∀ W, RI W (.slice Al l.length cl) l -> RI W (.slice Al l.length cl) l) := fun _ h => h
 have HL2 : Hid (l2L false false l = l) := rfl
 have HLn : Hid (l.length = l.length) := rfl
 have HFe : Hid (fillE m false false false false l = (if (l.length : Int) ≠ m then 8 else 0)) := by
   show _ = _
   unfold fillE
   rw [if_neg (fun h => by cases h.1), if_neg (fun h => by cases h.1), if_neg (by decide), if_neg (by decide)]
   rfl
 have w3 := HC5.out.cell 3
 have v3 := HC5.out.frozen 3
 have hs5 := HB5.out.size
 go_upto_region 19 with fail
 have HC8 := Hd (HC5.out.set 3 (.slice Al l.length cl))
 have HG8 := Hd (HG5.out.set_other (a := ⟨w.heap.size + 1 + 1, 3, none⟩) (by dsimp only; omega) (.slice Al l.length cl))
 have HR8 := Hd (HR5.out.set_other (a := ⟨w.heap.size + 1 + 1, 3, none⟩) (by dsimp only; omega) (.slice Al l.length cl))
 have HB8 := Hd (HB5.out.setCell (p := ⟨w.heap.size + 1 + 1, 3, none⟩) (by dsimp only; omega) (.slice Al l.length cl))
 generalize w5.setCell ⟨w.heap.size + 1 + 1, 3, none⟩ (.slice Al l.length cl) = w8 at *
 clear w3 v3
 have HR9 := Hd (HR8.out.set6 (.int .i64 (k : Int)) (.int .i64 0) (.int .i64 0) (.slice Al l.length cl) (.slice none 0 0) (.slice none 0 0))
 have HB9 := Hd (below6 HB8.out (show w.heap.size <= w.heap.size + 1 by omega) (.int .i64 (k : Int)) (.int .i64 0) (.int .i64 0) (.slice Al l.length cl) (.slice none 0 0) (.slice none 0 0))
 have c0 := HR8.out.cell 0
 have f0 := HR8.out.frozen 0
 have c1 := HR8.out.cell 1
 have f1 := HR8.out.frozen 1
 have c2 := HR8.out.cell 2
 have f2 := HR8.out.frozen 2
 have c3 := HR8.out.cell 3
 have f3 := HR8.out.frozen 3
 have c4 := HR8.out.cell 4
 have f4 := HR8.out.frozen 4
 have c5 := HR8.out.cell 5
 have f5 := HR8.out.frozen 5
 have g0 := HG8.out.cell 0
 have u0 := HC8.out.cell 0
 have u1 := HC8.out.cell 1
 have u2 := HC8.out.cell 2
 have u3 := HC8.out.cell 3
 have u4 := HC8.out.cell 4
 have u5 := HC8.out.cell 5
 have hs9 := HB8.out.size
 by_cases hcl2 : (l.length : Int) = m
 · have HRes : Hid (fillE m false false false false l = 0) := by show _ = _; rw [HFe.out, if_neg (fun h => h hcl2)]
   have t1 : ((l.length : Int) == (m : Int)) = true := by simpa using hcl2
   have HFm : Hid (fA m false false (l2L false false l) = l) := rfl
   clear hcl2 HFe
   go_region
   have HR9d := Hd HR9.out.drew
   have HB9d := Hd HB9.out.drew
   clear HR9 HB9
   have HR9 := HR9d
   have HB9 := HB9d
   go_wp2_with fail
   refine bodyPost_ret (results_row_tmp rfl _ _ (w.heap.size + 1) 47 #[.int .i64 (k : Int), .int .i64 0, .int .i64 0, .slice Al l.length cl, .slice none 0 0, .slice none 0 0] (0, 0) _ rfl HR9.out Tryz.underlying47 rfl claim57_size) rfl ?_
   refine ⟨_, _, _, _, _, _, by rw [HRes.out] <;> rfl, fun _ => ⟨rfl, rfl, rfl, fun W hW => ⟨?_, ?_, ?_⟩⟩, ⟨⟨_, _, _, rfl⟩, ⟨_, _, _, rfl⟩, ⟨_, _, _, rfl⟩⟩, HB9.out⟩
   · rw [HFm.out]; exact HRc.out W hW
   · exact RI.emp rfl rfl rfl
   · exact RI.emp rfl rfl rfl
 · have HRes : Hid (fillE m false false false false l = 8) := by show _ = _; rw [HFe.out, if_pos hcl2]
   have t1 : ((l.length : Int) == (m : Int)) = false := by simpa using hcl2
   clear hcl2 HFe
   go_region
   have HR9d := Hd HR9.out.drew
   have HB9d := Hd HB9.out.drew
   clear HR9 HB9
   have HR9 := HR9d
   have HB9 := HB9d
   go_wp2_with fail
   refine bodyPost_ret (results_row_tmp rfl _ _ (w.heap.size + 1) 47 #[.int .i64 (k : Int), .int .i64 0, .int .i64 0, .slice Al l.length cl, .slice none 0 0, .slice none 0 0] (0, 0) _ rfl HR9.out Tryz.underlying47 rfl claim57_size) rfl ?_
   exact ⟨_, _, _, _, _, _, by rw [HRes.out] <;> rfl, fun h => absurd (HRes.out.symm.trans h) (by decide), ⟨⟨_, _, _, rfl⟩, ⟨_, _, _, rfl⟩, ⟨_, _, _, rfl⟩⟩, HB9.out⟩
theorem given_00b (g lv : Value) (m k : Nat) (es : List Tri) (l : List Int) (w : World) (hg : GV w g m es) (hl : RI w lv l) (hm1 : 1 <= m) (hm : m <= 12) (hll : l.length <= 100000)
   (hU : ∀ (f : Nat) (W : World), f < 5 -> Calls Tryz.prog 61 #[.int .i64 (k : Int), .int .i64 (f : Int)] W fun e w' => e = .returned (.bool (([false, false, true, true, false] : List Bool).getD f false)) /\ Below W.heap.size W w') :
   Calls Tryz.prog 54 #[g, .int .i64 (k : Int), lv] w fun e w' => GivQ m k false false true false lv l w e w' := by
 obtain ⟨Al, cl, rfl, hlc, -, hcell⟩ := id hl |>.open_
 obtain ⟨A, c, rfl, -⟩ := hg.open_
 obtain ⟨W1, hW1⟩ : ∃ W1, W1 = ((w.alloc (.cells #[.int .i64 (m : Int), .slice A es.length c] 25)).alloc (.cells #[.int .i64 0, .int .i64 0, .int .i64 0, .slice none 0 0, .slice none 0 0, .slice none 0 0] 47)).alloc (.cells #[.int .i64 (k : Int), .int .i64 0, .int .i64 0, .slice none 0 0, .slice none 0 0, .slice none 0 0] 47) := ⟨_, rfl⟩
 have hb1 : Below w.heap.size w W1 := by rw [hW1]; exact ((below_alloc w _).alloc (by simp) _).alloc (by simp; omega) _
 have hG1 : BL W1 w.heap.size 25 [.int .i64 (m : Int), .slice A es.length c] := by rw [hW1]; exact ((BL.new' w _ _).alloc _).alloc _
 have hR1 : BL W1 (w.heap.size + 1) 47 [.int .i64 0, .int .i64 0, .int .i64 0, .slice none 0 0, .slice none 0 0, .slice none 0 0] := by
   rw [hW1]
   have := BL.new' (w.alloc (.cells #[.int .i64 (m : Int), .slice A es.length c] 25)) #[.int .i64 0, .int .i64 0, .int .i64 0, .slice none 0 0, .slice none 0 0, .slice none 0 0] 47
   rw [World.size_alloc] at this
   exact this.alloc _
 have hC1 : BL W1 (w.heap.size + 1 + 1) 47 [.int .i64 (k : Int), .int .i64 0, .int .i64 0, .slice none 0 0, .slice none 0 0, .slice none 0 0] := by
   rw [hW1]
   have := BL.new' ((w.alloc (.cells #[.int .i64 (m : Int), .slice A es.length c] 25)).alloc (.cells #[.int .i64 0, .int .i64 0, .int .i64 0, .slice none 0 0, .slice none 0 0, .slice none 0 0] 47)) #[.int .i64 (k : Int), .int .i64 0, .int .i64 0, .slice none 0 0, .slice none 0 0, .slice none 0 0] 47
   rw [World.size_alloc, World.size_alloc] at this
   exact this
 have HU0 : Hid (∀ W, Calls Tryz.prog 61 #[.int .i64 (k : Int), .int .i64 0] W fun e w' => e = .returned (.bool false) /\ Below W.heap.size W w') := fun W => hU 0 W (by omega)
 have HU1 : Hid (∀ W, Calls Tryz.prog 61 #[.int .i64 (k : Int), .int .i64 1] W fun e w' => e = .returned (.bool false) /\ Below W.heap.size W w') := fun W => hU 1 W (by omega)
 have HU3 : Hid (∀ W, Calls Tryz.prog 61 #[.int .i64 (k : Int), .int .i64 3] W fun e w' => e = .returned (.bool true) /\ Below W.heap.size W w') := fun W => hU 3 W (by omega)
 have HU4 : Hid (∀ W, Calls Tryz.prog 61 #[.int .i64 (k : Int), .int .i64 4] W fun e w' => e = .returned (.bool false) /\ Below W.heap.size W w') := fun W => hU 4 W (by omega)
 have HG1 := Hd hG1
 have HR1 := Hd hR1
 have HC1 := Hd hC1
 have HB1 := Hd hb1
 have HW1 := Hd hW1
 have HRI := Hd hl
 clear hg hl hU hb1 hG1 hR1 hC1 hW1
 clear hcell
 go_enter Tryz.func54, Tryz.ntmps54
 go_wp2_with fail
 rw [<- HW1.out]
 refine (HU0.out _).mono ?_
 rintro e w2 ⟨rfl, hb2⟩
 have HG2 := Hd (HG1.out.bel hb2)
 have HR2 := Hd (HR1.out.bel hb2)
 have HC2 := Hd (HC1.out.bel hb2)
 have HB2 := Hd (HB1.out.trans (hb2.mono HB1.out.size))
 clear hb2 HU0
 go_wp2_with fail
 refine (HU1.out _).mono ?_
 rintro e w3 ⟨rfl, hb3⟩
 have HG3 := Hd (HG2.out.bel hb3)
 have HR3 := Hd (HR2.out.bel hb3)
 have HC3 := Hd (HC2.out.bel hb3)
 have HB3 := Hd (HB2.out.trans (hb3.mono HB2.out.size))
 clear hb3 HU1
 go_wp2_with fail
 refine (HU4.out _).mono ?_
 rintro e w4 ⟨rfl, hb4⟩
 have HG4 := Hd (HG3.out.bel hb4)
 have HR4 := Hd (HR3.out.bel hb4)
 have HC4 := Hd (HC3.out.bel hb4)
 have HB4 := Hd (HB3.out.trans (hb4.mono HB3.out.size))
 clear hb4 HU4
 go_wp2_with fail
 refine (HU3.out _).mono ?_
 rintro e w5 ⟨rfl, hb5⟩
 have HG5 := Hd (HG4.out.bel hb5)
 have HR5 := Hd (HR4.out.bel hb5)
 have HC5 := Hd (HC4.out.bel hb5)
 have HB5 := Hd (HB4.out.trans (hb5.mono HB4.out.size))
 clear hb5 HU3
 have HRc : Hid (∀ W, RI W (.slice Al l.length cl) l -> RI W (.slice Al l.length cl) l) := fun _ h => h
 have HL2 : Hid (l2L false false l = l) := rfl
 have HLn : Hid (l.length = l.length) := rfl
 have HFe : Hid (fillE m false false true false l = (if (l.length : Int) ≠ 2 * m then 8 else 0)) := by
   show _ = _
   unfold fillE
   rw [if_neg (fun h => by cases h.1), if_neg (fun h => by cases h.1), if_neg (by decide), if_pos rfl]
   rfl

 by_cases hcl2 : (l.length : Int) ≠ 2 * m
 · have HRes : Hid (fillE m false false true false l = 8) := by show _ = _; rw [HFe.out, if_pos hcl2]
   have t1 : ((l.length : Int) != 2 * (m : Int)) = true := by simpa using hcl2
   have g0 := HG5.out.cell 0
   clear hcl2 HFe
   have HR9 := Hd (HR5.out.set6 (.int .i64 0) (.int .i64 0) (.int .i64 0) (.slice none 0 0) (.slice none 0 0) (.slice none 0 0))
   have HB9 := Hd (below6 HB5.out (show w.heap.size <= w.heap.size + 1 by omega) (.int .i64 0) (.int .i64 0) (.int .i64 0) (.slice none 0 0) (.slice none 0 0) (.slice none 0 0))
   have c0 := HR5.out.cell 0
   have f0 := HR5.out.frozen 0
   have c1 := HR5.out.cell 1
   have f1 := HR5.out.frozen 1
   have c2 := HR5.out.cell 2
   have f2 := HR5.out.frozen 2
   have c3 := HR5.out.cell 3
   have f3 := HR5.out.frozen 3
   have c4 := HR5.out.cell 4
   have f4 := HR5.out.frozen 4
   have c5 := HR5.out.cell 5
   have f5 := HR5.out.frozen 5
   go_wp2_with fail
   refine bodyPost_ret (results_row_tmp rfl _ _ (w.heap.size + 1) 47 #[.int .i64 0, .int .i64 0, .int .i64 0, .slice none 0 0, .slice none 0 0, .slice none 0 0] (0, 0) _ rfl HR9.out Tryz.underlying47 rfl claim57_size) rfl ?_
   exact ⟨_, _, _, _, _, _, by rw [HRes.out] <;> rfl, fun h => absurd (HRes.out.symm.trans h) (by decide), ⟨⟨_, _, _, rfl⟩, ⟨_, _, _, rfl⟩, ⟨_, _, _, rfl⟩⟩, HB9.out⟩
 have HRes : Hid (fillE m false false true false l = 0) := by show _ = _; rw [HFe.out, if_neg hcl2]
 have t1 : ((l.length : Int) != 2 * (m : Int)) = false := by simpa using hcl2
 have hcm : l.length = 2 * m := by omega
 have hcurl : l.length = 2 * m := by exact hcm
 have hri := HRc.out w HRI.out
 obtain ⟨ad2, hA, -, hcc, hsf⟩ := RI.suf' hri (by omega) m (by omega)
 subst hA
 have HSf2 : Hid (∀ W, RI W (.slice (some ad2) l.length cl) l -> RI W (.slice (if cl = m then some ad2 else some (ad2.add m)) (l.length - m) (cl - m)) (l.drop m)) := fun W hW => by
   obtain ⟨ad', he, -, -, hsf⟩ := RI.suf' (HRc.out W hW) (by omega) m (by omega)
   obtain rfl : ad2 = ad' := by simpa using he
   exact hsf
 have HPf : Hid (∀ W, RI W (.slice (some ad2) l.length cl) l -> RI W (.slice (some ad2) m cl) (l.take m)) := fun W hW => RI.pre (HRc.out W hW) (j := m) (by omega)
 have m1' : m <= l.length := by omega
 have m2 : (m : Int) <= (l.length : Int) := by omega
 have m3 : m <= cl := by omega
 
 clear hcl2 HFe hcm hsf hcurl hri hcc
 have w3 := HC5.out.cell 3
 have v3 := HC5.out.frozen 3
 have w4 := HC5.out.cell 4
 have v4 := HC5.out.frozen 4
 have hs5 := HB5.out.size
 generalize hA1 : (if cl = m then some ad2 else some (ad2.add m)) = A2 at *
 generalize hm2 : l.length - m = m2' at *
 generalize he2 : cl - m = e2 at *
 obtain ⟨w8, hw8⟩ : ∃ w8, w8 = ((w5.setCell ⟨w.heap.size + 1 + 1, 3, none⟩ (.slice (some ad2) m cl)).setCell ⟨w.heap.size + 1 + 1, 4, none⟩ (.slice A2 m2' e2)).drew := ⟨_, rfl⟩
 have HC8 : Hid (BL w8 (w.heap.size + 1 + 1) 47 [.int .i64 (k : Int), .int .i64 0, .int .i64 0, .slice (some ad2) m cl, .slice A2 m2' e2, .slice none 0 0]) := by rw [hw8]; exact ((HC5.out.set 3 (.slice (some ad2) m cl)).set 4 (.slice A2 m2' e2)).drew
 have HR8 : Hid (BL w8 (w.heap.size + 1) 47 [.int .i64 0, .int .i64 0, .int .i64 0, .slice none 0 0, .slice none 0 0, .slice none 0 0]) := by rw [hw8]; exact ((HR5.out.set_other (a := ⟨w.heap.size + 1 + 1, 3, none⟩) (by dsimp only; omega) (.slice (some ad2) m cl)).set_other (a := ⟨w.heap.size + 1 + 1, 4, none⟩) (by dsimp only; omega) (.slice A2 m2' e2)).drew
 have HB8 : Hid (Below w.heap.size w w8) := by rw [hw8]; exact ((HB5.out.setCell (p := ⟨w.heap.size + 1 + 1, 3, none⟩) (by dsimp only; omega) (.slice (some ad2) m cl)).setCell (p := ⟨w.heap.size + 1 + 1, 4, none⟩) (by dsimp only; omega) (.slice A2 m2' e2)).drew
 have HGa : Hid (w5.cell? ⟨w.heap.size, 0, none⟩ = some (.int .i64 (m : Int))) := HG5.out.cell 0
 have HGb : Hid ((w5.setCell ⟨w.heap.size + 1 + 1, 3, none⟩ (.slice (some ad2) m cl)).cell? ⟨w.heap.size, 0, none⟩ = some (.int .i64 (m : Int))) := (HG5.out.set_other (a := ⟨w.heap.size + 1 + 1, 3, none⟩) (by dsimp only; omega) (.slice (some ad2) m cl)).cell 0
 have HGc : Hid (((w5.setCell ⟨w.heap.size + 1 + 1, 3, none⟩ (.slice (some ad2) m cl)).setCell ⟨w.heap.size + 1 + 1, 4, none⟩ (.slice A2 m2' e2)).cell? ⟨w.heap.size, 0, none⟩ = some (.int .i64 (m : Int))) := ((HG5.out.set_other (a := ⟨w.heap.size + 1 + 1, 3, none⟩) (by dsimp only; omega) (.slice (some ad2) m cl)).set_other (a := ⟨w.heap.size + 1 + 1, 4, none⟩) (by dsimp only; omega) (.slice A2 m2' e2)).cell 0
 have g0 := HGa.out
 go_upto_region 16 with fail
 clear g0
 go_region_held3 (fun W' : World => W'.cell? ⟨w.heap.size, 0, none⟩ = some (.int .i64 (m : Int))) (first | exact HGa.out | exact HGb.out | exact HGc.out) (fail)
 rw [<- hw8]
 have HW8 := Hd hw8
 clear hw8 w3 v3 w4 v4
 have HR9 := Hd (HR8.out.set6 (.int .i64 (k : Int)) (.int .i64 0) (.int .i64 0) (.slice (some ad2) m cl) (.slice A2 m2' e2) (.slice none 0 0))
 have HB9 := Hd (below6 HB8.out (show w.heap.size <= w.heap.size + 1 by omega) (.int .i64 (k : Int)) (.int .i64 0) (.int .i64 0) (.slice (some ad2) m cl) (.slice A2 m2' e2) (.slice none 0 0))
 have c0 := HR8.out.cell 0
 have f0 := HR8.out.frozen 0
 have c1 := HR8.out.cell 1
 have f1 := HR8.out.frozen 1
 have c2 := HR8.out.cell 2
 have f2 := HR8.out.frozen 2
 have c3 := HR8.out.cell 3
 have f3 := HR8.out.frozen 3
 have c4 := HR8.out.cell 4
 have f4 := HR8.out.frozen 4
 have c5 := HR8.out.cell 5
 have f5 := HR8.out.frozen 5
 have u0 := HC8.out.cell 0
 have u1 := HC8.out.cell 1
 have u2 := HC8.out.cell 2
 have u3 := HC8.out.cell 3
 have u4 := HC8.out.cell 4
 have u5 := HC8.out.cell 5
 go_wp2_with fail
 refine bodyPost_ret (results_row_tmp rfl _ _ (w.heap.size + 1) 47 #[.int .i64 (k : Int), .int .i64 0, .int .i64 0, .slice (some ad2) m cl, .slice A2 m2' e2, .slice none 0 0] (0, 0) _ rfl HR9.out Tryz.underlying47 rfl claim57_size) rfl ?_
 refine ⟨_, _, _, _, _, _, by rw [HRes.out] <;> rfl, fun _ => ⟨rfl, rfl, rfl, fun W hW => ⟨?_, ?_, ?_⟩⟩, ⟨⟨_, _, _, rfl⟩, ⟨_, _, _, rfl⟩, ⟨_, _, _, rfl⟩⟩, HB9.out⟩
 · exact HPf.out W hW
 · exact HSf2.out W hW
 · exact RI.emp rfl rfl rfl
theorem given_00f (g lv : Value) (m k : Nat) (es : List Tri) (l : List Int) (w : World) (hg : GV w g m es) (hl : RI w lv l)  (hll : l.length <= 100000)
   (hU : ∀ (f : Nat) (W : World), f < 5 -> Calls Tryz.prog 61 #[.int .i64 (k : Int), .int .i64 (f : Int)] W fun e w' => e = .returned (.bool (([false, false, false, false, true] : List Bool).getD f false)) /\ Below W.heap.size W w') :
   Calls Tryz.prog 54 #[g, .int .i64 (k : Int), lv] w fun e w' => GivQ m k false false false true lv l w e w' := by
 obtain ⟨Al, cl, rfl, hlc, -, hcell⟩ := id hl |>.open_
 obtain ⟨A, c, rfl, -⟩ := hg.open_
 obtain ⟨W1, hW1⟩ : ∃ W1, W1 = ((w.alloc (.cells #[.int .i64 (m : Int), .slice A es.length c] 25)).alloc (.cells #[.int .i64 0, .int .i64 0, .int .i64 0, .slice none 0 0, .slice none 0 0, .slice none 0 0] 47)).alloc (.cells #[.int .i64 (k : Int), .int .i64 0, .int .i64 0, .slice none 0 0, .slice none 0 0, .slice none 0 0] 47) := ⟨_, rfl⟩
 have hb1 : Below w.heap.size w W1 := by rw [hW1]; exact ((below_alloc w _).alloc (by simp) _).alloc (by simp; omega) _
 have hG1 : BL W1 w.heap.size 25 [.int .i64 (m : Int), .slice A es.length c] := by rw [hW1]; exact ((BL.new' w _ _).alloc _).alloc _
 have hR1 : BL W1 (w.heap.size + 1) 47 [.int .i64 0, .int .i64 0, .int .i64 0, .slice none 0 0, .slice none 0 0, .slice none 0 0] := by
   rw [hW1]
   have := BL.new' (w.alloc (.cells #[.int .i64 (m : Int), .slice A es.length c] 25)) #[.int .i64 0, .int .i64 0, .int .i64 0, .slice none 0 0, .slice none 0 0, .slice none 0 0] 47
   rw [World.size_alloc] at this
   exact this.alloc _
 have hC1 : BL W1 (w.heap.size + 1 + 1) 47 [.int .i64 (k : Int), .int .i64 0, .int .i64 0, .slice none 0 0, .slice none 0 0, .slice none 0 0] := by
   rw [hW1]
   have := BL.new' ((w.alloc (.cells #[.int .i64 (m : Int), .slice A es.length c] 25)).alloc (.cells #[.int .i64 0, .int .i64 0, .int .i64 0, .slice none 0 0, .slice none 0 0, .slice none 0 0] 47)) #[.int .i64 (k : Int), .int .i64 0, .int .i64 0, .slice none 0 0, .slice none 0 0, .slice none 0 0] 47
   rw [World.size_alloc, World.size_alloc] at this
   exact this
 have HU0 : Hid (∀ W, Calls Tryz.prog 61 #[.int .i64 (k : Int), .int .i64 0] W fun e w' => e = .returned (.bool false) /\ Below W.heap.size W w') := fun W => hU 0 W (by omega)
 have HU1 : Hid (∀ W, Calls Tryz.prog 61 #[.int .i64 (k : Int), .int .i64 1] W fun e w' => e = .returned (.bool false) /\ Below W.heap.size W w') := fun W => hU 1 W (by omega)
 have HU3 : Hid (∀ W, Calls Tryz.prog 61 #[.int .i64 (k : Int), .int .i64 3] W fun e w' => e = .returned (.bool false) /\ Below W.heap.size W w') := fun W => hU 3 W (by omega)
 have HU4 : Hid (∀ W, Calls Tryz.prog 61 #[.int .i64 (k : Int), .int .i64 4] W fun e w' => e = .returned (.bool true) /\ Below W.heap.size W w') := fun W => hU 4 W (by omega)
 have HG1 := Hd hG1
 have HR1 := Hd hR1
 have HC1 := Hd hC1
 have HB1 := Hd hb1
 have HW1 := Hd hW1
 have HRI := Hd hl
 clear hg hl hU hb1 hG1 hR1 hC1 hW1
 clear hcell
 go_enter Tryz.func54, Tryz.ntmps54
 go_wp2_with fail
 rw [<- HW1.out]
 refine (HU0.out _).mono ?_
 rintro e w2 ⟨rfl, hb2⟩
 have HG2 := Hd (HG1.out.bel hb2)
 have HR2 := Hd (HR1.out.bel hb2)
 have HC2 := Hd (HC1.out.bel hb2)
 have HB2 := Hd (HB1.out.trans (hb2.mono HB1.out.size))
 clear hb2 HU0
 go_wp2_with fail
 refine (HU1.out _).mono ?_
 rintro e w3 ⟨rfl, hb3⟩
 have HG3 := Hd (HG2.out.bel hb3)
 have HR3 := Hd (HR2.out.bel hb3)
 have HC3 := Hd (HC2.out.bel hb3)
 have HB3 := Hd (HB2.out.trans (hb3.mono HB2.out.size))
 clear hb3 HU1
 go_wp2_with fail
 refine (HU4.out _).mono ?_
 rintro e w4 ⟨rfl, hb4⟩
 have HG4 := Hd (HG3.out.bel hb4)
 have HR4 := Hd (HR3.out.bel hb4)
 have HC4 := Hd (HC3.out.bel hb4)
 have HB4 := Hd (HB3.out.trans (hb4.mono HB3.out.size))
 clear hb4 HU4
 have HRc : Hid (∀ W, RI W (.slice Al l.length cl) l -> RI W (.slice Al l.length cl) l) := fun _ h => h
 have HL2 : Hid (l2L false false l = l) := rfl
 have HLn : Hid (l.length = l.length) := rfl
 have HFe : Hid (fillE m false false false true l = (if l = [] \/ l.getD 0 0 ≠ (l.length : Int) - 1 then 8 else 0)) := by
   show _ = _
   unfold fillE
   rw [if_neg (fun h => by cases h.1), if_neg (fun h => by cases h.1), if_pos rfl]
   rfl
 generalize hL : l.length = L at *
 by_cases hn0 : l = []
 · have HRes : Hid (fillE m false false false true l = 8) := by show _ = _; rw [HFe.out, if_pos (.inl hn0)]
   obtain rfl : L = 0 := by rw [<- hL, hn0]; rfl
   clear hn0 HFe hL
   have HR9 := Hd (HR4.out.set6 (.int .i64 0) (.int .i64 0) (.int .i64 0) (.slice none 0 0) (.slice none 0 0) (.slice none 0 0))
   have HB9 := Hd (below6 HB4.out (show w.heap.size <= w.heap.size + 1 by omega) (.int .i64 0) (.int .i64 0) (.int .i64 0) (.slice none 0 0) (.slice none 0 0) (.slice none 0 0))
   have c0 := HR4.out.cell 0
   have f0 := HR4.out.frozen 0
   have c1 := HR4.out.cell 1
   have f1 := HR4.out.frozen 1
   have c2 := HR4.out.cell 2
   have f2 := HR4.out.frozen 2
   have c3 := HR4.out.cell 3
   have f3 := HR4.out.frozen 3
   have c4 := HR4.out.cell 4
   have f4 := HR4.out.frozen 4
   have c5 := HR4.out.cell 5
   have f5 := HR4.out.frozen 5
   go_wp2_with fail
   refine bodyPost_ret (results_row_tmp rfl _ _ (w.heap.size + 1) 47 #[.int .i64 0, .int .i64 0, .int .i64 0, .slice none 0 0, .slice none 0 0, .slice none 0 0] (0, 0) _ rfl HR9.out Tryz.underlying47 rfl claim57_size) rfl ?_
   exact ⟨_, _, _, _, _, _, by rw [HRes.out] <;> rfl, fun h => absurd (HRes.out.symm.trans h) (by decide), ⟨⟨_, _, _, rfl⟩, ⟨_, _, _, rfl⟩, ⟨_, _, _, rfl⟩⟩, HB9.out⟩
 obtain ⟨ad, rfl, -, hcc, hsf⟩ := RI.suf' HRI.out (List.length_pos_iff.2 hn0) 1 (List.length_pos_iff.2 hn0)
 have hLp : 0 < L := by rw [<- hL]; exact List.length_pos_iff.2 hn0
 obtain ⟨ad', z, hea, hzb, hz, hcz⟩ := (RI.open_ HRI.out).elim fun A' h => h.elim fun c' h => by
   obtain ⟨he, -, -, hcell⟩ := h
   simp only [Value.slice.injEq] at he
   obtain ⟨rfl, -, rfl⟩ := he
   exact hcell 0 (List.length_pos_iff.2 hn0)
 obtain rfl : ad = ad' := by simpa using hea
 rw [add_zero'] at hcz
 have hzz : l.getD 0 0 = z := getD_of' hz.out
 obtain ⟨A1, hA1⟩ : ∃ A1, A1 = if cl = 1 then some ad else some (ad.add 1) := ⟨_, rfl⟩
 have hslice : ∀ W : World, (Instr.slice 37 (.slice (some ad) L cl) (some (.int .i64 1)) none none).run Tryz.prog W = .ok (.slice A1 (L - 1) (cl - 1)) W := fun W => by
   rw [run_slice_l W 37 (some ad) L cl Tryz.underlying37 .i64 1 (by omega) (by omega), hA1]
   simp [go_sem]
 have HSf : Hid (∀ W, RI W (.slice (some ad) l.length cl) l -> RI W (.slice A1 (L - 1) (cl - 1)) (l.drop 1)) := fun W hW => by
   obtain ⟨ad', he, -, -, hsf⟩ := RI.suf' hW (List.length_pos_iff.2 hn0) 1 (List.length_pos_iff.2 hn0)
   obtain rfl : ad = ad' := by simpa using he
   rw [hL] at hsf
   rw [hA1]; exact hsf
 have hpos2 : (0 : Int) < (L : Int) := by omega
 have hL0 : L ≠ 0 := by omega
 clear hA1
 have hcw := (HB4.out.cell (p := ad) hzb).trans hcz
 by_cases hzl : z ≠ (L : Int) - 1
 · have HRes : Hid (fillE m false false false true l = 8) := by show _ = _; rw [HFe.out, if_pos (.inr (by rw [hzz]; exact hzl))]
   have t1 : ((L : Int) == 0) = false := by rw [beq_eq_false_iff_ne]; omega
   have t2 : (z != (L : Int) - 1) = true := by simpa using hzl
   clear hL hn0 hsf hea hzb hz hcz hzz hzl HFe hcc
   have HR9 := Hd (HR4.out.set6 (.int .i64 0) (.int .i64 0) (.int .i64 0) (.slice none 0 0) (.slice none 0 0) (.slice none 0 0))
   have HB9 := Hd (below6 HB4.out (show w.heap.size <= w.heap.size + 1 by omega) (.int .i64 0) (.int .i64 0) (.int .i64 0) (.slice none 0 0) (.slice none 0 0) (.slice none 0 0))
   have c0 := HR4.out.cell 0
   have f0 := HR4.out.frozen 0
   have c1 := HR4.out.cell 1
   have f1 := HR4.out.frozen 1
   have c2 := HR4.out.cell 2
   have f2 := HR4.out.frozen 2
   have c3 := HR4.out.cell 3
   have f3 := HR4.out.frozen 3
   have c4 := HR4.out.cell 4
   have f4 := HR4.out.frozen 4
   have c5 := HR4.out.cell 5
   have f5 := HR4.out.frozen 5
   go_wp2_with fail
   refine bodyPost_ret (results_row_tmp rfl _ _ (w.heap.size + 1) 47 #[.int .i64 0, .int .i64 0, .int .i64 0, .slice none 0 0, .slice none 0 0, .slice none 0 0] (0, 0) _ rfl HR9.out Tryz.underlying47 rfl claim57_size) rfl ?_
   exact ⟨_, _, _, _, _, _, by rw [HRes.out] <;> rfl, fun h => absurd (HRes.out.symm.trans h) (by decide), ⟨⟨_, _, _, rfl⟩, ⟨_, _, _, rfl⟩, ⟨_, _, _, rfl⟩⟩, HB9.out⟩
 have HRes : Hid (fillE m false false false true l = 0) := by
   show _ = _
   rw [HFe.out, if_neg]
   rintro (h | h)
   · exact hn0 h
   · exact hzl (by rw [<- hzz]; exact h)
 have t1 : ((L : Int) == 0) = false := by rw [beq_eq_false_iff_ne]; omega
 have t2 : (z != (L : Int) - 1) = false := by simp at hzl ⊢; omega
 clear hL hn0 hsf hea hzb hz hcz hzz hzl HFe hcc
 have w5 := HC4.out.cell 5
 have v5 := HC4.out.frozen 5
 go_upto_region 12 with fail
 clear hslice
 generalize L - 1 = m1 at *
 generalize cl - 1 = e1 at *
 have hs4 := HB4.out.size
 have HC8 := Hd (HC4.out.set 5 (.slice A1 m1 e1))
 have HR8 := Hd (HR4.out.set_other (a := ⟨w.heap.size + 1 + 1, 5, none⟩) (by dsimp only; omega) (.slice A1 m1 e1))
 have HB8 := Hd (HB4.out.setCell (p := ⟨w.heap.size + 1 + 1, 5, none⟩) (by dsimp only; omega) (.slice A1 m1 e1))
 generalize w4.setCell ⟨w.heap.size + 1 + 1, 5, none⟩ (.slice A1 m1 e1) = w8 at *
 have HR9 := Hd (HR8.out.set6 (.int .i64 (k : Int)) (.int .i64 0) (.int .i64 0) (.slice none 0 0) (.slice none 0 0) (.slice A1 m1 e1))
 have HB9 := Hd (below6 HB8.out (show w.heap.size <= w.heap.size + 1 by omega) (.int .i64 (k : Int)) (.int .i64 0) (.int .i64 0) (.slice none 0 0) (.slice none 0 0) (.slice A1 m1 e1))
 have c0 := HR8.out.cell 0
 have f0 := HR8.out.frozen 0
 have c1 := HR8.out.cell 1
 have f1 := HR8.out.frozen 1
 have c2 := HR8.out.cell 2
 have f2 := HR8.out.frozen 2
 have c3 := HR8.out.cell 3
 have f3 := HR8.out.frozen 3
 have c4 := HR8.out.cell 4
 have f4 := HR8.out.frozen 4
 have c5 := HR8.out.cell 5
 have f5 := HR8.out.frozen 5
 have u0 := HC8.out.cell 0
 have u1 := HC8.out.cell 1
 have u2 := HC8.out.cell 2
 have u3 := HC8.out.cell 3
 have u4 := HC8.out.cell 4
 have u5 := HC8.out.cell 5
 go_wp2_with fail
 refine bodyPost_ret (results_row_tmp rfl _ _ (w.heap.size + 1) 47 #[.int .i64 (k : Int), .int .i64 0, .int .i64 0, .slice none 0 0, .slice none 0 0, .slice A1 m1 e1] (0, 0) _ rfl HR9.out Tryz.underlying47 rfl claim57_size) rfl ?_
 refine ⟨_, _, _, _, _, _, by rw [HRes.out] <;> rfl, fun _ => ⟨rfl, rfl, rfl, fun W hW => ⟨?_, ?_, ?_⟩⟩, ⟨⟨_, _, _, rfl⟩, ⟨_, _, _, rfl⟩, ⟨_, _, _, rfl⟩⟩, HB9.out⟩
 · exact RI.emp rfl rfl rfl
 · exact RI.emp rfl rfl rfl
 · exact HSf.out W hW
theorem given_01c (g lv : Value) (m k : Nat) (es : List Tri) (l : List Int) (w : World) (hg : GV w g m es) (hl : RI w lv l)  (hll : l.length <= 100000) (h1 : 1 <= l.length)
   (hU : ∀ (f : Nat) (W : World), f < 5 -> Calls Tryz.prog 61 #[.int .i64 (k : Int), .int .i64 (f : Int)] W fun e w' => e = .returned (.bool (([false, true, true, false, false] : List Bool).getD f false)) /\ Below W.heap.size W w') :
   Calls Tryz.prog 54 #[g, .int .i64 (k : Int), lv] w fun e w' => GivQ m k false true false false lv l w e w' := by
 obtain ⟨Al, cl, rfl, hlc, -, hcell⟩ := id hl |>.open_
 obtain ⟨A, c, rfl, -⟩ := hg.open_
 obtain ⟨W1, hW1⟩ : ∃ W1, W1 = ((w.alloc (.cells #[.int .i64 (m : Int), .slice A es.length c] 25)).alloc (.cells #[.int .i64 0, .int .i64 0, .int .i64 0, .slice none 0 0, .slice none 0 0, .slice none 0 0] 47)).alloc (.cells #[.int .i64 (k : Int), .int .i64 0, .int .i64 0, .slice none 0 0, .slice none 0 0, .slice none 0 0] 47) := ⟨_, rfl⟩
 have hb1 : Below w.heap.size w W1 := by rw [hW1]; exact ((below_alloc w _).alloc (by simp) _).alloc (by simp; omega) _
 have hG1 : BL W1 w.heap.size 25 [.int .i64 (m : Int), .slice A es.length c] := by rw [hW1]; exact ((BL.new' w _ _).alloc _).alloc _
 have hR1 : BL W1 (w.heap.size + 1) 47 [.int .i64 0, .int .i64 0, .int .i64 0, .slice none 0 0, .slice none 0 0, .slice none 0 0] := by
   rw [hW1]
   have := BL.new' (w.alloc (.cells #[.int .i64 (m : Int), .slice A es.length c] 25)) #[.int .i64 0, .int .i64 0, .int .i64 0, .slice none 0 0, .slice none 0 0, .slice none 0 0] 47
   rw [World.size_alloc] at this
   exact this.alloc _
 have hC1 : BL W1 (w.heap.size + 1 + 1) 47 [.int .i64 (k : Int), .int .i64 0, .int .i64 0, .slice none 0 0, .slice none 0 0, .slice none 0 0] := by
   rw [hW1]
   have := BL.new' ((w.alloc (.cells #[.int .i64 (m : Int), .slice A es.length c] 25)).alloc (.cells #[.int .i64 0, .int .i64 0, .int .i64 0, .slice none 0 0, .slice none 0 0, .slice none 0 0] 47)) #[.int .i64 (k : Int), .int .i64 0, .int .i64 0, .slice none 0 0, .slice none 0 0, .slice none 0 0] 47
   rw [World.size_alloc, World.size_alloc] at this
   exact this
 have HU0 : Hid (∀ W, Calls Tryz.prog 61 #[.int .i64 (k : Int), .int .i64 0] W fun e w' => e = .returned (.bool false) /\ Below W.heap.size W w') := fun W => hU 0 W (by omega)
 have HU1 : Hid (∀ W, Calls Tryz.prog 61 #[.int .i64 (k : Int), .int .i64 1] W fun e w' => e = .returned (.bool true) /\ Below W.heap.size W w') := fun W => hU 1 W (by omega)
 have HU3 : Hid (∀ W, Calls Tryz.prog 61 #[.int .i64 (k : Int), .int .i64 3] W fun e w' => e = .returned (.bool false) /\ Below W.heap.size W w') := fun W => hU 3 W (by omega)
 have HU4 : Hid (∀ W, Calls Tryz.prog 61 #[.int .i64 (k : Int), .int .i64 4] W fun e w' => e = .returned (.bool false) /\ Below W.heap.size W w') := fun W => hU 4 W (by omega)
 have HG1 := Hd hG1
 have HR1 := Hd hR1
 have HC1 := Hd hC1
 have HB1 := Hd hb1
 have HW1 := Hd hW1
 have HRI := Hd hl
 have H1 := Hd h1
 clear hg hl hU hb1 hG1 hR1 hC1 hW1
 obtain ⟨ad, z, rfl, hzb, hz, hcz⟩ := hcell 0 (by omega)
 rw [add_zero'] at hcz
 have HZ : Hid (l.getD 0 0 = z) := getD_of' hz.out
 have HZb := Hd hzb
 have HCz := Hd hcz
 have hpos : (0 : Int) < (l.length : Int) := by omega
 obtain ⟨A1, hA1⟩ : ∃ A1, A1 = if cl = 1 then some ad else some (ad.add 1) := ⟨_, rfl⟩
 have hslice : ∀ W : World, (Instr.slice 37 (.slice (some ad) l.length cl) (some (.int .i64 1)) none none).run Tryz.prog W = .ok (.slice A1 (l.length - 1) (cl - 1)) W := fun W => by
   rw [run_slice_l W 37 (some ad) l.length cl Tryz.underlying37 .i64 1 (by omega) (by omega), hA1]
   simp [go_sem]
 have HSf : Hid (∀ W, RI W (.slice (some ad) l.length cl) l -> RI W (.slice A1 (l.length - 1) (cl - 1)) (l.drop 1)) := fun W hW => by
   obtain ⟨ad', he, -, -, hsf⟩ := RI.suf' hW h1 1 h1
   obtain rfl : ad = ad' := by simpa using he
   rw [hA1]; exact hsf
 clear hzb hcz hz hA1
 clear hcell
 go_enter Tryz.func54, Tryz.ntmps54
 go_wp2_with fail
 rw [<- HW1.out]
 refine (HU0.out _).mono ?_
 rintro e w2 ⟨rfl, hb2⟩
 have HG2 := Hd (HG1.out.bel hb2)
 have HR2 := Hd (HR1.out.bel hb2)
 have HC2 := Hd (HC1.out.bel hb2)
 have HB2 := Hd (HB1.out.trans (hb2.mono HB1.out.size))
 clear hb2 HU0
 go_wp2_with fail
 refine (HU1.out _).mono ?_
 rintro e w3 ⟨rfl, hb3⟩
 have HG3 := Hd (HG2.out.bel hb3)
 have HR3 := Hd (HR2.out.bel hb3)
 have HC3 := Hd (HC2.out.bel hb3)
 have HB3 := Hd (HB2.out.trans (hb3.mono HB2.out.size))
 clear hb3 HU1
 have hcz := (HB3.out.cell (p := ad) HZb.out).trans HCz.out
 have x3 := HC3.out.cell 2
 have y3 := HC3.out.frozen 2
 have hs3 := HB3.out.size
 have HC4 := Hd (HC3.out.set 2 (.int .i64 z))
 have HG4 := Hd (HG3.out.set_other (a := ⟨w.heap.size + 1 + 1, 2, none⟩) (by dsimp only; omega) (.int .i64 z))
 have HR4 := Hd (HR3.out.set_other (a := ⟨w.heap.size + 1 + 1, 2, none⟩) (by dsimp only; omega) (.int .i64 z))
 have HB4 := Hd (HB3.out.setCell (p := ⟨w.heap.size + 1 + 1, 2, none⟩) (by dsimp only; omega) (.int .i64 z))
 have h1' : 1 <= l.length := h1
 go_wp2_with fail
 clear hcz x3 y3 hs3 h1'
 generalize w3.setCell ⟨w.heap.size + 1 + 1, 2, none⟩ (.int .i64 z) = w4 at *
 clear hslice
 have HM1 : Hid (l.length - 1 = (l.drop 1).length) := by show _ = _; rw [List.length_drop]
 generalize hm1 : l.length - 1 = m1 at *
 generalize he1 : cl - 1 = e1 at *
 have HLe := Hd (show m1 <= e1 by omega)
 have HLm := Hd (show m1 <= 100000 by omega)
 clear hm1 he1 hlc hll h1 hpos
 refine (HU4.out _).mono ?_
 rintro e w5 ⟨rfl, hb5⟩
 have HG5 := Hd (HG4.out.bel hb5)
 have HR5 := Hd (HR4.out.bel hb5)
 have HC5 := Hd (HC4.out.bel hb5)
 have HB5 := Hd (HB4.out.trans (hb5.mono HB4.out.size))
 clear hb5 HU4
 go_wp2_with fail
 refine (HU3.out _).mono ?_
 rintro e w6 ⟨rfl, hb6⟩
 have HG6 := Hd (HG5.out.bel hb6)
 have HR6 := Hd (HR5.out.bel hb6)
 have HC6 := Hd (HC5.out.bel hb6)
 have HB6 := Hd (HB5.out.trans (hb6.mono HB5.out.size))
 clear hb6 HU3
 have hlc := HLe.out
 have hll := HLm.out
 have HRc := HSf
 clear HCz HZb
 have HL2 : Hid (l2L false true l = l.drop 1) := rfl
 have HLn : Hid ((l.drop 1).length = m1) := HM1.out.symm
 have HFe : Hid (fillE m false true false false l = (if ((l.drop 1).length : Int) ≠ m then 8 else 0)) := by
   have hne : l ≠ [] := fun h => by have h9 := H1.out; rw [h] at h9; exact absurd h9 (by decide)
   show _ = _
   unfold fillE
   rw [if_neg (fun h => by cases h.1), if_neg (fun h => hne h.2), if_neg (by decide), if_neg (by decide)]
   rfl
 rw [HLn.out] at HFe
 have w3 := HC6.out.cell 3
 have v3 := HC6.out.frozen 3
 have hs6 := HB6.out.size
 go_upto_region 19 with fail
 have HC8 := Hd (HC6.out.set 3 (.slice A1 m1 e1))
 have HG8 := Hd (HG6.out.set_other (a := ⟨w.heap.size + 1 + 1, 3, none⟩) (by dsimp only; omega) (.slice A1 m1 e1))
 have HR8 := Hd (HR6.out.set_other (a := ⟨w.heap.size + 1 + 1, 3, none⟩) (by dsimp only; omega) (.slice A1 m1 e1))
 have HB8 := Hd (HB6.out.setCell (p := ⟨w.heap.size + 1 + 1, 3, none⟩) (by dsimp only; omega) (.slice A1 m1 e1))
 generalize w6.setCell ⟨w.heap.size + 1 + 1, 3, none⟩ (.slice A1 m1 e1) = w8 at *
 clear w3 v3
 have HR9 := Hd (HR8.out.set6 (.int .i64 (k : Int)) (.int .i64 0) (.int .i64 z) (.slice A1 m1 e1) (.slice none 0 0) (.slice none 0 0))
 have HB9 := Hd (below6 HB8.out (show w.heap.size <= w.heap.size + 1 by omega) (.int .i64 (k : Int)) (.int .i64 0) (.int .i64 z) (.slice A1 m1 e1) (.slice none 0 0) (.slice none 0 0))
 have c0 := HR8.out.cell 0
 have f0 := HR8.out.frozen 0
 have c1 := HR8.out.cell 1
 have f1 := HR8.out.frozen 1
 have c2 := HR8.out.cell 2
 have f2 := HR8.out.frozen 2
 have c3 := HR8.out.cell 3
 have f3 := HR8.out.frozen 3
 have c4 := HR8.out.cell 4
 have f4 := HR8.out.frozen 4
 have c5 := HR8.out.cell 5
 have f5 := HR8.out.frozen 5
 have g0 := HG8.out.cell 0
 have u0 := HC8.out.cell 0
 have u1 := HC8.out.cell 1
 have u2 := HC8.out.cell 2
 have u3 := HC8.out.cell 3
 have u4 := HC8.out.cell 4
 have u5 := HC8.out.cell 5
 have hs9 := HB8.out.size
 by_cases hcl2 : (m1 : Int) = m
 · have HRes : Hid (fillE m false true false false l = 0) := by show _ = _; rw [HFe.out, if_neg (fun h => h hcl2)]
   have t1 : ((m1 : Int) == (m : Int)) = true := by simpa using hcl2
   have HFm : Hid (fA m false false (l2L false true l) = (l.drop 1)) := rfl
   clear hcl2 HFe
   go_region
   have HR9d := Hd HR9.out.drew
   have HB9d := Hd HB9.out.drew
   clear HR9 HB9
   have HR9 := HR9d
   have HB9 := HB9d
   go_wp2_with fail
   refine bodyPost_ret (results_row_tmp rfl _ _ (w.heap.size + 1) 47 #[.int .i64 (k : Int), .int .i64 0, .int .i64 z, .slice A1 m1 e1, .slice none 0 0, .slice none 0 0] (0, 0) _ rfl HR9.out Tryz.underlying47 rfl claim57_size) rfl ?_
   refine ⟨_, _, _, _, _, _, by rw [HRes.out] <;> rfl, fun _ => ⟨rfl, rfl, HZ.out.symm, fun W hW => ⟨?_, ?_, ?_⟩⟩, ⟨⟨_, _, _, rfl⟩, ⟨_, _, _, rfl⟩, ⟨_, _, _, rfl⟩⟩, HB9.out⟩
   · rw [HFm.out]; exact HRc.out W hW
   · exact RI.emp rfl rfl rfl
   · exact RI.emp rfl rfl rfl
 · have HRes : Hid (fillE m false true false false l = 8) := by show _ = _; rw [HFe.out, if_pos hcl2]
   have t1 : ((m1 : Int) == (m : Int)) = false := by simpa using hcl2
   clear hcl2 HFe
   go_region
   have HR9d := Hd HR9.out.drew
   have HB9d := Hd HB9.out.drew
   clear HR9 HB9
   have HR9 := HR9d
   have HB9 := HB9d
   go_wp2_with fail
   refine bodyPost_ret (results_row_tmp rfl _ _ (w.heap.size + 1) 47 #[.int .i64 (k : Int), .int .i64 0, .int .i64 z, .slice A1 m1 e1, .slice none 0 0, .slice none 0 0] (0, 0) _ rfl HR9.out Tryz.underlying47 rfl claim57_size) rfl ?_
   exact ⟨_, _, _, _, _, _, by rw [HRes.out] <;> rfl, fun h => absurd (HRes.out.symm.trans h) (by decide), ⟨⟨_, _, _, rfl⟩, ⟨_, _, _, rfl⟩, ⟨_, _, _, rfl⟩⟩, HB9.out⟩
theorem given_10c (g lv : Value) (m k : Nat) (es : List Tri) (l : List Int) (w : World) (hg : GV w g m es) (hl : RI w lv l)  (hll : l.length <= 100000) (h1 : 1 <= l.length)
   (hU : ∀ (f : Nat) (W : World), f < 5 -> Calls Tryz.prog 61 #[.int .i64 (k : Int), .int .i64 (f : Int)] W fun e w' => e = .returned (.bool (([true, false, true, false, false] : List Bool).getD f false)) /\ Below W.heap.size W w') :
   Calls Tryz.prog 54 #[g, .int .i64 (k : Int), lv] w fun e w' => GivQ m k true false false false lv l w e w' := by
 obtain ⟨Al, cl, rfl, hlc, -, hcell⟩ := id hl |>.open_
 obtain ⟨A, c, rfl, -⟩ := hg.open_
 obtain ⟨W1, hW1⟩ : ∃ W1, W1 = ((w.alloc (.cells #[.int .i64 (m : Int), .slice A es.length c] 25)).alloc (.cells #[.int .i64 0, .int .i64 0, .int .i64 0, .slice none 0 0, .slice none 0 0, .slice none 0 0] 47)).alloc (.cells #[.int .i64 (k : Int), .int .i64 0, .int .i64 0, .slice none 0 0, .slice none 0 0, .slice none 0 0] 47) := ⟨_, rfl⟩
 have hb1 : Below w.heap.size w W1 := by rw [hW1]; exact ((below_alloc w _).alloc (by simp) _).alloc (by simp; omega) _
 have hG1 : BL W1 w.heap.size 25 [.int .i64 (m : Int), .slice A es.length c] := by rw [hW1]; exact ((BL.new' w _ _).alloc _).alloc _
 have hR1 : BL W1 (w.heap.size + 1) 47 [.int .i64 0, .int .i64 0, .int .i64 0, .slice none 0 0, .slice none 0 0, .slice none 0 0] := by
   rw [hW1]
   have := BL.new' (w.alloc (.cells #[.int .i64 (m : Int), .slice A es.length c] 25)) #[.int .i64 0, .int .i64 0, .int .i64 0, .slice none 0 0, .slice none 0 0, .slice none 0 0] 47
   rw [World.size_alloc] at this
   exact this.alloc _
 have hC1 : BL W1 (w.heap.size + 1 + 1) 47 [.int .i64 (k : Int), .int .i64 0, .int .i64 0, .slice none 0 0, .slice none 0 0, .slice none 0 0] := by
   rw [hW1]
   have := BL.new' ((w.alloc (.cells #[.int .i64 (m : Int), .slice A es.length c] 25)).alloc (.cells #[.int .i64 0, .int .i64 0, .int .i64 0, .slice none 0 0, .slice none 0 0, .slice none 0 0] 47)) #[.int .i64 (k : Int), .int .i64 0, .int .i64 0, .slice none 0 0, .slice none 0 0, .slice none 0 0] 47
   rw [World.size_alloc, World.size_alloc] at this
   exact this
 have HU0 : Hid (∀ W, Calls Tryz.prog 61 #[.int .i64 (k : Int), .int .i64 0] W fun e w' => e = .returned (.bool true) /\ Below W.heap.size W w') := fun W => hU 0 W (by omega)
 have HU1 : Hid (∀ W, Calls Tryz.prog 61 #[.int .i64 (k : Int), .int .i64 1] W fun e w' => e = .returned (.bool false) /\ Below W.heap.size W w') := fun W => hU 1 W (by omega)
 have HU3 : Hid (∀ W, Calls Tryz.prog 61 #[.int .i64 (k : Int), .int .i64 3] W fun e w' => e = .returned (.bool false) /\ Below W.heap.size W w') := fun W => hU 3 W (by omega)
 have HU4 : Hid (∀ W, Calls Tryz.prog 61 #[.int .i64 (k : Int), .int .i64 4] W fun e w' => e = .returned (.bool false) /\ Below W.heap.size W w') := fun W => hU 4 W (by omega)
 have HG1 := Hd hG1
 have HR1 := Hd hR1
 have HC1 := Hd hC1
 have HB1 := Hd hb1
 have HW1 := Hd hW1
 have HRI := Hd hl
 have H1 := Hd h1
 clear hg hl hU hb1 hG1 hR1 hC1 hW1
 obtain ⟨ad, z, rfl, hzb, hz, hcz⟩ := hcell 0 (by omega)
 rw [add_zero'] at hcz
 have HZ : Hid (l.getD 0 0 = z) := getD_of' hz.out
 have HZb := Hd hzb
 have HCz := Hd hcz
 have hpos : (0 : Int) < (l.length : Int) := by omega
 obtain ⟨A1, hA1⟩ : ∃ A1, A1 = if cl = 1 then some ad else some (ad.add 1) := ⟨_, rfl⟩
 have hslice : ∀ W : World, (Instr.slice 37 (.slice (some ad) l.length cl) (some (.int .i64 1)) none none).run Tryz.prog W = .ok (.slice A1 (l.length - 1) (cl - 1)) W := fun W => by
   rw [run_slice_l W 37 (some ad) l.length cl Tryz.underlying37 .i64 1 (by omega) (by omega), hA1]
   simp [go_sem]
 have HSf : Hid (∀ W, RI W (.slice (some ad) l.length cl) l -> RI W (.slice A1 (l.length - 1) (cl - 1)) (l.drop 1)) := fun W hW => by
   obtain ⟨ad', he, -, -, hsf⟩ := RI.suf' hW h1 1 h1
   obtain rfl : ad = ad' := by simpa using he
   rw [hA1]; exact hsf
 clear hzb hcz hz hA1
 clear hcell
 go_enter Tryz.func54, Tryz.ntmps54
 go_wp2_with fail
 rw [<- HW1.out]
 refine (HU0.out _).mono ?_
 rintro e w2 ⟨rfl, hb2⟩
 have HG2 := Hd (HG1.out.bel hb2)
 have HR2 := Hd (HR1.out.bel hb2)
 have HC2 := Hd (HC1.out.bel hb2)
 have HB2 := Hd (HB1.out.trans (hb2.mono HB1.out.size))
 clear hb2 HU0
 have hcz := (HB2.out.cell (p := ad) HZb.out).trans HCz.out
 have x2 := HC2.out.cell 1
 have y2 := HC2.out.frozen 1
 have hs2 := HB2.out.size
 have HC3 := Hd (HC2.out.set 1 (.int .i64 z))
 have HG3 := Hd (HG2.out.set_other (a := ⟨w.heap.size + 1 + 1, 1, none⟩) (by dsimp only; omega) (.int .i64 z))
 have HR3 := Hd (HR2.out.set_other (a := ⟨w.heap.size + 1 + 1, 1, none⟩) (by dsimp only; omega) (.int .i64 z))
 have HB3 := Hd (HB2.out.setCell (p := ⟨w.heap.size + 1 + 1, 1, none⟩) (by dsimp only; omega) (.int .i64 z))
 have h1' : 1 <= l.length := h1
 go_wp2_with fail
 clear hcz x2 y2 hs2 h1'
 generalize w2.setCell ⟨w.heap.size + 1 + 1, 1, none⟩ (.int .i64 z) = w3 at *
 clear hslice
 have HM1 : Hid (l.length - 1 = (l.drop 1).length) := by show _ = _; rw [List.length_drop]
 generalize hm1 : l.length - 1 = m1 at *
 generalize he1 : cl - 1 = e1 at *
 have HLe := Hd (show m1 <= e1 by omega)
 have HLm := Hd (show m1 <= 100000 by omega)
 clear hm1 he1 hlc hll h1 hpos
 refine (HU1.out _).mono ?_
 rintro e w4 ⟨rfl, hb4⟩
 have HG4 := Hd (HG3.out.bel hb4)
 have HR4 := Hd (HR3.out.bel hb4)
 have HC4 := Hd (HC3.out.bel hb4)
 have HB4 := Hd (HB3.out.trans (hb4.mono HB3.out.size))
 clear hb4 HU1
 go_wp2_with fail
 refine (HU4.out _).mono ?_
 rintro e w5 ⟨rfl, hb5⟩
 have HG5 := Hd (HG4.out.bel hb5)
 have HR5 := Hd (HR4.out.bel hb5)
 have HC5 := Hd (HC4.out.bel hb5)
 have HB5 := Hd (HB4.out.trans (hb5.mono HB4.out.size))
 clear hb5 HU4
 go_wp2_with fail
 refine (HU3.out _).mono ?_
 rintro e w6 ⟨rfl, hb6⟩
 have HG6 := Hd (HG5.out.bel hb6)
 have HR6 := Hd (HR5.out.bel hb6)
 have HC6 := Hd (HC5.out.bel hb6)
 have HB6 := Hd (HB5.out.trans (hb6.mono HB5.out.size))
 clear hb6 HU3
 have hlc := HLe.out
 have hll := HLm.out
 have HRc := HSf
 clear HCz HZb
 have HL2 : Hid (l2L true false l = l.drop 1) := rfl
 have HLn : Hid ((l.drop 1).length = m1) := HM1.out.symm
 have HFe : Hid (fillE m true false false false l = (if ((l.drop 1).length : Int) ≠ m then 8 else 0)) := by
   have hne : l ≠ [] := fun h => by have h9 := H1.out; rw [h] at h9; exact absurd h9 (by decide)
   show _ = _
   unfold fillE
   rw [if_neg (fun h => hne h.2), if_neg (fun h => by cases h.1), if_neg (by decide), if_neg (by decide)]
   rfl
 rw [HLn.out] at HFe
 have w3 := HC6.out.cell 3
 have v3 := HC6.out.frozen 3
 have hs6 := HB6.out.size
 go_upto_region 19 with fail
 have HC8 := Hd (HC6.out.set 3 (.slice A1 m1 e1))
 have HG8 := Hd (HG6.out.set_other (a := ⟨w.heap.size + 1 + 1, 3, none⟩) (by dsimp only; omega) (.slice A1 m1 e1))
 have HR8 := Hd (HR6.out.set_other (a := ⟨w.heap.size + 1 + 1, 3, none⟩) (by dsimp only; omega) (.slice A1 m1 e1))
 have HB8 := Hd (HB6.out.setCell (p := ⟨w.heap.size + 1 + 1, 3, none⟩) (by dsimp only; omega) (.slice A1 m1 e1))
 generalize w6.setCell ⟨w.heap.size + 1 + 1, 3, none⟩ (.slice A1 m1 e1) = w8 at *
 clear w3 v3
 have HR9 := Hd (HR8.out.set6 (.int .i64 (k : Int)) (.int .i64 z) (.int .i64 0) (.slice A1 m1 e1) (.slice none 0 0) (.slice none 0 0))
 have HB9 := Hd (below6 HB8.out (show w.heap.size <= w.heap.size + 1 by omega) (.int .i64 (k : Int)) (.int .i64 z) (.int .i64 0) (.slice A1 m1 e1) (.slice none 0 0) (.slice none 0 0))
 have c0 := HR8.out.cell 0
 have f0 := HR8.out.frozen 0
 have c1 := HR8.out.cell 1
 have f1 := HR8.out.frozen 1
 have c2 := HR8.out.cell 2
 have f2 := HR8.out.frozen 2
 have c3 := HR8.out.cell 3
 have f3 := HR8.out.frozen 3
 have c4 := HR8.out.cell 4
 have f4 := HR8.out.frozen 4
 have c5 := HR8.out.cell 5
 have f5 := HR8.out.frozen 5
 have g0 := HG8.out.cell 0
 have u0 := HC8.out.cell 0
 have u1 := HC8.out.cell 1
 have u2 := HC8.out.cell 2
 have u3 := HC8.out.cell 3
 have u4 := HC8.out.cell 4
 have u5 := HC8.out.cell 5
 have hs9 := HB8.out.size
 by_cases hcl2 : (m1 : Int) = m
 · have HRes : Hid (fillE m true false false false l = 0) := by show _ = _; rw [HFe.out, if_neg (fun h => h hcl2)]
   have t1 : ((m1 : Int) == (m : Int)) = true := by simpa using hcl2
   have HFm : Hid (fA m false false (l2L true false l) = (l.drop 1)) := rfl
   clear hcl2 HFe
   go_region
   have HR9d := Hd HR9.out.drew
   have HB9d := Hd HB9.out.drew
   clear HR9 HB9
   have HR9 := HR9d
   have HB9 := HB9d
   go_wp2_with fail
   refine bodyPost_ret (results_row_tmp rfl _ _ (w.heap.size + 1) 47 #[.int .i64 (k : Int), .int .i64 z, .int .i64 0, .slice A1 m1 e1, .slice none 0 0, .slice none 0 0] (0, 0) _ rfl HR9.out Tryz.underlying47 rfl claim57_size) rfl ?_
   refine ⟨_, _, _, _, _, _, by rw [HRes.out] <;> rfl, fun _ => ⟨rfl, HZ.out.symm, rfl, fun W hW => ⟨?_, ?_, ?_⟩⟩, ⟨⟨_, _, _, rfl⟩, ⟨_, _, _, rfl⟩, ⟨_, _, _, rfl⟩⟩, HB9.out⟩
   · rw [HFm.out]; exact HRc.out W hW
   · exact RI.emp rfl rfl rfl
   · exact RI.emp rfl rfl rfl
 · have HRes : Hid (fillE m true false false false l = 8) := by show _ = _; rw [HFe.out, if_pos hcl2]
   have t1 : ((m1 : Int) == (m : Int)) = false := by simpa using hcl2
   clear hcl2 HFe
   go_region
   have HR9d := Hd HR9.out.drew
   have HB9d := Hd HB9.out.drew
   clear HR9 HB9
   have HR9 := HR9d
   have HB9 := HB9d
   go_wp2_with fail
   refine bodyPost_ret (results_row_tmp rfl _ _ (w.heap.size + 1) 47 #[.int .i64 (k : Int), .int .i64 z, .int .i64 0, .slice A1 m1 e1, .slice none 0 0, .slice none 0 0] (0, 0) _ rfl HR9.out Tryz.underlying47 rfl claim57_size) rfl ?_
   exact ⟨_, _, _, _, _, _, by rw [HRes.out] <;> rfl, fun h => absurd (HRes.out.symm.trans h) (by decide), ⟨⟨_, _, _, rfl⟩, ⟨_, _, _, rfl⟩, ⟨_, _, _, rfl⟩⟩, HB9.out⟩
theorem given_10b (g lv : Value) (m k : Nat) (es : List Tri) (l : List Int) (w : World) (hg : GV w g m es) (hl : RI w lv l) (hm1 : 1 <= m) (hm : m <= 12) (hll : l.length <= 100000) (h1 : 1 <= l.length)
   (hU : ∀ (f : Nat) (W : World), f < 5 -> Calls Tryz.prog 61 #[.int .i64 (k : Int), .int .i64 (f : Int)] W fun e w' => e = .returned (.bool (([true, false, true, true, false] : List Bool).getD f false)) /\ Below W.heap.size W w') :
   Calls Tryz.prog 54 #[g, .int .i64 (k : Int), lv] w fun e w' => GivQ m k true false true false lv l w e w' := by
 obtain ⟨Al, cl, rfl, hlc, -, hcell⟩ := id hl |>.open_
 obtain ⟨A, c, rfl, -⟩ := hg.open_
 obtain ⟨W1, hW1⟩ : ∃ W1, W1 = ((w.alloc (.cells #[.int .i64 (m : Int), .slice A es.length c] 25)).alloc (.cells #[.int .i64 0, .int .i64 0, .int .i64 0, .slice none 0 0, .slice none 0 0, .slice none 0 0] 47)).alloc (.cells #[.int .i64 (k : Int), .int .i64 0, .int .i64 0, .slice none 0 0, .slice none 0 0, .slice none 0 0] 47) := ⟨_, rfl⟩
 have hb1 : Below w.heap.size w W1 := by rw [hW1]; exact ((below_alloc w _).alloc (by simp) _).alloc (by simp; omega) _
 have hG1 : BL W1 w.heap.size 25 [.int .i64 (m : Int), .slice A es.length c] := by rw [hW1]; exact ((BL.new' w _ _).alloc _).alloc _
 have hR1 : BL W1 (w.heap.size + 1) 47 [.int .i64 0, .int .i64 0, .int .i64 0, .slice none 0 0, .slice none 0 0, .slice none 0 0] := by
   rw [hW1]
   have := BL.new' (w.alloc (.cells #[.int .i64 (m : Int), .slice A es.length c] 25)) #[.int .i64 0, .int .i64 0, .int .i64 0, .slice none 0 0, .slice none 0 0, .slice none 0 0] 47
   rw [World.size_alloc] at this
   exact this.alloc _
 have hC1 : BL W1 (w.heap.size + 1 + 1) 47 [.int .i64 (k : Int), .int .i64 0, .int .i64 0, .slice none 0 0, .slice none 0 0, .slice none 0 0] := by
   rw [hW1]
   have := BL.new' ((w.alloc (.cells #[.int .i64 (m : Int), .slice A es.length c] 25)).alloc (.cells #[.int .i64 0, .int .i64 0, .int .i64 0, .slice none 0 0, .slice none 0 0, .slice none 0 0] 47)) #[.int .i64 (k : Int), .int .i64 0, .int .i64 0, .slice none 0 0, .slice none 0 0, .slice none 0 0] 47
   rw [World.size_alloc, World.size_alloc] at this
   exact this
 have HU0 : Hid (∀ W, Calls Tryz.prog 61 #[.int .i64 (k : Int), .int .i64 0] W fun e w' => e = .returned (.bool true) /\ Below W.heap.size W w') := fun W => hU 0 W (by omega)
 have HU1 : Hid (∀ W, Calls Tryz.prog 61 #[.int .i64 (k : Int), .int .i64 1] W fun e w' => e = .returned (.bool false) /\ Below W.heap.size W w') := fun W => hU 1 W (by omega)
 have HU3 : Hid (∀ W, Calls Tryz.prog 61 #[.int .i64 (k : Int), .int .i64 3] W fun e w' => e = .returned (.bool true) /\ Below W.heap.size W w') := fun W => hU 3 W (by omega)
 have HU4 : Hid (∀ W, Calls Tryz.prog 61 #[.int .i64 (k : Int), .int .i64 4] W fun e w' => e = .returned (.bool false) /\ Below W.heap.size W w') := fun W => hU 4 W (by omega)
 have HG1 := Hd hG1
 have HR1 := Hd hR1
 have HC1 := Hd hC1
 have HB1 := Hd hb1
 have HW1 := Hd hW1
 have HRI := Hd hl
 have H1 := Hd h1
 clear hg hl hU hb1 hG1 hR1 hC1 hW1
 obtain ⟨ad, z, rfl, hzb, hz, hcz⟩ := hcell 0 (by omega)
 rw [add_zero'] at hcz
 have HZ : Hid (l.getD 0 0 = z) := getD_of' hz.out
 have HZb := Hd hzb
 have HCz := Hd hcz
 have hpos : (0 : Int) < (l.length : Int) := by omega
 obtain ⟨A1, hA1⟩ : ∃ A1, A1 = if cl = 1 then some ad else some (ad.add 1) := ⟨_, rfl⟩
 have hslice : ∀ W : World, (Instr.slice 37 (.slice (some ad) l.length cl) (some (.int .i64 1)) none none).run Tryz.prog W = .ok (.slice A1 (l.length - 1) (cl - 1)) W := fun W => by
   rw [run_slice_l W 37 (some ad) l.length cl Tryz.underlying37 .i64 1 (by omega) (by omega), hA1]
   simp [go_sem]
 have HSf : Hid (∀ W, RI W (.slice (some ad) l.length cl) l -> RI W (.slice A1 (l.length - 1) (cl - 1)) (l.drop 1)) := fun W hW => by
   obtain ⟨ad', he, -, -, hsf⟩ := RI.suf' hW h1 1 h1
   obtain rfl : ad = ad' := by simpa using he
   rw [hA1]; exact hsf
 clear hzb hcz hz hA1
 clear hcell
 go_enter Tryz.func54, Tryz.ntmps54
 go_wp2_with fail
 rw [<- HW1.out]
 refine (HU0.out _).mono ?_
 rintro e w2 ⟨rfl, hb2⟩
 have HG2 := Hd (HG1.out.bel hb2)
 have HR2 := Hd (HR1.out.bel hb2)
 have HC2 := Hd (HC1.out.bel hb2)
 have HB2 := Hd (HB1.out.trans (hb2.mono HB1.out.size))
 clear hb2 HU0
 have hcz := (HB2.out.cell (p := ad) HZb.out).trans HCz.out
 have x2 := HC2.out.cell 1
 have y2 := HC2.out.frozen 1
 have hs2 := HB2.out.size
 have HC3 := Hd (HC2.out.set 1 (.int .i64 z))
 have HG3 := Hd (HG2.out.set_other (a := ⟨w.heap.size + 1 + 1, 1, none⟩) (by dsimp only; omega) (.int .i64 z))
 have HR3 := Hd (HR2.out.set_other (a := ⟨w.heap.size + 1 + 1, 1, none⟩) (by dsimp only; omega) (.int .i64 z))
 have HB3 := Hd (HB2.out.setCell (p := ⟨w.heap.size + 1 + 1, 1, none⟩) (by dsimp only; omega) (.int .i64 z))
 have h1' : 1 <= l.length := h1
 go_wp2_with fail
 clear hcz x2 y2 hs2 h1'
 generalize w2.setCell ⟨w.heap.size + 1 + 1, 1, none⟩ (.int .i64 z) = w3 at *
 clear hslice
 have HM1 : Hid (l.length - 1 = (l.drop 1).length) := by show _ = _; rw [List.length_drop]
 generalize hm1 : l.length - 1 = m1 at *
 generalize he1 : cl - 1 = e1 at *
 have HLe := Hd (show m1 <= e1 by omega)
 have HLm := Hd (show m1 <= 100000 by omega)
 clear hm1 he1 hlc hll h1 hpos
 refine (HU1.out _).mono ?_
 rintro e w4 ⟨rfl, hb4⟩
 have HG4 := Hd (HG3.out.bel hb4)
 have HR4 := Hd (HR3.out.bel hb4)
 have HC4 := Hd (HC3.out.bel hb4)
 have HB4 := Hd (HB3.out.trans (hb4.mono HB3.out.size))
 clear hb4 HU1
 go_wp2_with fail
 refine (HU4.out _).mono ?_
 rintro e w5 ⟨rfl, hb5⟩
 have HG5 := Hd (HG4.out.bel hb5)
 have HR5 := Hd (HR4.out.bel hb5)
 have HC5 := Hd (HC4.out.bel hb5)
 have HB5 := Hd (HB4.out.trans (hb5.mono HB4.out.size))
 clear hb5 HU4
 go_wp2_with fail
 refine (HU3.out _).mono ?_
 rintro e w6 ⟨rfl, hb6⟩
 have HG6 := Hd (HG5.out.bel hb6)
 have HR6 := Hd (HR5.out.bel hb6)
 have HC6 := Hd (HC5.out.bel hb6)
 have HB6 := Hd (HB5.out.trans (hb6.mono HB5.out.size))
 clear hb6 HU3
 have hlc := HLe.out
 have hll := HLm.out
 have HRc := HSf
 clear HCz HZb
 have HL2 : Hid (l2L true false l = l.drop 1) := rfl
 have HLn : Hid ((l.drop 1).length = m1) := HM1.out.symm
 have HFe : Hid (fillE m true false true false l = (if ((l.drop 1).length : Int) ≠ 2 * m then 8 else 0)) := by
   have hne : l ≠ [] := fun h => by have h9 := H1.out; rw [h] at h9; exact absurd h9 (by decide)
   show _ = _
   unfold fillE
   rw [if_neg (fun h => hne h.2), if_neg (fun h => by cases h.1), if_neg (by decide), if_pos rfl]
   rfl
 rw [HLn.out] at HFe
 by_cases hcl2 : (m1 : Int) ≠ 2 * m
 · have HRes : Hid (fillE m true false true false l = 8) := by show _ = _; rw [HFe.out, if_pos hcl2]
   have t1 : ((m1 : Int) != 2 * (m : Int)) = true := by simpa using hcl2
   have g0 := HG6.out.cell 0
   clear hcl2 HFe
   have HR9 := Hd (HR6.out.set6 (.int .i64 0) (.int .i64 0) (.int .i64 0) (.slice none 0 0) (.slice none 0 0) (.slice none 0 0))
   have HB9 := Hd (below6 HB6.out (show w.heap.size <= w.heap.size + 1 by omega) (.int .i64 0) (.int .i64 0) (.int .i64 0) (.slice none 0 0) (.slice none 0 0) (.slice none 0 0))
   have c0 := HR6.out.cell 0
   have f0 := HR6.out.frozen 0
   have c1 := HR6.out.cell 1
   have f1 := HR6.out.frozen 1
   have c2 := HR6.out.cell 2
   have f2 := HR6.out.frozen 2
   have c3 := HR6.out.cell 3
   have f3 := HR6.out.frozen 3
   have c4 := HR6.out.cell 4
   have f4 := HR6.out.frozen 4
   have c5 := HR6.out.cell 5
   have f5 := HR6.out.frozen 5
   go_wp2_with fail
   refine bodyPost_ret (results_row_tmp rfl _ _ (w.heap.size + 1) 47 #[.int .i64 0, .int .i64 0, .int .i64 0, .slice none 0 0, .slice none 0 0, .slice none 0 0] (0, 0) _ rfl HR9.out Tryz.underlying47 rfl claim57_size) rfl ?_
   exact ⟨_, _, _, _, _, _, by rw [HRes.out] <;> rfl, fun h => absurd (HRes.out.symm.trans h) (by decide), ⟨⟨_, _, _, rfl⟩, ⟨_, _, _, rfl⟩, ⟨_, _, _, rfl⟩⟩, HB9.out⟩
 have HRes : Hid (fillE m true false true false l = 0) := by show _ = _; rw [HFe.out, if_neg hcl2]
 have t1 : ((m1 : Int) != 2 * (m : Int)) = false := by simpa using hcl2
 have hcm : m1 = 2 * m := by omega
 have hcurl : (l.drop 1).length = 2 * m := by rw [HLn.out]; exact hcm
 have hri := HRc.out w HRI.out
 obtain ⟨ad2, hA, -, hcc, hsf⟩ := RI.suf' hri (by omega) m (by omega)
 subst hA
 have HSf2 : Hid (∀ W, RI W (.slice (some ad) l.length cl) l -> RI W (.slice (if e1 = m then some ad2 else some (ad2.add m)) ((l.drop 1).length - m) (e1 - m)) ((l.drop 1).drop m)) := fun W hW => by
   obtain ⟨ad', he, -, -, hsf⟩ := RI.suf' (HRc.out W hW) (by omega) m (by omega)
   obtain rfl : ad2 = ad' := by simpa using he
   exact hsf
 have HPf : Hid (∀ W, RI W (.slice (some ad) l.length cl) l -> RI W (.slice (some ad2) m e1) ((l.drop 1).take m)) := fun W hW => RI.pre (HRc.out W hW) (j := m) (by omega)
 have m1' : m <= m1 := by omega
 have m2 : (m : Int) <= (m1 : Int) := by omega
 have m3 : m <= e1 := by omega
 rw [HLn.out] at HSf2
 clear hcl2 HFe hcm hsf hcurl hri hcc
 have w3 := HC6.out.cell 3
 have v3 := HC6.out.frozen 3
 have w4 := HC6.out.cell 4
 have v4 := HC6.out.frozen 4
 have hs6 := HB6.out.size
 generalize hA1 : (if e1 = m then some ad2 else some (ad2.add m)) = A2 at *
 generalize hm2 : m1 - m = m2' at *
 generalize he2 : e1 - m = e2 at *
 obtain ⟨w8, hw8⟩ : ∃ w8, w8 = ((w6.setCell ⟨w.heap.size + 1 + 1, 3, none⟩ (.slice (some ad2) m e1)).setCell ⟨w.heap.size + 1 + 1, 4, none⟩ (.slice A2 m2' e2)).drew := ⟨_, rfl⟩
 have HC8 : Hid (BL w8 (w.heap.size + 1 + 1) 47 [.int .i64 (k : Int), .int .i64 z, .int .i64 0, .slice (some ad2) m e1, .slice A2 m2' e2, .slice none 0 0]) := by rw [hw8]; exact ((HC6.out.set 3 (.slice (some ad2) m e1)).set 4 (.slice A2 m2' e2)).drew
 have HR8 : Hid (BL w8 (w.heap.size + 1) 47 [.int .i64 0, .int .i64 0, .int .i64 0, .slice none 0 0, .slice none 0 0, .slice none 0 0]) := by rw [hw8]; exact ((HR6.out.set_other (a := ⟨w.heap.size + 1 + 1, 3, none⟩) (by dsimp only; omega) (.slice (some ad2) m e1)).set_other (a := ⟨w.heap.size + 1 + 1, 4, none⟩) (by dsimp only; omega) (.slice A2 m2' e2)).drew
 have HB8 : Hid (Below w.heap.size w w8) := by rw [hw8]; exact ((HB6.out.setCell (p := ⟨w.heap.size + 1 + 1, 3, none⟩) (by dsimp only; omega) (.slice (some ad2) m e1)).setCell (p := ⟨w.heap.size + 1 + 1, 4, none⟩) (by dsimp only; omega) (.slice A2 m2' e2)).drew
 have HGa : Hid (w6.cell? ⟨w.heap.size, 0, none⟩ = some (.int .i64 (m : Int))) := HG6.out.cell 0
 have HGb : Hid ((w6.setCell ⟨w.heap.size + 1 + 1, 3, none⟩ (.slice (some ad2) m e1)).cell? ⟨w.heap.size, 0, none⟩ = some (.int .i64 (m : Int))) := (HG6.out.set_other (a := ⟨w.heap.size + 1 + 1, 3, none⟩) (by dsimp only; omega) (.slice (some ad2) m e1)).cell 0
 have HGc : Hid (((w6.setCell ⟨w.heap.size + 1 + 1, 3, none⟩ (.slice (some ad2) m e1)).setCell ⟨w.heap.size + 1 + 1, 4, none⟩ (.slice A2 m2' e2)).cell? ⟨w.heap.size, 0, none⟩ = some (.int .i64 (m : Int))) := ((HG6.out.set_other (a := ⟨w.heap.size + 1 + 1, 3, none⟩) (by dsimp only; omega) (.slice (some ad2) m e1)).set_other (a := ⟨w.heap.size + 1 + 1, 4, none⟩) (by dsimp only; omega) (.slice A2 m2' e2)).cell 0
 have g0 := HGa.out
 go_upto_region 16 with fail
 clear g0
 go_region_held3 (fun W' : World => W'.cell? ⟨w.heap.size, 0, none⟩ = some (.int .i64 (m : Int))) (first | exact HGa.out | exact HGb.out | exact HGc.out) (fail)
 rw [<- hw8]
 have HW8 := Hd hw8
 clear hw8 w3 v3 w4 v4
 have HR9 := Hd (HR8.out.set6 (.int .i64 (k : Int)) (.int .i64 z) (.int .i64 0) (.slice (some ad2) m e1) (.slice A2 m2' e2) (.slice none 0 0))
 have HB9 := Hd (below6 HB8.out (show w.heap.size <= w.heap.size + 1 by omega) (.int .i64 (k : Int)) (.int .i64 z) (.int .i64 0) (.slice (some ad2) m e1) (.slice A2 m2' e2) (.slice none 0 0))
 have c0 := HR8.out.cell 0
 have f0 := HR8.out.frozen 0
 have c1 := HR8.out.cell 1
 have f1 := HR8.out.frozen 1
 have c2 := HR8.out.cell 2
 have f2 := HR8.out.frozen 2
 have c3 := HR8.out.cell 3
 have f3 := HR8.out.frozen 3
 have c4 := HR8.out.cell 4
 have f4 := HR8.out.frozen 4
 have c5 := HR8.out.cell 5
 have f5 := HR8.out.frozen 5
 have u0 := HC8.out.cell 0
 have u1 := HC8.out.cell 1
 have u2 := HC8.out.cell 2
 have u3 := HC8.out.cell 3
 have u4 := HC8.out.cell 4
 have u5 := HC8.out.cell 5
 go_wp2_with fail
 refine bodyPost_ret (results_row_tmp rfl _ _ (w.heap.size + 1) 47 #[.int .i64 (k : Int), .int .i64 z, .int .i64 0, .slice (some ad2) m e1, .slice A2 m2' e2, .slice none 0 0] (0, 0) _ rfl HR9.out Tryz.underlying47 rfl claim57_size) rfl ?_
 refine ⟨_, _, _, _, _, _, by rw [HRes.out] <;> rfl, fun _ => ⟨rfl, HZ.out.symm, rfl, fun W hW => ⟨?_, ?_, ?_⟩⟩, ⟨⟨_, _, _, rfl⟩, ⟨_, _, _, rfl⟩, ⟨_, _, _, rfl⟩⟩, HB9.out⟩
 · exact HPf.out W hW
 · exact HSf2.out W hW
 · exact RI.emp rfl rfl rfl
end Go.Proofs.YteamhbohgoclgaaGreatDoor
