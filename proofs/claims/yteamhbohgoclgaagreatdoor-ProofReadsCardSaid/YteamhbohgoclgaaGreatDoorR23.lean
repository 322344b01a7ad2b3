/- Contract of package proof's form. (printed by gen/form57b.py) -/
import Derived.Test.YteamhbohgoclgaaGreatDoorR22
import Derived.Deep.CutBlock
import Derived.Laws.EntriesVeiled
set_option maxRecDepth 100000
set_option maxHeartbeats 16000000
namespace Go.Proofs.YteamhbohgoclgaaGreatDoor
open Go.RowKit Go.Shelf

def formG (m k : Nat) (Q N : Int) (a b f : List Int) : Int :=
 if (kq k = true /\ ¬ (0 <= Q /\ Q < m)) \/ (kn k = true /\ (N < kl k \/ 12 < N)) then 2
 else if ka k = true /\ checkE a m ≠ 0 then checkE a m
 else if kb k = true /\ checkE b m ≠ 0 then checkE b m
 else if kf k = true /\ facNG m f ≠ 0 then facNG m f
 else if (kq k = false /\ Q ≠ 0) \/ (kn k = false /\ N ≠ 0) \/ (ka k = false /\ a ≠ []) \/ (kb k = false /\ b ≠ []) \/ (kf k = false /\ f ≠ []) then 3 else 0
def givB (Q N : Int) (a b f : List Int) (i : Nat) : Bool := ([Q != 0, N != 0, decide (0 < a.length), decide (0 < b.length), decide (0 < f.length)] : List Bool).getD i false
theorem idx_bool5 (b0 b1 b2 b3 b4 : Bool) (W : World) (z : Int) (i : Nat) (hz : z = i) (hi : i < 5) : (Instr.index 111 (.agg #[.bool b0, .bool b1, .bool b2, .bool b3, .bool b4]) (.int .i64 z)).run Tryz.prog W = .ok (.bool (([b0, b1, b2, b3, b4] : List Bool).getD i false)) W := by
 subst hz
 match i, hi with
 | 0, _ | 1, _ | 2, _ | 3, _ | 4, _ => simp [Instr.index, run_underlying Tryz.underlying111, asIntOf, go_sem]
theorem giv_any {k : Nat} {Q N : Int} {a b f : List Int} (h : (kq k = false /\ Q ≠ 0) \/ (kn k = false /\ N ≠ 0) \/ (ka k = false /\ a ≠ []) \/ (kb k = false /\ b ≠ []) \/ (kf k = false /\ f ≠ [])) : ∃ i, i < 5 /\ givB Q N a b f i = true /\ pu k i = false := by
 rcases h with ⟨h1, h2⟩ | ⟨h1, h2⟩ | ⟨h1, h2⟩ | ⟨h1, h2⟩ | ⟨h1, h2⟩
 · exact ⟨0, by decide, by simpa [givB] using h2, h1⟩
 · exact ⟨1, by decide, by simpa [givB] using h2, h1⟩
 · exact ⟨2, by decide, by simpa [givB, List.length_pos_iff] using h2, h1⟩
 · exact ⟨3, by decide, by simpa [givB, List.length_pos_iff] using h2, h1⟩
 · exact ⟨4, by decide, by simpa [givB, List.length_pos_iff] using h2, h1⟩
theorem giv_not {k : Nat} {Q N : Int} {a b f : List Int} {i : Nat} (hi : i < 5) (h1 : givB Q N a b f i = true) (h2 : pu k i = false) : (kq k = false /\ Q ≠ 0) \/ (kn k = false /\ N ≠ 0) \/ (ka k = false /\ a ≠ []) \/ (kb k = false /\ b ≠ []) \/ (kf k = false /\ f ≠ []) := by
 match i, hi with
 | 0, _ => exact .inl ⟨h2, by simpa [givB] using h1⟩
 | 1, _ => exact .inr (.inl ⟨h2, by simpa [givB] using h1⟩)
 | 2, _ => exact .inr (.inr (.inl ⟨h2, by simpa [givB, List.length_pos_iff] using h1⟩))
 | 3, _ => exact .inr (.inr (.inr (.inl ⟨h2, by simpa [givB, List.length_pos_iff] using h1⟩)))
 | 4, _ => exact .inr (.inr (.inr (.inr ⟨h2, by simpa [givB, List.length_pos_iff] using h1⟩)))
structure FmS (w : World) (b6 m k : Nat) (Q N : Int) (es : List Tri) (a b f : List Int) (Ag Aa Ab Af : Option Addr) (cg ca cb cf : Nat) (S : ByteArray) (pmk klk : Int) (pfk : Nat) (W : World) : Prop where
 B : Below w.heap.size w W
 G : BL W w.heap.size 25 [.int .i64 (m : Int), .slice Ag es.length cg]
 C : BL W (w.heap.size + 1) 40 [.int .i64 (k : Int), .int .i64 Q, .int .i64 N, .slice Aa a.length ca, .slice Ab b.length cb, .slice Af f.length cf]
 K : BL W b6 85 [.string S, .int .i64 pmk, .int .i64 klk, .func (.func pfk) #[] #[]]
 g : GV W (.agg #[.int .i64 (m : Int), .slice Ag es.length cg]) m es
 a : RI W (.slice Aa a.length ca) a
 b : RI W (.slice Ab b.length cb) b
 f : RI W (.slice Af f.length cf) f
theorem FmS.up {w : World} {b6 m k : Nat} {Q N : Int} {es : List Tri} {a b f : List Int} {Ag Aa Ab Af : Option Addr} {cg ca cb cf : Nat} {S : ByteArray} {pmk klk : Int} {pfk : Nat} {W W' : World} (h : FmS w b6 m k Q N es a b f Ag Aa Ab Af cg ca cb cf S pmk klk pfk W) (hb : Below W.heap.size W W') : FmS w b6 m k Q N es a b f Ag Aa Ab Af cg ca cb cf S pmk klk pfk W' :=
 ⟨h.B.trans (hb.mono h.B.size), h.G.bel hb, h.C.bel hb, h.K.bel hb, h.g.below hb, RI.below h.a hb, RI.below h.b hb, RI.below h.f hb⟩
theorem pForm_gen (g va vb vf : Value) (m k : Nat) (Q N : Int) (es : List Tri) (a b f : List Int) (w : World) (hk : k < 9) (hg : GV w g m es) (ha : RI w va a) (hb : RI w vb b) (hf : RI w vf f) (hm : m <= 12) (xq xn xa xb xf : Bool)
   (uq : kq k = xq) (un : kn k = xn) (ua : ka k = xa) (ub : kb k = xb) (uf : kf k = xf) :
   Calls Tryz.prog 35 #[g, .agg #[.int .i64 (k : Int), .int .i64 Q, .int .i64 N, va, vb, vf]] w fun e w' => e = .returned (.int .i64 (formG m k Q N a b f)) /\ Below w.heap.size w w' := by
 obtain ⟨Ag, cg, rfl, -⟩ := hg.open_
 obtain ⟨Aa, ca, rfl, -, hla, -⟩ := ha.open_
 obtain ⟨Ab, cb, rfl, -, hlb, -⟩ := hb.open_
 obtain ⟨Af, cf, rfl, -, hlf, -⟩ := hf.open_
 obtain ⟨W0, hW0⟩ : ∃ W0, W0 = (w.alloc (.cells #[.int .i64 (m : Int), .slice Ag es.length cg] 25)).alloc (.cells #[.int .i64 (k : Int), .int .i64 Q, .int .i64 N, .slice Aa a.length ca, .slice Ab b.length cb, .slice Af f.length cf] 40) := ⟨_, rfl⟩
 have hb0 : Below w.heap.size w W0 := by rw [hW0]; exact (below_alloc w _).alloc (by simp) _
 have hxg : BL W0 w.heap.size 25 [.int .i64 (m : Int), .slice Ag es.length cg] := by rw [hW0]; exact (BL.new' w _ _).alloc _
 have hxc : BL W0 (w.heap.size + 1) 40 [.int .i64 (k : Int), .int .i64 Q, .int .i64 N, .slice Aa a.length ca, .slice Ab b.length cb, .slice Af f.length cf] := by
   rw [hW0]
   have := BL.new' (w.alloc (.cells #[.int .i64 (m : Int), .slice Ag es.length cg] 25)) #[.int .i64 (k : Int), .int .i64 Q, .int .i64 N, .slice Aa a.length ca, .slice Ab b.length cb, .slice Af f.length cf] 40
   rwa [World.size_alloc] at this
 have HW0 := Hd hW0
 have HKi := Hd (pKinds_any W0)
 have HR : Hid (formG m k Q N a b f = if (kq k = true /\ ¬ (0 <= Q /\ Q < m)) \/ (kn k = true /\ (N < kl k \/ 12 < N)) then 2
   else if ka k = true /\ checkE a m ≠ 0 then checkE a m
   else if kb k = true /\ checkE b m ≠ 0 then checkE b m
   else if kf k = true /\ facNG m f ≠ 0 then facNG m f
   else if (kq k = false /\ Q ≠ 0) \/ (kn k = false /\ N ≠ 0) \/ (ka k = false /\ a ≠ []) \/ (kb k = false /\ b ≠ []) \/ (kf k = false /\ f ≠ []) then 3 else 0) := rfl
 generalize formG m k Q N a b f = E at *
 have hk0 : ¬ (k : Int) < 0 := by omega
 have hk9 : ¬ (9 : Int) <= (k : Int) := by omega
 have hk9' : (k : Int) < 9 := by omega
 have HG0 := Hd (hg.below hb0)
 have HA0 := Hd (RI.below ha hb0)
 have HD0 := Hd (RI.below hb hb0)
 have HF0 := Hd (RI.below hf hb0)
 have HB0 := Hd hb0
 have HXg := Hd hxg
 have HXc := Hd hxc
 clear hg hxg hxc hW0 hb0 ha hb hf
 go_enter Tryz.func35, Tryz.ntmps35
 go_wp2_with fail
 rw [<- HW0.out]
 refine HKi.out.mono ?_
 rintro e w1 ⟨rfl, hb1⟩
 obtain ⟨W1, hW1⟩ : ∃ W1, W1 = w1.alloc (.cells pkL.toArray 86) := ⟨_, rfl⟩
 have hb2 : Below w1.heap.size w1 W1 := by rw [hW1]; exact below_alloc w1 _
 have hx5 : BL W1 w1.heap.size 86 pkL := by rw [hW1]; exact BL.new' w1 _ _
 have HW1 := Hd hW1
 have hb12 : Below W0.heap.size W0 W1 := hb1.trans (hb2.mono hb1.size)
 obtain ⟨S, -, p0, p1, p2, p3⟩ := (PK.of hx5).2 k hk
 obtain ⟨W2, hW2⟩ : ∃ W2, W2 = W1.alloc (.cells #[.string S, .int .i64 (pm k), .int .i64 (kl k), .func (.func (pfn k)) #[] #[]] 85) := ⟨_, rfl⟩
 have hb3 : Below W1.heap.size W1 W2 := by rw [hW2]; exact below_alloc W1 _
 have hx6 : BL W2 W1.heap.size 85 [.string S, .int .i64 (pm k), .int .i64 (kl k), .func (.func (pfn k)) #[] #[]] := by rw [hW2]; exact BL.new' W1 _ _
 have hb02 : Below W0.heap.size W0 W2 := hb12.trans (hb3.mono hb12.size)
 have HS : Hid (FmS w W1.heap.size m k Q N es a b f Ag Aa Ab Af cg ca cb cf S (pm k) (kl k) (pfn k) W2) :=
   ⟨HB0.out.trans (hb02.mono HB0.out.size), HXg.out.bel hb02, HXc.out.bel hb02, hx6, HG0.out.below hb02, RI.below HA0.out hb02, RI.below HD0.out hb02, RI.below HF0.out hb02⟩
 have HW2 := Hd hW2
 have HU : Hid (∀ (i : Nat) (W : World), i < 5 -> Calls Tryz.prog 58 #[.agg #[.string S, .int .i64 (pm k), .int .i64 (kl k), .func (.func (pfn k)) #[] #[]], .int .i64 (pb i)] W fun e w' => e = .returned (.bool (pu k i)) /\ Below W.heap.size W w') := fun i W hi => puse_any k i hk hi S _ _ W
 have c0 := (HXc.out.bel hb12).cell 0
 have e0 := hx6.cell 0
 have e1 := hx6.cell 1
 have e2 := hx6.cell 2
 have e3 := hx6.cell 3
 obtain ⟨klk, hklk⟩ : ∃ z, z = kl k := ⟨_, rfl⟩
 have HKl := Hd hklk.symm
 clear hb1 hb2 hx5 hb12 hb3 hx6 hW1 hW2 hb02 HXg HXc HG0 HA0 HD0 HF0 HB0 HKi
 generalize pm k = pmk at *
 rw [<- hklk] at p2 e2 HU HW2 HS
 clear hklk
 generalize pfn k = pfk at *
 have HU0 : Hid (∀ (W : World), Calls Tryz.prog 58 #[.agg #[.string S, .int .i64 pmk, .int .i64 klk, .func (.func pfk) #[] #[]], .int .i64 1] W fun e w' => e = .returned (.bool xq) /\ Below W.heap.size W w') := fun W => by rw [<- uq]; exact HU.out 0 W (by decide)
 have HU1 : Hid (∀ (W : World), Calls Tryz.prog 58 #[.agg #[.string S, .int .i64 pmk, .int .i64 klk, .func (.func pfk) #[] #[]], .int .i64 2] W fun e w' => e = .returned (.bool xn) /\ Below W.heap.size W w') := fun W => by rw [<- un]; exact HU.out 1 W (by decide)
 have HU2 : Hid (∀ (W : World), Calls Tryz.prog 58 #[.agg #[.string S, .int .i64 pmk, .int .i64 klk, .func (.func pfk) #[] #[]], .int .i64 4] W fun e w' => e = .returned (.bool xa) /\ Below W.heap.size W w') := fun W => by rw [<- ua]; exact HU.out 2 W (by decide)
 have HU3 : Hid (∀ (W : World), Calls Tryz.prog 58 #[.agg #[.string S, .int .i64 pmk, .int .i64 klk, .func (.func pfk) #[] #[]], .int .i64 8] W fun e w' => e = .returned (.bool xb) /\ Below W.heap.size W w') := fun W => by rw [<- ub]; exact HU.out 3 W (by decide)
 have HU4 : Hid (∀ (W : World), Calls Tryz.prog 58 #[.agg #[.string S, .int .i64 pmk, .int .i64 klk, .func (.func pfk) #[] #[]], .int .i64 16] W fun e w' => e = .returned (.bool xf) /\ Below W.heap.size W w') := fun W => by rw [<- uf]; exact HU.out 4 W (by decide)
 have UQ := Hd uq
 have UN := Hd un
 have UA := Hd ua
 have UB := Hd ub
 have UF := Hd uf
 clear uq un ua ub uf HU
 rw [show (⟨w1.heap.size, 0, none⟩ : Addr).add (k * 4) = ⟨w1.heap.size, k * 4, none⟩ from addr_addz _ _] at p0 p1 p2 p3
 rw [HW2.out] at e0 e1 e2 e3
 go_upto_block 0 with (refine wpList_store_row rfl 86 _ _ rfl w1.heap.size pkL.toArray rfl rfl _ _ (heap_alloc_new w1 _) pk_size (by kernel_rfl) (by kernel_rfl) ?_; rw [World.setRow_alloc_new, <- HW1.out])
 rw [<- HW2.out]
 clear p0 p1 p2 p3 c0 e0 e1 e2 e3 HW2 HW1 HW0
 generalize W1.heap.size = b6 at *
 obtain ⟨bad1, hbad1⟩ : ∃ p : Prop, p = ((kq k = true /\ ¬ (0 <= Q /\ Q < m)) \/ (kn k = true /\ (N < kl k \/ 12 < N))) := ⟨_, rfl⟩
 have HB1 := Hd hbad1
 clear hbad1 hk0 hk9 hk9'
 go_cut [26] from 27 to 54 (fun _ wx => Hid (FmS w b6 m k Q N es a b f Ag Aa Ab Af cg ca cb cf S pmk klk pfk wx) /\ Hid (¬ bad1))
 case first =>
   have k0 := HS.out.K.cell 0
   have k1 := HS.out.K.cell 1
   have k2 := HS.out.K.cell 2
   have k3 := HS.out.K.cell 3
   go_wp2_with fail
   refine (HU0.out _).mono ?_
   rintro e W3 ⟨rfl, hb3⟩
   have HS3 := Hd (HS.out.up hb3)
   clear hb3 k0 k1 k2 k3 HS
   have c1 := HS3.out.C.cell 1
   have c2 := HS3.out.C.cell 2
   have g0 := HS3.out.G.cell 0
   have k0 := HS3.out.K.cell 0
   have k1 := HS3.out.K.cell 1
   have k2 := HS3.out.K.cell 2
   have k3 := HS3.out.K.cell 3
   cases xq
   · go_wp2_with fail
     refine (HU1.out _).mono ?_
     rintro e W4 ⟨rfl, hb4⟩
     have HS4 := Hd (HS3.out.up hb4)
     clear hb4 k0 k1 k2 k3 c1 c2 g0 HS3
     have c2 := HS4.out.C.cell 2
     have k2 := HS4.out.K.cell 2
     cases xn
     · go_wp2
       go_meet
       exact ⟨HS4.out, by rw [HB1.out]; exact fun h => h.elim (fun h => absurd (UQ.out.symm.trans h.1) (by decide)) (fun h => absurd (UN.out.symm.trans h.1) (by decide))⟩
     · by_cases hN0 : N < klk
       · have hR : Hid (E = 2) := by show _ = _; rw [HR.out, if_pos (.inr ⟨UN.out, .inl (by rw [HKl.out]; exact hN0)⟩)]
         clear HR HB1
         go_wp2
         go_ret
         exact ⟨ret_i hR.out.symm, HS4.out.B⟩
       by_cases hN1 : (12 : Int) < N
       · have hR : Hid (E = 2) := by show _ = _; rw [HR.out, if_pos (.inr ⟨UN.out, .inr hN1⟩)]
         clear HR HB1
         go_wp2
         go_ret
         exact ⟨ret_i hR.out.symm, HS4.out.B⟩
       go_wp2
       go_meet
       exact ⟨HS4.out, by rw [HB1.out]; exact fun h => h.elim (fun h => absurd (UQ.out.symm.trans h.1) (by decide)) (fun h => by have := h.2; rw [HKl.out] at this; omega)⟩
   · by_cases hQ0 : Q < 0
     · have hR : Hid (E = 2) := by show _ = _; rw [HR.out, if_pos (.inl ⟨UQ.out, by omega⟩)]
       clear HR HB1
       go_wp2
       go_ret
       exact ⟨ret_i hR.out.symm, HS3.out.B⟩
     by_cases hQm : (m : Int) <= Q
     · have hR : Hid (E = 2) := by show _ = _; rw [HR.out, if_pos (.inl ⟨UQ.out, by omega⟩)]
       clear HR HB1
       go_wp2
       go_ret
       exact ⟨ret_i hR.out.symm, HS3.out.B⟩
     go_wp2_with fail
     refine (HU1.out _).mono ?_
     rintro e W4 ⟨rfl, hb4⟩
     have HS4 := Hd (HS3.out.up hb4)
     clear hb4 k0 k1 k2 k3 c1 c2 g0 HS3
     have c2 := HS4.out.C.cell 2
     have k2 := HS4.out.K.cell 2
     cases xn
     · go_wp2
       go_meet
       exact ⟨HS4.out, by rw [HB1.out]; exact fun h => h.elim (fun h => by have := h.2; omega) (fun h => absurd (UN.out.symm.trans h.1) (by decide))⟩
     · by_cases hN0 : N < klk
       · have hR : Hid (E = 2) := by show _ = _; rw [HR.out, if_pos (.inr ⟨UN.out, .inl (by rw [HKl.out]; exact hN0)⟩)]
         clear HR HB1
         go_wp2
         go_ret
         exact ⟨ret_i hR.out.symm, HS4.out.B⟩
       by_cases hN1 : (12 : Int) < N
       · have hR : Hid (E = 2) := by show _ = _; rw [HR.out, if_pos (.inr ⟨UN.out, .inr hN1⟩)]
         clear HR HB1
         go_wp2
         go_ret
         exact ⟨ret_i hR.out.symm, HS4.out.B⟩
       go_wp2
       go_meet
       exact ⟨HS4.out, by rw [HB1.out]; exact fun h => h.elim (fun h => by have := h.2; omega) (fun h => by have := h.2; rw [HKl.out] at this; omega)⟩
 case rest =>
 obtain ⟨wd, hwd⟩ : ∃ wd, wd = wc := ⟨_, rfl⟩
 subst hwd
 obtain ⟨hS, hno⟩ := hcut
 have HS := Hd hS.out
 have HR1 : Hid (E = _) := HR.out.trans (if_neg (by rw [<- HB1.out]; exact hno.out))
 clear hS hno HR HB1
 obtain ⟨ce, hce⟩ : ∃ z, z = checkE a m := ⟨_, rfl⟩
 have HCe := Hd hce
 rw [<- hce] at HR1
 clear hce
 have k0 := HS.out.K.cell 0
 have k1 := HS.out.K.cell 1
 have k2 := HS.out.K.cell 2
 have k3 := HS.out.K.cell 3
 go_wp2_with fail
 refine (HU2.out _).mono ?_
 rintro e W3a ⟨rfl, hb3⟩
 have HS3 := Hd (HS.out.up hb3)
 clear hb3 k0 k1 k2 k3 HS
 go_upto_if 56 with fail
 go_cut [7] from 57 to 64 (fun _ wx => Hid (FmS w b6 m k Q N es a b f Ag Aa Ab Af cg ca cb cf S pmk klk pfk wx) /\ Hid (¬ (ka k = true /\ ce ≠ 0)))
 case first =>
   cases xa
   · go_wp2
     go_meet
     exact ⟨HS3.out, fun h => absurd (UA.out.symm.trans h.1) (by decide)⟩
   · have cc := HS3.out.C.cell 3
     have g0 := HS3.out.G.cell 0
     have g1 := HS3.out.G.cell 1
     have HCk := Hd (check_any _ a (m : Int) W3a HS3.out.a)
     rw [<- HCe.out] at HCk
     go_wp2_with fail
     refine HCk.out.mono ?_
     rintro e w_ ⟨rfl, rfl⟩
     have HS4 := HS3
     clear HCk cc g0 g1
     by_cases hE0 : ce ≠ 0
     · have hR : Hid (E = ce) := by show _ = _; rw [HR1.out, if_pos ⟨UA.out, hE0⟩]
       have t1 : (ce != 0) = true := by simpa using hE0
       clear HR1 hE0
       go_wp2
       go_ret
       exact ⟨ret_i hR.out.symm, HS4.out.B⟩
     have hE00 : ce = 0 := by omega
     subst hE00
     go_wp2
     go_meet
     exact ⟨HS4.out, fun h => h.2 rfl⟩
 case rest =>
 obtain ⟨wda, hwd⟩ : ∃ wd, wd = wc := ⟨_, rfl⟩
 subst hwd
 obtain ⟨hS, hno⟩ := hcut
 have HS := Hd hS.out
 have HR2 : Hid (E = _) := HR1.out.trans (if_neg hno.out)
 clear hS hno HR1 HCe HS3
 obtain ⟨ce, hce⟩ : ∃ z, z = checkE b m := ⟨_, rfl⟩
 have HCe := Hd hce
 rw [<- hce] at HR2
 clear hce
 have k0 := HS.out.K.cell 0
 have k1 := HS.out.K.cell 1
 have k2 := HS.out.K.cell 2
 have k3 := HS.out.K.cell 3
 go_wp2_with fail
 refine (HU3.out _).mono ?_
 rintro e W3b ⟨rfl, hb3⟩
 have HS3 := Hd (HS.out.up hb3)
 clear hb3 k0 k1 k2 k3 HS
 go_upto_if 66 with fail
 go_cut [8] from 67 to 74 (fun _ wx => Hid (FmS w b6 m k Q N es a b f Ag Aa Ab Af cg ca cb cf S pmk klk pfk wx) /\ Hid (¬ (kb k = true /\ ce ≠ 0)))
 case first =>
   cases xb
   · go_wp2
     go_meet
     exact ⟨HS3.out, fun h => absurd (UB.out.symm.trans h.1) (by decide)⟩
   · have cc := HS3.out.C.cell 4
     have g0 := HS3.out.G.cell 0
     have g1 := HS3.out.G.cell 1
     have HCk := Hd (check_any _ b (m : Int) W3b HS3.out.b)
     rw [<- HCe.out] at HCk
     go_wp2_with fail
     refine HCk.out.mono ?_
     rintro e w_ ⟨rfl, rfl⟩
     have HS4 := HS3
     clear HCk cc g0 g1
     by_cases hE0 : ce ≠ 0
     · have hR : Hid (E = ce) := by show _ = _; rw [HR2.out, if_pos ⟨UB.out, hE0⟩]
       have t1 : (ce != 0) = true := by simpa using hE0
       clear HR2 hE0
       go_wp2
       go_ret
       exact ⟨ret_i hR.out.symm, HS4.out.B⟩
     have hE00 : ce = 0 := by omega
     subst hE00
     go_wp2
     go_meet
     exact ⟨HS4.out, fun h => h.2 rfl⟩
 case rest =>
 obtain ⟨wdb, hwd⟩ : ∃ wd, wd = wc := ⟨_, rfl⟩
 subst hwd
 obtain ⟨hS, hno⟩ := hcut
 have HS := Hd hS.out
 have HR3 : Hid (E = _) := HR2.out.trans (if_neg hno.out)
 clear hS hno HR2 HCe HS3
 obtain ⟨ce, hce⟩ : ∃ z, z = facNG m f := ⟨_, rfl⟩
 have HCe := Hd hce
 rw [<- hce] at HR3
 clear hce
 have k0 := HS.out.K.cell 0
 have k1 := HS.out.K.cell 1
 have k2 := HS.out.K.cell 2
 have k3 := HS.out.K.cell 3
 go_wp2_with fail
 refine (HU4.out _).mono ?_
 rintro e W3f ⟨rfl, hb3⟩
 have HS3 := Hd (HS.out.up hb3)
 clear hb3 k0 k1 k2 k3 HS
 go_upto_if 76 with fail
 go_cut [9] from 77 to 83 (fun _ wx => Hid (FmS w b6 m k Q N es a b f Ag Aa Ab Af cg ca cb cf S pmk klk pfk wx) /\ Hid (¬ (kf k = true /\ ce ≠ 0)))
 case first =>
   cases xf
   · go_wp2
     go_meet
     exact ⟨HS3.out, fun h => absurd (UF.out.symm.trans h.1) (by decide)⟩
   · have cc := HS3.out.C.cell 5
     have g0 := HS3.out.G.cell 0
     have g1 := HS3.out.G.cell 1
     have HCk := Hd (pFac_any _ _ m es f W3f HS3.out.g HS3.out.f hm)
     rw [<- HCe.out] at HCk
     go_wp2_with fail
     refine HCk.out.mono ?_
     rintro e W4 ⟨rfl, hb4⟩
     have HS4 := Hd (HS3.out.up hb4)
     clear HCk cc g0 g1 hb4
     by_cases hE0 : ce ≠ 0
     · have hR : Hid (E = ce) := by show _ = _; rw [HR3.out, if_pos ⟨UF.out, hE0⟩]
       have t1 : (ce != 0) = true := by simpa using hE0
       clear HR3 hE0
       go_wp2
       go_ret
       exact ⟨ret_i hR.out.symm, HS4.out.B⟩
     have hE00 : ce = 0 := by omega
     subst hE00
     go_wp2
     go_meet
     exact ⟨HS4.out, fun h => h.2 rfl⟩
 case rest =>
 obtain ⟨wdf, hwd⟩ : ∃ wd, wd = wc := ⟨_, rfl⟩
 subst hwd
 obtain ⟨hS, hno⟩ := hcut
 have HS := Hd hS.out
 have HR4 : Hid (E = _) := HR3.out.trans (if_neg hno.out)
 clear hS hno HR3 HCe HS3
 have c1 := HS.out.C.cell 1
 have c2 := HS.out.C.cell 2
 have c3 := HS.out.C.cell 3
 have c4 := HS.out.C.cell 4
 have c5 := HS.out.C.cell 5
 have HL : Hid (∀ i, i < 5 -> givB Q N a b f i = true -> pu k i = false -> E = 3) := fun i hi h1 h2 => by
   show E = 3
   rw [HR4.out, if_pos (giv_not hi h1 h2)]
 have HZ : Hid ((∀ i, i < 5 -> givB Q N a b f i = true -> pu k i = true) -> E = 0) := fun h => by
   show E = 0
   rw [HR4.out, if_neg]
   intro hh
   obtain ⟨i, h1, h2, h3⟩ := giv_any hh
   rw [h i h1 h2] at h3
   exact absurd h3 (by decide)
 clear HR4
 obtain ⟨WL, hWL⟩ : ∃ WL, WL = wdf.alloc (.cells #[.bool (Q != 0), .bool (N != 0), .bool (decide (0 < a.length)), .bool (decide (0 < b.length)), .bool (decide (0 < f.length))] 111) := ⟨_, rfl⟩
 have HSL : Hid (FmS w b6 m k Q N es a b f Ag Aa Ab Af cg ca cb cf S pmk klk pfk WL) := HS.out.up (by rw [hWL]; exact below_alloc wdf _)
 have HWL := Hd hWL
 clear hWL HS
 go_upto_region 21 with fail
 rw [<- HWL.out]
 generalize h0 : (Q != 0) = b0
 generalize h1 : (N != 0) = b1
 generalize h2 : (decide (0 < a.length)) = b2
 generalize h3 : (decide (0 < b.length)) = b3
 generalize h4 : (decide (0 < f.length)) = b4
 have HG0 := Hd h0
 have HG1 := Hd h1
 have HG2 := Hd h2
 have HG3 := Hd h3
 have HG4 := Hd h4
 have c10 : WL.cell? ⟨wdf.heap.size, 0, none⟩ = some (.bool b0) := by rw [HWL.out, h0, h1, h2, h3, h4]; exact (BL.new' wdf _ _).cell 0
 have c11 : WL.cell? ⟨wdf.heap.size, 1, none⟩ = some (.bool b1) := by rw [HWL.out, h0, h1, h2, h3, h4]; exact (BL.new' wdf _ _).cell 1
 have c12 : WL.cell? ⟨wdf.heap.size, 2, none⟩ = some (.bool b2) := by rw [HWL.out, h0, h1, h2, h3, h4]; exact (BL.new' wdf _ _).cell 2
 have c13 : WL.cell? ⟨wdf.heap.size, 3, none⟩ = some (.bool b3) := by rw [HWL.out, h0, h1, h2, h3, h4]; exact (BL.new' wdf _ _).cell 3
 have c14 : WL.cell? ⟨wdf.heap.size, 4, none⟩ = some (.bool b4) := by rw [HWL.out, h0, h1, h2, h3, h4]; exact (BL.new' wdf _ _).cell 4
 clear h0 h1 h2 h3 h4 HWL c1 c2 c3 c4 c5
 go_wp2_with fail
 go_loopw [104] (fun i wr => ∃ j : Nat, j <= 5 /\ i = .int .i64 (j : Int) /\ Hid (∀ i, i < j -> givB Q N a b f i = true -> pu k i = true) /\ Hid (FmS w b6 m k Q N es a b f Ag Aa Ab Af cg ca cb cf S pmk klk pfk wr) /\ Hid (Below WL.heap.size WL wr)) (fun i _ => 5 - (intOf i).toNat)
 case atStart => exact ⟨0, Nat.zero_le _, rfl, fun i hi => absurd hi (Nat.not_lt_zero _), HSL.out, Below.refl _ _⟩
 case round =>
   obtain ⟨j, hj, rfl, hin, hS, hbw⟩ := hrel
   by_cases hlt : j < 5
   · have e0 := hS.out.K.cell 0
     have e1 := hS.out.K.cell 1
     have e2 := hS.out.K.cell 2
     have e3 := hS.out.K.cell 3
     clear c10 c11 c12 c13 c14
     obtain rfl | rfl | rfl | rfl | rfl : j = 0 \/ j = 1 \/ j = 2 \/ j = 3 \/ j = 4 := by omega
     · have hix : ∀ W : World, (Instr.index 111 (.agg #[.bool b0, .bool b1, .bool b2, .bool b3, .bool b4]) (.int .i64 0)).run Tryz.prog W = .ok (.bool b0) W := fun W => idx_bool5 b0 b1 b2 b3 b4 W 0 0 rfl (by decide)
       cases b0
       · go_wp2_with fail
         go_region
         all_goals
           go_wp2
           go_roundw
           case rel => exact ⟨1, by omega, by go_num, (fun i hi h1 => by
             rcases Nat.lt_succ_iff_lt_or_eq.1 hi with h | rfl
             · exact hin.out i h h1
             · exact absurd (HG0.out.symm.trans h1) (by decide)), by first | exact hS.out | exact hS.out.up (Below.refl _ _).drew, by first | exact hbw.out | exact hbw.out.drew⟩
           case measure => simp [intOf]
       · cases xq
         · have hR : Hid (E = 3) := HL.out 0 (by decide) HG0.out UQ.out
           go_wp2_with fail
           go_region_with (go_at_call 58; refine (HU0.out _).mono ?_; rintro e wu ⟨rfl, hbu⟩; have HBu := Hd (hS.out.up ((Below.refl wr.heap.size wr).drew.trans hbu)).B; clear hbu)
           all_goals
             go_wp2
             go_ret
             exact ⟨ret_i hR.out.symm, HBu.out⟩
         · go_wp2_with fail
           go_region_with (go_at_call 58; refine (HU0.out _).mono ?_; rintro e wu ⟨rfl, hbu⟩; have HSu := Hd (hS.out.up ((Below.refl wr.heap.size wr).drew.trans hbu)); have HBu := Hd (hbw.out.trans (((Below.refl wr.heap.size wr).drew.trans hbu).mono hbw.out.size)); clear hbu)
           all_goals
             go_wp2
             go_roundw
             case rel => exact ⟨1, by omega, by go_num, (fun i hi h1 => by
               rcases Nat.lt_succ_iff_lt_or_eq.1 hi with h | rfl
               · exact hin.out i h h1
               · exact UQ.out), HSu.out, HBu.out⟩
             case measure => simp [intOf]
     · have hix : ∀ W : World, (Instr.index 111 (.agg #[.bool b0, .bool b1, .bool b2, .bool b3, .bool b4]) (.int .i64 1)).run Tryz.prog W = .ok (.bool b1) W := fun W => idx_bool5 b0 b1 b2 b3 b4 W 1 1 rfl (by decide)
       cases b1
       · go_wp2_with fail
         go_region
         all_goals
           go_wp2
           go_roundw
           case rel => exact ⟨2, by omega, by go_num, (fun i hi h1 => by
             rcases Nat.lt_succ_iff_lt_or_eq.1 hi with h | rfl
             · exact hin.out i h h1
             · exact absurd (HG1.out.symm.trans h1) (by decide)), by first | exact hS.out | exact hS.out.up (Below.refl _ _).drew, by first | exact hbw.out | exact hbw.out.drew⟩
           case measure => simp [intOf]
       · cases xn
         · have hR : Hid (E = 3) := HL.out 1 (by decide) HG1.out UN.out
           go_wp2_with fail
           go_region_with (go_at_call 58; refine (HU1.out _).mono ?_; rintro e wu ⟨rfl, hbu⟩; have HBu := Hd (hS.out.up ((Below.refl wr.heap.size wr).drew.trans hbu)).B; clear hbu)
           all_goals
             go_wp2
             go_ret
             exact ⟨ret_i hR.out.symm, HBu.out⟩
         · go_wp2_with fail
           go_region_with (go_at_call 58; refine (HU1.out _).mono ?_; rintro e wu ⟨rfl, hbu⟩; have HSu := Hd (hS.out.up ((Below.refl wr.heap.size wr).drew.trans hbu)); have HBu := Hd (hbw.out.trans (((Below.refl wr.heap.size wr).drew.trans hbu).mono hbw.out.size)); clear hbu)
           all_goals
             go_wp2
             go_roundw
             case rel => exact ⟨2, by omega, by go_num, (fun i hi h1 => by
               rcases Nat.lt_succ_iff_lt_or_eq.1 hi with h | rfl
               · exact hin.out i h h1
               · exact UN.out), HSu.out, HBu.out⟩
             case measure => simp [intOf]
     · have hix : ∀ W : World, (Instr.index 111 (.agg #[.bool b0, .bool b1, .bool b2, .bool b3, .bool b4]) (.int .i64 2)).run Tryz.prog W = .ok (.bool b2) W := fun W => idx_bool5 b0 b1 b2 b3 b4 W 2 2 rfl (by decide)
       cases b2
       · go_wp2_with fail
         go_region
         all_goals
           go_wp2
           go_roundw
           case rel => exact ⟨3, by omega, by go_num, (fun i hi h1 => by
             rcases Nat.lt_succ_iff_lt_or_eq.1 hi with h | rfl
             · exact hin.out i h h1
             · exact absurd (HG2.out.symm.trans h1) (by decide)), by first | exact hS.out | exact hS.out.up (Below.refl _ _).drew, by first | exact hbw.out | exact hbw.out.drew⟩
           case measure => simp [intOf]
       · cases xa
         · have hR : Hid (E = 3) := HL.out 2 (by decide) HG2.out UA.out
           go_wp2_with fail
           go_region_with (go_at_call 58; refine (HU2.out _).mono ?_; rintro e wu ⟨rfl, hbu⟩; have HBu := Hd (hS.out.up ((Below.refl wr.heap.size wr).drew.trans hbu)).B; clear hbu)
           all_goals
             go_wp2
             go_ret
             exact ⟨ret_i hR.out.symm, HBu.out⟩
         · go_wp2_with fail
           go_region_with (go_at_call 58; refine (HU2.out _).mono ?_; rintro e wu ⟨rfl, hbu⟩; have HSu := Hd (hS.out.up ((Below.refl wr.heap.size wr).drew.trans hbu)); have HBu := Hd (hbw.out.trans (((Below.refl wr.heap.size wr).drew.trans hbu).mono hbw.out.size)); clear hbu)
           all_goals
             go_wp2
             go_roundw
             case rel => exact ⟨3, by omega, by go_num, (fun i hi h1 => by
               rcases Nat.lt_succ_iff_lt_or_eq.1 hi with h | rfl
               · exact hin.out i h h1
               · exact UA.out), HSu.out, HBu.out⟩
             case measure => simp [intOf]
     · have hix : ∀ W : World, (Instr.index 111 (.agg #[.bool b0, .bool b1, .bool b2, .bool b3, .bool b4]) (.int .i64 3)).run Tryz.prog W = .ok (.bool b3) W := fun W => idx_bool5 b0 b1 b2 b3 b4 W 3 3 rfl (by decide)
       cases b3
       · go_wp2_with fail
         go_region
         all_goals
           go_wp2
           go_roundw
           case rel => exact ⟨4, by omega, by go_num, (fun i hi h1 => by
             rcases Nat.lt_succ_iff_lt_or_eq.1 hi with h | rfl
             · exact hin.out i h h1
             · exact absurd (HG3.out.symm.trans h1) (by decide)), by first | exact hS.out | exact hS.out.up (Below.refl _ _).drew, by first | exact hbw.out | exact hbw.out.drew⟩
           case measure => simp [intOf]
       · cases xb
         · have hR : Hid (E = 3) := HL.out 3 (by decide) HG3.out UB.out
           go_wp2_with fail
           go_region_with (go_at_call 58; refine (HU3.out _).mono ?_; rintro e wu ⟨rfl, hbu⟩; have HBu := Hd (hS.out.up ((Below.refl wr.heap.size wr).drew.trans hbu)).B; clear hbu)
           all_goals
             go_wp2
             go_ret
             exact ⟨ret_i hR.out.symm, HBu.out⟩
         · go_wp2_with fail
           go_region_with (go_at_call 58; refine (HU3.out _).mono ?_; rintro e wu ⟨rfl, hbu⟩; have HSu := Hd (hS.out.up ((Below.refl wr.heap.size wr).drew.trans hbu)); have HBu := Hd (hbw.out.trans (((Below.refl wr.heap.size wr).drew.trans hbu).mono hbw.out.size)); clear hbu)
           all_goals
             go_wp2
             go_roundw
             case rel => exact ⟨4, by omega, by go_num, (fun i hi h1 => by
               rcases Nat.lt_succ_iff_lt_or_eq.1 hi with h | rfl
               · exact hin.out i h h1
               · exact UB.out), HSu.out, HBu.out⟩
             case measure => simp [intOf]
     · have hix : ∀ W : World, (Instr.index 111 (.agg #[.bool b0, .bool b1, .bool b2, .bool b3, .bool b4]) (.int .i64 4)).run Tryz.prog W = .ok (.bool b4) W := fun W => idx_bool5 b0 b1 b2 b3 b4 W 4 4 rfl (by decide)
       cases b4
       · go_wp2_with fail
         go_region
         all_goals
           go_wp2
           go_roundw
           case rel => exact ⟨5, by omega, by go_num, (fun i hi h1 => by
             rcases Nat.lt_succ_iff_lt_or_eq.1 hi with h | rfl
             · exact hin.out i h h1
             · exact absurd (HG4.out.symm.trans h1) (by decide)), by first | exact hS.out | exact hS.out.up (Below.refl _ _).drew, by first | exact hbw.out | exact hbw.out.drew⟩
           case measure => simp [intOf]
       · cases xf
         · have hR : Hid (E = 3) := HL.out 4 (by decide) HG4.out UF.out
           go_wp2_with fail
           go_region_with (go_at_call 58; refine (HU4.out _).mono ?_; rintro e wu ⟨rfl, hbu⟩; have HBu := Hd (hS.out.up ((Below.refl wr.heap.size wr).drew.trans hbu)).B; clear hbu)
           all_goals
             go_wp2
             go_ret
             exact ⟨ret_i hR.out.symm, HBu.out⟩
         · go_wp2_with fail
           go_region_with (go_at_call 58; refine (HU4.out _).mono ?_; rintro e wu ⟨rfl, hbu⟩; have HSu := Hd (hS.out.up ((Below.refl wr.heap.size wr).drew.trans hbu)); have HBu := Hd (hbw.out.trans (((Below.refl wr.heap.size wr).drew.trans hbu).mono hbw.out.size)); clear hbu)
           all_goals
             go_wp2
             go_roundw
             case rel => exact ⟨5, by omega, by go_num, (fun i hi h1 => by
               rcases Nat.lt_succ_iff_lt_or_eq.1 hi with h | rfl
               · exact hin.out i h h1
               · exact UF.out), HSu.out, HBu.out⟩
             case measure => simp [intOf]
   · have hR : Hid (E = 0) := HZ.out fun i hi h1 => hin.out i (by omega) h1
     clear hin
     go_wp2
     go_ret
     exact ⟨ret_i hR.out.symm, hS.out.B⟩
theorem pForm_any (g va vb vf : Value) (m k : Nat) (Q N : Int) (es : List Tri) (a b f : List Int) (w : World) (hk : k < 9) (hg : GV w g m es) (ha : RI w va a) (hb : RI w vb b) (hf : RI w vf f) (_hm1 : 1 <= m) (hm : m <= 12) :
   Calls Tryz.prog 35 #[g, .agg #[.int .i64 (k : Int), .int .i64 Q, .int .i64 N, va, vb, vf]] w fun e w' => e = .returned (.int .i64 (formG m k Q N a b f)) /\ Below w.heap.size w w' :=
 pForm_gen g va vb vf m k Q N es a b f w hk hg ha hb hf hm _ _ _ _ _ rfl rfl rfl rfl rfl
end Go.Proofs.YteamhbohgoclgaaGreatDoor
