/- Contracts of the reference's factors and form, for any claim. (printed by gen/rform57b.py) -/
import Derived.Test.YteamhbohgoclgaaGreatDoorR27
set_option maxRecDepth 100000
set_option maxHeartbeats 16000000
namespace Go.Proofs.YteamhbohgoclgaaGreatDoor
open Go.RowKit Go.Shelf
theorem rFacG_any (v : Value) (n : Nat) (fs : List Int) (w : World) (hv : RI w v fs) (hn : n <= 12) :
   Calls Tryz.prog 70 #[.int .i64 (n : Int), v] w fun e w' => e = .returned (.int .i64 (facNG n fs)) /\ Below w.heap.size w w' := by
 obtain ⟨A, c, rfl, -, hl, hcell⟩ := hv.open_
 have HC := Hd hcell
 clear hv hcell
 by_cases h5 : (fs.length : Int) > n - 1
 · have hR : Hid (facNG n fs = 5) := by show _ = _; unfold facNG; rw [if_pos h5]
   have h5' : (n : Int) - 1 < (fs.length : Int) := h5
   clear h5
   go_enter Tryz.func70, Tryz.ntmps70
   go_wp2
   go_ret
   exact ⟨ret_i hR.out.symm, Below.refl _ _⟩
 have hR : Hid (facNG n fs = facG 0 fs) := by show _ = _; unfold facNG; rw [if_neg h5]
 have h5' : ¬ (n : Int) - 1 < (fs.length : Int) := h5
 have h12 : fs.length <= 12 := by omega
 generalize facNG n fs = E at *
 clear h5
 go_enter Tryz.func70, Tryz.ntmps70
 go_wp2_with fail
 go_loopw [5] (fun i wr => ∃ k : Nat, k <= fs.length /\ i = .int .i64 (k : Int) /\ Hid (facG 0 fs = facG (lastF fs k) (fs.drop k)) /\ Hid (1 <= k -> 2 <= lastF fs k) /\ Hid (Below w.heap.size w wr)) (fun i _ => fs.length - (intOf i).toNat)
 case atStart => exact ⟨0, Nat.zero_le _, rfl, rfl, fun h => absurd h (by decide), Below.refl _ _⟩
 case round =>
   obtain ⟨k, hk, rfl, he, hp, hw⟩ := hrel
   by_cases hlt : k < fs.length
   · obtain ⟨ad, f, rfl, hab, hx, hcl⟩ := HC.out k hlt
     have hcw := (hw.out.cell (p := ad.add k) (by rw [block_of_add]; exact hab)).trans hcl
     have hdr : fs.drop k = f :: fs.drop (k + 1) := drop_at hx
     have hst : facG (lastF fs k) (f :: fs.drop (k + 1)) = if f < 2 \/ 1048576 < f then 2 else if lastF fs k ≠ 0 /\ f % lastF fs k ≠ 0 then 9 else facG f (fs.drop (k + 1)) := rfl
     have HE : Hid (E = if f < 2 \/ 1048576 < f then 2 else if lastF fs k ≠ 0 /\ f % lastF fs k ≠ 0 then 9 else facG f (fs.drop (k + 1))) := by show _ = _; rw [hR.out, he.out, hdr, hst]
     have HE0 : Hid (facG 0 fs = if f < 2 \/ 1048576 < f then 2 else if lastF fs k ≠ 0 /\ f % lastF fs k ≠ 0 then 9 else facG f (fs.drop (k + 1))) := by show _ = _; rw [he.out, hdr, hst]
     have HLa : Hid (lastF fs (k + 1) = f) := by show fs.getD k 0 = f; exact getD_of hx.out
     clear hcl hdr hst he
     by_cases h2 : f < 2
     · have hE : Hid (E = 2) := by show _ = _; rw [HE.out, if_pos (.inl h2)]
       clear HE HE0 hx hp
       go_wp2
       go_ret
       exact ⟨ret_i hE.out.symm, hw.out⟩
     · by_cases hf2 : (1048576 : Int) < f
       · have hE : Hid (E = 2) := by show _ = _; rw [HE.out, if_pos (.inr hf2)]
         clear HE HE0 hx hp
         go_wp2
         go_ret
         exact ⟨ret_i hE.out.symm, hw.out⟩
       have hno : ¬ (f < 2 \/ 1048576 < f) := by omega
       cases k with
       | zero =>
         have HN : Hid (facG 0 fs = facG f (fs.drop 1)) := by show _ = _; rw [HE0.out, if_neg hno, if_neg (by show ¬ ((0 : Int) ≠ 0 /\ _); simp)]
         have HF2 : Hid (2 <= f) := by show _ <= _; omega
         rw [add_zero'] at hcw
         clear HE HE0 hx hno hp
         go_wp2_with fail
         go_quiet (fail)
         have HBq := Hd (below_drewN hw.out nq)
         go_wp2
         go_roundw
         case rel => exact ⟨1, by omega, by go_num, by rw [HLa.out]; exact HN.out, fun _ => by rw [HLa.out]; exact HF2.out, HBq.out⟩
         case measure => simp [intOf]; omega
       | succ j =>
         obtain ⟨_, y, e0, hyb, hy, hcy⟩ := HC.out j (by omega)
         cases e0
         have hcy2 := (hw.out.cell (p := ad.add j) (by rw [block_of_add]; exact hyb)).trans hcy
         have hy2 := hp.out (by omega)
         have HLy : Hid (lastF fs (j + 1) = y) := by show fs.getD j 0 = y; exact getD_of hy.out
         rw [HLy.out] at hy2 HE HE0
         have hy0 : y ≠ 0 := by omega
         have hj1 : (j : Int) < (fs.length : Int) := by omega
         have hcz3 : wr.cell? ⟨ad.block, ad.off + (j + 1), none⟩ = some (.int .i64 f) := by simpa [Addr.add] using hcw
         clear hcy hy hx hp
         by_cases hr : f % y = 0
         · have HN : Hid (facG 0 fs = facG f (fs.drop (j + 1 + 1))) := by show _ = _; rw [HE0.out, if_neg hno, if_neg (fun h => h.2 hr)]
           have HF2 : Hid (2 <= f) := by show _ <= _; omega
           have t1 : (f % y != 0) = false := by simpa using hr
           clear HE HE0 hr hno
           go_wp2_with fail
           go_quiet (fail)
           have HBq := Hd (below_drewN hw.out nq)
           go_wp2
           go_roundw
           case rel => exact ⟨j + 1 + 1, by omega, by go_num, by rw [HLa.out]; exact HN.out, fun _ => by rw [HLa.out]; exact HF2.out, HBq.out⟩
           case measure => simp [intOf]; omega
         · have hE : Hid (E = 9) := by show _ = _; rw [HE.out, if_neg hno, if_pos ⟨hy0, hr⟩]
           have t1 : (f % y != 0) = true := by simpa using hr
           clear HE HE0 hr hno
           go_wp2_with fail
           go_quiet (fail)
           have HBq := Hd (below_drewN hw.out nq)
           go_wp2
           go_ret
           exact ⟨ret_i hE.out.symm, HBq.out⟩
   · have hE : Hid (E = 0) := by show _ = _; rw [hR.out, he.out, List.drop_of_length_le (by omega)]; rfl
     clear he hp
     go_wp2
     go_ret
     exact ⟨ret_i hE.out.symm, hw.out⟩

structure FrS (w : World) (m : Nat) (kk Q N : Int) (es : List Tri) (a b f : List Int) (Ag Aa Ab Af : Option Addr) (cg ca cb cf : Nat) (W : World) : Prop where
 B : Below w.heap.size w W
 G : BL W w.heap.size 25 [.int .i64 (m : Int), .slice Ag es.length cg]
 C : BL W (w.heap.size + 1) 47 [.int .i64 kk, .int .i64 Q, .int .i64 N, .slice Aa a.length ca, .slice Ab b.length cb, .slice Af f.length cf]
 g : GV W (.agg #[.int .i64 (m : Int), .slice Ag es.length cg]) m es
 a : RI W (.slice Aa a.length ca) a
 b : RI W (.slice Ab b.length cb) b
 f : RI W (.slice Af f.length cf) f
theorem FrS.up {w : World} {m : Nat} {kk Q N : Int} {es : List Tri} {a b f : List Int} {Ag Aa Ab Af : Option Addr} {cg ca cb cf : Nat} {W W' : World} (h : FrS w m kk Q N es a b f Ag Aa Ab Af cg ca cb cf W) (hb : Below W.heap.size W W') : FrS w m kk Q N es a b f Ag Aa Ab Af cg ca cb cf W' :=
 ⟨h.B.trans (hb.mono h.B.size), h.G.bel hb, h.C.bel hb, h.g.below hb, RI.below h.a hb, RI.below h.b hb, RI.below h.f hb⟩
theorem FrS.cells {w : World} {m : Nat} {kk Q N : Int} {es : List Tri} {a b f : List Int} {Ag Aa Ab Af : Option Addr} {cg ca cb cf : Nat} {W : World} (h : FrS w m kk Q N es a b f Ag Aa Ab Af cg ca cb cf W) : W.cell? ⟨w.heap.size, 0, none⟩ = some (.int .i64 (m : Int)) /\ W.cell? ⟨w.heap.size, 1, none⟩ = some (.slice Ag es.length cg) /\
   W.cell? ⟨w.heap.size + 1, 0, none⟩ = some (.int .i64 kk) /\ W.cell? ⟨w.heap.size + 1, 1, none⟩ = some (.int .i64 Q) /\ W.cell? ⟨w.heap.size + 1, 2, none⟩ = some (.int .i64 N) /\ W.cell? ⟨w.heap.size + 1, 3, none⟩ = some (.slice Aa a.length ca) /\ W.cell? ⟨w.heap.size + 1, 4, none⟩ = some (.slice Ab b.length cb) /\ W.cell? ⟨w.heap.size + 1, 5, none⟩ = some (.slice Af f.length cf) :=
 ⟨h.G.cell 0, h.G.cell 1, h.C.cell 0, h.C.cell 1, h.C.cell 2, h.C.cell 3, h.C.cell 4, h.C.cell 5⟩
theorem rFormG_any (g va vb vf : Value) (m k : Nat) (Q N : Int) (es : List Tri) (a b f : List Int) (w : World) (hk : k < 9) (hg : GV w g m es) (ha : RI w va a) (hb : RI w vb b) (hf : RI w vf f) (hm : m <= 12) :
   Calls Tryz.prog 37 #[g, .agg #[.int .i64 (k : Int), .int .i64 Q, .int .i64 N, va, vb, vf]] w fun e w' => e = .returned (.int .i64 (formG m k Q N a b f)) /\ Below w.heap.size w w' := by
 have hU := fun (i : Nat) (W : World) (hi : i < 5) => uses_any k i (by omega) hi W
 obtain ⟨kk, hkk⟩ : ∃ kk : Int, kk = (k : Int) := ⟨_, rfl⟩
 rw [<- hkk]
 rw [<- hkk] at hU
 obtain ⟨Ag, cg, rfl, -⟩ := hg.open_
 obtain ⟨Aa, ca, rfl, -⟩ := ha.open_
 obtain ⟨Ab, cb, rfl, -⟩ := hb.open_
 obtain ⟨Af, cf, rfl, -⟩ := hf.open_
 obtain ⟨W0, hW0⟩ : ∃ W0, W0 = (w.alloc (.cells #[.int .i64 (m : Int), .slice Ag es.length cg] 25)).alloc (.cells #[.int .i64 kk, .int .i64 Q, .int .i64 N, .slice Aa a.length ca, .slice Ab b.length cb, .slice Af f.length cf] 47) := ⟨_, rfl⟩
 have hb0 : Below w.heap.size w W0 := by rw [hW0]; exact (below_alloc w _).alloc (by simp) _
 have hxg : BL W0 w.heap.size 25 [.int .i64 (m : Int), .slice Ag es.length cg] := by rw [hW0]; exact (BL.new' w _ _).alloc _
 have hxc : BL W0 (w.heap.size + 1) 47 [.int .i64 kk, .int .i64 Q, .int .i64 N, .slice Aa a.length ca, .slice Ab b.length cb, .slice Af f.length cf] := by
   rw [hW0]
   have := BL.new' (w.alloc (.cells #[.int .i64 (m : Int), .slice Ag es.length cg] 25)) #[.int .i64 kk, .int .i64 Q, .int .i64 N, .slice Aa a.length ca, .slice Ab b.length cb, .slice Af f.length cf] 47
   rwa [World.size_alloc] at this
 have HS : Hid (FrS w m kk Q N es a b f Ag Aa Ab Af cg ca cb cf W0) := ⟨hb0, hxg, hxc, hg.below hb0, RI.below ha hb0, RI.below hb hb0, RI.below hf hb0⟩
 have HW0 := Hd hW0
 have HR : Hid (formG m k Q N a b f = if (kq k = true /\ ¬ (0 <= Q /\ Q < m)) \/ (kn k = true /\ (N < kl k \/ 12 < N)) then 2
   else if ka k = true /\ checkE a m ≠ 0 then checkE a m
   else if kb k = true /\ checkE b m ≠ 0 then checkE b m
   else if kf k = true /\ facNG m f ≠ 0 then facNG m f
   else if (kq k = false /\ Q ≠ 0) \/ (kn k = false /\ N ≠ 0) \/ (ka k = false /\ a ≠ []) \/ (kb k = false /\ b ≠ []) \/ (kf k = false /\ f ≠ []) then 3 else 0) := rfl
 generalize formG m k Q N a b f = E at *
 have hk0 : ¬ kk < 0 := by omega
 have hk8 : ¬ (8 : Int) < kk := by omega
 have HPt : Hid ((kq k = false /\ kn k = false /\ ka k = true /\ kb k = true /\ kf k = false) \/ (kq k = false /\ kn k = false /\ ka k = true /\ kb k = false /\ kf k = false) \/ (kq k = false /\ kn k = true /\ ka k = true /\ kb k = false /\ kf k = false) \/ (kq k = true /\ kn k = false /\ ka k = true /\ kb k = false /\ kf k = false) \/ (kq k = true /\ kn k = false /\ ka k = true /\ kb k = true /\ kf k = false) \/ (kq k = false /\ kn k = false /\ ka k = false /\ kb k = false /\ kf k = true)) := by
   unfold Hid
   match k, hk with
   | 0, _ | 1, _ | 2, _ | 3, _ | 4, _ | 5, _ | 6, _ | 7, _ | 8, _ => decide
 have HKl : Hid (kn k = true -> (kk = 3 /\ kl k = 0) \/ (kk = 4 /\ kl k = -1)) := by
   unfold Hid
   rw [hkk]
   match k, hk with
   | 0, _ | 1, _ | 2, _ | 3, _ | 4, _ | 5, _ | 6, _ | 7, _ | 8, _ => decide
 have HU0 : Hid (∀ W, Calls Tryz.prog 61 #[.int .i64 kk, .int .i64 0] W fun e w' => e = .returned (.bool (kq k)) /\ Below W.heap.size W w') := fun W => hU 0 W (by decide)
 have HU1 : Hid (∀ W, Calls Tryz.prog 61 #[.int .i64 kk, .int .i64 1] W fun e w' => e = .returned (.bool (kn k)) /\ Below W.heap.size W w') := fun W => hU 1 W (by decide)
 have HU2 : Hid (∀ W, Calls Tryz.prog 61 #[.int .i64 kk, .int .i64 2] W fun e w' => e = .returned (.bool (ka k)) /\ Below W.heap.size W w') := fun W => hU 2 W (by decide)
 have HU3 : Hid (∀ W, Calls Tryz.prog 61 #[.int .i64 kk, .int .i64 3] W fun e w' => e = .returned (.bool (kb k)) /\ Below W.heap.size W w') := fun W => hU 3 W (by decide)
 have HU4 : Hid (∀ W, Calls Tryz.prog 61 #[.int .i64 kk, .int .i64 4] W fun e w' => e = .returned (.bool (kf k)) /\ Below W.heap.size W w') := fun W => hU 4 W (by decide)
 clear hU hxg hxc hb0 hW0 hg ha hb hf hkk
 generalize hxq : kq k = xq at *
 generalize hxn : kn k = xn at *
 generalize hxa : ka k = xa at *
 generalize hxb : kb k = xb at *
 generalize hxf : kf k = xf at *
 generalize kl k = klk at *
 clear hxq hxn hxa hxb hxf
 obtain ⟨g0, g1, x0, x1, x2, x3, x4, x5⟩ := HS.out.cells
 rw [HW0.out] at g0 g1 x0 x1 x2 x3 x4 x5
 go_enter Tryz.func37, Tryz.ntmps37
 go_upto_region 3 with fail
 rw [<- HW0.out]
 clear g0 g1 x0 x1 x2 x3 x4 x5 hk0 hk8
 obtain ⟨bq, hbq⟩ : ∃ z, z = decide (xq = true /\ ¬ (0 <= Q /\ Q < m)) := ⟨_, rfl⟩
 have HBq := Hd hbq
 clear hbq
 go_cut [25] from 16 to 24 (fun c wx => c = .bool bq /\ Hid (FrS w m kk Q N es a b f Ag Aa Ab Af cg ca cb cf wx))
 case first =>
   obtain ⟨g0, g1, x0, x1, x2, x3, x4, x5⟩ := HS.out.cells
   go_wp2_with fail
   refine (HU0.out _).mono ?_
   rintro e W3 ⟨rfl, hb3⟩
   have HS3 := Hd (HS.out.up hb3)
   clear hb3 HS g0 g1 x0 x1 x2 x3 x4 x5
   cases xq
   · have hz : bq = false := by rw [HBq.out]; simp
     subst hz
     go_wp2
     go_meet
     exact ⟨rfl, HS3.out⟩
   · have HV := Hd (rVertex_any _ (m : Int) es Q W3 HS3.out.g)
     rw [show vtxB (m : Int) Q = !bq by rw [HBq.out]; unfold vtxB; by_cases h1 : 0 <= Q <;> by_cases h2 : Q < (m : Int) <;> simp [h1, h2]] at HV
     obtain ⟨g0, g1, x0, x1, x2, x3, x4, x5⟩ := HS3.out.cells
     go_wp2_with fail
     refine HV.out.mono ?_
     rintro e W4 ⟨rfl, hb4⟩
     have HS4 := Hd (HS3.out.up hb4)
     clear hb4 HS3 g0 g1 x0 x1 x2 x3 x4 x5 HV
     go_wp2
     go_meet
     exact ⟨by simp, HS4.out⟩
 case rest =>
 obtain ⟨wd, hwd⟩ : ∃ wd, wd = wc := ⟨_, rfl⟩
 subst hwd
 obtain ⟨rfl, hS⟩ := hcut
 have HS := Hd hS.out
 clear hS
 cases bq
 rotate_left
 · have hR : Hid (E = 2) := by show _ = _; rw [HR.out, if_pos (.inl (of_decide_eq_true HBq.out.symm))]
   clear HR
   go_wp2
   go_ret
   exact ⟨ret_i hR.out.symm, HS.out.B⟩
 have HNq := Hd (of_decide_eq_false HBq.out.symm)
 clear HBq
 obtain ⟨bn, hbn⟩ : ∃ z, z = decide (xn = true /\ (N < klk \/ 12 < N)) := ⟨_, rfl⟩
 have HBn := Hd hbn
 clear hbn
 go_upto_region 5 with fail
 go_cut [48] from 26 to 47 (fun c wx => c = .bool bn /\ Hid (FrS w m kk Q N es a b f Ag Aa Ab Af cg ca cb cf wx))
 case first =>
   obtain ⟨g0, g1, x0, x1, x2, x3, x4, x5⟩ := HS.out.cells
   go_wp2_with fail
   refine (HU1.out _).mono ?_
   rintro e W3 ⟨rfl, hb3⟩
   have HS3 := Hd (HS.out.up hb3)
   clear hb3 HS g0 g1 x0 x1 x2 x3 x4 x5
   obtain ⟨g0, g1, x0, x1, x2, x3, x4, x5⟩ := HS3.out.cells
   cases xn
   · have hz : bn = false := by rw [HBn.out]; simp
     subst hz
     go_wp2
     go_meet
     exact ⟨rfl, HS3.out⟩
   · by_cases h12 : (12 : Int) < N
     · have hz : bn = true := by rw [HBn.out]; exact decide_eq_true ⟨rfl, .inr h12⟩
       subst hz
       go_wp2
       go_meet
       exact ⟨rfl, HS3.out⟩
     by_cases hm1 : N < -1
     · have hz : bn = true := by rw [HBn.out]; exact decide_eq_true ⟨rfl, .inl (by rcases HKl.out rfl with h | h <;> omega)⟩
       subst hz
       go_wp2
       go_meet
       exact ⟨rfl, HS3.out⟩
     by_cases hN0 : N < 0
     · rcases HKl.out rfl with ⟨h3, hl⟩ | ⟨h4, hl⟩
       · have hz : bn = true := by rw [HBn.out]; exact decide_eq_true ⟨rfl, .inl (by omega)⟩
         have t3 : (kk == 3) = true := by rw [h3]; rfl
         subst hz
         clear h3 hl HKl
         go_wp2
         go_meet
         exact ⟨rfl, HS3.out⟩
       · have hz : bn = false := by rw [HBn.out]; exact decide_eq_false (fun h => by omega)
         have t3 : (kk == 3) = false := by rw [h4]; rfl
         subst hz
         clear h4 hl HKl
         go_wp2
         go_meet
         exact ⟨by first | rfl | (simp; omega), HS3.out⟩
     · have hz : bn = false := by rw [HBn.out]; exact decide_eq_false (fun h => by rcases HKl.out rfl with h5 | h5 <;> omega)
       subst hz
       go_wp2
       go_meet
       exact ⟨by first | rfl | (simp; omega), HS3.out⟩
 case rest =>
 obtain ⟨wd2, hwd⟩ : ∃ wd, wd = wc := ⟨_, rfl⟩
 subst hwd
 obtain ⟨rfl, hS⟩ := hcut
 have HS := Hd hS.out
 clear hS
 cases bn
 rotate_left
 · have hR : Hid (E = 2) := by show _ = _; rw [HR.out, if_pos (.inr (of_decide_eq_true HBn.out.symm))]
   clear HR
   go_wp2
   go_ret
   exact ⟨ret_i hR.out.symm, HS.out.B⟩
 have HNn := Hd (of_decide_eq_false HBn.out.symm)
 have HR1 : Hid (E = _) := HR.out.trans (if_neg (fun h => h.elim HNq.out HNn.out))
 clear HBn HR HNq HNn HKl
 obtain ⟨ce, hce⟩ : ∃ z, z = checkE a m := ⟨_, rfl⟩
 have HCe := Hd hce
 rw [<- hce] at HR1
 clear hce
 obtain ⟨g0, g1, x0, x1, x2, x3, x4, x5⟩ := HS.out.cells
 go_wp2_with fail
 refine (HU2.out _).mono ?_
 rintro e W3a ⟨rfl, hb3⟩
 have HS3 := Hd (HS.out.up hb3)
 clear hb3 HS g0 g1 x0 x1 x2 x3 x4 x5
 go_upto_if 51 with fail
 go_cut [5] from 52 to 59 (fun _ wx => Hid (FrS w m kk Q N es a b f Ag Aa Ab Af cg ca cb cf wx) /\ Hid (¬ (xa = true /\ ce ≠ 0)))
 case first =>
   cases xa
   · go_wp2
     go_meet
     exact ⟨HS3.out, fun h => absurd h.1 (by decide)⟩
   · have HCk := Hd (rCheck_any _ a (m : Int) W3a HS3.out.a)
     rw [<- HCe.out] at HCk
     obtain ⟨g0, g1, x0, x1, x2, x3, x4, x5⟩ := HS3.out.cells
     go_wp2_with fail
     refine HCk.out.mono ?_
     rintro e w_ ⟨rfl, rfl⟩
     have HS4 := HS3
     clear HCk g0 g1 x0 x1 x2 x3 x4 x5
     by_cases hE0 : ce ≠ 0
     · have hR : Hid (E = ce) := by show _ = _; rw [HR1.out, if_pos ⟨by trivial, hE0⟩]
       have t1 : (ce != 0) = true := by simpa using hE0
       clear HR1 hE0
       go_wp2
       go_ret
       exact ⟨ret_i hR.out.symm, HS4.out.B⟩
     have hE00 : ce = 0 := by omega
     subst hE00
     go_wp2
     go_meet
     exact ⟨HS4.out, fun h => h.2 rfl⟩
 case rest =>
 obtain ⟨wda, hwd⟩ : ∃ wd, wd = wc := ⟨_, rfl⟩
 subst hwd
 obtain ⟨hS, hno⟩ := hcut
 have HS := Hd hS.out
 have HR2 : Hid (E = _) := HR1.out.trans (if_neg hno.out)
 clear hS hno HR1 HCe HS3
 obtain ⟨ce, hce⟩ : ∃ z, z = checkE b m := ⟨_, rfl⟩
 have HCe := Hd hce
 rw [<- hce] at HR2
 clear hce
 obtain ⟨g0, g1, x0, x1, x2, x3, x4, x5⟩ := HS.out.cells
 go_wp2_with fail
 refine (HU3.out _).mono ?_
 rintro e W3b ⟨rfl, hb3⟩
 have HS3 := Hd (HS.out.up hb3)
 clear hb3 HS g0 g1 x0 x1 x2 x3 x4 x5
 go_upto_if 62 with fail
 go_cut [6] from 63 to 70 (fun _ wx => Hid (FrS w m kk Q N es a b f Ag Aa Ab Af cg ca cb cf wx) /\ Hid (¬ (xb = true /\ ce ≠ 0)))
 case first =>
   cases xb
   · go_wp2
     go_meet
     exact ⟨HS3.out, fun h => absurd h.1 (by decide)⟩
   · have HCk := Hd (rCheck_any _ b (m : Int) W3b HS3.out.b)
     rw [<- HCe.out] at HCk
     obtain ⟨g0, g1, x0, x1, x2, x3, x4, x5⟩ := HS3.out.cells
     go_wp2_with fail
     refine HCk.out.mono ?_
     rintro e w_ ⟨rfl, rfl⟩
     have HS4 := HS3
     clear HCk g0 g1 x0 x1 x2 x3 x4 x5
     by_cases hE0 : ce ≠ 0
     · have hR : Hid (E = ce) := by show _ = _; rw [HR2.out, if_pos ⟨by trivial, hE0⟩]
       have t1 : (ce != 0) = true := by simpa using hE0
       clear HR2 hE0
       go_wp2
       go_ret
       exact ⟨ret_i hR.out.symm, HS4.out.B⟩
     have hE00 : ce = 0 := by omega
     subst hE00
     go_wp2
     go_meet
     exact ⟨HS4.out, fun h => h.2 rfl⟩
 case rest =>
 obtain ⟨wdb, hwd⟩ : ∃ wd, wd = wc := ⟨_, rfl⟩
 subst hwd
 obtain ⟨hS, hno⟩ := hcut
 have HS := Hd hS.out
 have HR3 : Hid (E = _) := HR2.out.trans (if_neg hno.out)
 clear hS hno HR2 HCe HS3
 obtain ⟨ce, hce⟩ : ∃ z, z = facNG m f := ⟨_, rfl⟩
 have HCe := Hd hce
 rw [<- hce] at HR3
 clear hce
 obtain ⟨g0, g1, x0, x1, x2, x3, x4, x5⟩ := HS.out.cells
 go_wp2_with fail
 refine (HU4.out _).mono ?_
 rintro e W3f ⟨rfl, hb3⟩
 have HS3 := Hd (HS.out.up hb3)
 clear hb3 HS g0 g1 x0 x1 x2 x3 x4 x5
 go_upto_if 73 with fail
 go_cut [7] from 74 to 81 (fun _ wx => Hid (FrS w m kk Q N es a b f Ag Aa Ab Af cg ca cb cf wx) /\ Hid (¬ (xf = true /\ ce ≠ 0)))
 case first =>
   cases xf
   · go_wp2
     go_meet
     exact ⟨HS3.out, fun h => absurd h.1 (by decide)⟩
   · have HCk := Hd (rFacG_any _ m f W3f HS3.out.f hm)
     rw [<- HCe.out] at HCk
     obtain ⟨g0, g1, x0, x1, x2, x3, x4, x5⟩ := HS3.out.cells
     go_wp2_with fail
     refine HCk.out.mono ?_
     rintro e W4 ⟨rfl, hb4⟩
     have HS4 := Hd (HS3.out.up hb4)
     clear hb4
     clear HCk g0 g1 x0 x1 x2 x3 x4 x5
     by_cases hE0 : ce ≠ 0
     · have hR : Hid (E = ce) := by show _ = _; rw [HR3.out, if_pos ⟨by trivial, hE0⟩]
       have t1 : (ce != 0) = true := by simpa using hE0
       clear HR3 hE0
       go_wp2
       go_ret
       exact ⟨ret_i hR.out.symm, HS4.out.B⟩
     have hE00 : ce = 0 := by omega
     subst hE00
     go_wp2
     go_meet
     exact ⟨HS4.out, fun h => h.2 rfl⟩
 case rest =>
 obtain ⟨wdf, hwd⟩ : ∃ wd, wd = wc := ⟨_, rfl⟩
 subst hwd
 obtain ⟨hS, hno⟩ := hcut
 have HS := Hd hS.out
 have HR4 : Hid (E = _) := HR3.out.trans (if_neg hno.out)
 clear hS hno HR3 HCe HS3
 obtain ⟨b3, hb3⟩ : ∃ z, z = decide ((xq = false /\ Q ≠ 0) \/ (xn = false /\ N ≠ 0) \/ (xa = false /\ a ≠ []) \/ (xb = false /\ b ≠ []) \/ (xf = false /\ f ≠ [])) := ⟨_, rfl⟩
 have HB3 := Hd hb3
 clear hb3
 go_upto_region 19 with fail
 go_cut [137] from 82 to 136 (fun c wx => c = .bool b3 /\ Hid (FrS w m kk Q N es a b f Ag Aa Ab Af cg ca cb cf wx))
 case first =>
   obtain ⟨g0, g1, x0, x1, x2, x3, x4, x5⟩ := HS.out.cells
   rcases HPt.out with ⟨rfl, rfl, rfl, rfl, rfl⟩ | ⟨rfl, rfl, rfl, rfl, rfl⟩ | ⟨rfl, rfl, rfl, rfl, rfl⟩ | ⟨rfl, rfl, rfl, rfl, rfl⟩ | ⟨rfl, rfl, rfl, rfl, rfl⟩ | ⟨rfl, rfl, rfl, rfl, rfl⟩
   · skip
     go_wp2_with fail
     refine (HU0.out _).mono ?_
     rintro e W4 ⟨rfl, hb3⟩
     have HS4 := Hd (HS.out.up hb3)
     clear hb3 g0 g1 x0 x1 x2 x3 x4 x5
     obtain ⟨g0, g1, x0, x1, x2, x3, x4, x5⟩ := HS4.out.cells
     by_cases h0 : Q ≠ 0
     · have hz : b3 = true := by rw [HB3.out]; exact decide_eq_true (.inl ⟨by trivial, h0⟩)
       have t0 : (Q != 0) = true := by simpa using h0
       subst hz
       clear h0
       go_wp2
       go_meet
       exact ⟨by first | rfl | simpa using t0 | simpa using t0f, HS4.out⟩
     have t0q : (Q != 0) = false := by simpa using h0
     have H0q := Hd (show Q = 0 by omega)
     clear h0
     go_wp2_with fail
     refine (HU1.out _).mono ?_
     rintro e W5 ⟨rfl, hb3⟩
     have HS5 := Hd (HS4.out.up hb3)
     clear hb3 g0 g1 x0 x1 x2 x3 x4 x5
     obtain ⟨g0, g1, x0, x1, x2, x3, x4, x5⟩ := HS5.out.cells
     by_cases h0 : N ≠ 0
     · have hz : b3 = true := by rw [HB3.out]; exact decide_eq_true (.inr (.inl ⟨by trivial, h0⟩))
       have t0 : (N != 0) = true := by simpa using h0
       subst hz
       clear h0
       go_wp2
       go_meet
       exact ⟨by first | rfl | simpa using t0 | simpa using t0f, HS5.out⟩
     have t0n : (N != 0) = false := by simpa using h0
     have H0n := Hd (show N = 0 by omega)
     clear h0
     go_wp2_with fail
     refine (HU2.out _).mono ?_
     rintro e W6 ⟨rfl, hb3⟩
     have HS6 := Hd (HS5.out.up hb3)
     clear hb3 g0 g1 x0 x1 x2 x3 x4 x5
     obtain ⟨g0, g1, x0, x1, x2, x3, x4, x5⟩ := HS6.out.cells
     go_wp2_with fail
     refine (HU3.out _).mono ?_
     rintro e W7 ⟨rfl, hb3⟩
     have HS7 := Hd (HS6.out.up hb3)
     clear hb3 g0 g1 x0 x1 x2 x3 x4 x5
     obtain ⟨g0, g1, x0, x1, x2, x3, x4, x5⟩ := HS7.out.cells
     go_wp2_with fail
     refine (HU4.out _).mono ?_
     rintro e W8 ⟨rfl, hb3⟩
     have HS8 := Hd (HS7.out.up hb3)
     clear hb3 g0 g1 x0 x1 x2 x3 x4 x5
     obtain ⟨g0, g1, x0, x1, x2, x3, x4, x5⟩ := HS8.out.cells
     by_cases h0 : f ≠ []
     · have hz : b3 = true := by rw [HB3.out]; exact decide_eq_true (.inr (.inr (.inr (.inr (⟨by trivial, h0⟩)))))
       have t0 : 0 < f.length := List.length_pos_iff.2 h0
       subst hz
       clear h0
       go_wp2
       go_meet
       exact ⟨by first | rfl | simpa using t0 | simpa using t0f, HS8.out⟩
     have h0z : f = [] := by simpa using h0
     have t0f : ¬ 0 < f.length := by rw [h0z]; decide
     have H0f := Hd h0z
     clear h0 h0z
     have hz : b3 = false := by
       rw [HB3.out]
       refine decide_eq_false (fun h => ?_)
       rcases h with h | h | h | h | h
       · exact absurd h.2 (fun h2 => h2 H0q.out)
       · exact absurd h.2 (fun h2 => h2 H0n.out)
       · exact absurd h.1 (by decide)
       · exact absurd h.1 (by decide)
       · exact absurd h.2 (fun h2 => h2 H0f.out)
     subst hz
     go_wp2
     go_meet
     exact ⟨by first | rfl | simpa using t0 | simpa using t0f, HS8.out⟩
   · skip
     go_wp2_with fail
     refine (HU0.out _).mono ?_
     rintro e W4 ⟨rfl, hb3⟩
     have HS4 := Hd (HS.out.up hb3)
     clear hb3 g0 g1 x0 x1 x2 x3 x4 x5
     obtain ⟨g0, g1, x0, x1, x2, x3, x4, x5⟩ := HS4.out.cells
     by_cases h0 : Q ≠ 0
     · have hz : b3 = true := by rw [HB3.out]; exact decide_eq_true (.inl ⟨by trivial, h0⟩)
       have t0 : (Q != 0) = true := by simpa using h0
       subst hz
       clear h0
       go_wp2
       go_meet
       exact ⟨by first | rfl | simpa using t0 | simpa using t0f, HS4.out⟩
     have t0q : (Q != 0) = false := by simpa using h0
     have H0q := Hd (show Q = 0 by omega)
     clear h0
     go_wp2_with fail
     refine (HU1.out _).mono ?_
     rintro e W5 ⟨rfl, hb3⟩
     have HS5 := Hd (HS4.out.up hb3)
     clear hb3 g0 g1 x0 x1 x2 x3 x4 x5
     obtain ⟨g0, g1, x0, x1, x2, x3, x4, x5⟩ := HS5.out.cells
     by_cases h0 : N ≠ 0
     · have hz : b3 = true := by rw [HB3.out]; exact decide_eq_true (.inr (.inl ⟨by trivial, h0⟩))
       have t0 : (N != 0) = true := by simpa using h0
       subst hz
       clear h0
       go_wp2
       go_meet
       exact ⟨by first | rfl | simpa using t0 | simpa using t0f, HS5.out⟩
     have t0n : (N != 0) = false := by simpa using h0
     have H0n := Hd (show N = 0 by omega)
     clear h0
     go_wp2_with fail
     refine (HU2.out _).mono ?_
     rintro e W6 ⟨rfl, hb3⟩
     have HS6 := Hd (HS5.out.up hb3)
     clear hb3 g0 g1 x0 x1 x2 x3 x4 x5
     obtain ⟨g0, g1, x0, x1, x2, x3, x4, x5⟩ := HS6.out.cells
     go_wp2_with fail
     refine (HU3.out _).mono ?_
     rintro e W7 ⟨rfl, hb3⟩
     have HS7 := Hd (HS6.out.up hb3)
     clear hb3 g0 g1 x0 x1 x2 x3 x4 x5
     obtain ⟨g0, g1, x0, x1, x2, x3, x4, x5⟩ := HS7.out.cells
     by_cases h0 : b ≠ []
     · have hz : b3 = true := by rw [HB3.out]; exact decide_eq_true (.inr (.inr (.inr (.inl ⟨by trivial, h0⟩))))
       have t0 : 0 < b.length := List.length_pos_iff.2 h0
       subst hz
       clear h0
       go_wp2
       go_meet
       exact ⟨by first | rfl | simpa using t0 | simpa using t0f, HS7.out⟩
     have h0z : b = [] := by simpa using h0
     have t0b : ¬ 0 < b.length := by rw [h0z]; decide
     have H0b := Hd h0z
     clear h0 h0z
     go_wp2_with fail
     refine (HU4.out _).mono ?_
     rintro e W8 ⟨rfl, hb3⟩
     have HS8 := Hd (HS7.out.up hb3)
     clear hb3 g0 g1 x0 x1 x2 x3 x4 x5
     obtain ⟨g0, g1, x0, x1, x2, x3, x4, x5⟩ := HS8.out.cells
     by_cases h0 : f ≠ []
     · have hz : b3 = true := by rw [HB3.out]; exact decide_eq_true (.inr (.inr (.inr (.inr (⟨by trivial, h0⟩)))))
       have t0 : 0 < f.length := List.length_pos_iff.2 h0
       subst hz
       clear h0
       go_wp2
       go_meet
       exact ⟨by first | rfl | simpa using t0 | simpa using t0f, HS8.out⟩
     have h0z : f = [] := by simpa using h0
     have t0f : ¬ 0 < f.length := by rw [h0z]; decide
     have H0f := Hd h0z
     clear h0 h0z
     have hz : b3 = false := by
       rw [HB3.out]
       refine decide_eq_false (fun h => ?_)
       rcases h with h | h | h | h | h
       · exact absurd h.2 (fun h2 => h2 H0q.out)
       · exact absurd h.2 (fun h2 => h2 H0n.out)
       · exact absurd h.1 (by decide)
       · exact absurd h.2 (fun h2 => h2 H0b.out)
       · exact absurd h.2 (fun h2 => h2 H0f.out)
     subst hz
     go_wp2
     go_meet
     exact ⟨by first | rfl | simpa using t0 | simpa using t0f, HS8.out⟩
   · skip
     go_wp2_with fail
     refine (HU0.out _).mono ?_
     rintro e W4 ⟨rfl, hb3⟩
     have HS4 := Hd (HS.out.up hb3)
     clear hb3 g0 g1 x0 x1 x2 x3 x4 x5
     obtain ⟨g0, g1, x0, x1, x2, x3, x4, x5⟩ := HS4.out.cells
     by_cases h0 : Q ≠ 0
     · have hz : b3 = true := by rw [HB3.out]; exact decide_eq_true (.inl ⟨by trivial, h0⟩)
       have t0 : (Q != 0) = true := by simpa using h0
       subst hz
       clear h0
       go_wp2
       go_meet
       exact ⟨by first | rfl | simpa using t0 | simpa using t0f, HS4.out⟩
     have t0q : (Q != 0) = false := by simpa using h0
     have H0q := Hd (show Q = 0 by omega)
     clear h0
     go_wp2_with fail
     refine (HU1.out _).mono ?_
     rintro e W5 ⟨rfl, hb3⟩
     have HS5 := Hd (HS4.out.up hb3)
     clear hb3 g0 g1 x0 x1 x2 x3 x4 x5
     obtain ⟨g0, g1, x0, x1, x2, x3, x4, x5⟩ := HS5.out.cells
     go_wp2_with fail
     refine (HU2.out _).mono ?_
     rintro e W6 ⟨rfl, hb3⟩
     have HS6 := Hd (HS5.out.up hb3)
     clear hb3 g0 g1 x0 x1 x2 x3 x4 x5
     obtain ⟨g0, g1, x0, x1, x2, x3, x4, x5⟩ := HS6.out.cells
     go_wp2_with fail
     refine (HU3.out _).mono ?_
     rintro e W7 ⟨rfl, hb3⟩
     have HS7 := Hd (HS6.out.up hb3)
     clear hb3 g0 g1 x0 x1 x2 x3 x4 x5
     obtain ⟨g0, g1, x0, x1, x2, x3, x4, x5⟩ := HS7.out.cells
     by_cases h0 : b ≠ []
     · have hz : b3 = true := by rw [HB3.out]; exact decide_eq_true (.inr (.inr (.inr (.inl ⟨by trivial, h0⟩))))
       have t0 : 0 < b.length := List.length_pos_iff.2 h0
       subst hz
       clear h0
       go_wp2
       go_meet
       exact ⟨by first | rfl | simpa using t0 | simpa using t0f, HS7.out⟩
     have h0z : b = [] := by simpa using h0
     have t0b : ¬ 0 < b.length := by rw [h0z]; decide
     have H0b := Hd h0z
     clear h0 h0z
     go_wp2_with fail
     refine (HU4.out _).mono ?_
     rintro e W8 ⟨rfl, hb3⟩
     have HS8 := Hd (HS7.out.up hb3)
     clear hb3 g0 g1 x0 x1 x2 x3 x4 x5
     obtain ⟨g0, g1, x0, x1, x2, x3, x4, x5⟩ := HS8.out.cells
     by_cases h0 : f ≠ []
     · have hz : b3 = true := by rw [HB3.out]; exact decide_eq_true (.inr (.inr (.inr (.inr (⟨by trivial, h0⟩)))))
       have t0 : 0 < f.length := List.length_pos_iff.2 h0
       subst hz
       clear h0
       go_wp2
       go_meet
       exact ⟨by first | rfl | simpa using t0 | simpa using t0f, HS8.out⟩
     have h0z : f = [] := by simpa using h0
     have t0f : ¬ 0 < f.length := by rw [h0z]; decide
     have H0f := Hd h0z
     clear h0 h0z
     have hz : b3 = false := by
       rw [HB3.out]
       refine decide_eq_false (fun h => ?_)
       rcases h with h | h | h | h | h
       · exact absurd h.2 (fun h2 => h2 H0q.out)
       · exact absurd h.1 (by decide)
       · exact absurd h.1 (by decide)
       · exact absurd h.2 (fun h2 => h2 H0b.out)
       · exact absurd h.2 (fun h2 => h2 H0f.out)
     subst hz
     go_wp2
     go_meet
     exact ⟨by first | rfl | simpa using t0 | simpa using t0f, HS8.out⟩
   · skip
     go_wp2_with fail
     refine (HU0.out _).mono ?_
     rintro e W4 ⟨rfl, hb3⟩
     have HS4 := Hd (HS.out.up hb3)
     clear hb3 g0 g1 x0 x1 x2 x3 x4 x5
     obtain ⟨g0, g1, x0, x1, x2, x3, x4, x5⟩ := HS4.out.cells
     go_wp2_with fail
     refine (HU1.out _).mono ?_
     rintro e W5 ⟨rfl, hb3⟩
     have HS5 := Hd (HS4.out.up hb3)
     clear hb3 g0 g1 x0 x1 x2 x3 x4 x5
     obtain ⟨g0, g1, x0, x1, x2, x3, x4, x5⟩ := HS5.out.cells
     by_cases h0 : N ≠ 0
     · have hz : b3 = true := by rw [HB3.out]; exact decide_eq_true (.inr (.inl ⟨by trivial, h0⟩))
       have t0 : (N != 0) = true := by simpa using h0
       subst hz
       clear h0
       go_wp2
       go_meet
       exact ⟨by first | rfl | simpa using t0 | simpa using t0f, HS5.out⟩
     have t0n : (N != 0) = false := by simpa using h0
     have H0n := Hd (show N = 0 by omega)
     clear h0
     go_wp2_with fail
     refine (HU2.out _).mono ?_
     rintro e W6 ⟨rfl, hb3⟩
     have HS6 := Hd (HS5.out.up hb3)
     clear hb3 g0 g1 x0 x1 x2 x3 x4 x5
     obtain ⟨g0, g1, x0, x1, x2, x3, x4, x5⟩ := HS6.out.cells
     go_wp2_with fail
     refine (HU3.out _).mono ?_
     rintro e W7 ⟨rfl, hb3⟩
     have HS7 := Hd (HS6.out.up hb3)
     clear hb3 g0 g1 x0 x1 x2 x3 x4 x5
     obtain ⟨g0, g1, x0, x1, x2, x3, x4, x5⟩ := HS7.out.cells
     by_cases h0 : b ≠ []
     · have hz : b3 = true := by rw [HB3.out]; exact decide_eq_true (.inr (.inr (.inr (.inl ⟨by trivial, h0⟩))))
       have t0 : 0 < b.length := List.length_pos_iff.2 h0
       subst hz
       clear h0
       go_wp2
       go_meet
       exact ⟨by first | rfl | simpa using t0 | simpa using t0f, HS7.out⟩
     have h0z : b = [] := by simpa using h0
     have t0b : ¬ 0 < b.length := by rw [h0z]; decide
     have H0b := Hd h0z
     clear h0 h0z
     go_wp2_with fail
     refine (HU4.out _).mono ?_
     rintro e W8 ⟨rfl, hb3⟩
     have HS8 := Hd (HS7.out.up hb3)
     clear hb3 g0 g1 x0 x1 x2 x3 x4 x5
     obtain ⟨g0, g1, x0, x1, x2, x3, x4, x5⟩ := HS8.out.cells
     by_cases h0 : f ≠ []
     · have hz : b3 = true := by rw [HB3.out]; exact decide_eq_true (.inr (.inr (.inr (.inr (⟨by trivial, h0⟩)))))
       have t0 : 0 < f.length := List.length_pos_iff.2 h0
       subst hz
       clear h0
       go_wp2
       go_meet
       exact ⟨by first | rfl | simpa using t0 | simpa using t0f, HS8.out⟩
     have h0z : f = [] := by simpa using h0
     have t0f : ¬ 0 < f.length := by rw [h0z]; decide
     have H0f := Hd h0z
     clear h0 h0z
     have hz : b3 = false := by
       rw [HB3.out]
       refine decide_eq_false (fun h => ?_)
       rcases h with h | h | h | h | h
       · exact absurd h.1 (by decide)
       · exact absurd h.2 (fun h2 => h2 H0n.out)
       · exact absurd h.1 (by decide)
       · exact absurd h.2 (fun h2 => h2 H0b.out)
       · exact absurd h.2 (fun h2 => h2 H0f.out)
     subst hz
     go_wp2
     go_meet
     exact ⟨by first | rfl | simpa using t0 | simpa using t0f, HS8.out⟩
   · skip
     go_wp2_with fail
     refine (HU0.out _).mono ?_
     rintro e W4 ⟨rfl, hb3⟩
     have HS4 := Hd (HS.out.up hb3)
     clear hb3 g0 g1 x0 x1 x2 x3 x4 x5
     obtain ⟨g0, g1, x0, x1, x2, x3, x4, x5⟩ := HS4.out.cells
     go_wp2_with fail
     refine (HU1.out _).mono ?_
     rintro e W5 ⟨rfl, hb3⟩
     have HS5 := Hd (HS4.out.up hb3)
     clear hb3 g0 g1 x0 x1 x2 x3 x4 x5
     obtain ⟨g0, g1, x0, x1, x2, x3, x4, x5⟩ := HS5.out.cells
     by_cases h0 : N ≠ 0
     · have hz : b3 = true := by rw [HB3.out]; exact decide_eq_true (.inr (.inl ⟨by trivial, h0⟩))
       have t0 : (N != 0) = true := by simpa using h0
       subst hz
       clear h0
       go_wp2
       go_meet
       exact ⟨by first | rfl | simpa using t0 | simpa using t0f, HS5.out⟩
     have t0n : (N != 0) = false := by simpa using h0
     have H0n := Hd (show N = 0 by omega)
     clear h0
     go_wp2_with fail
     refine (HU2.out _).mono ?_
     rintro e W6 ⟨rfl, hb3⟩
     have HS6 := Hd (HS5.out.up hb3)
     clear hb3 g0 g1 x0 x1 x2 x3 x4 x5
     obtain ⟨g0, g1, x0, x1, x2, x3, x4, x5⟩ := HS6.out.cells
     go_wp2_with fail
     refine (HU3.out _).mono ?_
     rintro e W7 ⟨rfl, hb3⟩
     have HS7 := Hd (HS6.out.up hb3)
     clear hb3 g0 g1 x0 x1 x2 x3 x4 x5
     obtain ⟨g0, g1, x0, x1, x2, x3, x4, x5⟩ := HS7.out.cells
     go_wp2_with fail
     refine (HU4.out _).mono ?_
     rintro e W8 ⟨rfl, hb3⟩
     have HS8 := Hd (HS7.out.up hb3)
     clear hb3 g0 g1 x0 x1 x2 x3 x4 x5
     obtain ⟨g0, g1, x0, x1, x2, x3, x4, x5⟩ := HS8.out.cells
     by_cases h0 : f ≠ []
     · have hz : b3 = true := by rw [HB3.out]; exact decide_eq_true (.inr (.inr (.inr (.inr (⟨by trivial, h0⟩)))))
       have t0 : 0 < f.length := List.length_pos_iff.2 h0
       subst hz
       clear h0
       go_wp2
       go_meet
       exact ⟨by first | rfl | simpa using t0 | simpa using t0f, HS8.out⟩
     have h0z : f = [] := by simpa using h0
     have t0f : ¬ 0 < f.length := by rw [h0z]; decide
     have H0f := Hd h0z
     clear h0 h0z
     have hz : b3 = false := by
       rw [HB3.out]
       refine decide_eq_false (fun h => ?_)
       rcases h with h | h | h | h | h
       · exact absurd h.1 (by decide)
       · exact absurd h.2 (fun h2 => h2 H0n.out)
       · exact absurd h.1 (by decide)
       · exact absurd h.1 (by decide)
       · exact absurd h.2 (fun h2 => h2 H0f.out)
     subst hz
     go_wp2
     go_meet
     exact ⟨by first | rfl | simpa using t0 | simpa using t0f, HS8.out⟩
   · skip
     go_wp2_with fail
     refine (HU0.out _).mono ?_
     rintro e W4 ⟨rfl, hb3⟩
     have HS4 := Hd (HS.out.up hb3)
     clear hb3 g0 g1 x0 x1 x2 x3 x4 x5
     obtain ⟨g0, g1, x0, x1, x2, x3, x4, x5⟩ := HS4.out.cells
     by_cases h0 : Q ≠ 0
     · have hz : b3 = true := by rw [HB3.out]; exact decide_eq_true (.inl ⟨by trivial, h0⟩)
       have t0 : (Q != 0) = true := by simpa using h0
       subst hz
       clear h0
       go_wp2
       go_meet
       exact ⟨by first | rfl | simpa using t0 | simpa using t0f, HS4.out⟩
     have t0q : (Q != 0) = false := by simpa using h0
     have H0q := Hd (show Q = 0 by omega)
     clear h0
     go_wp2_with fail
     refine (HU1.out _).mono ?_
     rintro e W5 ⟨rfl, hb3⟩
     have HS5 := Hd (HS4.out.up hb3)
     clear hb3 g0 g1 x0 x1 x2 x3 x4 x5
     obtain ⟨g0, g1, x0, x1, x2, x3, x4, x5⟩ := HS5.out.cells
     by_cases h0 : N ≠ 0
     · have hz : b3 = true := by rw [HB3.out]; exact decide_eq_true (.inr (.inl ⟨by trivial, h0⟩))
       have t0 : (N != 0) = true := by simpa using h0
       subst hz
       clear h0
       go_wp2
       go_meet
       exact ⟨by first | rfl | simpa using t0 | simpa using t0f, HS5.out⟩
     have t0n : (N != 0) = false := by simpa using h0
     have H0n := Hd (show N = 0 by omega)
     clear h0
     go_wp2_with fail
     refine (HU2.out _).mono ?_
     rintro e W6 ⟨rfl, hb3⟩
     have HS6 := Hd (HS5.out.up hb3)
     clear hb3 g0 g1 x0 x1 x2 x3 x4 x5
     obtain ⟨g0, g1, x0, x1, x2, x3, x4, x5⟩ := HS6.out.cells
     by_cases h0 : a ≠ []
     · have hz : b3 = true := by rw [HB3.out]; exact decide_eq_true (.inr (.inr (.inl ⟨by trivial, h0⟩)))
       have t0 : 0 < a.length := List.length_pos_iff.2 h0
       subst hz
       clear h0
       go_wp2
       go_meet
       exact ⟨by first | rfl | simpa using t0 | simpa using t0f, HS6.out⟩
     have h0z : a = [] := by simpa using h0
     have t0a : ¬ 0 < a.length := by rw [h0z]; decide
     have H0a := Hd h0z
     clear h0 h0z
     go_wp2_with fail
     refine (HU3.out _).mono ?_
     rintro e W7 ⟨rfl, hb3⟩
     have HS7 := Hd (HS6.out.up hb3)
     clear hb3 g0 g1 x0 x1 x2 x3 x4 x5
     obtain ⟨g0, g1, x0, x1, x2, x3, x4, x5⟩ := HS7.out.cells
     by_cases h0 : b ≠ []
     · have hz : b3 = true := by rw [HB3.out]; exact decide_eq_true (.inr (.inr (.inr (.inl ⟨by trivial, h0⟩))))
       have t0 : 0 < b.length := List.length_pos_iff.2 h0
       subst hz
       clear h0
       go_wp2
       go_meet
       exact ⟨by first | rfl | simpa using t0 | simpa using t0f, HS7.out⟩
     have h0z : b = [] := by simpa using h0
     have t0b : ¬ 0 < b.length := by rw [h0z]; decide
     have H0b := Hd h0z
     clear h0 h0z
     go_wp2_with fail
     refine (HU4.out _).mono ?_
     rintro e W8 ⟨rfl, hb3⟩
     have HS8 := Hd (HS7.out.up hb3)
     clear hb3 g0 g1 x0 x1 x2 x3 x4 x5
     obtain ⟨g0, g1, x0, x1, x2, x3, x4, x5⟩ := HS8.out.cells
     have hz : b3 = false := by
       rw [HB3.out]
       refine decide_eq_false (fun h => ?_)
       rcases h with h | h | h | h | h
       · exact absurd h.2 (fun h2 => h2 H0q.out)
       · exact absurd h.2 (fun h2 => h2 H0n.out)
       · exact absurd h.2 (fun h2 => h2 H0a.out)
       · exact absurd h.2 (fun h2 => h2 H0b.out)
       · exact absurd h.1 (by decide)
     subst hz
     go_wp2
     go_meet
     exact ⟨by first | rfl | simpa using t0 | simpa using t0f, HS8.out⟩
 case rest =>
 obtain ⟨wd3, hwd⟩ : ∃ wd, wd = wc := ⟨_, rfl⟩
 subst hwd
 obtain ⟨rfl, hS⟩ := hcut
 have HS := Hd hS.out
 clear hS
 cases b3
 · have hR : Hid (E = 0) := by show _ = _; rw [HR4.out, if_neg (of_decide_eq_false HB3.out.symm)]
   clear HR4
   go_wp2
   go_ret
   exact ⟨ret_i hR.out.symm, HS.out.B⟩
 · have hR : Hid (E = 3) := by show _ = _; rw [HR4.out, if_pos (of_decide_eq_true HB3.out.symm)]
   clear HR4
   go_wp2
   go_ret
   exact ⟨ret_i hR.out.symm, HS.out.B⟩
section
variable {P : Program} {w : World}
end
theorem rForm_bad (g va vb vf : Value) (n : Int) (kk Q N : Int) (es : List Tri) (w : World) (hk : kk < 0 \/ 8 < kk) (hg : GV w g n es) :
   Calls Tryz.prog 37 #[g, .agg #[.int .i64 kk, .int .i64 Q, .int .i64 N, va, vb, vf]] w fun e w' => e = .returned (.int .i64 1) /\ Below w.heap.size w w' := by
 obtain ⟨Ag, cg, rfl, -⟩ := hg.open_
 obtain ⟨W0, hW0⟩ : ∃ W0, W0 = (w.alloc (.cells #[.int .i64 n, .slice Ag es.length cg] 25)).alloc (.cells #[.int .i64 kk, .int .i64 Q, .int .i64 N, va, vb, vf] 47) := ⟨_, rfl⟩
 have hb0 : Below w.heap.size w W0 := by rw [hW0]; exact (below_alloc w _).alloc (by simp) _
 have hxg : BL W0 w.heap.size 25 [.int .i64 n, .slice Ag es.length cg] := by rw [hW0]; exact (BL.new' w _ _).alloc _
 have hxc : BL W0 (w.heap.size + 1) 47 [.int .i64 kk, .int .i64 Q, .int .i64 N, va, vb, vf] := by
   rw [hW0]
   have := BL.new' (w.alloc (.cells #[.int .i64 n, .slice Ag es.length cg] 25)) #[.int .i64 kk, .int .i64 Q, .int .i64 N, va, vb, vf] 47
   rwa [World.size_alloc] at this
 have HXg := Hd hxg
 have HXc := Hd hxc
 have HG0 := Hd (hg.below hb0)
 have HB0 := Hd hb0
 have HW0 := Hd hW0
 clear hg hxg hxc hW0 hb0
 have c0 := HXc.out.cell 0
 rw [HW0.out] at c0
 have hkk : kk < 0 \/ ¬ kk < 0 /\ (8 : Int) < kk := by omega
 clear hk HXc HXg HG0
 rcases hkk with h1 | ⟨h1, h2⟩
 · go_enter Tryz.func37, Tryz.ntmps37
   go_wp2
   go_ret
   exact ⟨rfl, by rw [<- HW0.out]; exact HB0.out⟩
 · go_enter Tryz.func37, Tryz.ntmps37
   go_wp2
   go_ret
   exact ⟨rfl, by rw [<- HW0.out]; exact HB0.out⟩
theorem rFormA_any (g va vb vf : Value) (m : Nat) (kk Q N : Int) (es : List Tri) (a b f : List Int) (w : World) (hg : GV w g m es) (ha : RI w va a) (hb : RI w vb b) (hf : RI w vf f) (hm : m <= 12) :
   Calls Tryz.prog 37 #[g, .agg #[.int .i64 kk, .int .i64 Q, .int .i64 N, va, vb, vf]] w fun e w' => e = .returned (.int .i64 (formA m kk Q N a b f)) /\ Below w.heap.size w w' := by
 by_cases h : kk < 0 \/ 8 < kk
 · rw [show formA m kk Q N a b f = 1 by unfold formA; rw [if_pos h]]
   exact rForm_bad g va vb vf m kk Q N es w h hg
 · obtain ⟨k, rfl⟩ : ∃ k : Nat, kk = k := ⟨kk.toNat, by omega⟩
   rw [show formA m k Q N a b f = formG m k Q N a b f by unfold formA; rw [if_neg h, Int.toNat_natCast]]
   exact rFormG_any g va vb vf m k Q N es a b f w (by omega) hg ha hb hf hm
end Go.Proofs.YteamhbohgoclgaaGreatDoor
