/- Contract of the text of a claim. (printed by gen/text57.py) -/
import Derived.Test.YteamhbohgoclgaaGreatDoorR22
import Derived.Test.YteamhbohgoclgaaGreatDoorR17
import Derived.Laws.EntriesVeiled
set_option maxRecDepth 100000
set_option maxHeartbeats 16000000
namespace Go.Proofs.YteamhbohgoclgaaGreatDoor
open Go.RowKit Go.Shelf

def txtL (k : Nat) (Q N : Int) (a b f : List Int) : List Int := (if kq k then [Q] else []) ++ (if kn k then [N] else []) ++ a ++ b ++ (if kf k then (f.length : Int) :: f else [])
def txtS (k : Nat) (Q N : Int) (a b f : List Int) : List UInt8 := kwL.getD k [] ++ numT (txtL k Q N a b f)
theorem numT_len : ∀ l : List Int, (∀ z ∈ l, -9223372036854775808 <= z /\ z <= 9223372036854775807) -> (numT l).length <= 21 * l.length
 | [], _ => by simp [numT]
 | z :: r, h => by
   have h1 := itoa_len z (h z (by simp)).1 (h z (by simp)).2
   have h2 := numT_len r (fun y hy => h y (by simp [hy]))
   have h3 : numT (z :: r) = (32 :: Go.Lib.itoa z) ++ numT r := rfl
   rw [h3]; simp only [List.length_append, List.length_cons]; omega
theorem pkL_S : ∀ k : Nat, k < 9 -> ∀ W : World, (Instr.index 86 (.agg pkL.toArray) (.int .i64 (k : Int))).run Tryz.prog W = .ok (.agg (pk k).toArray) W := by
 intro k hk W
 match k, hk with
 | 0, _ | 1, _ | 2, _ | 3, _ | 4, _ | 5, _ | 6, _ | 7, _ | 8, _ => simp [Instr.index, run_underlying Tryz.underlying86, asIntOf, go_sem, pkL, pk, List.range_succ]
theorem pText_any (va vb vf : Value) (k : Nat) (Q N : Int) (a b f : List Int) (w : World) (hk : k < 9) (ha : RI w va a) (hb : RI w vb b) (hf : RI w vf f) (hal : a.length <= 1000) (hbl : b.length <= 1000) (hfl : f.length <= 1000)
   (hr : ∀ z ∈ txtL k Q N a b f, -9223372036854775808 <= z /\ z <= 9223372036854775807) (ht : TB w) :
   Calls Tryz.prog 32 #[.agg #[.int .i64 (k : Int), .int .i64 Q, .int .i64 N, va, vb, vf]] w fun e w' => e = .returned (strV (txtS k Q N a b f)) /\ Below w.heap.size w w' := by
 obtain ⟨i0, hi, hz0, hz1, hz2⟩ := info_parts int_info
 obtain ⟨Aa, ca, rfl, -, hla, -⟩ := ha.open_
 obtain ⟨Ab, cb, rfl, -, hlb, -⟩ := hb.open_
 obtain ⟨Af, cf, rfl, -, hlf, -⟩ := hf.open_
 obtain ⟨W0, hW0⟩ : ∃ W0, W0 = w.alloc (.cells #[.int .i64 (k : Int), .int .i64 Q, .int .i64 N, .slice Aa a.length ca, .slice Ab b.length cb, .slice Af f.length cf] 40) := ⟨_, rfl⟩
 have hb0 : Below w.heap.size w W0 := by rw [hW0]; exact below_alloc w _
 have hxc : BL W0 w.heap.size 40 [.int .i64 (k : Int), .int .i64 Q, .int .i64 N, .slice Aa a.length ca, .slice Ab b.length cb, .slice Af f.length cf] := by rw [hW0]; exact BL.new' w _ _
 have HXc := Hd hxc
 have HB0 := Hd hb0
 have HT := Hd ht
 have HA := Hd ha
 have HD := Hd hb
 have HF := Hd hf
 have HW0 := Hd hW0
 have HU : Hid (∀ (i : Nat) (W : World), i < 5 -> Calls Tryz.prog 58 #[.agg #[strV (kwL.getD k []), .int .i64 (pm k), .int .i64 (kl k), .func (.func (pfn k)) #[] #[]], .int .i64 (pb i)] W fun e w' => e = .returned (.bool (pu k i)) /\ Below W.heap.size W w') := fun i W hi => puse_any k i hk hi _ _ _ W
 have hix := pkL_S k hk
 have HR : Hid (txtS k Q N a b f = kwL.getD k [] ++ numT (txtL k Q N a b f)) := rfl
 have HTx : Hid (txtL k Q N a b f = (if kq k then [Q] else []) ++ (if kn k then [N] else []) ++ a ++ b ++ (if kf k then (f.length : Int) :: f else [])) := rfl
 generalize txtS k Q N a b f = E at *
 generalize txtL k Q N a b f = L at *
 have HRn := Hd hr
 rw [show (pk k).toArray = #[strV (kwL.getD k []), .int .i64 (pm k), .int .i64 (kl k), .func (.func (pfn k)) #[] #[]] from rfl] at hix
 obtain ⟨S, hS⟩ : ∃ S : ByteArray, S = ⟨(kwL.getD k []).toArray⟩ := ⟨_, rfl⟩
 rw [show strV (kwL.getD k []) = .string S by rw [hS]; rfl] at HU hix
 have HS := Hd hS
 have HU0 : Hid (∀ (W : World), Calls Tryz.prog 58 #[.agg #[.string S, .int .i64 (pm k), .int .i64 (kl k), .func (.func (pfn k)) #[] #[]], .int .i64 1] W fun e w' => e = .returned (.bool (kq k)) /\ Below W.heap.size W w') := fun W => HU.out 0 W (by decide)
 have HU1 : Hid (∀ (W : World), Calls Tryz.prog 58 #[.agg #[.string S, .int .i64 (pm k), .int .i64 (kl k), .func (.func (pfn k)) #[] #[]], .int .i64 2] W fun e w' => e = .returned (.bool (kn k)) /\ Below W.heap.size W w') := fun W => HU.out 1 W (by decide)
 have HU4 : Hid (∀ (W : World), Calls Tryz.prog 58 #[.agg #[.string S, .int .i64 (pm k), .int .i64 (kl k), .func (.func (pfn k)) #[] #[]], .int .i64 16] W fun e w' => e = .returned (.bool (kf k)) /\ Below W.heap.size W w') := fun W => HU.out 4 W (by decide)
 have hpt : (kq k = false /\ kn k = false /\ kf k = false) \/ (kq k = false /\ kn k = true /\ kf k = false) \/ (kq k = true /\ kn k = false /\ kf k = false) \/ (kq k = false /\ kn k = false /\ kf k = true) := by
   match k, hk with
   | 0, _ | 1, _ | 2, _ | 3, _ | 4, _ | 5, _ | 6, _ | 7, _ | 8, _ => decide
 have HPt := Hd hpt
 have hkwl : (kwL.getD k []).length <= 11 := by
   match k, hk with
   | 0, _ | 1, _ | 2, _ | 3, _ | 4, _ | 5, _ | 6, _ | 7, _ | 8, _ => decide
 clear hxc hb0 hW0 ha hb hf ht hr HU hS hpt
 generalize kq k = xq at *
 generalize kn k = xn at *
 generalize kf k = xf at *
 generalize pm k = pmk at *
 generalize kl k = klk at *
 generalize pfn k = pfk at *
 go_enter Tryz.func32, Tryz.ntmps32
 go_upto_region 1 with fail
 rw [<- HW0.out]
 have HKp : Hid (∀ W : World, Below W0.heap.size W0 W -> (fun W' : World => W'.cell? ⟨w.heap.size, 0, none⟩ = some (.int .i64 (k : Int))) W) := fun W h => (HXc.out.bel h).cell 0
 have HBd := Hd ((Below.refl W0.heap.size W0).drew)
 have HBz := Hd (below_alloc W0 (.cells #[.string ⟨#[]⟩, .int .i64 0, .int .i64 0, .nilFunc] 85)).drew
 have HS0 := Hd (HKp.out _ HBd.out)
 have HSz := Hd (HKp.out _ HBz.out)
 have HKd := Hd (pKinds_any W0.drew)
 have HKz := Hd (pKinds_any (W0.alloc (.cells #[.string ⟨#[]⟩, .int .i64 0, .int .i64 0, .nilFunc] 85)).drew)
 have HXz : Hid (BL (W0.alloc (.cells #[.string ⟨#[]⟩, .int .i64 0, .int .i64 0, .nilFunc] 85)).drew W0.heap.size 85 [.string ⟨#[]⟩, .int .i64 0, .int .i64 0, .nilFunc]) := BL.new' W0 _ _
 go_cut [3] from 5 to 8 (fun p wx => ∃ b, p = .pointer (some ⟨b, 0, none⟩) /\ Hid (BL wx b 85 [.string S, .int .i64 pmk, .int .i64 klk, .func (.func pfk) #[] #[]]) /\ Hid (Below W0.heap.size W0 wx))
 case first =>
   go_region_held3 (fun W' : World => W'.cell? ⟨w.heap.size, 0, none⟩ = some (.int .i64 (k : Int))) (first | exact HS0.out | exact HSz.out | exact HS1.out | exact HKp.out _ (HBk.out.alloc HBk.out.size _) | exact HKp.out _ ((((HBk.out.setCell (p := ⟨W0.heap.size, 0, none⟩) (Nat.le_refl _) _).setCell (p := ⟨W0.heap.size, 1, none⟩) (Nat.le_refl _) _).setCell (p := ⟨W0.heap.size, 2, none⟩) (Nat.le_refl _) _).setCell (p := ⟨W0.heap.size, 3, none⟩) (Nat.le_refl _) _))
     (first
       | (go_at_call 45; (with_reducible refine HKz.out.mono ?_); rintro e w1 ⟨rfl, hb1⟩; have HBk := Hd (HBz.out.trans (hb1.mono HBz.out.size)); have HS1 := Hd (HKp.out _ HBk.out); have hz := HXz.out.bel hb1; have z0 := hz.cell 0; have z1 := hz.cell 1; have z2 := hz.cell 2; have z3 := hz.cell 3; have f0 := Go.Lib.frozen_of_heap hz 0; have f1 := Go.Lib.frozen_of_heap hz 1; have f2 := Go.Lib.frozen_of_heap hz 2; have f3 := Go.Lib.frozen_of_heap hz 3; have HZ := Hd hz; clear hb1 hz)
       | (go_at_call 45; (with_reducible refine HKd.out.mono ?_); rintro e w1 ⟨rfl, hb1⟩; have HBk := Hd (HBd.out.trans hb1); have HS1 := Hd (HKp.out _ HBk.out); clear hb1))
   all_goals
     go_wp2_with fail
     go_meet
     first
       | exact ⟨_, rfl, BL.new' w1 _ _, HBk.out.alloc HBk.out.size _⟩
       | exact ⟨_, rfl, (((HZ.out.set 0 _).set 1 _).set 2 _).set 3 _, (((HBk.out.setCell (p := ⟨W0.heap.size, 0, none⟩) (Nat.le_refl _) _).setCell (p := ⟨W0.heap.size, 1, none⟩) (Nat.le_refl _) _).setCell (p := ⟨W0.heap.size, 2, none⟩) (Nat.le_refl _) _).setCell (p := ⟨W0.heap.size, 3, none⟩) (Nat.le_refl _) _⟩
 case rest =>
   obtain ⟨b6, rfl, hx6, hbc⟩ := hcut
   have HB2 := Hd (HB0.out.trans (hbc.out.mono HB0.out.size))
   have HXc2 := Hd (HXc.out.bel hbc.out)
   have HK2 := Hd hx6.out
   obtain ⟨w2, rfl⟩ : ∃ w2, w2 = wc := ⟨_, rfl⟩
   clear hbc hx6 HSz HS0 HBz HBd HKd HKz HXz HKp HXc hix
   have h1000 : a.length + b.length + f.length <= 3000 := by omega
   rcases HPt.out with ⟨rfl, rfl, rfl⟩ | ⟨rfl, rfl, rfl⟩ | ⟨rfl, rfl, rfl⟩ | ⟨rfl, rfl, rfl⟩
   · skip
     have k0 := HK2.out.cell 0
     have k1 := HK2.out.cell 1
     have k2 := HK2.out.cell 2
     have k3 := HK2.out.cell 3
     go_wp2_with fail
     refine (HU0.out _).mono ?_
     rintro e w3 ⟨rfl, hb3⟩
     clear k0 k1 k2 k3
     have HB3 := Hd (HB2.out.trans (hb3.mono HB2.out.size))
     have HXc3 := Hd (HXc2.out.bel hb3)
     have HK3 := Hd (HK2.out.bel hb3)
     clear hb3 HXc2 HK2
     have HL3 : Hid (RI w3 (.slice none 0 0) []) := (OI.nil_ w3 w3.heap.size).ri
     have k0 := HK3.out.cell 0
     have k1 := HK3.out.cell 1
     have k2 := HK3.out.cell 2
     have k3 := HK3.out.cell 3
     go_wp2_with fail
     refine (HU1.out _).mono ?_
     rintro e w4 ⟨rfl, hb4⟩
     clear k0 k1 k2 k3
     have HB4 := Hd (HB3.out.trans (hb4.mono HB3.out.size))
     have HXc4 := Hd (HXc3.out.bel hb4)
     have HK4 := Hd (HK3.out.bel hb4)
     have HBx4 := Hd hb4
     clear hb4 HXc3 HK3
     have HL4 := Hd (RI.below HL3.out HBx4.out)
     clear HL3
     have c3 := HXc4.out.cell 3
     have c4 := HXc4.out.cell 4
     obtain ⟨wC, hwC⟩ : ∃ wC, wC = w4.alloc (.cells #[(.slice none 0 0), .slice Aa a.length ca, .slice Ab b.length cb] 38) := ⟨_, rfl⟩
     have hbC : Below w4.heap.size w4 wC := by rw [hwC]; exact below_alloc w4 _
     have HRR : Hid (RR wC (.slice (some ⟨w4.heap.size, 0, none⟩) 3 3) [[], a, b]) := by
       show RR _ _ _
       rw [hwC]
       exact RR.lit3 38 HL4.out (RI.below HA.out HB4.out) (RI.below HD.out HB4.out)
     have HCc := Hd (ConcatD_any (.slice (some ⟨w4.heap.size, 0, none⟩) 3 3) [[], a, b] wC HRR.out (by simp) (by intro l hl; simp at hl; rcases hl with rfl | rfl | rfl <;> first | omega | simp))
     have HBC := Hd (HB4.out.trans (hbC.mono HB4.out.size))
     have HXcC := Hd (HXc4.out.bel hbC)
     have HKC := Hd (HK4.out.bel hbC)
     have HwC := Hd hwC
     clear hwC hbC HRR HL4 HXc4 HK4
     go_wp2_with fail
     rw [<- HwC.out]
     refine HCc.out.mono ?_
     rintro e wD ⟨vo, rfl, ho, hbD⟩
     have HBD := Hd hbD
     have HXcD := Hd (HXcC.out.bel hbD)
     have HKD := Hd (HKC.out.bel hbD)
     have HOD := Hd ho
     clear ho hbD c3 c4 HCc
     have k0 := HKD.out.cell 0
     have k1 := HKD.out.cell 1
     have k2 := HKD.out.cell 2
     have k3 := HKD.out.cell 3
     go_wp2_with fail
     refine (HU4.out _).mono ?_
     rintro e wE ⟨rfl, hbE⟩
     have HBE := Hd (HBD.out.trans (hbE.mono HBD.out.size))
     have HXcE := Hd (HXcD.out.bel hbE)
     have HKE := Hd (HKD.out.bel hbE)
     have HOE := Hd (HOD.out.below hbE)
     clear hbE k0 k1 k2 k3 HXcD HKD HOD
     have HLG : Hid (RI wE vo L) := by
       show RI _ _ _
       have h := HOE.out.ri
       rw [show [[], a, b].flatten = L by rw [HTx.out]; simp] at h
       exact h
     have HBG := Hd HBE.out
     have k0 := HKE.out.cell 0
     have hL1 : L.length <= 3003 := by rw [HTx.out]; simp; omega
     have HNm : Hid (∀ W, Below wE.heap.size wE W -> Calls Tryz.prog 60 #[vo] W fun e w' => e = .returned (.string ⟨(numT L).toArray⟩) /\ Below W.heap.size W w') := fun W h =>
       pNumbers_any vo L W (RI.below HLG.out h) (by omega) HRn.out (HT.out.below ((HBC.out.trans (HBG.out.mono HBC.out.size)).trans (h.mono (by have := HBC.out.size; have := HBG.out.size; omega))))
     have HKG := Hd (show BL wE b6 85 [.string S, .int .i64 pmk, .int .i64 klk, .func (.func pfk) #[] #[]] from HKE.out)
     have hnl := numT_len L HRn.out
     have hadd := fun W => run_string_add_lists (P := Tryz.prog) W (kwL.getD k []) (numT L) (by omega) (by omega)
     rw [<- HS.out] at hadd
     obtain ⟨NS, hNS⟩ : ∃ NS, NS = ByteArray.mk (numT L).toArray := ⟨_, rfl⟩
     obtain ⟨PS, hPS⟩ : ∃ PS, PS = ByteArray.mk (kwL.getD k [] ++ numT L).toArray := ⟨_, rfl⟩
     rw [<- hNS, <- hPS] at hadd
     rw [<- hNS] at HNm
     have HE : Hid (strV E = .string PS) := by show _ = _; rw [HR.out, hPS]; rfl
     have HBw := Hd (HBC.out.trans (HBG.out.mono HBC.out.size))
     have HSw := Hd (show (wE.drew).cell? ⟨b6, 0, none⟩ = some (.string S) from HKG.out.cell 0)
     have HNd := Hd (HNm.out wE.drew (Below.refl _ _).drew)
     clear hNS hPS hnl hL1 k0 HNm
     try go_wp2_with fail
     go_region_held3 (fun W' : World => W'.cell? ⟨b6, 0, none⟩ = some (.string S)) (first | exact HSw.out | exact HS1.out)
       (first | (go_at_call 60; (with_reducible refine HNd.out.mono ?_); rintro e wn ⟨rfl, hbn⟩; have HBn := Hd (HBw.out.trans (((Below.refl wE.heap.size wE).drew.trans hbn).mono HBw.out.size)); have HS1 := Hd ((HKG.out.bel ((Below.refl wE.heap.size wE).drew.trans hbn)).cell 0); clear hbn))
     all_goals
       go_wp2
       go_ret
       exact ⟨by rw [HE.out]; rfl, HBn.out⟩
   · skip
     have k0 := HK2.out.cell 0
     have k1 := HK2.out.cell 1
     have k2 := HK2.out.cell 2
     have k3 := HK2.out.cell 3
     go_wp2_with fail
     refine (HU0.out _).mono ?_
     rintro e w3 ⟨rfl, hb3⟩
     clear k0 k1 k2 k3
     have HB3 := Hd (HB2.out.trans (hb3.mono HB2.out.size))
     have HXc3 := Hd (HXc2.out.bel hb3)
     have HK3 := Hd (HK2.out.bel hb3)
     clear hb3 HXc2 HK2
     have HL3 : Hid (RI w3 (.slice none 0 0) []) := (OI.nil_ w3 w3.heap.size).ri
     have k0 := HK3.out.cell 0
     have k1 := HK3.out.cell 1
     have k2 := HK3.out.cell 2
     have k3 := HK3.out.cell 3
     go_wp2_with fail
     refine (HU1.out _).mono ?_
     rintro e w4 ⟨rfl, hb4⟩
     clear k0 k1 k2 k3
     have HB4 := Hd (HB3.out.trans (hb4.mono HB3.out.size))
     have HXc4 := Hd (HXc3.out.bel hb4)
     have HK4 := Hd (HK3.out.bel hb4)
     have HBx4 := Hd hb4
     clear hb4 HXc3 HK3
     have HL4 := Hd (RI.below HL3.out HBx4.out)
     clear HL3
     have c2 := HXc4.out.cell 2
     have HO := Hd (OI.nil_ w4 w4.heap.size)
     obtain ⟨hov, hrv, hfin⟩ := OI.snoc HO.out N (Below.refl w4.heap.size w4)
     have HOv := Hd hov
     have HRv := Hd hrv
     have HFin := Hd hfin
     clear hov hrv hfin
     go_wp2_with (at_builtin; refine wpList_appendV _ rfl _ _ _ rfl 3 i0 _ 8 Tryz.underlying37 hi hz0 hz1 hz2 rfl w4.heap.size _ _ rfl HOv.out _ _ rfl HRv.out (one_ones rfl) (by first | omega | (simp; done) | (simp; omega)) (by first | omega | (simp; done) | (simp; omega)) (by first | omega | (simp; done) | (simp; omega)) ?_; intro v1 w5 hown hg hat; obtain ⟨hf1, hf2⟩ := HFin.out v1 w5 hown hg; have HF1 := Hd hf1; have hb5 := hf2; have c3 := (HXc4.out.bel hf2).cell 3; have c4 := (HXc4.out.bel hf2).cell 4; obtain ⟨Al, cl, hv1, -⟩ := hf1.ri.open_; (simp only [List.nil_append, List.length_singleton] at hv1); subst hv1; clear hown hg hat hf1 hf2)
     have HL5 : Hid (RI w5 (.slice Al 1 cl) [N]) := HF1.out.ri
     clear c2 HL4 HF1 HOv HRv HFin HO
     have HB5 := Hd (HB4.out.trans (hb5.mono HB4.out.size))
     have HXc5 := Hd (HXc4.out.bel hb5)
     have HK5 := Hd (HK4.out.bel hb5)
     clear hb5 HXc4 HK4
     obtain ⟨wC, hwC⟩ : ∃ wC, wC = w5.alloc (.cells #[(.slice Al 1 cl), .slice Aa a.length ca, .slice Ab b.length cb] 38) := ⟨_, rfl⟩
     have hbC : Below w5.heap.size w5 wC := by rw [hwC]; exact below_alloc w5 _
     have HRR : Hid (RR wC (.slice (some ⟨w5.heap.size, 0, none⟩) 3 3) [[N], a, b]) := by
       show RR _ _ _
       rw [hwC]
       exact RR.lit3 38 HL5.out (RI.below HA.out HB5.out) (RI.below HD.out HB5.out)
     have HCc := Hd (ConcatD_any (.slice (some ⟨w5.heap.size, 0, none⟩) 3 3) [[N], a, b] wC HRR.out (by simp) (by intro l hl; simp at hl; rcases hl with rfl | rfl | rfl <;> first | omega | simp))
     have HBC := Hd (HB5.out.trans (hbC.mono HB5.out.size))
     have HXcC := Hd (HXc5.out.bel hbC)
     have HKC := Hd (HK5.out.bel hbC)
     have HwC := Hd hwC
     clear hwC hbC HRR HL5 HXc5 HK5
     try go_wp2_with fail
     rw [<- HwC.out]
     refine HCc.out.mono ?_
     rintro e wD ⟨vo, rfl, ho, hbD⟩
     have HBD := Hd hbD
     have HXcD := Hd (HXcC.out.bel hbD)
     have HKD := Hd (HKC.out.bel hbD)
     have HOD := Hd ho
     clear ho hbD c3 c4 HCc
     have k0 := HKD.out.cell 0
     have k1 := HKD.out.cell 1
     have k2 := HKD.out.cell 2
     have k3 := HKD.out.cell 3
     go_wp2_with fail
     refine (HU4.out _).mono ?_
     rintro e wE ⟨rfl, hbE⟩
     have HBE := Hd (HBD.out.trans (hbE.mono HBD.out.size))
     have HXcE := Hd (HXcD.out.bel hbE)
     have HKE := Hd (HKD.out.bel hbE)
     have HOE := Hd (HOD.out.below hbE)
     clear hbE k0 k1 k2 k3 HXcD HKD HOD
     have HLG : Hid (RI wE vo L) := by
       show RI _ _ _
       have h := HOE.out.ri
       rw [show [[N], a, b].flatten = L by rw [HTx.out]; simp] at h
       exact h
     have HBG := Hd HBE.out
     have k0 := HKE.out.cell 0
     have hL1 : L.length <= 3003 := by rw [HTx.out]; simp; omega
     have HNm : Hid (∀ W, Below wE.heap.size wE W -> Calls Tryz.prog 60 #[vo] W fun e w' => e = .returned (.string ⟨(numT L).toArray⟩) /\ Below W.heap.size W w') := fun W h =>
       pNumbers_any vo L W (RI.below HLG.out h) (by omega) HRn.out (HT.out.below ((HBC.out.trans (HBG.out.mono HBC.out.size)).trans (h.mono (by have := HBC.out.size; have := HBG.out.size; omega))))
     have HKG := Hd (show BL wE b6 85 [.string S, .int .i64 pmk, .int .i64 klk, .func (.func pfk) #[] #[]] from HKE.out)
     have hnl := numT_len L HRn.out
     have hadd := fun W => run_string_add_lists (P := Tryz.prog) W (kwL.getD k []) (numT L) (by omega) (by omega)
     rw [<- HS.out] at hadd
     obtain ⟨NS, hNS⟩ : ∃ NS, NS = ByteArray.mk (numT L).toArray := ⟨_, rfl⟩
     obtain ⟨PS, hPS⟩ : ∃ PS, PS = ByteArray.mk (kwL.getD k [] ++ numT L).toArray := ⟨_, rfl⟩
     rw [<- hNS, <- hPS] at hadd
     rw [<- hNS] at HNm
     have HE : Hid (strV E = .string PS) := by show _ = _; rw [HR.out, hPS]; rfl
     have HBw := Hd (HBC.out.trans (HBG.out.mono HBC.out.size))
     have HSw := Hd (show (wE.drew).cell? ⟨b6, 0, none⟩ = some (.string S) from HKG.out.cell 0)
     have HNd := Hd (HNm.out wE.drew (Below.refl _ _).drew)
     clear hNS hPS hnl hL1 k0 HNm
     try go_wp2_with fail
     go_region_held3 (fun W' : World => W'.cell? ⟨b6, 0, none⟩ = some (.string S)) (first | exact HSw.out | exact HS1.out)
       (first | (go_at_call 60; (with_reducible refine HNd.out.mono ?_); rintro e wn ⟨rfl, hbn⟩; have HBn := Hd (HBw.out.trans (((Below.refl wE.heap.size wE).drew.trans hbn).mono HBw.out.size)); have HS1 := Hd ((HKG.out.bel ((Below.refl wE.heap.size wE).drew.trans hbn)).cell 0); clear hbn))
     all_goals
       go_wp2
       go_ret
       exact ⟨by rw [HE.out]; rfl, HBn.out⟩
   · skip
     have k0 := HK2.out.cell 0
     have k1 := HK2.out.cell 1
     have k2 := HK2.out.cell 2
     have k3 := HK2.out.cell 3
     go_wp2_with fail
     refine (HU0.out _).mono ?_
     rintro e w3 ⟨rfl, hb3⟩
     clear k0 k1 k2 k3
     have HB3 := Hd (HB2.out.trans (hb3.mono HB2.out.size))
     have HXc3 := Hd (HXc2.out.bel hb3)
     have HK3 := Hd (HK2.out.bel hb3)
     clear hb3 HXc2 HK2
     have HL3 : Hid (RI w3 (.slice none 0 0) []) := (OI.nil_ w3 w3.heap.size).ri
     have c1 := HXc3.out.cell 1
     have HO := Hd (OI.nil_ w3 w3.heap.size)
     obtain ⟨hov, hrv, hfin⟩ := OI.snoc HO.out Q (Below.refl w3.heap.size w3)
     have HOv := Hd hov
     have HRv := Hd hrv
     have HFin := Hd hfin
     clear hov hrv hfin
     go_wp2_with (at_builtin; refine wpList_appendV _ rfl _ _ _ rfl 3 i0 _ 8 Tryz.underlying37 hi hz0 hz1 hz2 rfl w3.heap.size _ _ rfl HOv.out _ _ rfl HRv.out (one_ones rfl) (by first | omega | (simp; done) | (simp; omega)) (by first | omega | (simp; done) | (simp; omega)) (by first | omega | (simp; done) | (simp; omega)) ?_; intro v1 w4 hown hg hat; obtain ⟨hf1, hf2⟩ := HFin.out v1 w4 hown hg; have HF1 := Hd hf1; have hb4 := hf2; have k0 := (HK3.out.bel hf2).cell 0; have k1 := (HK3.out.bel hf2).cell 1; have k2 := (HK3.out.bel hf2).cell 2; have k3 := (HK3.out.bel hf2).cell 3; clear hown hg hat hf1 hf2)
     have HL4 : Hid (RI w4 v1 [Q]) := HF1.out.ri
     clear c1 HL3 HF1 HOv HRv HFin HO
     have HB4 := Hd (HB3.out.trans (hb4.mono HB3.out.size))
     have HXc4 := Hd (HXc3.out.bel hb4)
     have HK4 := Hd (HK3.out.bel hb4)
     clear hb4 HXc3 HK3
     refine (HU1.out _).mono ?_
     rintro e w5 ⟨rfl, hb5⟩
     clear k0 k1 k2 k3
     have HB5 := Hd (HB4.out.trans (hb5.mono HB4.out.size))
     have HXc5 := Hd (HXc4.out.bel hb5)
     have HK5 := Hd (HK4.out.bel hb5)
     have HBx5 := Hd hb5
     clear hb5 HXc4 HK4
     have HL5 := Hd (RI.below HL4.out HBx5.out)
     clear HL4
     obtain ⟨Al, cl, rfl, -⟩ := HL5.out.open_
     simp only [List.length_singleton] at HL5 ⊢
     have c3 := HXc5.out.cell 3
     have c4 := HXc5.out.cell 4
     obtain ⟨wC, hwC⟩ : ∃ wC, wC = w5.alloc (.cells #[(.slice Al 1 cl), .slice Aa a.length ca, .slice Ab b.length cb] 38) := ⟨_, rfl⟩
     have hbC : Below w5.heap.size w5 wC := by rw [hwC]; exact below_alloc w5 _
     have HRR : Hid (RR wC (.slice (some ⟨w5.heap.size, 0, none⟩) 3 3) [[Q], a, b]) := by
       show RR _ _ _
       rw [hwC]
       exact RR.lit3 38 HL5.out (RI.below HA.out HB5.out) (RI.below HD.out HB5.out)
     have HCc := Hd (ConcatD_any (.slice (some ⟨w5.heap.size, 0, none⟩) 3 3) [[Q], a, b] wC HRR.out (by simp) (by intro l hl; simp at hl; rcases hl with rfl | rfl | rfl <;> first | omega | simp))
     have HBC := Hd (HB5.out.trans (hbC.mono HB5.out.size))
     have HXcC := Hd (HXc5.out.bel hbC)
     have HKC := Hd (HK5.out.bel hbC)
     have HwC := Hd hwC
     clear hwC hbC HRR HL5 HXc5 HK5
     go_wp2_with fail
     rw [<- HwC.out]
     refine HCc.out.mono ?_
     rintro e wD ⟨vo, rfl, ho, hbD⟩
     have HBD := Hd hbD
     have HXcD := Hd (HXcC.out.bel hbD)
     have HKD := Hd (HKC.out.bel hbD)
     have HOD := Hd ho
     clear ho hbD c3 c4 HCc
     have k0 := HKD.out.cell 0
     have k1 := HKD.out.cell 1
     have k2 := HKD.out.cell 2
     have k3 := HKD.out.cell 3
     go_wp2_with fail
     refine (HU4.out _).mono ?_
     rintro e wE ⟨rfl, hbE⟩
     have HBE := Hd (HBD.out.trans (hbE.mono HBD.out.size))
     have HXcE := Hd (HXcD.out.bel hbE)
     have HKE := Hd (HKD.out.bel hbE)
     have HOE := Hd (HOD.out.below hbE)
     clear hbE k0 k1 k2 k3 HXcD HKD HOD
     have HLG : Hid (RI wE vo L) := by
       show RI _ _ _
       have h := HOE.out.ri
       rw [show [[Q], a, b].flatten = L by rw [HTx.out]; simp] at h
       exact h
     have HBG := Hd HBE.out
     have k0 := HKE.out.cell 0
     have hL1 : L.length <= 3003 := by rw [HTx.out]; simp; omega
     have HNm : Hid (∀ W, Below wE.heap.size wE W -> Calls Tryz.prog 60 #[vo] W fun e w' => e = .returned (.string ⟨(numT L).toArray⟩) /\ Below W.heap.size W w') := fun W h =>
       pNumbers_any vo L W (RI.below HLG.out h) (by omega) HRn.out (HT.out.below ((HBC.out.trans (HBG.out.mono HBC.out.size)).trans (h.mono (by have := HBC.out.size; have := HBG.out.size; omega))))
     have HKG := Hd (show BL wE b6 85 [.string S, .int .i64 pmk, .int .i64 klk, .func (.func pfk) #[] #[]] from HKE.out)
     have hnl := numT_len L HRn.out
     have hadd := fun W => run_string_add_lists (P := Tryz.prog) W (kwL.getD k []) (numT L) (by omega) (by omega)
     rw [<- HS.out] at hadd
     obtain ⟨NS, hNS⟩ : ∃ NS, NS = ByteArray.mk (numT L).toArray := ⟨_, rfl⟩
     obtain ⟨PS, hPS⟩ : ∃ PS, PS = ByteArray.mk (kwL.getD k [] ++ numT L).toArray := ⟨_, rfl⟩
     rw [<- hNS, <- hPS] at hadd
     rw [<- hNS] at HNm
     have HE : Hid (strV E = .string PS) := by show _ = _; rw [HR.out, hPS]; rfl
     have HBw := Hd (HBC.out.trans (HBG.out.mono HBC.out.size))
     have HSw := Hd (show (wE.drew).cell? ⟨b6, 0, none⟩ = some (.string S) from HKG.out.cell 0)
     have HNd := Hd (HNm.out wE.drew (Below.refl _ _).drew)
     clear hNS hPS hnl hL1 k0 HNm
     try go_wp2_with fail
     go_region_held3 (fun W' : World => W'.cell? ⟨b6, 0, none⟩ = some (.string S)) (first | exact HSw.out | exact HS1.out)
       (first | (go_at_call 60; (with_reducible refine HNd.out.mono ?_); rintro e wn ⟨rfl, hbn⟩; have HBn := Hd (HBw.out.trans (((Below.refl wE.heap.size wE).drew.trans hbn).mono HBw.out.size)); have HS1 := Hd ((HKG.out.bel ((Below.refl wE.heap.size wE).drew.trans hbn)).cell 0); clear hbn))
     all_goals
       go_wp2
       go_ret
       exact ⟨by rw [HE.out]; rfl, HBn.out⟩
   · skip
     have k0 := HK2.out.cell 0
     have k1 := HK2.out.cell 1
     have k2 := HK2.out.cell 2
     have k3 := HK2.out.cell 3
     go_wp2_with fail
     refine (HU0.out _).mono ?_
     rintro e w3 ⟨rfl, hb3⟩
     clear k0 k1 k2 k3
     have HB3 := Hd (HB2.out.trans (hb3.mono HB2.out.size))
     have HXc3 := Hd (HXc2.out.bel hb3)
     have HK3 := Hd (HK2.out.bel hb3)
     clear hb3 HXc2 HK2
     have HL3 : Hid (RI w3 (.slice none 0 0) []) := (OI.nil_ w3 w3.heap.size).ri
     have k0 := HK3.out.cell 0
     have k1 := HK3.out.cell 1
     have k2 := HK3.out.cell 2
     have k3 := HK3.out.cell 3
     go_wp2_with fail
     refine (HU1.out _).mono ?_
     rintro e w4 ⟨rfl, hb4⟩
     clear k0 k1 k2 k3
     have HB4 := Hd (HB3.out.trans (hb4.mono HB3.out.size))
     have HXc4 := Hd (HXc3.out.bel hb4)
     have HK4 := Hd (HK3.out.bel hb4)
     have HBx4 := Hd hb4
     clear hb4 HXc3 HK3
     have HL4 := Hd (RI.below HL3.out HBx4.out)
     clear HL3
     have c3 := HXc4.out.cell 3
     have c4 := HXc4.out.cell 4
     obtain ⟨wC, hwC⟩ : ∃ wC, wC = w4.alloc (.cells #[(.slice none 0 0), .slice Aa a.length ca, .slice Ab b.length cb] 38) := ⟨_, rfl⟩
     have hbC : Below w4.heap.size w4 wC := by rw [hwC]; exact below_alloc w4 _
     have HRR : Hid (RR wC (.slice (some ⟨w4.heap.size, 0, none⟩) 3 3) [[], a, b]) := by
       show RR _ _ _
       rw [hwC]
       exact RR.lit3 38 HL4.out (RI.below HA.out HB4.out) (RI.below HD.out HB4.out)
     have HCc := Hd (ConcatD_any (.slice (some ⟨w4.heap.size, 0, none⟩) 3 3) [[], a, b] wC HRR.out (by simp) (by intro l hl; simp at hl; rcases hl with rfl | rfl | rfl <;> first | omega | simp))
     have HBC := Hd (HB4.out.trans (hbC.mono HB4.out.size))
     have HXcC := Hd (HXc4.out.bel hbC)
     have HKC := Hd (HK4.out.bel hbC)
     have HwC := Hd hwC
     clear hwC hbC HRR HL4 HXc4 HK4
     go_wp2_with fail
     rw [<- HwC.out]
     refine HCc.out.mono ?_
     rintro e wD ⟨vo, rfl, ho, hbD⟩
     have HBD := Hd hbD
     have HXcD := Hd (HXcC.out.bel hbD)
     have HKD := Hd (HKC.out.bel hbD)
     have HOD := Hd ho
     clear ho hbD c3 c4 HCc
     have k0 := HKD.out.cell 0
     have k1 := HKD.out.cell 1
     have k2 := HKD.out.cell 2
     have k3 := HKD.out.cell 3
     go_wp2_with fail
     refine (HU4.out _).mono ?_
     rintro e wE ⟨rfl, hbE⟩
     have HBE := Hd (HBD.out.trans (hbE.mono HBD.out.size))
     have HXcE := Hd (HXcD.out.bel hbE)
     have HKE := Hd (HKD.out.bel hbE)
     have HOE := Hd (HOD.out.below hbE)
     clear hbE k0 k1 k2 k3 HXcD HKD HOD
     have c5 := HXcE.out.cell 5
     obtain ⟨hov, hrv, hfin⟩ := OI.snoc HOE.out (f.length : Int) HBE.out
     have HOv := Hd hov
     have HRv := Hd hrv
     have HFin := Hd hfin
     have hszB := HBE.out.size
     have HFl : Hid ([[], a, b].flatten ++ [(f.length : Int)] ++ f = L) := by show _ = _; rw [HTx.out]; simp
     have hflt : ([[], a, b].flatten).length <= 2001 := by simp; omega
     generalize [[], a, b].flatten = fl at *
     have HX := Hd (ints_one f)
     clear hov hrv hfin
     go_wp2_with (at_builtin; first
       | (refine wpList_appendV _ rfl _ _ _ rfl 3 i0 _ 8 Tryz.underlying37 hi hz0 hz1 hz2 rfl wC.heap.size _ _ rfl HOv.out _ _ rfl HRv.out (one_ones rfl) (by first | omega | (simp; done) | (simp; omega)) (by first | omega | (simp; done) | (simp; omega)) (by first | omega | (simp; done) | (simp; omega)) ?_; intro v1 wF hown hg hat; obtain ⟨hf1, hf2⟩ := HFin.out v1 wF hown hg; have HOF : Hid (OV wF wC.heap.size 3 v1 ((fl ++ [(f.length : Int)]).map (.int .i64))) := hf1; have HBF := Hd hf2; have c5 := (HXcC.out.bel hf2).cell 5; have HRF : Hid (RV wF (.slice Af f.length cf) (f.map (.int .i64))) := RI.below HF.out (HBC.out.trans (hf2.mono HBC.out.size)); have hszF := hf2.size; clear hown hg hat hf1 hf2)
       | (refine wpList_appendV _ rfl _ _ _ rfl 3 i0 _ 8 Tryz.underlying37 hi hz0 hz1 hz2 rfl wC.heap.size _ _ rfl HOF.out _ _ rfl HRF.out HX.out (by first | omega | (simp; done) | (simp; omega)) (by first | omega | (simp; done) | (simp; omega)) (by first | omega | (simp; done) | (simp; omega)) ?_; intro v2 wG hown hg hat; have HLG : Hid (RI wG v2 L) := (by have h := OV.rv hown; rw [<- List.map_append, HFl.out] at h; exact h); have HBG := Hd (below_own HBF.out HBF.out.size HOF.out hg); have k0 := (HKC.out.bel HBG.out).cell 0; clear hown hg hat))
     have hL1 : L.length <= 3003 := by rw [HTx.out]; simp; omega
     have HNm : Hid (∀ W, Below wG.heap.size wG W -> Calls Tryz.prog 60 #[v2] W fun e w' => e = .returned (.string ⟨(numT L).toArray⟩) /\ Below W.heap.size W w') := fun W h =>
       pNumbers_any v2 L W (RI.below HLG.out h) (by omega) HRn.out (HT.out.below ((HBC.out.trans (HBG.out.mono HBC.out.size)).trans (h.mono (by have := HBC.out.size; have := HBG.out.size; omega))))
     have HKG := Hd (show BL wG b6 85 [.string S, .int .i64 pmk, .int .i64 klk, .func (.func pfk) #[] #[]] from HKC.out.bel HBG.out)
     have hnl := numT_len L HRn.out
     have hadd := fun W => run_string_add_lists (P := Tryz.prog) W (kwL.getD k []) (numT L) (by omega) (by omega)
     rw [<- HS.out] at hadd
     obtain ⟨NS, hNS⟩ : ∃ NS, NS = ByteArray.mk (numT L).toArray := ⟨_, rfl⟩
     obtain ⟨PS, hPS⟩ : ∃ PS, PS = ByteArray.mk (kwL.getD k [] ++ numT L).toArray := ⟨_, rfl⟩
     rw [<- hNS, <- hPS] at hadd
     rw [<- hNS] at HNm
     have HE : Hid (strV E = .string PS) := by show _ = _; rw [HR.out, hPS]; rfl
     have HBw := Hd (HBC.out.trans (HBG.out.mono HBC.out.size))
     have HSw := Hd (show (wG.drew).cell? ⟨b6, 0, none⟩ = some (.string S) from HKG.out.cell 0)
     have HNd := Hd (HNm.out wG.drew (Below.refl _ _).drew)
     clear hNS hPS hnl hL1 k0 HNm
     try go_wp2_with fail
     go_region_held3 (fun W' : World => W'.cell? ⟨b6, 0, none⟩ = some (.string S)) (first | exact HSw.out | exact HS1.out)
       (first | (go_at_call 60; (with_reducible refine HNd.out.mono ?_); rintro e wn ⟨rfl, hbn⟩; have HBn := Hd (HBw.out.trans (((Below.refl wG.heap.size wG).drew.trans hbn).mono HBw.out.size)); have HS1 := Hd ((HKG.out.bel ((Below.refl wG.heap.size wG).drew.trans hbn)).cell 0); clear hbn))
     all_goals
       go_wp2
       go_ret
       exact ⟨by rw [HE.out]; rfl, HBn.out⟩
end Go.Proofs.YteamhbohgoclgaaGreatDoor
