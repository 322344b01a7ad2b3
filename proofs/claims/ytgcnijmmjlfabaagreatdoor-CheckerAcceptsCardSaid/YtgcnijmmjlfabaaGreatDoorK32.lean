/- Contract of the reference's form, for a claim that given made. -/
import Derived.Test.YtgcnijmmjlfabaaGreatDoorK31
import Derived.Test.YtgcnijmmjlfabaaGreatDoorK29
set_option maxRecDepth 100000
set_option maxHeartbeats 16000000
namespace Go.Proofs.YtgcnijmmjlfabaaGreatDoor
open Go.RowKit Go.Shelf

theorem check_zero {zs : List Int} {n : Nat} (h1 : 1 ≤ n) (hn : n ≤ 12) (hl : zs.length = n) (hb : Bd 1048576 zs) : checkE zs n = 0 := by
  unfold checkE
  rw [if_neg (by omega), if_neg (by omega), if_pos]
  rw [List.all_eq_true]
  intro z hz
  obtain ⟨k, hk, rfl⟩ := List.mem_iff_getElem.1 hz
  have := hb k
  rw [List.getD_eq_getElem?_getD, List.getElem?_eq_getElem hk] at this
  simp only [Option.getD_some] at this
  unfold InB
  simp; omega
theorem form_00c (g va : Value) (Ab : Option Addr) (cb : Nat) (Af : Option Addr) (cf : Nat) (m k : Nat) (es : List Tri) (a : List Int) (w : World) (hg : GV w g m es) (ha : RI w va a) (hal : a.length = m) (hab : Bd 1048576 a) (hk : k < 9) (hm1 : 1 ≤ m) (hm : m ≤ 12)
    (hU : ∀ (f : Nat) (W : World), f < 5 → Calls Tryz.prog 122 #[.int .i64 (k : Int), .int .i64 (f : Int)] W fun e w' => e = .returned (.bool (([false, false, true, false, false] : List Bool).getD f false)) ∧ Below W.heap.size W w') :
    Calls Tryz.prog 84 #[g, .agg #[.int .i64 (k : Int), .int .i64 0, .int .i64 0, va, (.slice Ab 0 cb), (.slice Af 0 cf)]] w fun e w' => e = .returned (.int .i64 (rightE m false false 0 0 0 [])) ∧ Below w.heap.size w w' := by
  obtain ⟨kk, hkk⟩ : ∃ kk : Int, kk = (k : Int) := ⟨_, rfl⟩
  rw [← hkk]
  obtain ⟨A, c, rfl, -⟩ := hg.open_
  obtain ⟨W0, hW0⟩ : ∃ W0, W0 = (w.alloc (.cells #[.int .i64 (m : Int), .slice A es.length c] 24)).alloc (.cells #[.int .i64 kk, .int .i64 0, .int .i64 0, va, (.slice Ab 0 cb), (.slice Af 0 cf)] 91) := ⟨_, rfl⟩
  have hb0 : Below w.heap.size w W0 := by rw [hW0]; exact (below_alloc w _).alloc (by simp) _
  have hxg : BL W0 w.heap.size 24 [.int .i64 (m : Int), .slice A es.length c] := by rw [hW0]; exact (BL.new' w _ _).alloc _
  have hxc : BL W0 (w.heap.size + 1) 91 [.int .i64 kk, .int .i64 0, .int .i64 0, va, (.slice Ab 0 cb), (.slice Af 0 cf)] := by
    rw [hW0]
    have := BL.new' (w.alloc (.cells #[.int .i64 (m : Int), .slice A es.length c] 24)) #[.int .i64 kk, .int .i64 0, .int .i64 0, va, (.slice Ab 0 cb), (.slice Af 0 cf)] 91
    rwa [World.size_alloc] at this
  have HXg := Lib.hid hxg
  have HXc := Lib.hid hxc
  have HG0 := Lib.hid (hg.below hb0)
  have HB0 := Lib.hid hb0
  have HW0 := Lib.hid hW0
  subst hkk
  have hk0 : ¬ ((k : Int) < 0) := by omega
  have hk8 : ¬ (8 < (k : Int)) := by omega
  clear hg hxg hxc hW0 hk
  have HU0 : Hid (∀ W, Calls Tryz.prog 122 #[.int .i64 (k : Int), .int .i64 0] W fun e w' => e = .returned (.bool false) ∧ Below W.heap.size W w') := fun W => hU 0 W (by omega)
  have HU1 : Hid (∀ W, Calls Tryz.prog 122 #[.int .i64 (k : Int), .int .i64 1] W fun e w' => e = .returned (.bool false) ∧ Below W.heap.size W w') := fun W => hU 1 W (by omega)
  have HU2 : Hid (∀ W, Calls Tryz.prog 122 #[.int .i64 (k : Int), .int .i64 2] W fun e w' => e = .returned (.bool true) ∧ Below W.heap.size W w') := fun W => hU 2 W (by omega)
  have HU3 : Hid (∀ W, Calls Tryz.prog 122 #[.int .i64 (k : Int), .int .i64 3] W fun e w' => e = .returned (.bool false) ∧ Below W.heap.size W w') := fun W => hU 3 W (by omega)
  have HU4 : Hid (∀ W, Calls Tryz.prog 122 #[.int .i64 (k : Int), .int .i64 4] W fun e w' => e = .returned (.bool false) ∧ Below W.heap.size W w') := fun W => hU 4 W (by omega)
  have hck := check_zero hm1 hm hal hab
  have HA0 := Lib.hid (RI.below ha hb0)
  have HCa : Hid (∀ W : World, Below W0.heap.size W0 W → Calls Tryz.prog 123 #[va, .int .i64 (m : Int)] W fun e w' => e = .returned (.int .i64 0) ∧ W = w') := fun W h => by rw [← hck]; exact rCheck_any va a m W (RI.below HA0.out h)
  clear ha hal hab hck
  have HSp : Hid (rightE m false false 0 0 0 [] = 0) := by
    show _ = _
    unfold rightE
    rw [if_neg, if_neg (by simp; omega)]
    · rfl
    · rintro (h | h)
      · exact absurd h.1 (by decide)
      · exact absurd h.1 (by decide)
  generalize rightE m false false 0 0 0 [] = RE at *
  have HK : Hid (∀ W : World, Below W0.heap.size W0 W → W.cell? ⟨w.heap.size, 0, none⟩ = some (.int .i64 (m : Int)) ∧ W.cell? ⟨w.heap.size, 1, none⟩ = some (.slice A es.length c) ∧ W.cell? ⟨w.heap.size + 1, 0, none⟩ = some (.int .i64 (k : Int)) ∧ W.cell? ⟨w.heap.size + 1, 1, none⟩ = some (.int .i64 0) ∧ W.cell? ⟨w.heap.size + 1, 2, none⟩ = some (.int .i64 0) ∧ W.cell? ⟨w.heap.size + 1, 3, none⟩ = some va ∧ W.cell? ⟨w.heap.size + 1, 4, none⟩ = some (.slice Ab 0 cb) ∧ W.cell? ⟨w.heap.size + 1, 5, none⟩ = some (.slice Af 0 cf)) := fun W h =>
    ⟨(HXg.out.bel h).cell 0, (HXg.out.bel h).cell 1, (HXc.out.bel h).cell 0, (HXc.out.bel h).cell 1, (HXc.out.bel h).cell 2, (HXc.out.bel h).cell 3, (HXc.out.bel h).cell 4, (HXc.out.bel h).cell 5⟩
  clear hU hb0 hm1
  go_enter Tryz.func84, Tryz.ntmps84
  go_upto_region 1 with fail
  rw [← HW0.out]
  obtain ⟨g0, g1, x0, x1, x2, x3, x4, x5⟩ := HK.out W0 (Below.refl _ _)
  have HB1 := Lib.hid (Below.refl W0.heap.size W0)
  go_wp2_with fail
  refine (HU0.out W0).mono ?_
  rintro e w1 ⟨rfl, hb1⟩
  have HBn := Lib.hid (HB1.out.trans (hb1.mono HB1.out.size))
  clear HB1 hb1 g0 g1 x0 x1 x2 x3 x4 x5
  have HB1 := HBn
  clear HBn
  obtain ⟨g0, g1, x0, x1, x2, x3, x4, x5⟩ := HK.out w1 HB1.out
  go_wp2_with fail
  refine (HU1.out w1).mono ?_
  rintro e w2 ⟨rfl, hb1⟩
  have HBn := Lib.hid (HB1.out.trans (hb1.mono HB1.out.size))
  clear HB1 hb1 g0 g1 x0 x1 x2 x3 x4 x5
  have HB1 := HBn
  clear HBn
  obtain ⟨g0, g1, x0, x1, x2, x3, x4, x5⟩ := HK.out w2 HB1.out
  go_wp2_with fail
  refine (HU2.out w2).mono ?_
  rintro e w3 ⟨rfl, hb1⟩
  have HBn := Lib.hid (HB1.out.trans (hb1.mono HB1.out.size))
  clear HB1 hb1 g0 g1 x0 x1 x2 x3 x4 x5
  have HB1 := HBn
  clear HBn
  obtain ⟨g0, g1, x0, x1, x2, x3, x4, x5⟩ := HK.out w3 HB1.out
  go_wp2_with fail
  refine (HCa.out w3 HB1.out).mono ?_
  rintro e w4 ⟨rfl, rfl⟩
  go_wp2_with fail
  refine (HU3.out w3).mono ?_
  rintro e w5 ⟨rfl, hb1⟩
  have HBn := Lib.hid (HB1.out.trans (hb1.mono HB1.out.size))
  clear HB1 hb1 g0 g1 x0 x1 x2 x3 x4 x5
  have HB1 := HBn
  clear HBn
  obtain ⟨g0, g1, x0, x1, x2, x3, x4, x5⟩ := HK.out w5 HB1.out
  go_wp2_with fail
  refine (HU4.out w5).mono ?_
  rintro e w6 ⟨rfl, hb1⟩
  have HBn := Lib.hid (HB1.out.trans (hb1.mono HB1.out.size))
  clear HB1 hb1 g0 g1 x0 x1 x2 x3 x4 x5
  have HB1 := HBn
  clear HBn
  obtain ⟨g0, g1, x0, x1, x2, x3, x4, x5⟩ := HK.out w6 HB1.out
  go_wp2_with fail
  refine (HU0.out w6).mono ?_
  rintro e w7 ⟨rfl, hb1⟩
  have HBn := Lib.hid (HB1.out.trans (hb1.mono HB1.out.size))
  clear HB1 hb1 g0 g1 x0 x1 x2 x3 x4 x5
  have HB1 := HBn
  clear HBn
  obtain ⟨g0, g1, x0, x1, x2, x3, x4, x5⟩ := HK.out w7 HB1.out
  go_wp2_with fail
  refine (HU1.out w7).mono ?_
  rintro e w8 ⟨rfl, hb1⟩
  have HBn := Lib.hid (HB1.out.trans (hb1.mono HB1.out.size))
  clear HB1 hb1 g0 g1 x0 x1 x2 x3 x4 x5
  have HB1 := HBn
  clear HBn
  obtain ⟨g0, g1, x0, x1, x2, x3, x4, x5⟩ := HK.out w8 HB1.out
  go_wp2_with fail
  refine (HU2.out w8).mono ?_
  rintro e w9 ⟨rfl, hb1⟩
  have HBn := Lib.hid (HB1.out.trans (hb1.mono HB1.out.size))
  clear HB1 hb1 g0 g1 x0 x1 x2 x3 x4 x5
  have HB1 := HBn
  clear HBn
  obtain ⟨g0, g1, x0, x1, x2, x3, x4, x5⟩ := HK.out w9 HB1.out
  go_wp2_with fail
  refine (HU3.out w9).mono ?_
  rintro e w10 ⟨rfl, hb1⟩
  have HBn := Lib.hid (HB1.out.trans (hb1.mono HB1.out.size))
  clear HB1 hb1 g0 g1 x0 x1 x2 x3 x4 x5
  have HB1 := HBn
  clear HBn
  obtain ⟨g0, g1, x0, x1, x2, x3, x4, x5⟩ := HK.out w10 HB1.out
  go_wp2_with fail
  refine (HU4.out w10).mono ?_
  rintro e w11 ⟨rfl, hb1⟩
  have HBn := Lib.hid (HB1.out.trans (hb1.mono HB1.out.size))
  clear HB1 hb1 g0 g1 x0 x1 x2 x3 x4 x5
  have HB1 := HBn
  clear HBn
  obtain ⟨g0, g1, x0, x1, x2, x3, x4, x5⟩ := HK.out w11 HB1.out
  have HR : Hid (RE = 0) := by show _ = _; exact HSp.out
  go_wp2
  go_ret
  exact ⟨ret_i HR.out.symm, HB0.out.trans (HB1.out.mono HB0.out.size)⟩
theorem form_00b (g va vb : Value) (Af : Option Addr) (cf : Nat) (m k : Nat) (es : List Tri) (a b : List Int) (w : World) (hg : GV w g m es) (ha : RI w va a) (hal : a.length = m) (hab : Bd 1048576 a) (hbv : RI w vb b) (hbl : b.length = m) (hbb : Bd 1048576 b) (hk : k < 9) (hm1 : 1 ≤ m) (hm : m ≤ 12)
    (hU : ∀ (f : Nat) (W : World), f < 5 → Calls Tryz.prog 122 #[.int .i64 (k : Int), .int .i64 (f : Int)] W fun e w' => e = .returned (.bool (([false, false, true, true, false] : List Bool).getD f false)) ∧ Below W.heap.size W w') :
    Calls Tryz.prog 84 #[g, .agg #[.int .i64 (k : Int), .int .i64 0, .int .i64 0, va, vb, (.slice Af 0 cf)]] w fun e w' => e = .returned (.int .i64 (rightE m false false 0 0 0 [])) ∧ Below w.heap.size w w' := by
  obtain ⟨kk, hkk⟩ : ∃ kk : Int, kk = (k : Int) := ⟨_, rfl⟩
  rw [← hkk]
  obtain ⟨A, c, rfl, -⟩ := hg.open_
  obtain ⟨W0, hW0⟩ : ∃ W0, W0 = (w.alloc (.cells #[.int .i64 (m : Int), .slice A es.length c] 24)).alloc (.cells #[.int .i64 kk, .int .i64 0, .int .i64 0, va, vb, (.slice Af 0 cf)] 91) := ⟨_, rfl⟩
  have hb0 : Below w.heap.size w W0 := by rw [hW0]; exact (below_alloc w _).alloc (by simp) _
  have hxg : BL W0 w.heap.size 24 [.int .i64 (m : Int), .slice A es.length c] := by rw [hW0]; exact (BL.new' w _ _).alloc _
  have hxc : BL W0 (w.heap.size + 1) 91 [.int .i64 kk, .int .i64 0, .int .i64 0, va, vb, (.slice Af 0 cf)] := by
    rw [hW0]
    have := BL.new' (w.alloc (.cells #[.int .i64 (m : Int), .slice A es.length c] 24)) #[.int .i64 kk, .int .i64 0, .int .i64 0, va, vb, (.slice Af 0 cf)] 91
    rwa [World.size_alloc] at this
  have HXg := Lib.hid hxg
  have HXc := Lib.hid hxc
  have HG0 := Lib.hid (hg.below hb0)
  have HB0 := Lib.hid hb0
  have HW0 := Lib.hid hW0
  subst hkk
  have hk0 : ¬ ((k : Int) < 0) := by omega
  have hk8 : ¬ (8 < (k : Int)) := by omega
  clear hg hxg hxc hW0 hk
  have HU0 : Hid (∀ W, Calls Tryz.prog 122 #[.int .i64 (k : Int), .int .i64 0] W fun e w' => e = .returned (.bool false) ∧ Below W.heap.size W w') := fun W => hU 0 W (by omega)
  have HU1 : Hid (∀ W, Calls Tryz.prog 122 #[.int .i64 (k : Int), .int .i64 1] W fun e w' => e = .returned (.bool false) ∧ Below W.heap.size W w') := fun W => hU 1 W (by omega)
  have HU2 : Hid (∀ W, Calls Tryz.prog 122 #[.int .i64 (k : Int), .int .i64 2] W fun e w' => e = .returned (.bool true) ∧ Below W.heap.size W w') := fun W => hU 2 W (by omega)
  have HU3 : Hid (∀ W, Calls Tryz.prog 122 #[.int .i64 (k : Int), .int .i64 3] W fun e w' => e = .returned (.bool true) ∧ Below W.heap.size W w') := fun W => hU 3 W (by omega)
  have HU4 : Hid (∀ W, Calls Tryz.prog 122 #[.int .i64 (k : Int), .int .i64 4] W fun e w' => e = .returned (.bool false) ∧ Below W.heap.size W w') := fun W => hU 4 W (by omega)
  have hck := check_zero hm1 hm hal hab
  have HA0 := Lib.hid (RI.below ha hb0)
  have HCa : Hid (∀ W : World, Below W0.heap.size W0 W → Calls Tryz.prog 123 #[va, .int .i64 (m : Int)] W fun e w' => e = .returned (.int .i64 0) ∧ W = w') := fun W h => by rw [← hck]; exact rCheck_any va a m W (RI.below HA0.out h)
  clear ha hal hab hck
  have hck := check_zero hm1 hm hbl hbb
  have HBv0 := Lib.hid (RI.below hbv hb0)
  have HCb : Hid (∀ W : World, Below W0.heap.size W0 W → Calls Tryz.prog 123 #[vb, .int .i64 (m : Int)] W fun e w' => e = .returned (.int .i64 0) ∧ W = w') := fun W h => by rw [← hck]; exact rCheck_any vb b m W (RI.below HBv0.out h)
  clear hbv hbl hbb hck
  have HSp : Hid (rightE m false false 0 0 0 [] = 0) := by
    show _ = _
    unfold rightE
    rw [if_neg, if_neg (by simp; omega)]
    · rfl
    · rintro (h | h)
      · exact absurd h.1 (by decide)
      · exact absurd h.1 (by decide)
  generalize rightE m false false 0 0 0 [] = RE at *
  have HK : Hid (∀ W : World, Below W0.heap.size W0 W → W.cell? ⟨w.heap.size, 0, none⟩ = some (.int .i64 (m : Int)) ∧ W.cell? ⟨w.heap.size, 1, none⟩ = some (.slice A es.length c) ∧ W.cell? ⟨w.heap.size + 1, 0, none⟩ = some (.int .i64 (k : Int)) ∧ W.cell? ⟨w.heap.size + 1, 1, none⟩ = some (.int .i64 0) ∧ W.cell? ⟨w.heap.size + 1, 2, none⟩ = some (.int .i64 0) ∧ W.cell? ⟨w.heap.size + 1, 3, none⟩ = some va ∧ W.cell? ⟨w.heap.size + 1, 4, none⟩ = some vb ∧ W.cell? ⟨w.heap.size + 1, 5, none⟩ = some (.slice Af 0 cf)) := fun W h =>
    ⟨(HXg.out.bel h).cell 0, (HXg.out.bel h).cell 1, (HXc.out.bel h).cell 0, (HXc.out.bel h).cell 1, (HXc.out.bel h).cell 2, (HXc.out.bel h).cell 3, (HXc.out.bel h).cell 4, (HXc.out.bel h).cell 5⟩
  clear hU hb0 hm1
  go_enter Tryz.func84, Tryz.ntmps84
  go_upto_region 1 with fail
  rw [← HW0.out]
  obtain ⟨g0, g1, x0, x1, x2, x3, x4, x5⟩ := HK.out W0 (Below.refl _ _)
  have HB1 := Lib.hid (Below.refl W0.heap.size W0)
  go_wp2_with fail
  refine (HU0.out W0).mono ?_
  rintro e w1 ⟨rfl, hb1⟩
  have HBn := Lib.hid (HB1.out.trans (hb1.mono HB1.out.size))
  clear HB1 hb1 g0 g1 x0 x1 x2 x3 x4 x5
  have HB1 := HBn
  clear HBn
  obtain ⟨g0, g1, x0, x1, x2, x3, x4, x5⟩ := HK.out w1 HB1.out
  go_wp2_with fail
  refine (HU1.out w1).mono ?_
  rintro e w2 ⟨rfl, hb1⟩
  have HBn := Lib.hid (HB1.out.trans (hb1.mono HB1.out.size))
  clear HB1 hb1 g0 g1 x0 x1 x2 x3 x4 x5
  have HB1 := HBn
  clear HBn
  obtain ⟨g0, g1, x0, x1, x2, x3, x4, x5⟩ := HK.out w2 HB1.out
  go_wp2_with fail
  refine (HU2.out w2).mono ?_
  rintro e w3 ⟨rfl, hb1⟩
  have HBn := Lib.hid (HB1.out.trans (hb1.mono HB1.out.size))
  clear HB1 hb1 g0 g1 x0 x1 x2 x3 x4 x5
  have HB1 := HBn
  clear HBn
  obtain ⟨g0, g1, x0, x1, x2, x3, x4, x5⟩ := HK.out w3 HB1.out
  go_wp2_with fail
  refine (HCa.out w3 HB1.out).mono ?_
  rintro e w4 ⟨rfl, rfl⟩
  go_wp2_with fail
  refine (HU3.out w3).mono ?_
  rintro e w5 ⟨rfl, hb1⟩
  have HBn := Lib.hid (HB1.out.trans (hb1.mono HB1.out.size))
  clear HB1 hb1 g0 g1 x0 x1 x2 x3 x4 x5
  have HB1 := HBn
  clear HBn
  obtain ⟨g0, g1, x0, x1, x2, x3, x4, x5⟩ := HK.out w5 HB1.out
  go_wp2_with fail
  refine (HCb.out w5 HB1.out).mono ?_
  rintro e w6 ⟨rfl, rfl⟩
  go_wp2_with fail
  refine (HU4.out w5).mono ?_
  rintro e w7 ⟨rfl, hb1⟩
  have HBn := Lib.hid (HB1.out.trans (hb1.mono HB1.out.size))
  clear HB1 hb1 g0 g1 x0 x1 x2 x3 x4 x5
  have HB1 := HBn
  clear HBn
  obtain ⟨g0, g1, x0, x1, x2, x3, x4, x5⟩ := HK.out w7 HB1.out
  go_wp2_with fail
  refine (HU0.out w7).mono ?_
  rintro e w8 ⟨rfl, hb1⟩
  have HBn := Lib.hid (HB1.out.trans (hb1.mono HB1.out.size))
  clear HB1 hb1 g0 g1 x0 x1 x2 x3 x4 x5
  have HB1 := HBn
  clear HBn
  obtain ⟨g0, g1, x0, x1, x2, x3, x4, x5⟩ := HK.out w8 HB1.out
  go_wp2_with fail
  refine (HU1.out w8).mono ?_
  rintro e w9 ⟨rfl, hb1⟩
  have HBn := Lib.hid (HB1.out.trans (hb1.mono HB1.out.size))
  clear HB1 hb1 g0 g1 x0 x1 x2 x3 x4 x5
  have HB1 := HBn
  clear HBn
  obtain ⟨g0, g1, x0, x1, x2, x3, x4, x5⟩ := HK.out w9 HB1.out
  go_wp2_with fail
  refine (HU2.out w9).mono ?_
  rintro e w10 ⟨rfl, hb1⟩
  have HBn := Lib.hid (HB1.out.trans (hb1.mono HB1.out.size))
  clear HB1 hb1 g0 g1 x0 x1 x2 x3 x4 x5
  have HB1 := HBn
  clear HBn
  obtain ⟨g0, g1, x0, x1, x2, x3, x4, x5⟩ := HK.out w10 HB1.out
  go_wp2_with fail
  refine (HU3.out w10).mono ?_
  rintro e w11 ⟨rfl, hb1⟩
  have HBn := Lib.hid (HB1.out.trans (hb1.mono HB1.out.size))
  clear HB1 hb1 g0 g1 x0 x1 x2 x3 x4 x5
  have HB1 := HBn
  clear HBn
  obtain ⟨g0, g1, x0, x1, x2, x3, x4, x5⟩ := HK.out w11 HB1.out
  go_wp2_with fail
  refine (HU4.out w11).mono ?_
  rintro e w12 ⟨rfl, hb1⟩
  have HBn := Lib.hid (HB1.out.trans (hb1.mono HB1.out.size))
  clear HB1 hb1 g0 g1 x0 x1 x2 x3 x4 x5
  have HB1 := HBn
  clear HBn
  obtain ⟨g0, g1, x0, x1, x2, x3, x4, x5⟩ := HK.out w12 HB1.out
  have HR : Hid (RE = 0) := by show _ = _; exact HSp.out
  go_wp2
  go_ret
  exact ⟨ret_i HR.out.symm, HB0.out.trans (HB1.out.mono HB0.out.size)⟩
theorem form_00f (g vf : Value) (Aa : Option Addr) (ca : Nat) (Ab : Option Addr) (cb : Nat) (m k : Nat) (es : List Tri) (fs : List Int) (w : World) (hg : GV w g m es) (hf : RI w vf fs) (hfb : Bd 1048576 fs) (hk : k < 9) (hm : m ≤ 12)
    (hU : ∀ (f : Nat) (W : World), f < 5 → Calls Tryz.prog 122 #[.int .i64 (k : Int), .int .i64 (f : Int)] W fun e w' => e = .returned (.bool (([false, false, false, false, true] : List Bool).getD f false)) ∧ Below W.heap.size W w') :
    Calls Tryz.prog 84 #[g, .agg #[.int .i64 (k : Int), .int .i64 0, .int .i64 0, (.slice Aa 0 ca), (.slice Ab 0 cb), vf]] w fun e w' => e = .returned (.int .i64 (rightE m false false 0 0 0 fs)) ∧ Below w.heap.size w w' := by
  obtain ⟨kk, hkk⟩ : ∃ kk : Int, kk = (k : Int) := ⟨_, rfl⟩
  rw [← hkk]
  obtain ⟨A, c, rfl, -⟩ := hg.open_
  obtain ⟨W0, hW0⟩ : ∃ W0, W0 = (w.alloc (.cells #[.int .i64 (m : Int), .slice A es.length c] 24)).alloc (.cells #[.int .i64 kk, .int .i64 0, .int .i64 0, (.slice Aa 0 ca), (.slice Ab 0 cb), vf] 91) := ⟨_, rfl⟩
  have hb0 : Below w.heap.size w W0 := by rw [hW0]; exact (below_alloc w _).alloc (by simp) _
  have hxg : BL W0 w.heap.size 24 [.int .i64 (m : Int), .slice A es.length c] := by rw [hW0]; exact (BL.new' w _ _).alloc _
  have hxc : BL W0 (w.heap.size + 1) 91 [.int .i64 kk, .int .i64 0, .int .i64 0, (.slice Aa 0 ca), (.slice Ab 0 cb), vf] := by
    rw [hW0]
    have := BL.new' (w.alloc (.cells #[.int .i64 (m : Int), .slice A es.length c] 24)) #[.int .i64 kk, .int .i64 0, .int .i64 0, (.slice Aa 0 ca), (.slice Ab 0 cb), vf] 91
    rwa [World.size_alloc] at this
  have HXg := Lib.hid hxg
  have HXc := Lib.hid hxc
  have HG0 := Lib.hid (hg.below hb0)
  have HB0 := Lib.hid hb0
  have HW0 := Lib.hid hW0
  subst hkk
  have hk0 : ¬ ((k : Int) < 0) := by omega
  have hk8 : ¬ (8 < (k : Int)) := by omega
  clear hg hxg hxc hW0 hk
  have HU0 : Hid (∀ W, Calls Tryz.prog 122 #[.int .i64 (k : Int), .int .i64 0] W fun e w' => e = .returned (.bool false) ∧ Below W.heap.size W w') := fun W => hU 0 W (by omega)
  have HU1 : Hid (∀ W, Calls Tryz.prog 122 #[.int .i64 (k : Int), .int .i64 1] W fun e w' => e = .returned (.bool false) ∧ Below W.heap.size W w') := fun W => hU 1 W (by omega)
  have HU2 : Hid (∀ W, Calls Tryz.prog 122 #[.int .i64 (k : Int), .int .i64 2] W fun e w' => e = .returned (.bool false) ∧ Below W.heap.size W w') := fun W => hU 2 W (by omega)
  have HU3 : Hid (∀ W, Calls Tryz.prog 122 #[.int .i64 (k : Int), .int .i64 3] W fun e w' => e = .returned (.bool false) ∧ Below W.heap.size W w') := fun W => hU 3 W (by omega)
  have HU4 : Hid (∀ W, Calls Tryz.prog 122 #[.int .i64 (k : Int), .int .i64 4] W fun e w' => e = .returned (.bool true) ∧ Below W.heap.size W w') := fun W => hU 4 W (by omega)
  have HF0 := Lib.hid (RI.below hf hb0)
  have HFa : Hid (∀ W : World, Below W0.heap.size W0 W → Calls Tryz.prog 124 #[.int .i64 (m : Int), vf] W fun e w' => e = .returned (.int .i64 (facN m fs)) ∧ Below W.heap.size W w') := fun W h => rFac_any vf m fs W (RI.below HF0.out h) hm (fun k f hk => by have := hfb k; rwa [getD_of' hk] at this)
  clear hf hfb
  have HSp : Hid (rightE m false false 0 0 0 fs = facN m fs) := by
    show _ = _
    unfold rightE
    rw [if_neg]
    · rfl
    · rintro (h | h)
      · exact absurd h.1 (by decide)
      · exact absurd h.1 (by decide)
  generalize rightE m false false 0 0 0 fs = RE at *
  have HK : Hid (∀ W : World, Below W0.heap.size W0 W → W.cell? ⟨w.heap.size, 0, none⟩ = some (.int .i64 (m : Int)) ∧ W.cell? ⟨w.heap.size, 1, none⟩ = some (.slice A es.length c) ∧ W.cell? ⟨w.heap.size + 1, 0, none⟩ = some (.int .i64 (k : Int)) ∧ W.cell? ⟨w.heap.size + 1, 1, none⟩ = some (.int .i64 0) ∧ W.cell? ⟨w.heap.size + 1, 2, none⟩ = some (.int .i64 0) ∧ W.cell? ⟨w.heap.size + 1, 3, none⟩ = some (.slice Aa 0 ca) ∧ W.cell? ⟨w.heap.size + 1, 4, none⟩ = some (.slice Ab 0 cb) ∧ W.cell? ⟨w.heap.size + 1, 5, none⟩ = some vf) := fun W h =>
    ⟨(HXg.out.bel h).cell 0, (HXg.out.bel h).cell 1, (HXc.out.bel h).cell 0, (HXc.out.bel h).cell 1, (HXc.out.bel h).cell 2, (HXc.out.bel h).cell 3, (HXc.out.bel h).cell 4, (HXc.out.bel h).cell 5⟩
  clear hU hb0
  go_enter Tryz.func84, Tryz.ntmps84
  go_upto_region 1 with fail
  rw [← HW0.out]
  obtain ⟨g0, g1, x0, x1, x2, x3, x4, x5⟩ := HK.out W0 (Below.refl _ _)
  have HB1 := Lib.hid (Below.refl W0.heap.size W0)
  go_wp2_with fail
  refine (HU0.out W0).mono ?_
  rintro e w1 ⟨rfl, hb1⟩
  have HBn := Lib.hid (HB1.out.trans (hb1.mono HB1.out.size))
  clear HB1 hb1 g0 g1 x0 x1 x2 x3 x4 x5
  have HB1 := HBn
  clear HBn
  obtain ⟨g0, g1, x0, x1, x2, x3, x4, x5⟩ := HK.out w1 HB1.out
  go_wp2_with fail
  refine (HU1.out w1).mono ?_
  rintro e w2 ⟨rfl, hb1⟩
  have HBn := Lib.hid (HB1.out.trans (hb1.mono HB1.out.size))
  clear HB1 hb1 g0 g1 x0 x1 x2 x3 x4 x5
  have HB1 := HBn
  clear HBn
  obtain ⟨g0, g1, x0, x1, x2, x3, x4, x5⟩ := HK.out w2 HB1.out
  go_wp2_with fail
  refine (HU2.out w2).mono ?_
  rintro e w3 ⟨rfl, hb1⟩
  have HBn := Lib.hid (HB1.out.trans (hb1.mono HB1.out.size))
  clear HB1 hb1 g0 g1 x0 x1 x2 x3 x4 x5
  have HB1 := HBn
  clear HBn
  obtain ⟨g0, g1, x0, x1, x2, x3, x4, x5⟩ := HK.out w3 HB1.out
  go_wp2_with fail
  refine (HU3.out w3).mono ?_
  rintro e w4 ⟨rfl, hb1⟩
  have HBn := Lib.hid (HB1.out.trans (hb1.mono HB1.out.size))
  clear HB1 hb1 g0 g1 x0 x1 x2 x3 x4 x5
  have HB1 := HBn
  clear HBn
  obtain ⟨g0, g1, x0, x1, x2, x3, x4, x5⟩ := HK.out w4 HB1.out
  go_wp2_with fail
  refine (HU4.out w4).mono ?_
  rintro e w5 ⟨rfl, hb1⟩
  have HBn := Lib.hid (HB1.out.trans (hb1.mono HB1.out.size))
  clear HB1 hb1 g0 g1 x0 x1 x2 x3 x4 x5
  have HB1 := HBn
  clear HBn
  obtain ⟨g0, g1, x0, x1, x2, x3, x4, x5⟩ := HK.out w5 HB1.out
  go_wp2_with fail
  refine (HFa.out w5 HB1.out).mono ?_
  rintro e w6 ⟨rfl, hb1⟩
  have HBn := Lib.hid (HB1.out.trans (hb1.mono HB1.out.size))
  clear HB1 hb1 g0 g1 x0 x1 x2 x3 x4 x5
  have HB1 := HBn
  clear HBn
  obtain ⟨g0, g1, x0, x1, x2, x3, x4, x5⟩ := HK.out w6 HB1.out
  generalize facN m fs = fe at *
  by_cases hfe : fe = 0
  rotate_left
  · have t1 : (fe != 0) = true := by rw [bne_iff_ne]; exact hfe
    have HR : Hid (RE = fe) := HSp.out
    clear hfe
    go_wp2
    go_ret
    exact ⟨ret_i HR.out.symm, HB0.out.trans (HB1.out.mono HB0.out.size)⟩
  subst hfe
  go_wp2_with fail
  refine (HU0.out w6).mono ?_
  rintro e w7 ⟨rfl, hb1⟩
  have HBn := Lib.hid (HB1.out.trans (hb1.mono HB1.out.size))
  clear HB1 hb1 g0 g1 x0 x1 x2 x3 x4 x5
  have HB1 := HBn
  clear HBn
  obtain ⟨g0, g1, x0, x1, x2, x3, x4, x5⟩ := HK.out w7 HB1.out
  go_wp2_with fail
  refine (HU1.out w7).mono ?_
  rintro e w8 ⟨rfl, hb1⟩
  have HBn := Lib.hid (HB1.out.trans (hb1.mono HB1.out.size))
  clear HB1 hb1 g0 g1 x0 x1 x2 x3 x4 x5
  have HB1 := HBn
  clear HBn
  obtain ⟨g0, g1, x0, x1, x2, x3, x4, x5⟩ := HK.out w8 HB1.out
  go_wp2_with fail
  refine (HU2.out w8).mono ?_
  rintro e w9 ⟨rfl, hb1⟩
  have HBn := Lib.hid (HB1.out.trans (hb1.mono HB1.out.size))
  clear HB1 hb1 g0 g1 x0 x1 x2 x3 x4 x5
  have HB1 := HBn
  clear HBn
  obtain ⟨g0, g1, x0, x1, x2, x3, x4, x5⟩ := HK.out w9 HB1.out
  go_wp2_with fail
  refine (HU3.out w9).mono ?_
  rintro e w10 ⟨rfl, hb1⟩
  have HBn := Lib.hid (HB1.out.trans (hb1.mono HB1.out.size))
  clear HB1 hb1 g0 g1 x0 x1 x2 x3 x4 x5
  have HB1 := HBn
  clear HBn
  obtain ⟨g0, g1, x0, x1, x2, x3, x4, x5⟩ := HK.out w10 HB1.out
  go_wp2_with fail
  refine (HU4.out w10).mono ?_
  rintro e w11 ⟨rfl, hb1⟩
  have HBn := Lib.hid (HB1.out.trans (hb1.mono HB1.out.size))
  clear HB1 hb1 g0 g1 x0 x1 x2 x3 x4 x5
  have HB1 := HBn
  clear HBn
  obtain ⟨g0, g1, x0, x1, x2, x3, x4, x5⟩ := HK.out w11 HB1.out
  have HR : Hid (RE = 0) := by show _ = _; exact HSp.out
  go_wp2
  go_ret
  exact ⟨ret_i HR.out.symm, HB0.out.trans (HB1.out.mono HB0.out.size)⟩
theorem form_01c3 (g va : Value) (Ab : Option Addr) (cb : Nat) (Af : Option Addr) (cf : Nat) (m k : Nat) (N : Int) (es : List Tri) (a : List Int) (w : World) (hg : GV w g m es) (ha : RI w va a) (hal : a.length = m) (hab : Bd 1048576 a) (hk : k = 3) (hm1 : 1 ≤ m) (hm : m ≤ 12)
    (hU : ∀ (f : Nat) (W : World), f < 5 → Calls Tryz.prog 122 #[.int .i64 (k : Int), .int .i64 (f : Int)] W fun e w' => e = .returned (.bool (([false, true, true, false, false] : List Bool).getD f false)) ∧ Below W.heap.size W w') :
    Calls Tryz.prog 84 #[g, .agg #[.int .i64 (k : Int), .int .i64 0, .int .i64 N, va, (.slice Ab 0 cb), (.slice Af 0 cf)]] w fun e w' => e = .returned (.int .i64 (rightE m false true 0 0 N [])) ∧ Below w.heap.size w w' := by
  obtain ⟨kk, hkk⟩ : ∃ kk : Int, kk = (k : Int) := ⟨_, rfl⟩
  rw [← hkk]
  obtain ⟨A, c, rfl, -⟩ := hg.open_
  obtain ⟨W0, hW0⟩ : ∃ W0, W0 = (w.alloc (.cells #[.int .i64 (m : Int), .slice A es.length c] 24)).alloc (.cells #[.int .i64 kk, .int .i64 0, .int .i64 N, va, (.slice Ab 0 cb), (.slice Af 0 cf)] 91) := ⟨_, rfl⟩
  have hb0 : Below w.heap.size w W0 := by rw [hW0]; exact (below_alloc w _).alloc (by simp) _
  have hxg : BL W0 w.heap.size 24 [.int .i64 (m : Int), .slice A es.length c] := by rw [hW0]; exact (BL.new' w _ _).alloc _
  have hxc : BL W0 (w.heap.size + 1) 91 [.int .i64 kk, .int .i64 0, .int .i64 N, va, (.slice Ab 0 cb), (.slice Af 0 cf)] := by
    rw [hW0]
    have := BL.new' (w.alloc (.cells #[.int .i64 (m : Int), .slice A es.length c] 24)) #[.int .i64 kk, .int .i64 0, .int .i64 N, va, (.slice Ab 0 cb), (.slice Af 0 cf)] 91
    rwa [World.size_alloc] at this
  have HXg := Lib.hid hxg
  have HXc := Lib.hid hxc
  have HG0 := Lib.hid (hg.below hb0)
  have HB0 := Lib.hid hb0
  have HW0 := Lib.hid hW0
  subst hkk
  have hk0 : ¬ ((k : Int) < 0) := by omega
  have hk8 : ¬ (8 < (k : Int)) := by omega
  have hk3 : ((k : Int) == 3) = true := by rw [hk]; decide
  clear hg hxg hxc hW0 hk
  have HU0 : Hid (∀ W, Calls Tryz.prog 122 #[.int .i64 (k : Int), .int .i64 0] W fun e w' => e = .returned (.bool false) ∧ Below W.heap.size W w') := fun W => hU 0 W (by omega)
  have HU1 : Hid (∀ W, Calls Tryz.prog 122 #[.int .i64 (k : Int), .int .i64 1] W fun e w' => e = .returned (.bool true) ∧ Below W.heap.size W w') := fun W => hU 1 W (by omega)
  have HU2 : Hid (∀ W, Calls Tryz.prog 122 #[.int .i64 (k : Int), .int .i64 2] W fun e w' => e = .returned (.bool true) ∧ Below W.heap.size W w') := fun W => hU 2 W (by omega)
  have HU3 : Hid (∀ W, Calls Tryz.prog 122 #[.int .i64 (k : Int), .int .i64 3] W fun e w' => e = .returned (.bool false) ∧ Below W.heap.size W w') := fun W => hU 3 W (by omega)
  have HU4 : Hid (∀ W, Calls Tryz.prog 122 #[.int .i64 (k : Int), .int .i64 4] W fun e w' => e = .returned (.bool false) ∧ Below W.heap.size W w') := fun W => hU 4 W (by omega)
  have hck := check_zero hm1 hm hal hab
  have HA0 := Lib.hid (RI.below ha hb0)
  have HCa : Hid (∀ W : World, Below W0.heap.size W0 W → Calls Tryz.prog 123 #[va, .int .i64 (m : Int)] W fun e w' => e = .returned (.int .i64 0) ∧ W = w') := fun W h => by rw [← hck]; exact rCheck_any va a m W (RI.below HA0.out h)
  clear ha hal hab hck
  have HSp : Hid (rightE m false true 0 0 N [] = if (N < 0 ∨ 12 < N) then 2 else 0) := by
    show _ = _
    unfold rightE
    by_cases c1 : N < 0 ∨ 12 < N
    · rw [if_pos c1, if_pos (.inr ⟨rfl, c1⟩)]
    · rw [if_neg c1, if_neg, if_neg (by simp; omega)]
      · rfl
      · rintro (h | h)
        · exact absurd h.1 (by decide)
        · exact c1 h.2
  generalize rightE m false true 0 0 N [] = RE at *
  have HK : Hid (∀ W : World, Below W0.heap.size W0 W → W.cell? ⟨w.heap.size, 0, none⟩ = some (.int .i64 (m : Int)) ∧ W.cell? ⟨w.heap.size, 1, none⟩ = some (.slice A es.length c) ∧ W.cell? ⟨w.heap.size + 1, 0, none⟩ = some (.int .i64 (k : Int)) ∧ W.cell? ⟨w.heap.size + 1, 1, none⟩ = some (.int .i64 0) ∧ W.cell? ⟨w.heap.size + 1, 2, none⟩ = some (.int .i64 N) ∧ W.cell? ⟨w.heap.size + 1, 3, none⟩ = some va ∧ W.cell? ⟨w.heap.size + 1, 4, none⟩ = some (.slice Ab 0 cb) ∧ W.cell? ⟨w.heap.size + 1, 5, none⟩ = some (.slice Af 0 cf)) := fun W h =>
    ⟨(HXg.out.bel h).cell 0, (HXg.out.bel h).cell 1, (HXc.out.bel h).cell 0, (HXc.out.bel h).cell 1, (HXc.out.bel h).cell 2, (HXc.out.bel h).cell 3, (HXc.out.bel h).cell 4, (HXc.out.bel h).cell 5⟩
  clear hU hb0 hm1
  go_enter Tryz.func84, Tryz.ntmps84
  go_upto_region 1 with fail
  rw [← HW0.out]
  obtain ⟨g0, g1, x0, x1, x2, x3, x4, x5⟩ := HK.out W0 (Below.refl _ _)
  have HB1 := Lib.hid (Below.refl W0.heap.size W0)
  go_wp2_with fail
  refine (HU0.out W0).mono ?_
  rintro e w1 ⟨rfl, hb1⟩
  have HBn := Lib.hid (HB1.out.trans (hb1.mono HB1.out.size))
  clear HB1 hb1 g0 g1 x0 x1 x2 x3 x4 x5
  have HB1 := HBn
  clear HBn
  obtain ⟨g0, g1, x0, x1, x2, x3, x4, x5⟩ := HK.out w1 HB1.out
  go_wp2_with fail
  refine (HU1.out w1).mono ?_
  rintro e w2 ⟨rfl, hb1⟩
  have HBn := Lib.hid (HB1.out.trans (hb1.mono HB1.out.size))
  clear HB1 hb1 g0 g1 x0 x1 x2 x3 x4 x5
  have HB1 := HBn
  clear HBn
  obtain ⟨g0, g1, x0, x1, x2, x3, x4, x5⟩ := HK.out w2 HB1.out
  by_cases n0 : 12 < N
  · have HR : Hid (RE = 2) := by show _ = _; rw [HSp.out, if_pos (by omega)]
    go_wp2
    go_ret
    exact ⟨ret_i HR.out.symm, HB0.out.trans (HB1.out.mono HB0.out.size)⟩
  by_cases n1 : N < -1
  · have HR : Hid (RE = 2) := by show _ = _; rw [HSp.out, if_pos (by omega)]
    go_wp2
    go_ret
    exact ⟨ret_i HR.out.symm, HB0.out.trans (HB1.out.mono HB0.out.size)⟩
  by_cases n2 : N < 0
  · have HR : Hid (RE = 2) := by show _ = _; rw [HSp.out, if_pos (by omega)]
    go_wp2
    go_ret
    exact ⟨ret_i HR.out.symm, HB0.out.trans (HB1.out.mono HB0.out.size)⟩
  rw [if_neg (by omega)] at HSp
  go_wp2_with fail
  refine (HU2.out w2).mono ?_
  rintro e w3 ⟨rfl, hb1⟩
  have HBn := Lib.hid (HB1.out.trans (hb1.mono HB1.out.size))
  clear HB1 hb1 g0 g1 x0 x1 x2 x3 x4 x5
  have HB1 := HBn
  clear HBn
  obtain ⟨g0, g1, x0, x1, x2, x3, x4, x5⟩ := HK.out w3 HB1.out
  go_wp2_with fail
  refine (HCa.out w3 HB1.out).mono ?_
  rintro e w4 ⟨rfl, rfl⟩
  go_wp2_with fail
  refine (HU3.out w3).mono ?_
  rintro e w5 ⟨rfl, hb1⟩
  have HBn := Lib.hid (HB1.out.trans (hb1.mono HB1.out.size))
  clear HB1 hb1 g0 g1 x0 x1 x2 x3 x4 x5
  have HB1 := HBn
  clear HBn
  obtain ⟨g0, g1, x0, x1, x2, x3, x4, x5⟩ := HK.out w5 HB1.out
  go_wp2_with fail
  refine (HU4.out w5).mono ?_
  rintro e w6 ⟨rfl, hb1⟩
  have HBn := Lib.hid (HB1.out.trans (hb1.mono HB1.out.size))
  clear HB1 hb1 g0 g1 x0 x1 x2 x3 x4 x5
  have HB1 := HBn
  clear HBn
  obtain ⟨g0, g1, x0, x1, x2, x3, x4, x5⟩ := HK.out w6 HB1.out
  go_wp2_with fail
  refine (HU0.out w6).mono ?_
  rintro e w7 ⟨rfl, hb1⟩
  have HBn := Lib.hid (HB1.out.trans (hb1.mono HB1.out.size))
  clear HB1 hb1 g0 g1 x0 x1 x2 x3 x4 x5
  have HB1 := HBn
  clear HBn
  obtain ⟨g0, g1, x0, x1, x2, x3, x4, x5⟩ := HK.out w7 HB1.out
  go_wp2_with fail
  refine (HU1.out w7).mono ?_
  rintro e w8 ⟨rfl, hb1⟩
  have HBn := Lib.hid (HB1.out.trans (hb1.mono HB1.out.size))
  clear HB1 hb1 g0 g1 x0 x1 x2 x3 x4 x5
  have HB1 := HBn
  clear HBn
  obtain ⟨g0, g1, x0, x1, x2, x3, x4, x5⟩ := HK.out w8 HB1.out
  go_wp2_with fail
  refine (HU2.out w8).mono ?_
  rintro e w9 ⟨rfl, hb1⟩
  have HBn := Lib.hid (HB1.out.trans (hb1.mono HB1.out.size))
  clear HB1 hb1 g0 g1 x0 x1 x2 x3 x4 x5
  have HB1 := HBn
  clear HBn
  obtain ⟨g0, g1, x0, x1, x2, x3, x4, x5⟩ := HK.out w9 HB1.out
  go_wp2_with fail
  refine (HU3.out w9).mono ?_
  rintro e w10 ⟨rfl, hb1⟩
  have HBn := Lib.hid (HB1.out.trans (hb1.mono HB1.out.size))
  clear HB1 hb1 g0 g1 x0 x1 x2 x3 x4 x5
  have HB1 := HBn
  clear HBn
  obtain ⟨g0, g1, x0, x1, x2, x3, x4, x5⟩ := HK.out w10 HB1.out
  go_wp2_with fail
  refine (HU4.out w10).mono ?_
  rintro e w11 ⟨rfl, hb1⟩
  have HBn := Lib.hid (HB1.out.trans (hb1.mono HB1.out.size))
  clear HB1 hb1 g0 g1 x0 x1 x2 x3 x4 x5
  have HB1 := HBn
  clear HBn
  obtain ⟨g0, g1, x0, x1, x2, x3, x4, x5⟩ := HK.out w11 HB1.out
  have HR : Hid (RE = 0) := by show _ = _; exact HSp.out
  go_wp2
  go_ret
  exact ⟨ret_i HR.out.symm, HB0.out.trans (HB1.out.mono HB0.out.size)⟩
theorem form_01c4a (g va : Value) (Ab : Option Addr) (cb : Nat) (Af : Option Addr) (cf : Nat) (m k : Nat) (N : Int) (es : List Tri) (a : List Int) (w : World) (hg : GV w g m es) (ha : RI w va a) (hal : a.length = m) (hab : Bd 1048576 a) (hk : k = 4) (hm1 : 1 ≤ m) (hm : m ≤ 12) (hN : N < 0)
    (hU : ∀ (f : Nat) (W : World), f < 5 → Calls Tryz.prog 122 #[.int .i64 (k : Int), .int .i64 (f : Int)] W fun e w' => e = .returned (.bool (([false, true, true, false, false] : List Bool).getD f false)) ∧ Below W.heap.size W w') :
    Calls Tryz.prog 84 #[g, .agg #[.int .i64 (k : Int), .int .i64 0, .int .i64 N, va, (.slice Ab 0 cb), (.slice Af 0 cf)]] w fun e w' => e = .returned (.int .i64 (rightE m false true (-1) 0 N [])) ∧ Below w.heap.size w w' := by
  obtain ⟨kk, hkk⟩ : ∃ kk : Int, kk = (k : Int) := ⟨_, rfl⟩
  rw [← hkk]
  obtain ⟨A, c, rfl, -⟩ := hg.open_
  obtain ⟨W0, hW0⟩ : ∃ W0, W0 = (w.alloc (.cells #[.int .i64 (m : Int), .slice A es.length c] 24)).alloc (.cells #[.int .i64 kk, .int .i64 0, .int .i64 N, va, (.slice Ab 0 cb), (.slice Af 0 cf)] 91) := ⟨_, rfl⟩
  have hb0 : Below w.heap.size w W0 := by rw [hW0]; exact (below_alloc w _).alloc (by simp) _
  have hxg : BL W0 w.heap.size 24 [.int .i64 (m : Int), .slice A es.length c] := by rw [hW0]; exact (BL.new' w _ _).alloc _
  have hxc : BL W0 (w.heap.size + 1) 91 [.int .i64 kk, .int .i64 0, .int .i64 N, va, (.slice Ab 0 cb), (.slice Af 0 cf)] := by
    rw [hW0]
    have := BL.new' (w.alloc (.cells #[.int .i64 (m : Int), .slice A es.length c] 24)) #[.int .i64 kk, .int .i64 0, .int .i64 N, va, (.slice Ab 0 cb), (.slice Af 0 cf)] 91
    rwa [World.size_alloc] at this
  have HXg := Lib.hid hxg
  have HXc := Lib.hid hxc
  have HG0 := Lib.hid (hg.below hb0)
  have HB0 := Lib.hid hb0
  have HW0 := Lib.hid hW0
  subst hkk
  have hk0 : ¬ ((k : Int) < 0) := by omega
  have hk8 : ¬ (8 < (k : Int)) := by omega
  have hk3 : ((k : Int) == 3) = false := by rw [hk]; decide
  clear hg hxg hxc hW0 hk
  have HU0 : Hid (∀ W, Calls Tryz.prog 122 #[.int .i64 (k : Int), .int .i64 0] W fun e w' => e = .returned (.bool false) ∧ Below W.heap.size W w') := fun W => hU 0 W (by omega)
  have HU1 : Hid (∀ W, Calls Tryz.prog 122 #[.int .i64 (k : Int), .int .i64 1] W fun e w' => e = .returned (.bool true) ∧ Below W.heap.size W w') := fun W => hU 1 W (by omega)
  have HU2 : Hid (∀ W, Calls Tryz.prog 122 #[.int .i64 (k : Int), .int .i64 2] W fun e w' => e = .returned (.bool true) ∧ Below W.heap.size W w') := fun W => hU 2 W (by omega)
  have HU3 : Hid (∀ W, Calls Tryz.prog 122 #[.int .i64 (k : Int), .int .i64 3] W fun e w' => e = .returned (.bool false) ∧ Below W.heap.size W w') := fun W => hU 3 W (by omega)
  have HU4 : Hid (∀ W, Calls Tryz.prog 122 #[.int .i64 (k : Int), .int .i64 4] W fun e w' => e = .returned (.bool false) ∧ Below W.heap.size W w') := fun W => hU 4 W (by omega)
  have hck := check_zero hm1 hm hal hab
  have HA0 := Lib.hid (RI.below ha hb0)
  have HCa : Hid (∀ W : World, Below W0.heap.size W0 W → Calls Tryz.prog 123 #[va, .int .i64 (m : Int)] W fun e w' => e = .returned (.int .i64 0) ∧ W = w') := fun W h => by rw [← hck]; exact rCheck_any va a m W (RI.below HA0.out h)
  clear ha hal hab hck
  have HSp : Hid (rightE m false true (-1) 0 N [] = if (N < (-1) ∨ 12 < N) then 2 else 0) := by
    show _ = _
    unfold rightE
    by_cases c1 : N < (-1) ∨ 12 < N
    · rw [if_pos c1, if_pos (.inr ⟨rfl, c1⟩)]
    · rw [if_neg c1, if_neg, if_neg (by simp; omega)]
      · rfl
      · rintro (h | h)
        · exact absurd h.1 (by decide)
        · exact c1 h.2
  generalize rightE m false true (-1) 0 N [] = RE at *
  have HK : Hid (∀ W : World, Below W0.heap.size W0 W → W.cell? ⟨w.heap.size, 0, none⟩ = some (.int .i64 (m : Int)) ∧ W.cell? ⟨w.heap.size, 1, none⟩ = some (.slice A es.length c) ∧ W.cell? ⟨w.heap.size + 1, 0, none⟩ = some (.int .i64 (k : Int)) ∧ W.cell? ⟨w.heap.size + 1, 1, none⟩ = some (.int .i64 0) ∧ W.cell? ⟨w.heap.size + 1, 2, none⟩ = some (.int .i64 N) ∧ W.cell? ⟨w.heap.size + 1, 3, none⟩ = some va ∧ W.cell? ⟨w.heap.size + 1, 4, none⟩ = some (.slice Ab 0 cb) ∧ W.cell? ⟨w.heap.size + 1, 5, none⟩ = some (.slice Af 0 cf)) := fun W h =>
    ⟨(HXg.out.bel h).cell 0, (HXg.out.bel h).cell 1, (HXc.out.bel h).cell 0, (HXc.out.bel h).cell 1, (HXc.out.bel h).cell 2, (HXc.out.bel h).cell 3, (HXc.out.bel h).cell 4, (HXc.out.bel h).cell 5⟩
  clear hU hb0 hm1
  go_enter Tryz.func84, Tryz.ntmps84
  go_upto_region 1 with fail
  rw [← HW0.out]
  obtain ⟨g0, g1, x0, x1, x2, x3, x4, x5⟩ := HK.out W0 (Below.refl _ _)
  have HB1 := Lib.hid (Below.refl W0.heap.size W0)
  go_wp2_with fail
  refine (HU0.out W0).mono ?_
  rintro e w1 ⟨rfl, hb1⟩
  have HBn := Lib.hid (HB1.out.trans (hb1.mono HB1.out.size))
  clear HB1 hb1 g0 g1 x0 x1 x2 x3 x4 x5
  have HB1 := HBn
  clear HBn
  obtain ⟨g0, g1, x0, x1, x2, x3, x4, x5⟩ := HK.out w1 HB1.out
  go_wp2_with fail
  refine (HU1.out w1).mono ?_
  rintro e w2 ⟨rfl, hb1⟩
  have HBn := Lib.hid (HB1.out.trans (hb1.mono HB1.out.size))
  clear HB1 hb1 g0 g1 x0 x1 x2 x3 x4 x5
  have HB1 := HBn
  clear HBn
  obtain ⟨g0, g1, x0, x1, x2, x3, x4, x5⟩ := HK.out w2 HB1.out
  have n9 : ¬ 12 < N := by omega
  by_cases n0 : N < -1
  · have HR : Hid (RE = 2) := by show _ = _; rw [HSp.out, if_pos (by omega)]
    go_wp2
    go_ret
    exact ⟨ret_i HR.out.symm, HB0.out.trans (HB1.out.mono HB0.out.size)⟩
  rw [if_neg (by omega)] at HSp
  go_wp2_with fail
  refine (HU2.out w2).mono ?_
  rintro e w3 ⟨rfl, hb1⟩
  have HBn := Lib.hid (HB1.out.trans (hb1.mono HB1.out.size))
  clear HB1 hb1 g0 g1 x0 x1 x2 x3 x4 x5
  have HB1 := HBn
  clear HBn
  obtain ⟨g0, g1, x0, x1, x2, x3, x4, x5⟩ := HK.out w3 HB1.out
  go_wp2_with fail
  refine (HCa.out w3 HB1.out).mono ?_
  rintro e w4 ⟨rfl, rfl⟩
  go_wp2_with fail
  refine (HU3.out w3).mono ?_
  rintro e w5 ⟨rfl, hb1⟩
  have HBn := Lib.hid (HB1.out.trans (hb1.mono HB1.out.size))
  clear HB1 hb1 g0 g1 x0 x1 x2 x3 x4 x5
  have HB1 := HBn
  clear HBn
  obtain ⟨g0, g1, x0, x1, x2, x3, x4, x5⟩ := HK.out w5 HB1.out
  go_wp2_with fail
  refine (HU4.out w5).mono ?_
  rintro e w6 ⟨rfl, hb1⟩
  have HBn := Lib.hid (HB1.out.trans (hb1.mono HB1.out.size))
  clear HB1 hb1 g0 g1 x0 x1 x2 x3 x4 x5
  have HB1 := HBn
  clear HBn
  obtain ⟨g0, g1, x0, x1, x2, x3, x4, x5⟩ := HK.out w6 HB1.out
  go_wp2_with fail
  refine (HU0.out w6).mono ?_
  rintro e w7 ⟨rfl, hb1⟩
  have HBn := Lib.hid (HB1.out.trans (hb1.mono HB1.out.size))
  clear HB1 hb1 g0 g1 x0 x1 x2 x3 x4 x5
  have HB1 := HBn
  clear HBn
  obtain ⟨g0, g1, x0, x1, x2, x3, x4, x5⟩ := HK.out w7 HB1.out
  go_wp2_with fail
  refine (HU1.out w7).mono ?_
  rintro e w8 ⟨rfl, hb1⟩
  have HBn := Lib.hid (HB1.out.trans (hb1.mono HB1.out.size))
  clear HB1 hb1 g0 g1 x0 x1 x2 x3 x4 x5
  have HB1 := HBn
  clear HBn
  obtain ⟨g0, g1, x0, x1, x2, x3, x4, x5⟩ := HK.out w8 HB1.out
  go_wp2_with fail
  refine (HU2.out w8).mono ?_
  rintro e w9 ⟨rfl, hb1⟩
  have HBn := Lib.hid (HB1.out.trans (hb1.mono HB1.out.size))
  clear HB1 hb1 g0 g1 x0 x1 x2 x3 x4 x5
  have HB1 := HBn
  clear HBn
  obtain ⟨g0, g1, x0, x1, x2, x3, x4, x5⟩ := HK.out w9 HB1.out
  go_wp2_with fail
  refine (HU3.out w9).mono ?_
  rintro e w10 ⟨rfl, hb1⟩
  have HBn := Lib.hid (HB1.out.trans (hb1.mono HB1.out.size))
  clear HB1 hb1 g0 g1 x0 x1 x2 x3 x4 x5
  have HB1 := HBn
  clear HBn
  obtain ⟨g0, g1, x0, x1, x2, x3, x4, x5⟩ := HK.out w10 HB1.out
  go_wp2_with fail
  refine (HU4.out w10).mono ?_
  rintro e w11 ⟨rfl, hb1⟩
  have HBn := Lib.hid (HB1.out.trans (hb1.mono HB1.out.size))
  clear HB1 hb1 g0 g1 x0 x1 x2 x3 x4 x5
  have HB1 := HBn
  clear HBn
  obtain ⟨g0, g1, x0, x1, x2, x3, x4, x5⟩ := HK.out w11 HB1.out
  have HR : Hid (RE = 0) := by show _ = _; exact HSp.out
  go_wp2
  go_ret
  exact ⟨ret_i HR.out.symm, HB0.out.trans (HB1.out.mono HB0.out.size)⟩
theorem form_01c4b (g va : Value) (Ab : Option Addr) (cb : Nat) (Af : Option Addr) (cf : Nat) (m k : Nat) (N : Int) (es : List Tri) (a : List Int) (w : World) (hg : GV w g m es) (ha : RI w va a) (hal : a.length = m) (hab : Bd 1048576 a) (hk : k = 4) (hm1 : 1 ≤ m) (hm : m ≤ 12) (hN : ¬ N < 0)
    (hU : ∀ (f : Nat) (W : World), f < 5 → Calls Tryz.prog 122 #[.int .i64 (k : Int), .int .i64 (f : Int)] W fun e w' => e = .returned (.bool (([false, true, true, false, false] : List Bool).getD f false)) ∧ Below W.heap.size W w') :
    Calls Tryz.prog 84 #[g, .agg #[.int .i64 (k : Int), .int .i64 0, .int .i64 N, va, (.slice Ab 0 cb), (.slice Af 0 cf)]] w fun e w' => e = .returned (.int .i64 (rightE m false true (-1) 0 N [])) ∧ Below w.heap.size w w' := by
  obtain ⟨kk, hkk⟩ : ∃ kk : Int, kk = (k : Int) := ⟨_, rfl⟩
  rw [← hkk]
  obtain ⟨A, c, rfl, -⟩ := hg.open_
  obtain ⟨W0, hW0⟩ : ∃ W0, W0 = (w.alloc (.cells #[.int .i64 (m : Int), .slice A es.length c] 24)).alloc (.cells #[.int .i64 kk, .int .i64 0, .int .i64 N, va, (.slice Ab 0 cb), (.slice Af 0 cf)] 91) := ⟨_, rfl⟩
  have hb0 : Below w.heap.size w W0 := by rw [hW0]; exact (below_alloc w _).alloc (by simp) _
  have hxg : BL W0 w.heap.size 24 [.int .i64 (m : Int), .slice A es.length c] := by rw [hW0]; exact (BL.new' w _ _).alloc _
  have hxc : BL W0 (w.heap.size + 1) 91 [.int .i64 kk, .int .i64 0, .int .i64 N, va, (.slice Ab 0 cb), (.slice Af 0 cf)] := by
    rw [hW0]
    have := BL.new' (w.alloc (.cells #[.int .i64 (m : Int), .slice A es.length c] 24)) #[.int .i64 kk, .int .i64 0, .int .i64 N, va, (.slice Ab 0 cb), (.slice Af 0 cf)] 91
    rwa [World.size_alloc] at this
  have HXg := Lib.hid hxg
  have HXc := Lib.hid hxc
  have HG0 := Lib.hid (hg.below hb0)
  have HB0 := Lib.hid hb0
  have HW0 := Lib.hid hW0
  subst hkk
  have hk0 : ¬ ((k : Int) < 0) := by omega
  have hk8 : ¬ (8 < (k : Int)) := by omega
  have hk3 : ((k : Int) == 3) = false := by rw [hk]; decide
  clear hg hxg hxc hW0 hk
  have HU0 : Hid (∀ W, Calls Tryz.prog 122 #[.int .i64 (k : Int), .int .i64 0] W fun e w' => e = .returned (.bool false) ∧ Below W.heap.size W w') := fun W => hU 0 W (by omega)
  have HU1 : Hid (∀ W, Calls Tryz.prog 122 #[.int .i64 (k : Int), .int .i64 1] W fun e w' => e = .returned (.bool true) ∧ Below W.heap.size W w') := fun W => hU 1 W (by omega)
  have HU2 : Hid (∀ W, Calls Tryz.prog 122 #[.int .i64 (k : Int), .int .i64 2] W fun e w' => e = .returned (.bool true) ∧ Below W.heap.size W w') := fun W => hU 2 W (by omega)
  have HU3 : Hid (∀ W, Calls Tryz.prog 122 #[.int .i64 (k : Int), .int .i64 3] W fun e w' => e = .returned (.bool false) ∧ Below W.heap.size W w') := fun W => hU 3 W (by omega)
  have HU4 : Hid (∀ W, Calls Tryz.prog 122 #[.int .i64 (k : Int), .int .i64 4] W fun e w' => e = .returned (.bool false) ∧ Below W.heap.size W w') := fun W => hU 4 W (by omega)
  have hck := check_zero hm1 hm hal hab
  have HA0 := Lib.hid (RI.below ha hb0)
  have HCa : Hid (∀ W : World, Below W0.heap.size W0 W → Calls Tryz.prog 123 #[va, .int .i64 (m : Int)] W fun e w' => e = .returned (.int .i64 0) ∧ W = w') := fun W h => by rw [← hck]; exact rCheck_any va a m W (RI.below HA0.out h)
  clear ha hal hab hck
  have HSp : Hid (rightE m false true (-1) 0 N [] = if (N < (-1) ∨ 12 < N) then 2 else 0) := by
    show _ = _
    unfold rightE
    by_cases c1 : N < (-1) ∨ 12 < N
    · rw [if_pos c1, if_pos (.inr ⟨rfl, c1⟩)]
    · rw [if_neg c1, if_neg, if_neg (by simp; omega)]
      · rfl
      · rintro (h | h)
        · exact absurd h.1 (by decide)
        · exact c1 h.2
  generalize rightE m false true (-1) 0 N [] = RE at *
  have HK : Hid (∀ W : World, Below W0.heap.size W0 W → W.cell? ⟨w.heap.size, 0, none⟩ = some (.int .i64 (m : Int)) ∧ W.cell? ⟨w.heap.size, 1, none⟩ = some (.slice A es.length c) ∧ W.cell? ⟨w.heap.size + 1, 0, none⟩ = some (.int .i64 (k : Int)) ∧ W.cell? ⟨w.heap.size + 1, 1, none⟩ = some (.int .i64 0) ∧ W.cell? ⟨w.heap.size + 1, 2, none⟩ = some (.int .i64 N) ∧ W.cell? ⟨w.heap.size + 1, 3, none⟩ = some va ∧ W.cell? ⟨w.heap.size + 1, 4, none⟩ = some (.slice Ab 0 cb) ∧ W.cell? ⟨w.heap.size + 1, 5, none⟩ = some (.slice Af 0 cf)) := fun W h =>
    ⟨(HXg.out.bel h).cell 0, (HXg.out.bel h).cell 1, (HXc.out.bel h).cell 0, (HXc.out.bel h).cell 1, (HXc.out.bel h).cell 2, (HXc.out.bel h).cell 3, (HXc.out.bel h).cell 4, (HXc.out.bel h).cell 5⟩
  clear hU hb0 hm1
  go_enter Tryz.func84, Tryz.ntmps84
  go_upto_region 1 with fail
  rw [← HW0.out]
  obtain ⟨g0, g1, x0, x1, x2, x3, x4, x5⟩ := HK.out W0 (Below.refl _ _)
  have HB1 := Lib.hid (Below.refl W0.heap.size W0)
  go_wp2_with fail
  refine (HU0.out W0).mono ?_
  rintro e w1 ⟨rfl, hb1⟩
  have HBn := Lib.hid (HB1.out.trans (hb1.mono HB1.out.size))
  clear HB1 hb1 g0 g1 x0 x1 x2 x3 x4 x5
  have HB1 := HBn
  clear HBn
  obtain ⟨g0, g1, x0, x1, x2, x3, x4, x5⟩ := HK.out w1 HB1.out
  go_wp2_with fail
  refine (HU1.out w1).mono ?_
  rintro e w2 ⟨rfl, hb1⟩
  have HBn := Lib.hid (HB1.out.trans (hb1.mono HB1.out.size))
  clear HB1 hb1 g0 g1 x0 x1 x2 x3 x4 x5
  have HB1 := HBn
  clear HBn
  obtain ⟨g0, g1, x0, x1, x2, x3, x4, x5⟩ := HK.out w2 HB1.out
  have n9 : ¬ N < -1 := by omega
  by_cases n0 : 12 < N
  · have HR : Hid (RE = 2) := by show _ = _; rw [HSp.out, if_pos (by omega)]
    go_wp2
    go_ret
    exact ⟨ret_i HR.out.symm, HB0.out.trans (HB1.out.mono HB0.out.size)⟩
  rw [if_neg (by omega)] at HSp
  go_wp2_with fail
  refine (HU2.out w2).mono ?_
  rintro e w3 ⟨rfl, hb1⟩
  have HBn := Lib.hid (HB1.out.trans (hb1.mono HB1.out.size))
  clear HB1 hb1 g0 g1 x0 x1 x2 x3 x4 x5
  have HB1 := HBn
  clear HBn
  obtain ⟨g0, g1, x0, x1, x2, x3, x4, x5⟩ := HK.out w3 HB1.out
  go_wp2_with fail
  refine (HCa.out w3 HB1.out).mono ?_
  rintro e w4 ⟨rfl, rfl⟩
  go_wp2_with fail
  refine (HU3.out w3).mono ?_
  rintro e w5 ⟨rfl, hb1⟩
  have HBn := Lib.hid (HB1.out.trans (hb1.mono HB1.out.size))
  clear HB1 hb1 g0 g1 x0 x1 x2 x3 x4 x5
  have HB1 := HBn
  clear HBn
  obtain ⟨g0, g1, x0, x1, x2, x3, x4, x5⟩ := HK.out w5 HB1.out
  go_wp2_with fail
  refine (HU4.out w5).mono ?_
  rintro e w6 ⟨rfl, hb1⟩
  have HBn := Lib.hid (HB1.out.trans (hb1.mono HB1.out.size))
  clear HB1 hb1 g0 g1 x0 x1 x2 x3 x4 x5
  have HB1 := HBn
  clear HBn
  obtain ⟨g0, g1, x0, x1, x2, x3, x4, x5⟩ := HK.out w6 HB1.out
  go_wp2_with fail
  refine (HU0.out w6).mono ?_
  rintro e w7 ⟨rfl, hb1⟩
  have HBn := Lib.hid (HB1.out.trans (hb1.mono HB1.out.size))
  clear HB1 hb1 g0 g1 x0 x1 x2 x3 x4 x5
  have HB1 := HBn
  clear HBn
  obtain ⟨g0, g1, x0, x1, x2, x3, x4, x5⟩ := HK.out w7 HB1.out
  go_wp2_with fail
  refine (HU1.out w7).mono ?_
  rintro e w8 ⟨rfl, hb1⟩
  have HBn := Lib.hid (HB1.out.trans (hb1.mono HB1.out.size))
  clear HB1 hb1 g0 g1 x0 x1 x2 x3 x4 x5
  have HB1 := HBn
  clear HBn
  obtain ⟨g0, g1, x0, x1, x2, x3, x4, x5⟩ := HK.out w8 HB1.out
  go_wp2_with fail
  refine (HU2.out w8).mono ?_
  rintro e w9 ⟨rfl, hb1⟩
  have HBn := Lib.hid (HB1.out.trans (hb1.mono HB1.out.size))
  clear HB1 hb1 g0 g1 x0 x1 x2 x3 x4 x5
  have HB1 := HBn
  clear HBn
  obtain ⟨g0, g1, x0, x1, x2, x3, x4, x5⟩ := HK.out w9 HB1.out
  go_wp2_with fail
  refine (HU3.out w9).mono ?_
  rintro e w10 ⟨rfl, hb1⟩
  have HBn := Lib.hid (HB1.out.trans (hb1.mono HB1.out.size))
  clear HB1 hb1 g0 g1 x0 x1 x2 x3 x4 x5
  have HB1 := HBn
  clear HBn
  obtain ⟨g0, g1, x0, x1, x2, x3, x4, x5⟩ := HK.out w10 HB1.out
  go_wp2_with fail
  refine (HU4.out w10).mono ?_
  rintro e w11 ⟨rfl, hb1⟩
  have HBn := Lib.hid (HB1.out.trans (hb1.mono HB1.out.size))
  clear HB1 hb1 g0 g1 x0 x1 x2 x3 x4 x5
  have HB1 := HBn
  clear HBn
  obtain ⟨g0, g1, x0, x1, x2, x3, x4, x5⟩ := HK.out w11 HB1.out
  have HR : Hid (RE = 0) := by show _ = _; exact HSp.out
  go_wp2
  go_ret
  exact ⟨ret_i HR.out.symm, HB0.out.trans (HB1.out.mono HB0.out.size)⟩
theorem form_10c (g va : Value) (Ab : Option Addr) (cb : Nat) (Af : Option Addr) (cf : Nat) (m k : Nat) (Q : Int) (es : List Tri) (a : List Int) (w : World) (hg : GV w g m es) (ha : RI w va a) (hal : a.length = m) (hab : Bd 1048576 a) (hk : k < 9) (hm1 : 1 ≤ m) (hm : m ≤ 12)
    (hU : ∀ (f : Nat) (W : World), f < 5 → Calls Tryz.prog 122 #[.int .i64 (k : Int), .int .i64 (f : Int)] W fun e w' => e = .returned (.bool (([true, false, true, false, false] : List Bool).getD f false)) ∧ Below W.heap.size W w') :
    Calls Tryz.prog 84 #[g, .agg #[.int .i64 (k : Int), .int .i64 Q, .int .i64 0, va, (.slice Ab 0 cb), (.slice Af 0 cf)]] w fun e w' => e = .returned (.int .i64 (rightE m true false 0 Q 0 [])) ∧ Below w.heap.size w w' := by
  obtain ⟨kk, hkk⟩ : ∃ kk : Int, kk = (k : Int) := ⟨_, rfl⟩
  rw [← hkk]
  obtain ⟨A, c, rfl, -⟩ := hg.open_
  obtain ⟨W0, hW0⟩ : ∃ W0, W0 = (w.alloc (.cells #[.int .i64 (m : Int), .slice A es.length c] 24)).alloc (.cells #[.int .i64 kk, .int .i64 Q, .int .i64 0, va, (.slice Ab 0 cb), (.slice Af 0 cf)] 91) := ⟨_, rfl⟩
  have hb0 : Below w.heap.size w W0 := by rw [hW0]; exact (below_alloc w _).alloc (by simp) _
  have hxg : BL W0 w.heap.size 24 [.int .i64 (m : Int), .slice A es.length c] := by rw [hW0]; exact (BL.new' w _ _).alloc _
  have hxc : BL W0 (w.heap.size + 1) 91 [.int .i64 kk, .int .i64 Q, .int .i64 0, va, (.slice Ab 0 cb), (.slice Af 0 cf)] := by
    rw [hW0]
    have := BL.new' (w.alloc (.cells #[.int .i64 (m : Int), .slice A es.length c] 24)) #[.int .i64 kk, .int .i64 Q, .int .i64 0, va, (.slice Ab 0 cb), (.slice Af 0 cf)] 91
    rwa [World.size_alloc] at this
  have HXg := Lib.hid hxg
  have HXc := Lib.hid hxc
  have HG0 := Lib.hid (hg.below hb0)
  have HB0 := Lib.hid hb0
  have HW0 := Lib.hid hW0
  subst hkk
  have hk0 : ¬ ((k : Int) < 0) := by omega
  have hk8 : ¬ (8 < (k : Int)) := by omega
  clear hg hxg hxc hW0 hk
  have HU0 : Hid (∀ W, Calls Tryz.prog 122 #[.int .i64 (k : Int), .int .i64 0] W fun e w' => e = .returned (.bool true) ∧ Below W.heap.size W w') := fun W => hU 0 W (by omega)
  have HU1 : Hid (∀ W, Calls Tryz.prog 122 #[.int .i64 (k : Int), .int .i64 1] W fun e w' => e = .returned (.bool false) ∧ Below W.heap.size W w') := fun W => hU 1 W (by omega)
  have HU2 : Hid (∀ W, Calls Tryz.prog 122 #[.int .i64 (k : Int), .int .i64 2] W fun e w' => e = .returned (.bool true) ∧ Below W.heap.size W w') := fun W => hU 2 W (by omega)
  have HU3 : Hid (∀ W, Calls Tryz.prog 122 #[.int .i64 (k : Int), .int .i64 3] W fun e w' => e = .returned (.bool false) ∧ Below W.heap.size W w') := fun W => hU 3 W (by omega)
  have HU4 : Hid (∀ W, Calls Tryz.prog 122 #[.int .i64 (k : Int), .int .i64 4] W fun e w' => e = .returned (.bool false) ∧ Below W.heap.size W w') := fun W => hU 4 W (by omega)
  have HV : Hid (∀ W : World, Below W0.heap.size W0 W → Calls Tryz.prog 101 #[.agg #[.int .i64 (m : Int), .slice A es.length c], .int .i64 Q] W fun e w' => e = .returned (.bool (vtxB m Q)) ∧ Below W.heap.size W w') := fun W h => rVertex_any _ m es Q W (HG0.out.below h)
  have hck := check_zero hm1 hm hal hab
  have HA0 := Lib.hid (RI.below ha hb0)
  have HCa : Hid (∀ W : World, Below W0.heap.size W0 W → Calls Tryz.prog 123 #[va, .int .i64 (m : Int)] W fun e w' => e = .returned (.int .i64 0) ∧ W = w') := fun W h => by rw [← hck]; exact rCheck_any va a m W (RI.below HA0.out h)
  clear ha hal hab hck
  have HSp : Hid (rightE m true false 0 Q 0 [] = if vtxB m Q = false then 2 else 0) := by
    show _ = _
    unfold rightE
    have hv : vtxB m Q = false ↔ ¬ (0 ≤ Q ∧ Q < m) := by
      unfold vtxB
      by_cases c1 : 0 ≤ Q <;> by_cases c2 : Q < (m : Int) <;> simp [c1, c2]
    by_cases c1 : vtxB m Q = false
    · rw [if_pos c1, if_pos (.inl ⟨rfl, hv.1 c1⟩)]
    · rw [if_neg c1, if_neg, if_neg (by simp; omega)]
      · rfl
      · rintro (h | h)
        · exact c1 (hv.2 h.2)
        · exact absurd h.1 (by decide)
  generalize rightE m true false 0 Q 0 [] = RE at *
  have HK : Hid (∀ W : World, Below W0.heap.size W0 W → W.cell? ⟨w.heap.size, 0, none⟩ = some (.int .i64 (m : Int)) ∧ W.cell? ⟨w.heap.size, 1, none⟩ = some (.slice A es.length c) ∧ W.cell? ⟨w.heap.size + 1, 0, none⟩ = some (.int .i64 (k : Int)) ∧ W.cell? ⟨w.heap.size + 1, 1, none⟩ = some (.int .i64 Q) ∧ W.cell? ⟨w.heap.size + 1, 2, none⟩ = some (.int .i64 0) ∧ W.cell? ⟨w.heap.size + 1, 3, none⟩ = some va ∧ W.cell? ⟨w.heap.size + 1, 4, none⟩ = some (.slice Ab 0 cb) ∧ W.cell? ⟨w.heap.size + 1, 5, none⟩ = some (.slice Af 0 cf)) := fun W h =>
    ⟨(HXg.out.bel h).cell 0, (HXg.out.bel h).cell 1, (HXc.out.bel h).cell 0, (HXc.out.bel h).cell 1, (HXc.out.bel h).cell 2, (HXc.out.bel h).cell 3, (HXc.out.bel h).cell 4, (HXc.out.bel h).cell 5⟩
  clear hU hb0 hm1
  go_enter Tryz.func84, Tryz.ntmps84
  go_upto_region 1 with fail
  rw [← HW0.out]
  obtain ⟨g0, g1, x0, x1, x2, x3, x4, x5⟩ := HK.out W0 (Below.refl _ _)
  have HB1 := Lib.hid (Below.refl W0.heap.size W0)
  go_wp2_with fail
  refine (HU0.out W0).mono ?_
  rintro e w1 ⟨rfl, hb1⟩
  have HBn := Lib.hid (HB1.out.trans (hb1.mono HB1.out.size))
  clear HB1 hb1 g0 g1 x0 x1 x2 x3 x4 x5
  have HB1 := HBn
  clear HBn
  obtain ⟨g0, g1, x0, x1, x2, x3, x4, x5⟩ := HK.out w1 HB1.out
  go_wp2_with fail
  refine (HV.out w1 HB1.out).mono ?_
  rintro e w2 ⟨rfl, hb1⟩
  have HBn := Lib.hid (HB1.out.trans (hb1.mono HB1.out.size))
  clear HB1 hb1 g0 g1 x0 x1 x2 x3 x4 x5
  have HB1 := HBn
  clear HBn
  obtain ⟨g0, g1, x0, x1, x2, x3, x4, x5⟩ := HK.out w2 HB1.out
  generalize vtxB m Q = vt at *
  cases vt
  · have HR : Hid (RE = 2) := by show _ = _; rw [HSp.out, if_pos rfl]
    go_wp2
    go_ret
    exact ⟨ret_i HR.out.symm, HB0.out.trans (HB1.out.mono HB0.out.size)⟩
  rw [if_neg (by simp)] at HSp
  go_wp2_with fail
  refine (HU1.out w2).mono ?_
  rintro e w3 ⟨rfl, hb1⟩
  have HBn := Lib.hid (HB1.out.trans (hb1.mono HB1.out.size))
  clear HB1 hb1 g0 g1 x0 x1 x2 x3 x4 x5
  have HB1 := HBn
  clear HBn
  obtain ⟨g0, g1, x0, x1, x2, x3, x4, x5⟩ := HK.out w3 HB1.out
  go_wp2_with fail
  refine (HU2.out w3).mono ?_
  rintro e w4 ⟨rfl, hb1⟩
  have HBn := Lib.hid (HB1.out.trans (hb1.mono HB1.out.size))
  clear HB1 hb1 g0 g1 x0 x1 x2 x3 x4 x5
  have HB1 := HBn
  clear HBn
  obtain ⟨g0, g1, x0, x1, x2, x3, x4, x5⟩ := HK.out w4 HB1.out
  go_wp2_with fail
  refine (HCa.out w4 HB1.out).mono ?_
  rintro e w5 ⟨rfl, rfl⟩
  go_wp2_with fail
  refine (HU3.out w4).mono ?_
  rintro e w6 ⟨rfl, hb1⟩
  have HBn := Lib.hid (HB1.out.trans (hb1.mono HB1.out.size))
  clear HB1 hb1 g0 g1 x0 x1 x2 x3 x4 x5
  have HB1 := HBn
  clear HBn
  obtain ⟨g0, g1, x0, x1, x2, x3, x4, x5⟩ := HK.out w6 HB1.out
  go_wp2_with fail
  refine (HU4.out w6).mono ?_
  rintro e w7 ⟨rfl, hb1⟩
  have HBn := Lib.hid (HB1.out.trans (hb1.mono HB1.out.size))
  clear HB1 hb1 g0 g1 x0 x1 x2 x3 x4 x5
  have HB1 := HBn
  clear HBn
  obtain ⟨g0, g1, x0, x1, x2, x3, x4, x5⟩ := HK.out w7 HB1.out
  go_wp2_with fail
  refine (HU0.out w7).mono ?_
  rintro e w8 ⟨rfl, hb1⟩
  have HBn := Lib.hid (HB1.out.trans (hb1.mono HB1.out.size))
  clear HB1 hb1 g0 g1 x0 x1 x2 x3 x4 x5
  have HB1 := HBn
  clear HBn
  obtain ⟨g0, g1, x0, x1, x2, x3, x4, x5⟩ := HK.out w8 HB1.out
  go_wp2_with fail
  refine (HU1.out w8).mono ?_
  rintro e w9 ⟨rfl, hb1⟩
  have HBn := Lib.hid (HB1.out.trans (hb1.mono HB1.out.size))
  clear HB1 hb1 g0 g1 x0 x1 x2 x3 x4 x5
  have HB1 := HBn
  clear HBn
  obtain ⟨g0, g1, x0, x1, x2, x3, x4, x5⟩ := HK.out w9 HB1.out
  go_wp2_with fail
  refine (HU2.out w9).mono ?_
  rintro e w10 ⟨rfl, hb1⟩
  have HBn := Lib.hid (HB1.out.trans (hb1.mono HB1.out.size))
  clear HB1 hb1 g0 g1 x0 x1 x2 x3 x4 x5
  have HB1 := HBn
  clear HBn
  obtain ⟨g0, g1, x0, x1, x2, x3, x4, x5⟩ := HK.out w10 HB1.out
  go_wp2_with fail
  refine (HU3.out w10).mono ?_
  rintro e w11 ⟨rfl, hb1⟩
  have HBn := Lib.hid (HB1.out.trans (hb1.mono HB1.out.size))
  clear HB1 hb1 g0 g1 x0 x1 x2 x3 x4 x5
  have HB1 := HBn
  clear HBn
  obtain ⟨g0, g1, x0, x1, x2, x3, x4, x5⟩ := HK.out w11 HB1.out
  go_wp2_with fail
  refine (HU4.out w11).mono ?_
  rintro e w12 ⟨rfl, hb1⟩
  have HBn := Lib.hid (HB1.out.trans (hb1.mono HB1.out.size))
  clear HB1 hb1 g0 g1 x0 x1 x2 x3 x4 x5
  have HB1 := HBn
  clear HBn
  obtain ⟨g0, g1, x0, x1, x2, x3, x4, x5⟩ := HK.out w12 HB1.out
  have HR : Hid (RE = 0) := by show _ = _; exact HSp.out
  go_wp2
  go_ret
  exact ⟨ret_i HR.out.symm, HB0.out.trans (HB1.out.mono HB0.out.size)⟩
theorem form_10b (g va vb : Value) (Af : Option Addr) (cf : Nat) (m k : Nat) (Q : Int) (es : List Tri) (a b : List Int) (w : World) (hg : GV w g m es) (ha : RI w va a) (hal : a.length = m) (hab : Bd 1048576 a) (hbv : RI w vb b) (hbl : b.length = m) (hbb : Bd 1048576 b) (hk : k < 9) (hm1 : 1 ≤ m) (hm : m ≤ 12)
    (hU : ∀ (f : Nat) (W : World), f < 5 → Calls Tryz.prog 122 #[.int .i64 (k : Int), .int .i64 (f : Int)] W fun e w' => e = .returned (.bool (([true, false, true, true, false] : List Bool).getD f false)) ∧ Below W.heap.size W w') :
    Calls Tryz.prog 84 #[g, .agg #[.int .i64 (k : Int), .int .i64 Q, .int .i64 0, va, vb, (.slice Af 0 cf)]] w fun e w' => e = .returned (.int .i64 (rightE m true false 0 Q 0 [])) ∧ Below w.heap.size w w' := by
  obtain ⟨kk, hkk⟩ : ∃ kk : Int, kk = (k : Int) := ⟨_, rfl⟩
  rw [← hkk]
  obtain ⟨A, c, rfl, -⟩ := hg.open_
  obtain ⟨W0, hW0⟩ : ∃ W0, W0 = (w.alloc (.cells #[.int .i64 (m : Int), .slice A es.length c] 24)).alloc (.cells #[.int .i64 kk, .int .i64 Q, .int .i64 0, va, vb, (.slice Af 0 cf)] 91) := ⟨_, rfl⟩
  have hb0 : Below w.heap.size w W0 := by rw [hW0]; exact (below_alloc w _).alloc (by simp) _
  have hxg : BL W0 w.heap.size 24 [.int .i64 (m : Int), .slice A es.length c] := by rw [hW0]; exact (BL.new' w _ _).alloc _
  have hxc : BL W0 (w.heap.size + 1) 91 [.int .i64 kk, .int .i64 Q, .int .i64 0, va, vb, (.slice Af 0 cf)] := by
    rw [hW0]
    have := BL.new' (w.alloc (.cells #[.int .i64 (m : Int), .slice A es.length c] 24)) #[.int .i64 kk, .int .i64 Q, .int .i64 0, va, vb, (.slice Af 0 cf)] 91
    rwa [World.size_alloc] at this
  have HXg := Lib.hid hxg
  have HXc := Lib.hid hxc
  have HG0 := Lib.hid (hg.below hb0)
  have HB0 := Lib.hid hb0
  have HW0 := Lib.hid hW0
  subst hkk
  have hk0 : ¬ ((k : Int) < 0) := by omega
  have hk8 : ¬ (8 < (k : Int)) := by omega
  clear hg hxg hxc hW0 hk
  have HU0 : Hid (∀ W, Calls Tryz.prog 122 #[.int .i64 (k : Int), .int .i64 0] W fun e w' => e = .returned (.bool true) ∧ Below W.heap.size W w') := fun W => hU 0 W (by omega)
  have HU1 : Hid (∀ W, Calls Tryz.prog 122 #[.int .i64 (k : Int), .int .i64 1] W fun e w' => e = .returned (.bool false) ∧ Below W.heap.size W w') := fun W => hU 1 W (by omega)
  have HU2 : Hid (∀ W, Calls Tryz.prog 122 #[.int .i64 (k : Int), .int .i64 2] W fun e w' => e = .returned (.bool true) ∧ Below W.heap.size W w') := fun W => hU 2 W (by omega)
  have HU3 : Hid (∀ W, Calls Tryz.prog 122 #[.int .i64 (k : Int), .int .i64 3] W fun e w' => e = .returned (.bool true) ∧ Below W.heap.size W w') := fun W => hU 3 W (by omega)
  have HU4 : Hid (∀ W, Calls Tryz.prog 122 #[.int .i64 (k : Int), .int .i64 4] W fun e w' => e = .returned (.bool false) ∧ Below W.heap.size W w') := fun W => hU 4 W (by omega)
  have HV : Hid (∀ W : World, Below W0.heap.size W0 W → Calls Tryz.prog 101 #[.agg #[.int .i64 (m : Int), .slice A es.length c], .int .i64 Q] W fun e w' => e = .returned (.bool (vtxB m Q)) ∧ Below W.heap.size W w') := fun W h => rVertex_any _ m es Q W (HG0.out.below h)
  have hck := check_zero hm1 hm hal hab
  have HA0 := Lib.hid (RI.below ha hb0)
  have HCa : Hid (∀ W : World, Below W0.heap.size W0 W → Calls Tryz.prog 123 #[va, .int .i64 (m : Int)] W fun e w' => e = .returned (.int .i64 0) ∧ W = w') := fun W h => by rw [← hck]; exact rCheck_any va a m W (RI.below HA0.out h)
  clear ha hal hab hck
  have hck := check_zero hm1 hm hbl hbb
  have HBv0 := Lib.hid (RI.below hbv hb0)
  have HCb : Hid (∀ W : World, Below W0.heap.size W0 W → Calls Tryz.prog 123 #[vb, .int .i64 (m : Int)] W fun e w' => e = .returned (.int .i64 0) ∧ W = w') := fun W h => by rw [← hck]; exact rCheck_any vb b m W (RI.below HBv0.out h)
  clear hbv hbl hbb hck
  have HSp : Hid (rightE m true false 0 Q 0 [] = if vtxB m Q = false then 2 else 0) := by
    show _ = _
    unfold rightE
    have hv : vtxB m Q = false ↔ ¬ (0 ≤ Q ∧ Q < m) := by
      unfold vtxB
      by_cases c1 : 0 ≤ Q <;> by_cases c2 : Q < (m : Int) <;> simp [c1, c2]
    by_cases c1 : vtxB m Q = false
    · rw [if_pos c1, if_pos (.inl ⟨rfl, hv.1 c1⟩)]
    · rw [if_neg c1, if_neg, if_neg (by simp; omega)]
      · rfl
      · rintro (h | h)
        · exact c1 (hv.2 h.2)
        · exact absurd h.1 (by decide)
  generalize rightE m true false 0 Q 0 [] = RE at *
  have HK : Hid (∀ W : World, Below W0.heap.size W0 W → W.cell? ⟨w.heap.size, 0, none⟩ = some (.int .i64 (m : Int)) ∧ W.cell? ⟨w.heap.size, 1, none⟩ = some (.slice A es.length c) ∧ W.cell? ⟨w.heap.size + 1, 0, none⟩ = some (.int .i64 (k : Int)) ∧ W.cell? ⟨w.heap.size + 1, 1, none⟩ = some (.int .i64 Q) ∧ W.cell? ⟨w.heap.size + 1, 2, none⟩ = some (.int .i64 0) ∧ W.cell? ⟨w.heap.size + 1, 3, none⟩ = some va ∧ W.cell? ⟨w.heap.size + 1, 4, none⟩ = some vb ∧ W.cell? ⟨w.heap.size + 1, 5, none⟩ = some (.slice Af 0 cf)) := fun W h =>
    ⟨(HXg.out.bel h).cell 0, (HXg.out.bel h).cell 1, (HXc.out.bel h).cell 0, (HXc.out.bel h).cell 1, (HXc.out.bel h).cell 2, (HXc.out.bel h).cell 3, (HXc.out.bel h).cell 4, (HXc.out.bel h).cell 5⟩
  clear hU hb0 hm1
  go_enter Tryz.func84, Tryz.ntmps84
  go_upto_region 1 with fail
  rw [← HW0.out]
  obtain ⟨g0, g1, x0, x1, x2, x3, x4, x5⟩ := HK.out W0 (Below.refl _ _)
  have HB1 := Lib.hid (Below.refl W0.heap.size W0)
  go_wp2_with fail
  refine (HU0.out W0).mono ?_
  rintro e w1 ⟨rfl, hb1⟩
  have HBn := Lib.hid (HB1.out.trans (hb1.mono HB1.out.size))
  clear HB1 hb1 g0 g1 x0 x1 x2 x3 x4 x5
  have HB1 := HBn
  clear HBn
  obtain ⟨g0, g1, x0, x1, x2, x3, x4, x5⟩ := HK.out w1 HB1.out
  go_wp2_with fail
  refine (HV.out w1 HB1.out).mono ?_
  rintro e w2 ⟨rfl, hb1⟩
  have HBn := Lib.hid (HB1.out.trans (hb1.mono HB1.out.size))
  clear HB1 hb1 g0 g1 x0 x1 x2 x3 x4 x5
  have HB1 := HBn
  clear HBn
  obtain ⟨g0, g1, x0, x1, x2, x3, x4, x5⟩ := HK.out w2 HB1.out
  generalize vtxB m Q = vt at *
  cases vt
  · have HR : Hid (RE = 2) := by show _ = _; rw [HSp.out, if_pos rfl]
    go_wp2
    go_ret
    exact ⟨ret_i HR.out.symm, HB0.out.trans (HB1.out.mono HB0.out.size)⟩
  rw [if_neg (by simp)] at HSp
  go_wp2_with fail
  refine (HU1.out w2).mono ?_
  rintro e w3 ⟨rfl, hb1⟩
  have HBn := Lib.hid (HB1.out.trans (hb1.mono HB1.out.size))
  clear HB1 hb1 g0 g1 x0 x1 x2 x3 x4 x5
  have HB1 := HBn
  clear HBn
  obtain ⟨g0, g1, x0, x1, x2, x3, x4, x5⟩ := HK.out w3 HB1.out
  go_wp2_with fail
  refine (HU2.out w3).mono ?_
  rintro e w4 ⟨rfl, hb1⟩
  have HBn := Lib.hid (HB1.out.trans (hb1.mono HB1.out.size))
  clear HB1 hb1 g0 g1 x0 x1 x2 x3 x4 x5
  have HB1 := HBn
  clear HBn
  obtain ⟨g0, g1, x0, x1, x2, x3, x4, x5⟩ := HK.out w4 HB1.out
  go_wp2_with fail
  refine (HCa.out w4 HB1.out).mono ?_
  rintro e w5 ⟨rfl, rfl⟩
  go_wp2_with fail
  refine (HU3.out w4).mono ?_
  rintro e w6 ⟨rfl, hb1⟩
  have HBn := Lib.hid (HB1.out.trans (hb1.mono HB1.out.size))
  clear HB1 hb1 g0 g1 x0 x1 x2 x3 x4 x5
  have HB1 := HBn
  clear HBn
  obtain ⟨g0, g1, x0, x1, x2, x3, x4, x5⟩ := HK.out w6 HB1.out
  go_wp2_with fail
  refine (HCb.out w6 HB1.out).mono ?_
  rintro e w7 ⟨rfl, rfl⟩
  go_wp2_with fail
  refine (HU4.out w6).mono ?_
  rintro e w8 ⟨rfl, hb1⟩
  have HBn := Lib.hid (HB1.out.trans (hb1.mono HB1.out.size))
  clear HB1 hb1 g0 g1 x0 x1 x2 x3 x4 x5
  have HB1 := HBn
  clear HBn
  obtain ⟨g0, g1, x0, x1, x2, x3, x4, x5⟩ := HK.out w8 HB1.out
  go_wp2_with fail
  refine (HU0.out w8).mono ?_
  rintro e w9 ⟨rfl, hb1⟩
  have HBn := Lib.hid (HB1.out.trans (hb1.mono HB1.out.size))
  clear HB1 hb1 g0 g1 x0 x1 x2 x3 x4 x5
  have HB1 := HBn
  clear HBn
  obtain ⟨g0, g1, x0, x1, x2, x3, x4, x5⟩ := HK.out w9 HB1.out
  go_wp2_with fail
  refine (HU1.out w9).mono ?_
  rintro e w10 ⟨rfl, hb1⟩
  have HBn := Lib.hid (HB1.out.trans (hb1.mono HB1.out.size))
  clear HB1 hb1 g0 g1 x0 x1 x2 x3 x4 x5
  have HB1 := HBn
  clear HBn
  obtain ⟨g0, g1, x0, x1, x2, x3, x4, x5⟩ := HK.out w10 HB1.out
  go_wp2_with fail
  refine (HU2.out w10).mono ?_
  rintro e w11 ⟨rfl, hb1⟩
  have HBn := Lib.hid (HB1.out.trans (hb1.mono HB1.out.size))
  clear HB1 hb1 g0 g1 x0 x1 x2 x3 x4 x5
  have HB1 := HBn
  clear HBn
  obtain ⟨g0, g1, x0, x1, x2, x3, x4, x5⟩ := HK.out w11 HB1.out
  go_wp2_with fail
  refine (HU3.out w11).mono ?_
  rintro e w12 ⟨rfl, hb1⟩
  have HBn := Lib.hid (HB1.out.trans (hb1.mono HB1.out.size))
  clear HB1 hb1 g0 g1 x0 x1 x2 x3 x4 x5
  have HB1 := HBn
  clear HBn
  obtain ⟨g0, g1, x0, x1, x2, x3, x4, x5⟩ := HK.out w12 HB1.out
  go_wp2_with fail
  refine (HU4.out w12).mono ?_
  rintro e w13 ⟨rfl, hb1⟩
  have HBn := Lib.hid (HB1.out.trans (hb1.mono HB1.out.size))
  clear HB1 hb1 g0 g1 x0 x1 x2 x3 x4 x5
  have HB1 := HBn
  clear HBn
  obtain ⟨g0, g1, x0, x1, x2, x3, x4, x5⟩ := HK.out w13 HB1.out
  have HR : Hid (RE = 0) := by show _ = _; exact HSp.out
  go_wp2
  go_ret
  exact ⟨ret_i HR.out.symm, HB0.out.trans (HB1.out.mono HB0.out.size)⟩
end Go.Proofs.YtgcnijmmjlfabaaGreatDoor

