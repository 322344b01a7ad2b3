/- The examples of the chapter: awake.
   Contracts of the references of layers 8 and 17: what checks graphs and divisors.
   Contracts of the reference of layer 8: Check, Ends, Size, Few.
   Contracts of the references' Size, small, Few. -/
import Derived.Test.YtjfggodnfoknfaaGreatDoorM20
set_option maxRecDepth 100000
set_option maxHeartbeats 16000000
namespace Go.Proofs.YtjfggodnfoknfaaGreatDoor
open Go.RowKit Go.Shelf

theorem bd_mem {B : Int} {zs : List Int} (hB : 0 ≤ B) (h : ∀ z ∈ zs, -B ≤ z ∧ z ≤ B) : Bd B zs := by
  intro j
  rw [List.getD_eq_getElem?_getD]
  by_cases hj : j < zs.length
  · rw [List.getElem?_eq_getElem hj]; exact h _ (List.getElem_mem hj)
  · rw [List.getElem?_eq_none (by omega)]; simp only [Option.getD_none]; omega
theorem ri3 (w : World) (a b c : Int) : RI (w.alloc (.cells #[.int .i64 a, .int .i64 b, .int .i64 c] 3)) (.slice (some ⟨w.heap.size, 0, none⟩) 3 3) [a, b, c] := RV.lit w #[.int .i64 a, .int .i64 b, .int .i64 c] 3 3 rfl (by omega)
theorem gv3 (w : World) : GV (w.alloc (.cells #[.int .i64 0, .int .i64 1, .int .i64 1, .int .i64 0, .int .i64 2, .int .i64 1, .int .i64 1, .int .i64 2, .int .i64 1] 54)) (.agg #[.int .i64 3, .slice (some ⟨w.heap.size, 0, none⟩) 3 3]) 3 es3 := by
  refine ⟨_, rfl, some ⟨w.heap.size, 0, none⟩, 3, rfl, by decide, by decide, fun k hk => ?_⟩
  have hk : k < 3 := hk
  rcases lt3 hk with rfl | rfl | rfl
  · exact ⟨_, 0, 1, 1, rfl, by simp, rfl, by simp [Addr.add], by simp [Addr.add], by simp [Addr.add]⟩
  · exact ⟨_, 0, 2, 1, rfl, by simp, rfl, by simp [Addr.add], by simp [Addr.add], by simp [Addr.add]⟩
  · exact ⟨_, 1, 2, 1, rfl, by simp, rfl, by simp [Addr.add], by simp [Addr.add], by simp [Addr.add]⟩
theorem awake_any (w : World) : Calls Tryz.prog 6 #[] w fun e w' => e = .returned (.bool true) ∧ Below w.heap.size w w' := by
  obtain ⟨Wa, hWa⟩ : ∃ Wa, Wa = w.alloc (.cells #[.int .i64 0, .int .i64 1, .int .i64 1, .int .i64 0, .int .i64 2, .int .i64 1, .int .i64 1, .int .i64 2, .int .i64 1] 54) := ⟨_, rfl⟩
  have hza : Wa.heap.size = w.heap.size + 1 := by rw [hWa]; simp
  have hba : Below w.heap.size w Wa := by rw [hWa]; exact below_alloc w _
  have hga : GV Wa (.agg #[.int .i64 3, .slice (some ⟨w.heap.size, 0, none⟩) 3 3]) 3 es3 := by rw [hWa]; exact gv3 w
  obtain ⟨W1, hW1⟩ : ∃ W1, W1 = Wa.alloc (.cells #[.int .i64 3, .slice (some ⟨w.heap.size, 0, none⟩) 3 3] 24) := ⟨_, rfl⟩
  have hb1 : Below Wa.heap.size Wa W1 := by rw [hW1]; exact below_alloc Wa _
  have hx1 : BL W1 (w.heap.size + 1) 24 [.int .i64 3, .slice (some ⟨w.heap.size, 0, none⟩) 3 3] := by rw [hW1, ← hza]; exact BL.new' Wa _ _
  obtain ⟨W2, hW2⟩ : ∃ W2, W2 = (W1.alloc (.cells #[.int .i64 1, .int .i64 1, .int .i64 0] 3)).alloc (.cells #[.int .i64 0, .int .i64 0, .int .i64 2] 3) := ⟨_, rfl⟩
  have hz1 : W1.heap.size = w.heap.size + 1 + 1 := by rw [hW1]; simp [hza]
  have hb2 : Below W1.heap.size W1 W2 := by rw [hW2]; exact (below_alloc W1 _).alloc (by simp) _
  have hra : RI W2 (.slice (some ⟨W1.heap.size, 0, none⟩) 3 3) [1, 1, 0] := by rw [hW2]; exact RI.below (ri3 W1 1 1 0) (below_alloc _ _)
  have hrb : RI W2 (.slice (some ⟨W1.heap.size + 1, 0, none⟩) 3 3) [0, 0, 2] := by
    rw [hW2]
    have := ri3 (W1.alloc (.cells #[.int .i64 1, .int .i64 1, .int .i64 0] 3)) 0 0 2
    rwa [World.size_alloc] at this
  rw [hz1] at hra hrb
  have HEq1 := Lib.hid (Equivalent_any _ _ _ 3 es3 [1, 1, 0] [0, 0, 2] W2 ((hga.below hb1).below hb2) hra hrb sm3 (fun _ => bd_mem (by decide) (by decide)) (fun _ => bd_mem (by decide) (by decide)))
  have c0 := hx1.cell 0
  have c1 := hx1.cell 1
  have HG2 := Lib.hid ((hga.below hb1).below hb2)
  have HX2 := Lib.hid (hx1.bel hb2)
  have HB2 := Lib.hid ((hba.trans (hb1.mono hba.size)).trans (hb2.mono (hba.trans (hb1.mono hba.size)).size))
  have HZ1 := Lib.hid hz1
  have HWa := Lib.hid hWa
  have HW1 := Lib.hid hW1
  have HW2 := Lib.hid hW2
  rw [hW1, hWa] at c0 c1
  clear hza hba hga hb1 hx1 hz1 hb2 hra hrb hWa hW1 hW2
  go_enter Tryz.func6, Tryz.ntmps6
  go_wp2_with fail
  rw [← HWa.out, ← HW1.out, ← HW2.out]
  refine HEq1.out.mono ?_
  rintro e w3 ⟨bb, v1, u1, er, rfl, ho1, hb3, hP1⟩
  obtain ⟨rfl, rfl, rfl⟩ := eqv3a hP1
  obtain ⟨A1, k1, rfl, -⟩ := OV.rv ho1
  simp only [List.map_cons, List.map_nil, List.length_cons, List.length_nil, Nat.zero_add, Nat.reduceAdd] at ho1 ⊢
  obtain ⟨W4, hW4⟩ : ∃ W4, W4 = (w3.alloc (.cells #[.int .i64 1, .int .i64 1, .int .i64 0] 3)).alloc (.cells #[.int .i64 2, .int .i64 0, .int .i64 0] 3) := ⟨_, rfl⟩
  have hb4 : Below w3.heap.size w3 W4 := by rw [hW4]; exact (below_alloc w3 _).alloc (by simp) _
  have hra : RI W4 (.slice (some ⟨w3.heap.size, 0, none⟩) 3 3) [1, 1, 0] := by rw [hW4]; exact RI.below (ri3 w3 1 1 0) (below_alloc _ _)
  have hrb : RI W4 (.slice (some ⟨w3.heap.size + 1, 0, none⟩) 3 3) [2, 0, 0] := by
    rw [hW4]
    have := ri3 (w3.alloc (.cells #[.int .i64 1, .int .i64 1, .int .i64 0] 3)) 2 0 0
    rwa [World.size_alloc] at this
  have HG4 := Lib.hid ((HG2.out.below hb3).below hb4)
  have HEq2 := Lib.hid (Equivalent_any _ _ _ 3 es3 [1, 1, 0] [2, 0, 0] W4 HG4.out hra hrb sm3 (fun _ => bd_mem (by decide) (by decide)) (fun _ => bd_mem (by decide) (by decide)))
  have hx3 := HX2.out.bel hb3
  have d0 := hx3.cell 0
  have d1 := hx3.cell 1
  have HX4 := Lib.hid (hx3.bel hb4)
  have HO4 := Lib.hid (OI.below ho1 hb4)
  have hs := HB2.out.size
  have HB4 := Lib.hid ((HB2.out.trans (hb3.mono hs)).trans (hb4.mono (HB2.out.trans (hb3.mono hs)).size))
  have HW4 := Lib.hid hW4
  clear hb3 hb4 hra hrb hx3 hs hW4 ho1 c0 c1 hP1
  go_wp2_with fail
  rw [← HW4.out]
  refine HEq2.out.mono ?_
  rintro e w5 ⟨bb, v2, u2, er, rfl, ho2, hb5, hP2⟩
  obtain ⟨rfl, rfl, rfl⟩ := eqv3b hP2
  obtain ⟨A3, k3, rfl, -⟩ := OV.rv ho2
  simp only [List.map_nil, List.length_nil] at ho2 ⊢
  have hx5 := HX4.out.bel hb5
  have e0 := hx5.cell 0
  have e1 := hx5.cell 1
  have HCl := Lib.hid (Classes_any _ 3 es3 1 w5 (HG4.out.below hb5) sm3 cfok3)
  have HO5 := Lib.hid (OI.below HO4.out hb5)
  have HB5 := Lib.hid (HB4.out.trans (hb5.mono HB4.out.size))
  clear hb5 hx5 ho2 hP2 d0 d1
  go_wp2_with fail
  refine HCl.out.mono ?_
  rintro e w6 ⟨v3, u3, er, rfl, hrr, hb6, hP3⟩
  obtain ⟨rfl, rfl⟩ := cls3 hP3
  obtain ⟨A4, k4, rfl, hk4, -, hc4⟩ := hrr.open_
  simp only [List.length_cons, List.length_nil, Nat.zero_add, Nat.reduceAdd] at hk4 hc4 ⊢
  obtain ⟨ad, z0, m0, m0', rfl, hab, hz0, q0, ri0⟩ := hc4 0 (by omega)
  obtain ⟨ad', z1, m1, m1', he1, -, hz1, q1, ri1⟩ := hc4 1 (by omega)
  obtain ⟨ad'', z2, m2, m2', he2, -, hz2, q2, ri2⟩ := hc4 2 (by omega)
  obtain rfl : ad = ad' := by simpa using he1
  obtain rfl : ad = ad'' := by simpa using he2
  obtain rfl : [0, 0, 1] = z0 := by simpa [Hid] using hz0
  obtain rfl : [0, 1, 0] = z1 := by simpa [Hid] using hz1
  obtain rfl : [1, 0, 0] = z2 := by simpa [Hid] using hz2
  have HRR := Lib.hid hrr
  have R0 := Lib.hid ri0
  have R1 := Lib.hid ri1
  have R2 := Lib.hid ri2
  rw [show ad.add 0 = ad by simp [Addr.add]] at q0
  rw [show ad.add 1 = ⟨ad.block, ad.off + 1, none⟩ by simp [Addr.add]] at q1
  rw [show ad.add 2 = ⟨ad.block, ad.off + 2, none⟩ by simp [Addr.add]] at q2
  have HQ : Hid (w6.cell? ad = some (.slice m0 3 m0') ∧ w6.cell? ⟨ad.block, ad.off + 1, none⟩ = some (.slice m1 3 m1') ∧ w6.cell? ⟨ad.block, ad.off + 2, none⟩ = some (.slice m2 3 m2')) := ⟨q0, q1, q2⟩
  have HAb : Hid (ad.block < w6.heap.size) := hab
  have HO6 := Lib.hid (OI.below HO5.out hb6)
  have HB6 := Lib.hid (HB5.out.trans (hb6.mono HB5.out.size))
  clear hc4 hz0 hz1 hz2 q0 q1 q2 ri0 ri1 ri2 hrr hab hb6 hP3 he1 he2 e0 e1
  obtain ⟨W7, hW7⟩ : ∃ W7, W7 = w6.alloc (.cells #[.int .i64 1, .int .i64 1, .int .i64 0] 3) := ⟨_, rfl⟩
  have hb7 : Below w6.heap.size w6 W7 := by rw [hW7]; exact below_alloc w6 _
  have hr7 : RI W7 (.slice (some ⟨w6.heap.size, 0, none⟩) 3 3) [1, 1, 0] := by rw [hW7]; exact ri3 w6 1 1 0
  have hs7 := EqualS_any _ _ _ _ W7 (OI.below HO6.out hb7).rv hr7
  rw [show eqL [1, 1, 0] [1, 1, 0] = true by decide] at hs7
  have HS7 := Lib.hid hs7
  have HB7 := Lib.hid hb7
  have HW7 := Lib.hid hW7
  clear hb7 hr7 hs7 hW7
  go_wp2_with fail
  rw [← HW7.out]
  refine HS7.out.mono ?_
  rintro e w8 ⟨rfl, j8, hw8⟩
  have hb8 : Below w6.heap.size w6 w8 := by rw [hw8]; exact below_drewN HB7.out j8
  have q8 : w8.cell? ad = some (.slice m0 3 m0') := (hb8.cell HAb.out).trans HQ.out.1
  obtain ⟨W9, hW9⟩ : ∃ W9, W9 = w8.alloc (.cells #[.int .i64 0, .int .i64 0, .int .i64 1] 3) := ⟨_, rfl⟩
  have hb9 : Below w8.heap.size w8 W9 := by rw [hW9]; exact below_alloc w8 _
  have hr9 : RI W9 (.slice (some ⟨w8.heap.size, 0, none⟩) 3 3) [0, 0, 1] := by rw [hW9]; exact ri3 w8 0 0 1
  have hs9 := EqualD_any _ _ _ _ W9 (RI.below (RI.below R0.out hb8) hb9) hr9
  rw [show eqL [0, 0, 1] [0, 0, 1] = true by decide] at hs9
  have HS9 := Lib.hid hs9
  have HB9 := Lib.hid (hb8.trans (hb9.mono hb8.size))
  have HW9 := Lib.hid hW9
  clear hw8 hb8 hb9 hr9 hs9 hW9
  go_wp2_with fail
  rw [← HW9.out]
  refine HS9.out.mono ?_
  rintro e w10 ⟨rfl, j10, hw10⟩
  have hb10 : Below w6.heap.size w6 w10 := by rw [hw10]; exact below_drewN HB9.out j10
  have q10 : w10.cell? ⟨ad.block, ad.off + 1, none⟩ = some (.slice m1 3 m1') := (hb10.cell (p := ⟨ad.block, ad.off + 1, none⟩) HAb.out).trans HQ.out.2.1
  obtain ⟨W11, hW11⟩ : ∃ W11, W11 = w10.alloc (.cells #[.int .i64 0, .int .i64 1, .int .i64 0] 3) := ⟨_, rfl⟩
  have hb11 : Below w10.heap.size w10 W11 := by rw [hW11]; exact below_alloc w10 _
  have hr11 : RI W11 (.slice (some ⟨w10.heap.size, 0, none⟩) 3 3) [0, 1, 0] := by rw [hW11]; exact ri3 w10 0 1 0
  have hs11 := EqualD_any _ _ _ _ W11 (RI.below (RI.below R1.out hb10) hb11) hr11
  rw [show eqL [0, 1, 0] [0, 1, 0] = true by decide] at hs11
  have HS11 := Lib.hid hs11
  have HB11 := Lib.hid (hb10.trans (hb11.mono hb10.size))
  have HW11 := Lib.hid hW11
  clear hw10 hb10 hb11 hr11 hs11 hW11
  go_wp2_with fail
  rw [← HW11.out]
  refine HS11.out.mono ?_
  rintro e w12 ⟨rfl, j12, hw12⟩
  have hb12 : Below w6.heap.size w6 w12 := by rw [hw12]; exact below_drewN HB11.out j12
  have q12 : w12.cell? ⟨ad.block, ad.off + 2, none⟩ = some (.slice m2 3 m2') := (hb12.cell (p := ⟨ad.block, ad.off + 2, none⟩) HAb.out).trans HQ.out.2.2
  obtain ⟨W13, hW13⟩ : ∃ W13, W13 = w12.alloc (.cells #[.int .i64 1, .int .i64 0, .int .i64 0] 3) := ⟨_, rfl⟩
  have hb13 : Below w12.heap.size w12 W13 := by rw [hW13]; exact below_alloc w12 _
  have hr13 : RI W13 (.slice (some ⟨w12.heap.size, 0, none⟩) 3 3) [1, 0, 0] := by rw [hW13]; exact ri3 w12 1 0 0
  have hs13 := EqualD_any _ _ _ _ W13 (RI.below (RI.below R2.out hb12) hb13) hr13
  rw [show eqL [1, 0, 0] [1, 0, 0] = true by decide] at hs13
  have HS13 := Lib.hid hs13
  have HB13 := Lib.hid (hb12.trans (hb13.mono hb12.size))
  have HW13 := Lib.hid hW13
  clear hw12 hb12 hb13 hr13 hs13 hW13
  go_wp2_with fail
  rw [← HW13.out]
  refine HS13.out.mono ?_
  rintro e w14 ⟨rfl, j14, hw14⟩
  have hb14 : Below w6.heap.size w6 w14 := by rw [hw14]; exact below_drewN HB13.out j14
  clear hw14
  go_wp2
  go_ret
  exact ⟨rfl, HB6.out.trans (hb14.mono HB6.out.size)⟩
end Go.Proofs.YtjfggodnfoknfaaGreatDoor

namespace Go.Proofs.YtjfggodnfoknfaaGreatDoor
open Go.RowKit Go.Shelf

theorem In_any (k : Int) (w : World) : Calls Tryz.prog 43 #[.int .i64 k] w fun e w' => e = .returned (.bool (InB k)) ∧ w = w' := by
  go_enter Tryz.func43, Tryz.ntmps43
  go_wp2
  all_goals (go_ret; exact ⟨by simp [InB, *]; try omega, rfl⟩)

theorem rCheck_any (v : Value) (zs : List Int) (n : Int) (w : World) (hv : RI w v zs) :
    Calls Tryz.prog 20 #[v, .int .i64 n] w fun e w' => e = .returned (.int .i64 (checkE zs n)) ∧ w = w' := by
  obtain ⟨A, c, rfl, hlc, hc, hcell⟩ := hv.open_
  have HC := Lib.hid hcell
  clear hcell hv
  by_cases h1 : n < 1
  · go_enter Tryz.func20, Tryz.ntmps20
    go_wp2
    go_ret
    exact ⟨ret_i (by simp [checkE, h1]), rfl⟩
  by_cases h1' : 12 < n
  · go_enter Tryz.func20, Tryz.ntmps20
    go_wp2
    go_ret
    exact ⟨ret_i (by simp [checkE, h1']), rfl⟩
  have H1 := Lib.hid (show ¬ (n < 1 ∨ 12 < n) by omega)
  by_cases h2 : (zs.length : Int) = n
  · have e2 : ((zs.length : Int) != n) = false := by simp [h2]
    have H2 := Lib.hid h2
    have h2' : (zs.length : Int) ≤ n ∧ n ≤ zs.length := by omega
    clear h2
    go_enter Tryz.func20, Tryz.ntmps20
    go_wp2
    go_loop [5] (fun i => ∃ k : Nat, k ≤ zs.length ∧ i = .int .i64 k ∧ Hid ((zs.drop k).all InB = zs.all InB)) (fun i => zs.length - (intOf i).toNat)
    case atStart => exact ⟨0, Nat.zero_le _, rfl, rfl⟩
    case round =>
      obtain ⟨k, hk, rfl, hr⟩ := hrel
      by_cases hlt : k < zs.length
      · obtain ⟨ad, z, rfl, _, hz, hcl⟩ := HC.out k hlt
        clear HC
        have hd := Lib.hid (drop_at hz)
        have hlt2 : (k : Int) < n := by omega
        cases hb : InB z
        · go_wp2_with (go_at_call 43; refine (In_any _ _).mono ?_; rintro e w' ⟨rfl, rfl⟩)
          go_ret
          refine ⟨ret_i ?_, rfl⟩
          have := hr.out; rw [hd.out] at this
          simp only [checkE, if_neg H1.out, H2.out, ← this]
          simp [hb]
        · go_wp2_with (go_at_call 43; refine (In_any _ _).mono ?_; rintro e w' ⟨rfl, rfl⟩)
          go_round
          case rel => exact ⟨k + 1, by omega, by go_num, by have := hr.out; rw [hd.out] at this; simpa [Hid, hb] using this⟩
          case measure => simp [intOf]; omega
      · have hlt2 : n ≤ (k : Int) := by omega
        go_wp2
        go_ret
        refine ⟨ret_i ?_, rfl⟩
        have := hr.out; rw [List.drop_of_length_le (by omega)] at this
        simp only [checkE, if_neg H1.out, H2.out, ← this]
        simp
  · have e2 : ((zs.length : Int) != n) = true := by simp [h2]
    have H2 := Lib.hid h2
    clear h2
    go_enter Tryz.func20, Tryz.ntmps20
    go_wp2
    go_ret
    exact ⟨ret_i (by simp [checkE, H1.out, H2.out]), rfl⟩

theorem rVertex_any (g : Value) (n : Int) (es : List Tri) (v : Int) (w : World) (hg : GV w g n es) :
    Calls Tryz.prog 109 #[g, .int .i64 v] w fun e w' => e = .returned (.bool (vtxB n v)) ∧ Below w.heap.size w w' := by
  obtain ⟨A, c, rfl, -⟩ := hg.open_
  clear hg
  by_cases h1 : 0 ≤ v
  · by_cases h2 : v < n
    · go_enter Tryz.func109, Tryz.ntmps109
      go_wp2
      go_ret
      exact ⟨ret_b (by simp [vtxB, h1, h2]), below_alloc w _⟩
    · go_enter Tryz.func109, Tryz.ntmps109
      go_wp2
      go_ret
      exact ⟨ret_b (by simp [vtxB, h2]), below_alloc w _⟩
  · go_enter Tryz.func109, Tryz.ntmps109
    go_wp2
    go_ret
    exact ⟨ret_b (by simp [vtxB]; omega), below_alloc w _⟩
/-- The edge ahead of one. -/
def lastE (es : List Tri) : Nat → Int × Int
  | 0 => (-1, -1)
  | j + 1 => ((es.getD j (0, 0, 0)).1, (es.getD j (0, 0, 0)).2.1)
theorem okE_back {n la lb a b m : Int} (h1 : vtxB n a = true) (h2 : vtxB n b = true) (h3 : ¬ m < 1) (h4 : ¬ 50 < m) (h5 : a ≤ b) : okE n (la, lb) (a, b, m) = if a < la ∨ (a = la ∧ b ≤ lb) then 9 else 0 := by
  rw [vtxB_iff] at h1 h2
  unfold okE
  simp only
  rw [if_neg (by omega)]
  by_cases h : a < la ∨ (a = la ∧ b ≤ lb)
  · rw [if_pos (.inr h), if_pos h]
  · rw [if_neg (by omega), if_neg h]
theorem okE_cross {n la lb a b m : Int} (h1 : vtxB n a = true) (h2 : vtxB n b = true) (h3 : ¬ m < 1) (h4 : ¬ 50 < m) (h5 : b < a) : okE n (la, lb) (a, b, m) = 9 := by
  rw [vtxB_iff] at h1 h2
  unfold okE
  simp only
  rw [if_neg (by omega), if_pos (.inl h5)]
theorem edge_any (g : Value) (n : Int) (es : List Tri) (k : Nat) (t : Tri) (w : World) (hg : GV w g n es) (ht : es[k]? = some t) :
    Calls Tryz.prog 70 #[g, .int .i64 (k : Int)] w fun e w' => e = .returned (.int .i64 (okE n (lastE es k) t)) ∧ Below w.heap.size w w' := by
  obtain ⟨A, c, rfl, hlc, hc, hcell⟩ := hg.open_
  have hk : k < es.length := by
    by_cases h : k < es.length
    · exact h
    · rw [List.getElem?_eq_none (by omega)] at ht; cases ht
  obtain ⟨ad, a, b, m, rfl, hab, ht', c1, c2, c3⟩ := hcell k hk
  obtain rfl : (a, b, m) = t := Option.some.inj (ht'.out.symm.trans ht)
  obtain ⟨W0, hW0⟩ : ∃ W0, W0 = w.alloc (.cells #[.int .i64 n, .slice (some ad) es.length c] 24) := ⟨_, rfl⟩
  have hb0 : Below w.heap.size w W0 := by rw [hW0]; exact below_alloc w _
  have hz0 : W0.heap.size = w.heap.size + 1 := by rw [hW0]; simp
  have hx0 : BL W0 w.heap.size 24 [.int .i64 n, .slice (some ad) es.length c] := by rw [hW0]; exact BL.new' w _ _
  obtain ⟨d1, d2, d3⟩ := tri_cells hb0 hab c1 c2 c3
  obtain ⟨W1, hW1⟩ : ∃ W1, W1 = W0.alloc (.cells #[.int .i64 a, .int .i64 b, .int .i64 m] 54) := ⟨_, rfl⟩
  have hb1 : Below W0.heap.size W0 W1 := by rw [hW1]; exact below_alloc W0 _
  have hx1 : BL W1 (w.heap.size + 1) 54 [.int .i64 a, .int .i64 b, .int .i64 m] := by rw [hW1, ← hz0]; exact BL.new' W0 _ _
  have hbb : Below w.heap.size w W1 := hb0.trans (hb1.mono (by omega))
  have HG1 := Lib.hid (hg.below hbb)
  have HX1 := Lib.hid (hx0.bel hb1)
  have HY1 := Lib.hid hx1
  have HBB := Lib.hid hbb
  have HV1 := Lib.hid (rVertex_any _ n es a W1 HG1.out)
  have x0 := hx0.cell 0
  have x1 := hx0.cell 1
  have y0 := HX1.out.cell 0
  have y1 := HX1.out.cell 1
  have z0 := hx1.cell 0
  have z1 := hx1.cell 1
  have z2 := hx1.cell 2
  have HW0 := Lib.hid hW0
  have HW1 := Lib.hid hW1
  have HCe := Lib.hid hcell
  rw [hW0] at x0 x1 d1 d2 d3
  rw [hW1, hW0] at y0 y1 z0 z1 z2
  have hk1 : (k : Int) < es.length := by omega
  clear hg ht hcell ht' c1 c2 c3 hb0 hx0 hb1 hx1 hbb hW0 hW1 hz0
  go_enter Tryz.func70, Tryz.ntmps70
  go_wp2_with fail
  rw [← HW0.out, ← HW1.out]
  refine HV1.out.mono ?_
  rintro e w2 ⟨rfl, hb2⟩
  have HBB2 := Lib.hid (HBB.out.trans (hb2.mono HBB.out.size))
  have HX2 := Lib.hid (HX1.out.bel hb2)
  have HY2 := Lib.hid (HY1.out.bel hb2)
  have HG2 := Lib.hid (HG1.out.below hb2)
  have q0 := HX2.out.cell 0
  have q1 := HX2.out.cell 1
  have r0 := HY2.out.cell 0
  have r1 := HY2.out.cell 1
  have r2 := HY2.out.cell 2
  clear x0 x1 y0 y1 z0 z1 z2 d1 d2 d3 hb2
  cases hA : vtxB n a
  · have HR : Hid (okE n (lastE es k) (a, b, m) = 2) := okE_bad (.inl hA)
    go_wp2
    go_ret
    exact ⟨ret_i HR.out.symm, HBB2.out⟩
  have HV2 := Lib.hid (rVertex_any _ n es b w2 HG2.out)
  go_wp2_with fail
  refine HV2.out.mono ?_
  rintro e w3 ⟨rfl, hb3⟩
  have HBB3 := Lib.hid (HBB2.out.trans (hb3.mono HBB2.out.size))
  have HX3 := Lib.hid (HX2.out.bel hb3)
  have HY3 := Lib.hid (HY2.out.bel hb3)
  have HG3 := Lib.hid (HG2.out.below hb3)
  have p0 := HX3.out.cell 0
  have p1 := HX3.out.cell 1
  have s0 := HY3.out.cell 0
  have s1 := HY3.out.cell 1
  have s2 := HY3.out.cell 2
  clear q0 q1 r0 r1 r2 hb3
  cases hB : vtxB n b
  · have HR : Hid (okE n (lastE es k) (a, b, m) = 2) := okE_bad (.inr (.inl hB))
    go_wp2
    go_ret
    exact ⟨ret_i HR.out.symm, HBB3.out⟩
  by_cases h1 : m < 1
  · have HR : Hid (okE n (lastE es k) (a, b, m) = 2) := okE_bad (.inr (.inr (.inl h1)))
    go_wp2
    go_ret
    exact ⟨ret_i HR.out.symm, HBB3.out⟩
  by_cases h2 : 50 < m
  · have HR : Hid (okE n (lastE es k) (a, b, m) = 2) := okE_bad (.inr (.inr (.inr h2)))
    go_wp2
    go_ret
    exact ⟨ret_i HR.out.symm, HBB3.out⟩
  by_cases h3 : b < a
  · have HR : Hid (okE n (lastE es k) (a, b, m) = 9) := okE_cross hA hB h1 h2 h3
    go_wp2
    go_ret
    exact ⟨ret_i HR.out.symm, HBB3.out⟩
  have HOk : Hid (∀ la lb, okE n (la, lb) (a, b, m) = if a < la ∨ (a = la ∧ b ≤ lb) then 9 else 0) := fun la lb => okE_back hA hB h1 h2 (by omega)
  cases k with
  | zero =>
    have HR : Hid (okE n (lastE es 0) (a, b, m) = 0) := by
      show _ = _
      rw [vtxB_iff] at hA
      show okE n (-1, -1) (a, b, m) = 0
      rw [HOk.out, if_neg (by omega)]
    simp only [Int.natCast_zero] at *
    go_wp2
    go_ret
    exact ⟨ret_i HR.out.symm, HBB3.out⟩
  | succ j =>
    obtain ⟨ad', la, lb, lm, he, -, ht', e1, e2, e3⟩ := HCe.out j (by omega)
    obtain rfl : ad = ad' := by simpa using he
    obtain ⟨d1, d2, d3⟩ := tri_cells HBB3.out hab e1 e2 e3
    have hL : lastE es (j + 1) = (la, lb) := by
      show ((es.getD j (0, 0, 0)).1, (es.getD j (0, 0, 0)).2.1) = _
      rw [List.getD_eq_getElem?_getD, ht'.out]; rfl
    have HR0 : Hid (okE n (lastE es (j + 1)) (a, b, m) = if a < la ∨ (a = la ∧ b ≤ lb) then 9 else 0) := by show _ = _; rw [hL, HOk.out]
    have hj0 : (0 : Int) ≤ (j : Int) := by omega
    have hj1 : (j : Int) < es.length := by omega
    have hj2 : (0 : Int) < (j : Int) + 1 := by omega
    have hj3 : IntKind.i64.wrap ((j : Int) + 1 - 1) = j := by rw [show (j : Int) + 1 - 1 = j by omega]; exact IntWalk.i64_in _ (by omega)
    have HB4 := Lib.hid (HBB3.out.trans ((below_alloc w3 (.cells #[.int .i64 la, .int .i64 lb, .int .i64 lm] 54)).mono HBB3.out.size))
    have hbl : w.heap.size + 1 < w3.heap.size := HY3.out.lt
    have hab3 : ad.block < w3.heap.size := by have := HBB3.out.size; omega
    simp only [Int.natCast_succ] at *
    clear he ht' e1 e2 e3 hL hA hB hk hk1 hab
    by_cases g1 : a < la
    · have HR : Hid (okE n (lastE es (j + 1)) (a, b, m) = 9) := HR0.out.trans (if_pos (.inl g1))
      go_wp2
      go_ret
      exact ⟨ret_i HR.out.symm, HB4.out⟩
    · by_cases g2 : a = la
      · subst g2
        have t2 : (a == a) = true := by simp
        by_cases g3 : b ≤ lb
        · have HR : Hid (okE n (lastE es (j + 1)) (a, b, m) = 9) := HR0.out.trans (if_pos (.inr ⟨rfl, g3⟩))
          go_wp2
          go_ret
          exact ⟨ret_i HR.out.symm, HB4.out⟩
        · have HR : Hid (okE n (lastE es (j + 1)) (a, b, m) = 0) := HR0.out.trans (if_neg (by omega))
          go_wp2
          go_ret
          exact ⟨ret_i HR.out.symm, HB4.out⟩
      · have t2 : (a == la) = false := by simpa using g2
        have HR : Hid (okE n (lastE es (j + 1)) (a, b, m) = 0) := HR0.out.trans (if_neg (by omega))
        go_wp2
        go_ret
        exact ⟨ret_i HR.out.symm, HB4.out⟩
end Go.Proofs.YtjfggodnfoknfaaGreatDoor

namespace Go.Proofs.YtjfggodnfoknfaaGreatDoor
open Go.RowKit Go.Shelf

theorem lastE_succ {es : List Tri} {k : Nat} {t : Tri} (h : es[k]? = some t) : lastE es (k + 1) = (t.1, t.2.1) := by
  show ((es.getD k (0, 0, 0)).1, (es.getD k (0, 0, 0)).2.1) = _
  rw [List.getD_eq_getElem?_getD, h]; rfl
theorem rgCheck_any (g : Value) (n : Int) (es : List Tri) (w : World) (hg : GV w g n es) :
    Calls Tryz.prog 40 #[g] w fun e w' => e = .returned (.int .i64 (gcheckE n es)) ∧ Below w.heap.size w w' := by
  obtain ⟨A, c, rfl, hlc, hc, hcell⟩ := hg.open_
  obtain ⟨W0, hW0⟩ : ∃ W0, W0 = w.alloc (.cells #[.int .i64 n, .slice A es.length c] 24) := ⟨_, rfl⟩
  have hb0 : Below w.heap.size w W0 := by rw [hW0]; exact below_alloc w _
  have hx0 : BL W0 w.heap.size 24 [.int .i64 n, .slice A es.length c] := by rw [hW0]; exact BL.new' w _ _
  have HX0 := Lib.hid hx0
  have HB0 := Lib.hid hb0
  have HG := Lib.hid hg
  have HW0 := Lib.hid hW0
  have HCe := Lib.hid hcell
  have x0 := hx0.cell 0
  have x1 := hx0.cell 1
  rw [hW0] at x0 x1
  clear hg hcell hb0 hx0 hW0
  by_cases h1 : n < 1
  · have HR : Hid (gcheckE n es = 2) := by show _ = _; unfold gcheckE; rw [if_pos (.inl h1)]
    go_enter Tryz.func40, Tryz.ntmps40
    go_wp2
    go_ret
    exact ⟨ret_i HR.out.symm, below_alloc w _⟩
  by_cases h2 : 12 < n
  · have HR : Hid (gcheckE n es = 2) := by show _ = _; unfold gcheckE; rw [if_pos (.inr h2)]
    go_enter Tryz.func40, Tryz.ntmps40
    go_wp2
    go_ret
    exact ⟨ret_i HR.out.symm, below_alloc w _⟩
  have HE := Lib.hid (show gcheckE n es = gcheckL n (-1, -1) es by unfold gcheckE; rw [if_neg (by omega)])
  go_enter Tryz.func40, Tryz.ntmps40
  go_wp2_with fail
  rw [← HW0.out]
  clear x0 x1
  go_loopw [3] (fun i wr => ∃ k : Nat, k ≤ es.length ∧ i = .int .i64 (k : Int) ∧ Hid (gcheckL n (lastE es k) (es.drop k) = gcheckL n (-1, -1) es) ∧ Hid (BL wr w.heap.size 24 [.int .i64 n, .slice A es.length c]) ∧ Hid (Below w.heap.size w wr)) (fun i _ => es.length - (intOf i).toNat)
  case atStart => exact ⟨0, Nat.zero_le _, rfl, rfl, HX0.out, HB0.out⟩
  case round =>
    obtain ⟨k, hk, rfl, hE, hx, hb⟩ := hrel
    have y0 := hx.out.cell 0
    have y1 := hx.out.cell 1
    by_cases hlt : k < es.length
    · obtain ⟨t, ht⟩ : ∃ t, es[k]? = some t := ⟨es[k], List.getElem?_eq_getElem hlt⟩
      have HEd := Lib.hid (edge_any _ n es k t wr (HG.out.below hb.out) ht)
      have hd : es.drop k = t :: es.drop (k + 1) := by
        obtain ⟨h, rfl⟩ := List.getElem?_eq_some_iff.1 ht
        exact List.drop_eq_getElem_cons h
      by_cases ho : okE n (lastE es k) t = 0
      · rw [ho] at HEd
        have HE2 : Hid (gcheckL n (lastE es (k + 1)) (es.drop (k + 1)) = gcheckL n (-1, -1) es) := by
          show _ = _
          rw [← hE.out, hd, lastE_succ ht]
          conv => rhs; unfold gcheckL
          rw [if_neg (by simpa using ho)]
        clear ho ht hd hE
        go_wp2_with fail
        refine HEd.out.mono ?_
        rintro e w1 ⟨rfl, hb1⟩
        have HX1 := Lib.hid (hx.out.bel hb1)
        have HB1 := Lib.hid (hb.out.trans (hb1.mono hb.out.size))
        clear hb1
        go_wp2
        go_roundw
        case rel => exact ⟨k + 1, by omega, by go_num, HE2.out, HX1.out, HB1.out⟩
        case measure => simp [intOf]; omega
      · obtain ⟨r, hr⟩ : ∃ r, r = okE n (lastE es k) t := ⟨_, rfl⟩
        have HR : Hid (gcheckE n es = r) := by
          show _ = _
          rw [HE.out, ← hE.out, hd]
          unfold gcheckL
          rw [if_pos ho, hr]
        rw [← hr] at HEd ho
        have t1 : (r != 0) = true := by simpa using ho
        clear ho ht hd hE hr
        go_wp2_with fail
        refine HEd.out.mono ?_
        rintro e w1 ⟨rfl, hb1⟩
        have HB1 := Lib.hid (hb.out.trans (hb1.mono hb.out.size))
        clear hb1
        go_wp2
        go_ret
        exact ⟨ret_i HR.out.symm, HB1.out⟩
    · have HR : Hid (gcheckE n es = 0) := by
        show _ = _
        rw [HE.out, ← hE.out, List.drop_of_length_le (by omega)]
        rfl
      go_wp2
      go_ret
      exact ⟨ret_i HR.out.symm, hb.out⟩
theorem step_append' {P : Program} {w : World} {ops : Array Oper} {o : Oper} {a : Act} {K : Act → World → Prop} {Q : Exit → Act → World → Prop} {E : Prop} (hgd : o.guard = none) (s x : Operand) (t : TypeId)
    (ho : o.op = .call { callee := .builtin .append, args := #[s, x], argTypes := #[t, t] }) (vs vx : Value) (hs : a.eval s = vs) (hx : a.eval x = vx) (v' : Value) (w' : World)
    (hrun : (Builtin.append_ #[t, t] o.type #[vs, vx]).run P w = .ok v' w') (h : K (a.put o.dst v') w') : if Region.wanted o (yielded ops a.tmps) = true then Oper.wp P o a w K Q else E := by
  have hw : Region.wanted o (yielded ops a.tmps) = true := by simp [Region.wanted, hgd]
  rw [if_pos hw]
  unfold Oper.wp execOp
  simp only [ho, resolve, invoke, builtin, Sem.run_bind, Sem.run_pure, Result.andThen_ok, List.map_toArray, List.map_cons, List.map_nil, hs, hx, hrun]
  exact h
theorem rEnds_any (g : Value) (n : Nat) (es : List Tri) (w : World) (hg : GV w g n es) (hE : Edges n es) (hlen : (singL es).length ≤ 900000) :
    Calls Tryz.prog 72 #[g] w fun e w' => ∃ v, e = .returned v ∧ OP w' w.heap.size v (singL es) ∧ Below w.heap.size w w' := by
  obtain ⟨A, c, rfl, hlc, hc, hcell⟩ := hg.open_
  obtain ⟨i1, hi1, hz01, hz11, hz21⟩ := info_parts' pair_info
  obtain ⟨W0, hW0⟩ : ∃ W0, W0 = w.alloc (.cells #[.int .i64 (n : Int), .slice A es.length c] 24) := ⟨_, rfl⟩
  have hb0 : Below w.heap.size w W0 := by rw [hW0]; exact below_alloc w _
  have hx0 : BL W0 w.heap.size 24 [.int .i64 (n : Int), .slice A es.length c] := by rw [hW0]; exact BL.new' w _ _
  have HX0 := Lib.hid hx0
  have HB0 := Lib.hid hb0
  have HW0 := Lib.hid hW0
  have HCe := Lib.hid hcell
  have HE := Lib.hid hE
  have HLen := Lib.hid hlen
  clear hg hcell hb0 hx0 hW0 hE hlen
  go_enter Tryz.func72, Tryz.ntmps72
  go_wp2_with fail
  rw [← HW0.out]
  go_loopw [3, 4] (fun vo i wr => ∃ j : Nat, j ≤ es.length ∧ i = .int .i64 (j : Int) ∧ Hid (OP wr (w.heap.size + 1) vo (singL (es.take j))) ∧ Hid (BL wr w.heap.size 24 [.int .i64 (n : Int), .slice A es.length c]) ∧ Hid (Below w.heap.size w wr)) (fun _ i _ => es.length - (intOf i).toNat)
  case atStart => exact ⟨0, Nat.zero_le _, rfl, OP.nil_ _ _, HX0.out, HB0.out⟩
  case round =>
    obtain ⟨j, hj, rfl, ho, hx, hb⟩ := hrel
    have y1 := hx.out.cell 1
    by_cases hlt : j < es.length
    · obtain ⟨ad, a, b, m, rfl, hab, ht, c1, c2, c3⟩ := HCe.out j hlt
      have hme := HE.out.mult _ (getD_tri ht)
      simp only at hme
      obtain ⟨mn, rfl⟩ := Int.eq_ofNat_of_zero_le (show 0 ≤ m by omega)
      have HT1 := Lib.hid (sing_take ht)
      have HT2 := Lib.hid (sing_split ht)
      have hmn : mn ≤ 50 := by omega
      obtain ⟨A1, c1', rfl⟩ := ho.out.shape
      have HO := ho
      have HX := hx
      have HB := hb
      clear ht ho hx hb hme
      go_wp2_with fail
      go_loopw [3, 5] (fun vo i wr => ∃ v : Nat, v ≤ mn ∧ i = .int .i64 (v : Int) ∧ Hid (OP wr (w.heap.size + 1) vo (singL (es.take j) ++ List.replicate v (a, b))) ∧ Hid (BL wr w.heap.size 24 [.int .i64 (n : Int), .slice (some ad) es.length c]) ∧ Hid (Below w.heap.size w wr)) (fun _ i _ => mn - (intOf i).toNat)
      case atStart => exact ⟨0, Nat.zero_le _, rfl, by simpa [Hid] using HO.out, HX.out, HB.out⟩
      case round =>
        clear y1
        obtain ⟨v, hv, rfl, ho, hx, hb⟩ := hrel
        have y1 := hx.out.cell 1
        obtain ⟨d1, d2, d3⟩ := tri_cells hb.out hab c1 c2 c3
        by_cases hvl : v < mn
        · obtain ⟨A2, c2', rfl⟩ := ho.out.shape
          have hpl : (singL (es.take j) ++ List.replicate v (a, b)).length < 900000 := by
            have h := HLen.out
            rw [HT2.out] at h
            simp [oneL] at h ⊢
            omega
          have hod := OP.below (w' := wr.drew) ho.out (Below.refl _ _).drew
          have hbs := hb.out.size
          have hxl := hx.out.lt
          obtain ⟨g2, cap2, w', hrun, hown, hgr, hat⟩ := run_append_pair (P := Tryz.prog) wr.drew 100 100 i1 _ 16 Tryz.underlying100 hi1 hz01 hz11 hz21 (by omega) rfl (w.heap.size + 1) _ _ hod a b (by omega) hxl
          have hst : singL (es.take j) ++ List.replicate v (a, b) ++ [(a, b)] = singL (es.take j) ++ List.replicate (v + 1) (a, b) := by rw [List.append_assoc, List.replicate_succ']
          rw [hst] at hown
          have hlen1 : (singL (es.take j) ++ List.replicate v (a, b)).length + 1 = (singL (es.take j) ++ List.replicate (v + 1) (a, b)).length := by simp; omega
          have HX3 : Hid (BL w' w.heap.size 24 [.int .i64 (n : Int), .slice (some ad) es.length c]) := BL.grown (w := wr.drew.alloc (.cells #[.int .i64 a, .int .i64 b] 148)) (BL.alloc (BL.drew hx.out) _) hgr (fun e => by have := (hod.block_ e).choose_spec.2.1; omega)
          have HB3 : Hid (Below w.heap.size w w') := by
            have h1 : Below w.heap.size w wr.drew := hb.out.drew
            exact (h1.alloc hbs _).grown hgr (by simp; omega) (fun k hk => by have := (hod.block_ hk).choose_spec.2.1; omega)
          have HO3 := Lib.hid hown
          have HS0 : Hid (wr.drew.cell? ⟨w.heap.size, 1, none⟩ = some (.slice (some ad) es.length c) ∧ wr.drew.cell? (ad.add (j * 3)) = some (.int .i64 a) ∧ wr.drew.cell? ⟨(ad.add (j * 3)).block, (ad.add (j * 3)).off + 1, none⟩ = some (.int .i64 b)) := ⟨y1, d1, d2⟩
          have hba : Below wr.heap.size wr (wr.alloc (.cells #[.int .i64 a, .int .i64 b] 148)).drew := (below_alloc wr _).drew
          have habr : ad.block < wr.heap.size := by omega
          have HS1 : Hid ((wr.alloc (.cells #[.int .i64 a, .int .i64 b] 148)).drew.cell? ⟨w.heap.size, 1, none⟩ = some (.slice (some ad) es.length c) ∧ (wr.alloc (.cells #[.int .i64 a, .int .i64 b] 148)).drew.cell? (ad.add (j * 3)) = some (.int .i64 a) ∧ (wr.alloc (.cells #[.int .i64 a, .int .i64 b] 148)).drew.cell? ⟨(ad.add (j * 3)).block, (ad.add (j * 3)).off + 1, none⟩ = some (.int .i64 b) ) :=
            ⟨(hx.out.bel hba).cell 1, (hba.cell (by rw [block_of_add]; exact habr)).trans d1, (hba.cell (p := ⟨(ad.add (j * 3)).block, (ad.add (j * 3)).off + 1, none⟩) (by show (ad.add (j * 3)).block < _; rw [block_of_add]; exact habr)).trans d2⟩
          obtain ⟨e1, e2, -⟩ := tri_cells HB3.out hab c1 c2 c3
          have HS2 : Hid (w'.cell? ⟨w.heap.size, 1, none⟩ = some (.slice (some ad) es.length c) ∧ w'.cell? (ad.add (j * 3)) = some (.int .i64 a) ∧ w'.cell? ⟨(ad.add (j * 3)).block, (ad.add (j * 3)).off + 1, none⟩ = some (.int .i64 b)) := ⟨HX3.out.cell 1, e1, e2⟩
          have hrunB := hrun
          change (Builtin.append_ #[100, 100] 100 #[_, .slice (some ⟨wr.heap.size, 0, none⟩) 1 1]).run Tryz.prog (wr.drew.alloc (.cells #[.int .i64 a, .int .i64 b] 148)) = _ at hrunB
          change (Builtin.append_ #[100, 100] 100 _).run Tryz.prog (wr.alloc (.cells #[.int .i64 a, .int .i64 b] 148)).drew = _ at hrun
          change (Builtin.append_ #[100, 100] 100 #[_, .slice (some ⟨wr.heap.size, 0, none⟩) 1 1]).run Tryz.prog _ = _ at hrun
          have hj0 : (0 : Int) ≤ (j : Int) := by omega
          have hj1 : (j : Int) < (es.length : Int) := by omega
          obtain ⟨nv, hnv⟩ : ∃ nv, nv = Value.slice (some ⟨g2, 0, none⟩) ((singL (es.take j) ++ List.replicate v (a, b)).length + 1) cap2 := ⟨_, rfl⟩
          rw [← hnv] at hrun hrunB HO3
          obtain ⟨ln, hln⟩ : ∃ ln, ln = (singL (es.take j) ++ List.replicate v (a, b)).length := ⟨_, rfl⟩
          rw [← hln] at hrun hrunB ⊢
          clear ho hx hb hpl hod hbs hgr hat hown hst hlen1 hnv hln hxl hba e1 e2 habr
          go_wp2_with fail
          clear y1 d1 d2 d3
          have hcs := HS0.out
          obtain ⟨u1, u2, u3⟩ := hcs
          have hcs := HS1.out
          obtain ⟨u4, u5, u6⟩ := hcs
          go_region_law (refine step_append' rfl (.tmp 23) (.tmp 37) 100 rfl _ _ (by simp [Act.eval]) (by simp [Act.eval]) _ _ hrun ?_)
          all_goals
           go_wp2
           go_roundw
           case rel => exact ⟨v + 1, by omega, by go_num, HO3.out, HX3.out, HB3.out⟩
           case measure => simp [intOf]; omega
        · obtain rfl : v = mn := by omega
          have hh : singL (es.take j) ++ List.replicate v (a, b) = singL (es.take (j + 1)) := by rw [HT1.out]; simp [oneL]
          rw [hh] at ho
          clear hh
          go_wp2
          go_roundw
          case rel => exact ⟨j + 1, by omega, by go_num, ho.out, hx.out, hb.out⟩
          case measure => simp [intOf]; omega
    · have hje : es.take j = es := List.take_of_length_le (by omega)
      have HO3 := ho
      rw [hje] at HO3
      go_wp2
      go_ret
      exact ⟨_, rfl, OP.mono HO3.out (by omega), hb.out⟩
end Go.Proofs.YtjfggodnfoknfaaGreatDoor

namespace Go.Proofs.YtjfggodnfoknfaaGreatDoor
open Go.RowKit Go.Shelf

theorem sing_mult {es : List Tri} (h : ∀ t ∈ es, 0 ≤ t.2.2) : ((singL es).length : Int) = multS es := by
  rw [sing_len]
  induction es with
  | nil => rfl
  | cons t r ih =>
    have := ih fun x hx => h x (List.mem_cons_of_mem _ hx)
    have ht := h t (by simp)
    rw [multS_cons, ← this]
    simp only [List.map_cons, List.sum_cons]
    omega
theorem sing_le {n : Nat} {es : List Tri} (hE : Edges n es) : (singL es).length ≤ 50 * es.length := by
  rw [sing_len]
  have : ∀ l : List Tri, (∀ t ∈ l, t.2.2 ≤ 50) → (l.map fun t => t.2.2.toNat).sum ≤ 50 * l.length := by
    intro l
    induction l with
    | nil => intro _; simp
    | cons t r ih =>
      intro h
      have := ih fun x hx => h x (List.mem_cons_of_mem _ hx)
      have ht := h t (by simp)
      simp only [List.map_cons, List.sum_cons, List.length_cons]
      omega
  exact this es fun t ht => (hE.mult t ht).2
/-- What Few answers. -/
def fewB (n : Int) (es : List Tri) : Bool := if 40 < es.length then false else if gcheckE n es ≠ 0 then true else decide (n ≤ 6) && decide ((singL es).length ≤ 9)
theorem fewB_sm {n : Int} {es : List Tri} (h : fewB n es = true) : Sm n es := by
  intro hg
  unfold fewB at h
  by_cases h1 : 40 < es.length
  · rw [if_pos h1] at h; cases h
  · rw [if_neg h1, if_neg (by simpa using hg)] at h
    simp only [Bool.and_eq_true, decide_eq_true_eq] at h
    obtain ⟨m, rfl, _, _, hE⟩ := gcheckE_zero hg
    have := sing_mult (es := es) fun t ht => by have := hE.mult t ht; omega
    exact ⟨h.1, by omega⟩
theorem rSize_any (g : Value) (n : Nat) (es : List Tri) (w : World) (hg : GV w g n es) (hE : Edges n es) (hlen : es.length ≤ 40) :
    Calls Tryz.prog 44 #[g] w fun e w' => e = .returned (.int .i64 ((singL es).length : Nat)) ∧ Below w.heap.size w w' := by
  obtain ⟨A, c, rfl, -⟩ := hg.open_
  obtain ⟨W0, hW0⟩ : ∃ W0, W0 = w.alloc (.cells #[.int .i64 (n : Int), .slice A es.length c] 24) := ⟨_, rfl⟩
  have hb0 : Below w.heap.size w W0 := by rw [hW0]; exact below_alloc w _
  have hx0 : BL W0 w.heap.size 24 [.int .i64 (n : Int), .slice A es.length c] := by rw [hW0]; exact BL.new' w _ _
  have HEn := Lib.hid (rEnds_any _ n es W0 (hg.below hb0) hE (by have := sing_le hE; omega))
  have c0 := hx0.cell 0
  have c1 := hx0.cell 1
  have HB0 := Lib.hid hb0
  have HW0 := Lib.hid hW0
  rw [hW0] at c0 c1
  clear hg hb0 hx0 hW0 hE
  go_enter Tryz.func44, Tryz.ntmps44
  go_wp2_with fail
  rw [← HW0.out]
  refine HEn.out.mono ?_
  rintro e w1 ⟨v, rfl, ho, hb1⟩
  obtain ⟨A1, c1', rfl⟩ := ho.shape
  have HB1 := Lib.hid hb1
  clear ho hb1 c0 c1
  go_wp2
  go_ret
  exact ⟨rfl, HB0.out.trans (HB1.out.mono HB0.out.size)⟩
theorem rSmall_any (g : Value) (n : Int) (es : List Tri) (w : World) (hg : GV w g n es) :
    Calls Tryz.prog 21 #[g, .int .i64 6, .int .i64 9] w fun e w' => e = .returned (.bool (fewB n es)) ∧ Below w.heap.size w w' := by
  obtain ⟨A, c, rfl, hlc, hc, -⟩ := hg.open_
  obtain ⟨W0, hW0⟩ : ∃ W0, W0 = w.alloc (.cells #[.int .i64 n, .slice A es.length c] 24) := ⟨_, rfl⟩
  have hb0 : Below w.heap.size w W0 := by rw [hW0]; exact below_alloc w _
  have hx0 : BL W0 w.heap.size 24 [.int .i64 n, .slice A es.length c] := by rw [hW0]; exact BL.new' w _ _
  have hgc := rgCheck_any _ n es W0 (hg.below hb0)
  have c0 := hx0.cell 0
  have c1 := hx0.cell 1
  have HX0 := Lib.hid hx0
  have HG0 := Lib.hid (hg.below hb0)
  have HB0 := Lib.hid hb0
  have HW0 := Lib.hid hW0
  rw [hW0] at c0 c1
  clear hg hb0 hx0 hW0
  by_cases h1 : 40 < es.length
  · have HR : Hid (fewB n es = false) := by show _ = _; unfold fewB; rw [if_pos h1]
    go_enter Tryz.func21, Tryz.ntmps21
    go_wp2
    go_ret
    exact ⟨ret_b HR.out.symm, below_alloc w _⟩
  by_cases h2 : gcheckE n es = 0
  · rw [h2] at hgc
    have HGc := Lib.hid hgc
    obtain ⟨m, rfl, h12, _, hE⟩ := gcheckE_zero h2
    have H2 := Lib.hid h2
    have HFw : Hid (fewB m es = (decide ((m : Int) ≤ 6) && decide ((singL es).length ≤ 9))) := by show _ = _; unfold fewB; rw [if_neg h1, if_neg (by simpa using h2)]
    have HE := Lib.hid hE
    have HL : Hid (es.length ≤ 40) := by show _ ≤ _; omega
    clear h2 hE hgc
    go_enter Tryz.func21, Tryz.ntmps21
    go_wp2_with fail
    rw [← HW0.out]
    refine HGc.out.mono ?_
    rintro e w1 ⟨rfl, hb1⟩
    have hx1 := HX0.out.bel hb1
    have d0 := hx1.cell 0
    have d1 := hx1.cell 1
    have HSz := Lib.hid (rSize_any _ m es w1 (HG0.out.below hb1) HE.out HL.out)
    have HB1 := Lib.hid (HB0.out.trans (hb1.mono HB0.out.size))
    clear hb1 hx1 c0 c1
    by_cases h6 : (m : Int) ≤ 6
    · by_cases h9 : (singL es).length ≤ 9
      · have HR : Hid (fewB m es = true) := by show _ = _; rw [HFw.out]; simp [h6, h9]
        obtain ⟨l, hl⟩ : ∃ l, l = (singL es).length := ⟨_, rfl⟩
        rw [← hl] at HSz h9
        have h9' : (l : Int) ≤ 9 := by omega
        clear hl HFw h9
        go_wp2_with fail
        refine HSz.out.mono ?_
        rintro e w2 ⟨rfl, hb2⟩
        have HB2 := Lib.hid (HB1.out.trans (hb2.mono HB1.out.size))
        clear hb2
        go_wp2
        go_ret
        exact ⟨ret_b HR.out.symm, HB2.out⟩
      · have HR : Hid (fewB m es = false) := by show _ = _; rw [HFw.out]; simp [h9]
        obtain ⟨l, hl⟩ : ∃ l, l = (singL es).length := ⟨_, rfl⟩
        rw [← hl] at HSz h9
        have h9' : ¬ (l : Int) ≤ 9 := by omega
        clear hl HFw h9
        go_wp2_with fail
        refine HSz.out.mono ?_
        rintro e w2 ⟨rfl, hb2⟩
        have HB2 := Lib.hid (HB1.out.trans (hb2.mono HB1.out.size))
        clear hb2
        go_wp2
        go_ret
        exact ⟨ret_b (by rw [HR.out]; exact decide_eq_false (by omega)), HB2.out⟩
    · have HR : Hid (fewB m es = false) := by show _ = _; rw [HFw.out]; simp [h6]
      clear HFw
      go_wp2
      go_ret
      exact ⟨ret_b HR.out.symm, HB1.out⟩
  · obtain ⟨r, hr⟩ : ∃ r, r = gcheckE n es := ⟨_, rfl⟩
    have HR : Hid (fewB n es = true) := by show _ = _; unfold fewB; rw [if_neg h1, if_pos h2]
    rw [← hr] at hgc h2
    have HGc := Lib.hid hgc
    have t : (r != 0) = true := by simpa using h2
    clear hgc hr h2
    go_enter Tryz.func21, Tryz.ntmps21
    go_wp2_with fail
    rw [← HW0.out]
    refine HGc.out.mono ?_
    rintro e w1 ⟨rfl, hb1⟩
    have HB1 := Lib.hid (HB0.out.trans (hb1.mono HB0.out.size))
    clear hb1 c0 c1
    go_wp2
    go_ret
    exact ⟨ret_b HR.out.symm, HB1.out⟩
theorem rFew8_any (g : Value) (n : Int) (es : List Tri) (w : World) (hg : GV w g n es) :
    Calls Tryz.prog 108 #[g] w fun e w' => e = .returned (.bool (fewB n es)) ∧ Below w.heap.size w w' := by
  obtain ⟨A, c, rfl, -⟩ := hg.open_
  obtain ⟨W0, hW0⟩ : ∃ W0, W0 = w.alloc (.cells #[.int .i64 n, .slice A es.length c] 24) := ⟨_, rfl⟩
  have hb0 : Below w.heap.size w W0 := by rw [hW0]; exact below_alloc w _
  have hx0 : BL W0 w.heap.size 24 [.int .i64 n, .slice A es.length c] := by rw [hW0]; exact BL.new' w _ _
  have HC := Lib.hid (rSmall_any _ n es W0 (hg.below hb0))
  have c0 := hx0.cell 0
  have c1 := hx0.cell 1
  have HB0 := Lib.hid hb0
  have HW0 := Lib.hid hW0
  rw [hW0] at c0 c1
  clear hg hb0 hx0 hW0
  go_enter Tryz.func108, Tryz.ntmps108
  go_wp2_with fail
  rw [← HW0.out]
  refine HC.out.mono ?_
  rintro e w1 ⟨rfl, hb1⟩
  have HB1 := Lib.hid (HB0.out.trans (hb1.mono HB0.out.size))
  clear hb1 c0 c1
  go_wp2
  go_ret
  exact ⟨rfl, HB1.out⟩
theorem rFew25_any (g : Value) (n : Int) (es : List Tri) (w : World) (hg : GV w g n es) :
    Calls Tryz.prog 69 #[g] w fun e w' => e = .returned (.bool (fewB n es)) ∧ Below w.heap.size w w' := by
  obtain ⟨A, c, rfl, -⟩ := hg.open_
  obtain ⟨W0, hW0⟩ : ∃ W0, W0 = w.alloc (.cells #[.int .i64 n, .slice A es.length c] 24) := ⟨_, rfl⟩
  have hb0 : Below w.heap.size w W0 := by rw [hW0]; exact below_alloc w _
  have hx0 : BL W0 w.heap.size 24 [.int .i64 n, .slice A es.length c] := by rw [hW0]; exact BL.new' w _ _
  have HC := Lib.hid (rFew8_any _ n es W0 (hg.below hb0))
  have c0 := hx0.cell 0
  have c1 := hx0.cell 1
  have HB0 := Lib.hid hb0
  have HW0 := Lib.hid hW0
  rw [hW0] at c0 c1
  clear hg hb0 hx0 hW0
  go_enter Tryz.func69, Tryz.ntmps69
  go_wp2_with fail
  rw [← HW0.out]
  refine HC.out.mono ?_
  rintro e w1 ⟨rfl, hb1⟩
  have HB1 := Lib.hid (HB0.out.trans (hb1.mono HB0.out.size))
  clear hb1 c0 c1
  go_wp2
  go_ret
  exact ⟨rfl, HB1.out⟩
theorem rFew_any (g : Value) (n : Int) (es : List Tri) (w : World) (hg : GV w g n es) :
    Calls Tryz.prog 37 #[g] w fun e w' => e = .returned (.bool (fewB n es)) ∧ Below w.heap.size w w' := by
  obtain ⟨A, c, rfl, -⟩ := hg.open_
  obtain ⟨W0, hW0⟩ : ∃ W0, W0 = w.alloc (.cells #[.int .i64 n, .slice A es.length c] 24) := ⟨_, rfl⟩
  have hb0 : Below w.heap.size w W0 := by rw [hW0]; exact below_alloc w _
  have hx0 : BL W0 w.heap.size 24 [.int .i64 n, .slice A es.length c] := by rw [hW0]; exact BL.new' w _ _
  have HC := Lib.hid (rFew25_any _ n es W0 (hg.below hb0))
  have c0 := hx0.cell 0
  have c1 := hx0.cell 1
  have HB0 := Lib.hid hb0
  have HW0 := Lib.hid hW0
  rw [hW0] at c0 c1
  clear hg hb0 hx0 hW0
  go_enter Tryz.func37, Tryz.ntmps37
  go_wp2_with fail
  rw [← HW0.out]
  refine HC.out.mono ?_
  rintro e w1 ⟨rfl, hb1⟩
  have HB1 := Lib.hid (HB0.out.trans (hb1.mono HB0.out.size))
  clear hb1 c0 c1
  go_wp2
  go_ret
  exact ⟨rfl, HB1.out⟩
end Go.Proofs.YtjfggodnfoknfaaGreatDoor

