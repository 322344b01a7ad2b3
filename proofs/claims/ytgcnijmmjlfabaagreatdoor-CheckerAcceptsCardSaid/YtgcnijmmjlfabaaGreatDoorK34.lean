/- Contract of the reference's Proves, kind by kind. -/
import Derived.Test.YtgcnijmmjlfabaaGreatDoorK33
import Derived.Test.YtgcnijmmjlfabaaGreatDoorK30
set_option maxRecDepth 100000
set_option maxHeartbeats 16000000
namespace Go.Proofs.YtgcnijmmjlfabaaGreatDoor
open Go.RowKit Go.Shelf

theorem topL_get' {n : Nat} (es : List Tri) (q : Nat) {v : Nat} (hv : v < n) : (topL n es q).getD v 0 = if v = q then 0 else valK es v n - 1 := map_getD _ n 0 hv
theorem top_rest {n q : Nat} (es : List Tri) {a : List Int} (ha : a.length = n) : plusL (topL n es q) a (-1) = restL n es q a := by
  refine list_eq' (plus_len2 (-1) (by simp [topL]) ha) (by simp [restL]) fun v hv => ?_
  rw [minus_at (by simp [topL]) ha hv, topL_get' es q hv]
  rw [show (restL n es q a).getD v 0 = if v = q then -(a.getD q 0) else valK es v n - a.getD v 0 - 1 from map_getD _ n 0 hv]
  by_cases h : v = q
  · rw [if_pos h, if_pos h, h]; omega
  · rw [if_neg h, if_neg h]; omega
theorem prv57_0 (g va vb vf vl : Value) (n : Nat) (kk Q N : Int) (es : List Tri) (a b l : List Int) (w : World) (hg : GV w g n es) (ha : RI w va a) (hbv : RI w vb b) (hl : RI w vl l) (hE : Edges n es) (hn : n ≤ 12) (hal : a.length = n) (hbl : b.length = n) (hab : Bd 1048576 a) (hlb : Bd 1048576 l) (hk : kk = 0) :
    Calls Tryz.prog 51 #[g, .agg #[.int .i64 kk, .int .i64 Q, .int .i64 N, va, vb, vf], vl] w fun e w' => e = .returned (.int .i64 (leadsE n es a l (fun d => eqL d b))) ∧ Below w.heap.size w w' := by
  obtain ⟨A, c, rfl, -⟩ := hg.open_
  obtain ⟨W0, hW0⟩ : ∃ W0, W0 = (w.alloc (.cells #[.int .i64 (n:Int), .slice A es.length c] 24)).alloc (.cells #[.int .i64 kk, .int .i64 Q, .int .i64 N, va, vb, vf] 91) := ⟨_, rfl⟩
  have hb0 : Below w.heap.size w W0 := by rw [hW0]; exact (below_alloc w _).alloc (by simp) _
  have hxg : BL W0 w.heap.size 24 [.int .i64 (n:Int), .slice A es.length c] := by rw [hW0]; exact (BL.new' w _ _).alloc _
  have hxc : BL W0 (w.heap.size + 1) 91 [.int .i64 kk, .int .i64 Q, .int .i64 N, va, vb, vf] := by
    rw [hW0]
    have := BL.new' (w.alloc (.cells #[.int .i64 (n:Int), .slice A es.length c] 24)) #[.int .i64 kk, .int .i64 Q, .int .i64 N, va, vb, vf] 91
    rwa [World.size_alloc] at this
  have HXg := Lib.hid hxg
  have HXc := Lib.hid hxc
  have HG0 := Lib.hid (hg.below hb0)
  have HB0 := Lib.hid hb0
  have HW0 := Lib.hid hW0
  clear hg hxg hxc hW0
  have HL0 := Lib.hid (RI.below hl hb0)
  have HA0 := Lib.hid (RI.below ha hb0)
  obtain ⟨A2, e2, rfl, hlc, -, -⟩ := HL0.out.open_
  have t0 : (kk == 0) = true := by rw [hk]; decide
  have g0 := HXg.out.cell 0
  have g1 := HXg.out.cell 1
  have x0 := HXc.out.cell 0
  have x1 := HXc.out.cell 1
  have x2 := HXc.out.cell 2
  have x3 := HXc.out.cell 3
  have x4 := HXc.out.cell 4
  have x5 := HXc.out.cell 5
  have HBv0 := Lib.hid (RI.below hbv hb0)
  by_cases hpn : (l.length : Int) = n
  · have t : ((l.length : Int) != (n : Int)) = false := by simpa using hpn
    have HC : Hid (∀ W, Below W0.heap.size W0 W → Calls Tryz.prog 85 #[.agg #[.int .i64 (n : Int), .slice A es.length c], va, vb, .slice A2 l.length e2] W fun e w' => e = .returned (.bool (eqL (appLk n es a l) b)) ∧ Below W.heap.size W w') := fun W h => by
      rw [eqL_dec, ← appL_eq es l hal]
      exact rLeads_any _ va vb _ n es a b l W (HG0.out.below h) (RI.below HA0.out h) (RI.below HBv0.out h) (RI.below HL0.out h) hE hn hal hbl (by omega) hab hlb
    have HSp : Hid (leadsE n es a l (fun d => eqL d b) = if eqL (appLk n es a l) b = true then 0 else 16) := by show _ = _; unfold leadsE; rw [if_neg (by omega)]
    clear hl ha hbv hE hal hbl hab hlb hpn hb0 hk
    generalize eqL (appLk n es a l) b = lb at *
    generalize leadsE n es a l (fun d => eqL d b) = RE at *
    go_enter Tryz.func51, Tryz.ntmps51
    go_upto_region 1 with fail
    rw [← HW0.out]
    go_wp2_with fail
    refine (HC.out W0 (Below.refl _ _)).mono ?_
    rintro e w1 ⟨rfl, hb1⟩
    have HB1 := Lib.hid (HB0.out.trans (hb1.mono HB0.out.size))
    clear hb1
    cases lb
    · go_wp2
      go_ret
      exact ⟨ret_i (by rw [HSp.out] <;> rfl), HB1.out⟩
    · go_wp2
      go_ret
      exact ⟨ret_i (by rw [HSp.out] <;> rfl), HB1.out⟩
  · have t : ((l.length : Int) != (n : Int)) = true := by simpa using hpn
    have HR : Hid (leadsE n es a l (fun d => eqL d b) = 8) := by show _ = _; unfold leadsE; rw [if_pos hpn]
    clear hl ha hbv hE hal hbl hab hlb hpn hb0 hk
    go_enter Tryz.func51, Tryz.ntmps51
    go_upto_region 1 with fail
    rw [← HW0.out]
    go_wp2
    go_ret
    exact ⟨ret_i HR.out.symm, HB0.out⟩
theorem prv57_1 (g va vb vf vl : Value) (n : Nat) (kk Q N : Int) (es : List Tri) (a l : List Int) (w : World) (hg : GV w g n es) (ha : RI w va a) (hl : RI w vl l) (hE : Edges n es) (hn : n ≤ 12) (hal : a.length = n) (hab : Bd 1048576 a) (hlb : Bd 1048576 l) (hk : kk = 1) :
    Calls Tryz.prog 51 #[g, .agg #[.int .i64 kk, .int .i64 Q, .int .i64 N, va, vb, vf], vl] w fun e w' => e = .returned (.int .i64 (leadsE n es a l effB)) ∧ Below w.heap.size w w' := by
  obtain ⟨A, c, rfl, -⟩ := hg.open_
  obtain ⟨W0, hW0⟩ : ∃ W0, W0 = (w.alloc (.cells #[.int .i64 (n:Int), .slice A es.length c] 24)).alloc (.cells #[.int .i64 kk, .int .i64 Q, .int .i64 N, va, vb, vf] 91) := ⟨_, rfl⟩
  have hb0 : Below w.heap.size w W0 := by rw [hW0]; exact (below_alloc w _).alloc (by simp) _
  have hxg : BL W0 w.heap.size 24 [.int .i64 (n:Int), .slice A es.length c] := by rw [hW0]; exact (BL.new' w _ _).alloc _
  have hxc : BL W0 (w.heap.size + 1) 91 [.int .i64 kk, .int .i64 Q, .int .i64 N, va, vb, vf] := by
    rw [hW0]
    have := BL.new' (w.alloc (.cells #[.int .i64 (n:Int), .slice A es.length c] 24)) #[.int .i64 kk, .int .i64 Q, .int .i64 N, va, vb, vf] 91
    rwa [World.size_alloc] at this
  have HXg := Lib.hid hxg
  have HXc := Lib.hid hxc
  have HG0 := Lib.hid (hg.below hb0)
  have HB0 := Lib.hid hb0
  have HW0 := Lib.hid hW0
  clear hg hxg hxc hW0
  have HL0 := Lib.hid (RI.below hl hb0)
  have HA0 := Lib.hid (RI.below ha hb0)
  obtain ⟨A2, e2, rfl, hlc, -, -⟩ := HL0.out.open_
  have t0 : (kk == 0) = false := by rw [hk]; decide
  have t1 : (kk == 1) = true := by rw [hk]; decide
  have g0 := HXg.out.cell 0
  have g1 := HXg.out.cell 1
  have x0 := HXc.out.cell 0
  have x1 := HXc.out.cell 1
  have x2 := HXc.out.cell 2
  have x3 := HXc.out.cell 3
  have x4 := HXc.out.cell 4
  have x5 := HXc.out.cell 5
  by_cases hpn : (l.length : Int) = n
  · have t : ((l.length : Int) != (n : Int)) = false := by simpa using hpn
    have HC : Hid (∀ W, Below W0.heap.size W0 W → Calls Tryz.prog 87 #[.agg #[.int .i64 (n : Int), .slice A es.length c], va, .slice A2 l.length e2] W fun e w' => ∃ v, e = .returned v ∧ OI w' W.heap.size v (appLk n es a l) ∧ Below W.heap.size W w') := fun W h =>
      rAppW_any _ va _ n es a l W (HG0.out.below h) (RI.below HA0.out h) (RI.below HL0.out h) hE hn hal (by omega) (hab.mono (by decide)) hlb
    have hal2 := appLk_len n es a l
    have HPd : Hid (∀ (v : Value) (W : World), RI W v (appLk n es a l) → Calls Tryz.prog 86 #[v] W fun e w' => e = .returned (.bool (effB (appLk n es a l))) ∧ w' = W) := fun v W h => (rPaid_any v _ W h (by omega)).mono fun e w' ⟨h1, h2⟩ => ⟨h1, h2.symm⟩
    have HSp : Hid (leadsE n es a l effB = if effB (appLk n es a l) = true then 0 else 16) := by show _ = _; unfold leadsE; rw [if_neg (by omega)]
    clear hl ha hE hal hab hlb hpn hb0 hk hal2
    generalize effB (appLk n es a l) = lb at *
    generalize appLk n es a l = x at *
    generalize leadsE n es a l effB = RE at *
    go_enter Tryz.func51, Tryz.ntmps51
    go_upto_region 1 with fail
    rw [← HW0.out]
    go_wp2_with fail
    refine (HC.out W0 (Below.refl _ _)).mono ?_
    rintro e w1 ⟨v1, rfl, ho1, hb1⟩
    have HP1 := Lib.hid (HPd.out v1 w1 ho1.ri)
    have HB1 := Lib.hid (HB0.out.trans (hb1.mono HB0.out.size))
    clear hb1
    clear ho1
    go_wp2_with fail
    refine HP1.out.mono ?_
    rintro e w2 ⟨rfl, rfl⟩
    cases lb
    · go_wp2
      go_ret
      exact ⟨ret_i (by rw [HSp.out] <;> rfl), HB1.out⟩
    · go_wp2
      go_ret
      exact ⟨ret_i (by rw [HSp.out] <;> rfl), HB1.out⟩
  · have t : ((l.length : Int) != (n : Int)) = true := by simpa using hpn
    have HR : Hid (leadsE n es a l effB = 8) := by show _ = _; unfold leadsE; rw [if_pos hpn]
    clear hl ha hE hal hab hlb hpn hb0 hk
    go_enter Tryz.func51, Tryz.ntmps51
    go_upto_region 1 with fail
    rw [← HW0.out]
    go_wp2
    go_ret
    exact ⟨ret_i HR.out.symm, HB0.out⟩
theorem prv57_2 (g va vb vf vl : Value) (n : Nat) (kk Q N : Int) (es : List Tri) (a l : List Int) (w : World) (hg : GV w g n es) (ha : RI w va a) (hl : RI w vl l) (hE : Edges n es) (hn1 : 1 ≤ n) (hn : n ≤ 12) (hal : a.length = n) (hab : Bd 1048576 a) (hlb : Bd 1048576 l) (hk : kk = 2) :
    Calls Tryz.prog 51 #[g, .agg #[.int .i64 kk, .int .i64 Q, .int .i64 N, va, vb, vf], vl] w fun e w' => e = .returned (.int .i64 (losesE n es a l)) ∧ Below w.heap.size w w' := by
  obtain ⟨A, c, rfl, -⟩ := hg.open_
  obtain ⟨W0, hW0⟩ : ∃ W0, W0 = (w.alloc (.cells #[.int .i64 (n:Int), .slice A es.length c] 24)).alloc (.cells #[.int .i64 kk, .int .i64 Q, .int .i64 N, va, vb, vf] 91) := ⟨_, rfl⟩
  have hb0 : Below w.heap.size w W0 := by rw [hW0]; exact (below_alloc w _).alloc (by simp) _
  have hxg : BL W0 w.heap.size 24 [.int .i64 (n:Int), .slice A es.length c] := by rw [hW0]; exact (BL.new' w _ _).alloc _
  have hxc : BL W0 (w.heap.size + 1) 91 [.int .i64 kk, .int .i64 Q, .int .i64 N, va, vb, vf] := by
    rw [hW0]
    have := BL.new' (w.alloc (.cells #[.int .i64 (n:Int), .slice A es.length c] 24)) #[.int .i64 kk, .int .i64 Q, .int .i64 N, va, vb, vf] 91
    rwa [World.size_alloc] at this
  have HXg := Lib.hid hxg
  have HXc := Lib.hid hxc
  have HG0 := Lib.hid (hg.below hb0)
  have HB0 := Lib.hid hb0
  have HW0 := Lib.hid hW0
  clear hg hxg hxc hW0
  have HL0 := Lib.hid (RI.below hl hb0)
  have HA0 := Lib.hid (RI.below ha hb0)
  obtain ⟨A2, e2, rfl, hlc, -, -⟩ := HL0.out.open_
  have t0 : (kk == 0) = false := by rw [hk]; decide
  have t1 : (kk == 1) = false := by rw [hk]; decide
  have t2 : (kk == 2) = true := by rw [hk]; decide
  have g0 := HXg.out.cell 0
  have g1 := HXg.out.cell 1
  have x0 := HXc.out.cell 0
  have x1 := HXc.out.cell 1
  have x2 := HXc.out.cell 2
  have x3 := HXc.out.cell 3
  have x4 := HXc.out.cell 4
  have x5 := HXc.out.cell 5
  by_cases hpn : (l.length : Int) = 2 * n
  · have t : ((l.length : Int) != 2 * (n : Int)) = false := by simpa using hpn
    have HC : Hid (∀ W, Below W0.heap.size W0 W → Calls Tryz.prog 88 #[.agg #[.int .i64 (n : Int), .slice A es.length c], va, .slice A2 l.length e2] W fun e w' => e = .returned (.int .i64 (losesE n es a l)) ∧ Below W.heap.size W w') := fun W h =>
      rLoses_any _ va _ n es a l W (HG0.out.below h) (RI.below HA0.out h) (RI.below HL0.out h) hE hn1 hn hal (hab.mono (by decide)) hlb (by omega)
    clear hl ha hE hal hab hlb hpn hb0 hk
    generalize losesE n es a l = RE at *
    go_enter Tryz.func51, Tryz.ntmps51
    go_upto_region 1 with fail
    rw [← HW0.out]
    go_wp2_with fail
    refine (HC.out W0 (Below.refl _ _)).mono ?_
    rintro e w1 ⟨rfl, hb1⟩
    have HB1 := Lib.hid (HB0.out.trans (hb1.mono HB0.out.size))
    clear hb1
    go_wp2
    go_ret
    exact ⟨rfl, HB1.out⟩
  · have t : ((l.length : Int) != 2 * (n : Int)) = true := by simpa using hpn
    have HR : Hid (losesE n es a l = 8) := by show _ = _; unfold losesE; rw [if_pos hpn]
    clear hl ha hE hal hab hlb hpn hb0 hk
    go_enter Tryz.func51, Tryz.ntmps51
    go_upto_region 1 with fail
    rw [← HW0.out]
    go_wp2
    go_ret
    exact ⟨ret_i HR.out.symm, HB0.out⟩
theorem prv57_3 (g va vb vf vl : Value) (n : Nat) (kk Q N : Int) (es : List Tri) (a l : List Int) (w : World) (hg : GV w g n es) (ha : RI w va a) (hl : RI w vl l) (hE : Edges n es) (hn1 : 1 ≤ n) (hn : n ≤ 6) (hN : 0 ≤ N ∧ N ≤ 12) (hal : a.length = n) (hab : Bd 1048576 a) (hlb : Bd 1048576 l) (hll : l.length ≤ 100000) (hk : kk = 3) :
    Calls Tryz.prog 51 #[g, .agg #[.int .i64 kk, .int .i64 Q, .int .i64 N, va, vb, vf], vl] w fun e w' => e = .returned (.int .i64 (coversE n es N.toNat a l)) ∧ Below w.heap.size w w' := by
  obtain ⟨A, c, rfl, -⟩ := hg.open_
  obtain ⟨W0, hW0⟩ : ∃ W0, W0 = (w.alloc (.cells #[.int .i64 (n:Int), .slice A es.length c] 24)).alloc (.cells #[.int .i64 kk, .int .i64 Q, .int .i64 N, va, vb, vf] 91) := ⟨_, rfl⟩
  have hb0 : Below w.heap.size w W0 := by rw [hW0]; exact (below_alloc w _).alloc (by simp) _
  have hxg : BL W0 w.heap.size 24 [.int .i64 (n:Int), .slice A es.length c] := by rw [hW0]; exact (BL.new' w _ _).alloc _
  have hxc : BL W0 (w.heap.size + 1) 91 [.int .i64 kk, .int .i64 Q, .int .i64 N, va, vb, vf] := by
    rw [hW0]
    have := BL.new' (w.alloc (.cells #[.int .i64 (n:Int), .slice A es.length c] 24)) #[.int .i64 kk, .int .i64 Q, .int .i64 N, va, vb, vf] 91
    rwa [World.size_alloc] at this
  have HXg := Lib.hid hxg
  have HXc := Lib.hid hxc
  have HG0 := Lib.hid (hg.below hb0)
  have HB0 := Lib.hid hb0
  have HW0 := Lib.hid hW0
  clear hg hxg hxc hW0
  have HL0 := Lib.hid (RI.below hl hb0)
  have HA0 := Lib.hid (RI.below ha hb0)
  obtain ⟨A2, e2, rfl, hlc, -, -⟩ := HL0.out.open_
  have t0 : (kk == 0) = false := by rw [hk]; decide
  have t1 : (kk == 1) = false := by rw [hk]; decide
  have t2 : (kk == 2) = false := by rw [hk]; decide
  have t3 : (kk == 3) = true := by rw [hk]; decide
  have g0 := HXg.out.cell 0
  have g1 := HXg.out.cell 1
  have x0 := HXc.out.cell 0
  have x1 := HXc.out.cell 1
  have x2 := HXc.out.cell 2
  have x3 := HXc.out.cell 3
  have x4 := HXc.out.cell 4
  have x5 := HXc.out.cell 5
  have HC : Hid (∀ W, Below W0.heap.size W0 W → Calls Tryz.prog 89 #[.agg #[.int .i64 (n : Int), .slice A es.length c], va, .int .i64 N, .slice A2 l.length e2] W fun e w' => e = .returned (.int .i64 (coversE n es N.toNat a l)) ∧ Below W.heap.size W w') := fun W h => by
    have h2 := rCovers_any _ va _ n N.toNat es a l W (HG0.out.below h) (RI.below HA0.out h) (RI.below HL0.out h) hE hn1 hn (by omega) hal hab hlb hll
    rwa [Int.toNat_of_nonneg hN.1] at h2
  clear hl hE hlb hb0 hk ha hal hab hN
  generalize coversE n es N.toNat a l = RE at *
  go_enter Tryz.func51, Tryz.ntmps51
  go_upto_region 1 with fail
  rw [← HW0.out]
  go_wp2_with fail
  refine (HC.out W0 (Below.refl _ _)).mono ?_
  rintro e w1 ⟨rfl, hb1⟩
  have HB1 := Lib.hid (HB0.out.trans (hb1.mono HB0.out.size))
  clear hb1
  go_wp2
  go_ret
  exact ⟨rfl, HB1.out⟩
theorem prv57_4 (g va vb vf vl : Value) (n : Nat) (kk Q N : Int) (es : List Tri) (a l : List Int) (w : World) (hg : GV w g n es) (ha : RI w va a) (hl : RI w vl l) (hE : Edges n es) (hn1 : 1 ≤ n) (hn : n ≤ 12) (hN : -1 ≤ N ∧ N ≤ 12) (hal : a.length = n) (hab : Bd 1048576 a) (hlb : Bd 1048576 l) (hll : l.length ≤ 100000) (hk : kk = 4) :
    Calls Tryz.prog 51 #[g, .agg #[.int .i64 kk, .int .i64 Q, .int .i64 N, va, vb, vf], vl] w fun e w' => e = .returned (.int .i64 (belowE n es N a l)) ∧ Below w.heap.size w w' := by
  obtain ⟨A, c, rfl, -⟩ := hg.open_
  obtain ⟨W0, hW0⟩ : ∃ W0, W0 = (w.alloc (.cells #[.int .i64 (n:Int), .slice A es.length c] 24)).alloc (.cells #[.int .i64 kk, .int .i64 Q, .int .i64 N, va, vb, vf] 91) := ⟨_, rfl⟩
  have hb0 : Below w.heap.size w W0 := by rw [hW0]; exact (below_alloc w _).alloc (by simp) _
  have hxg : BL W0 w.heap.size 24 [.int .i64 (n:Int), .slice A es.length c] := by rw [hW0]; exact (BL.new' w _ _).alloc _
  have hxc : BL W0 (w.heap.size + 1) 91 [.int .i64 kk, .int .i64 Q, .int .i64 N, va, vb, vf] := by
    rw [hW0]
    have := BL.new' (w.alloc (.cells #[.int .i64 (n:Int), .slice A es.length c] 24)) #[.int .i64 kk, .int .i64 Q, .int .i64 N, va, vb, vf] 91
    rwa [World.size_alloc] at this
  have HXg := Lib.hid hxg
  have HXc := Lib.hid hxc
  have HG0 := Lib.hid (hg.below hb0)
  have HB0 := Lib.hid hb0
  have HW0 := Lib.hid hW0
  clear hg hxg hxc hW0
  have HL0 := Lib.hid (RI.below hl hb0)
  have HA0 := Lib.hid (RI.below ha hb0)
  obtain ⟨A2, e2, rfl, hlc, -, -⟩ := HL0.out.open_
  have t0 : (kk == 0) = false := by rw [hk]; decide
  have t1 : (kk == 1) = false := by rw [hk]; decide
  have t2 : (kk == 2) = false := by rw [hk]; decide
  have t3 : (kk == 3) = false := by rw [hk]; decide
  have t4 : (kk == 4) = true := by rw [hk]; decide
  have g0 := HXg.out.cell 0
  have g1 := HXg.out.cell 1
  have x0 := HXc.out.cell 0
  have x1 := HXc.out.cell 1
  have x2 := HXc.out.cell 2
  have x3 := HXc.out.cell 3
  have x4 := HXc.out.cell 4
  have x5 := HXc.out.cell 5
  have HC : Hid (∀ W, Below W0.heap.size W0 W → Calls Tryz.prog 90 #[.agg #[.int .i64 (n : Int), .slice A es.length c], .agg #[.int .i64 kk, .int .i64 Q, .int .i64 N, va, vb, vf], .slice A2 l.length e2] W fun e w' => e = .returned (.int .i64 (belowE n es N a l)) ∧ Below W.heap.size W w') := fun W h => rBelow_any _ va vb vf _ n kk Q N es a l W (HG0.out.below h) (RI.below HA0.out h) (RI.below HL0.out h) hE hn1 hn hal hab hlb hN hll
  clear hl hE hlb hb0 hk ha hal hab hN
  generalize belowE n es N a l = RE at *
  go_enter Tryz.func51, Tryz.ntmps51
  go_upto_region 1 with fail
  rw [← HW0.out]
  go_wp2_with fail
  refine (HC.out W0 (Below.refl _ _)).mono ?_
  rintro e w1 ⟨rfl, hb1⟩
  have HB1 := Lib.hid (HB0.out.trans (hb1.mono HB0.out.size))
  clear hb1
  go_wp2
  go_ret
  exact ⟨rfl, HB1.out⟩
theorem prv57_7 (g va vb vf vl : Value) (n : Nat) (kk Q N : Int) (es : List Tri) (a b l : List Int) (w : World) (hg : GV w g n es) (ha : RI w va a) (hbv : RI w vb b) (hl : RI w vl l) (hE : Edges n es) (hn : n ≤ 12) (hQ : 0 ≤ Q ∧ Q < n) (hal : a.length = n) (hbl : b.length = n) (hab : Bd 1048576 a) (hlb : Bd 1048576 l) (hll : l.length ≤ 100000) (hk : kk = 7) :
    Calls Tryz.prog 51 #[g, .agg #[.int .i64 kk, .int .i64 Q, .int .i64 N, va, vb, vf], vl] w fun e w' => e = .returned (.int .i64 (settlesE n es Q.toNat a b l)) ∧ Below w.heap.size w w' := by
  obtain ⟨A, c, rfl, -⟩ := hg.open_
  obtain ⟨W0, hW0⟩ : ∃ W0, W0 = (w.alloc (.cells #[.int .i64 (n:Int), .slice A es.length c] 24)).alloc (.cells #[.int .i64 kk, .int .i64 Q, .int .i64 N, va, vb, vf] 91) := ⟨_, rfl⟩
  have hb0 : Below w.heap.size w W0 := by rw [hW0]; exact (below_alloc w _).alloc (by simp) _
  have hxg : BL W0 w.heap.size 24 [.int .i64 (n:Int), .slice A es.length c] := by rw [hW0]; exact (BL.new' w _ _).alloc _
  have hxc : BL W0 (w.heap.size + 1) 91 [.int .i64 kk, .int .i64 Q, .int .i64 N, va, vb, vf] := by
    rw [hW0]
    have := BL.new' (w.alloc (.cells #[.int .i64 (n:Int), .slice A es.length c] 24)) #[.int .i64 kk, .int .i64 Q, .int .i64 N, va, vb, vf] 91
    rwa [World.size_alloc] at this
  have HXg := Lib.hid hxg
  have HXc := Lib.hid hxc
  have HG0 := Lib.hid (hg.below hb0)
  have HB0 := Lib.hid hb0
  have HW0 := Lib.hid hW0
  clear hg hxg hxc hW0
  have HL0 := Lib.hid (RI.below hl hb0)
  have HA0 := Lib.hid (RI.below ha hb0)
  obtain ⟨A2, e2, rfl, hlc, -, -⟩ := HL0.out.open_
  have t0 : (kk == 0) = false := by rw [hk]; decide
  have t1 : (kk == 1) = false := by rw [hk]; decide
  have t2 : (kk == 2) = false := by rw [hk]; decide
  have t3 : (kk == 3) = false := by rw [hk]; decide
  have t4 : (kk == 4) = false := by rw [hk]; decide
  have t7 : (kk == 7) = true := by rw [hk]; decide
  have g0 := HXg.out.cell 0
  have g1 := HXg.out.cell 1
  have x0 := HXc.out.cell 0
  have x1 := HXc.out.cell 1
  have x2 := HXc.out.cell 2
  have x3 := HXc.out.cell 3
  have x4 := HXc.out.cell 4
  have x5 := HXc.out.cell 5
  have HBv0 := Lib.hid (RI.below hbv hb0)
  have HC : Hid (∀ W, Below W0.heap.size W0 W → Calls Tryz.prog 91 #[.agg #[.int .i64 (n : Int), .slice A es.length c], .agg #[.int .i64 kk, .int .i64 Q, .int .i64 N, va, vb, vf], .slice A2 l.length e2] W fun e w' => e = .returned (.int .i64 (settlesE n es Q.toNat a b l)) ∧ Below W.heap.size W w') := fun W h => by
    have h2 := rSettles_any _ va vb vf _ n Q.toNat kk N es a b l W (HG0.out.below h) (RI.below HA0.out h) (RI.below HBv0.out h) (RI.below HL0.out h) hE hn (by omega) hal hbl hab hlb hll
    rwa [Int.toNat_of_nonneg hQ.1] at h2
  clear hl hE hlb hb0 hk ha hbv hal hbl hab hQ
  generalize settlesE n es Q.toNat a b l = RE at *
  go_enter Tryz.func51, Tryz.ntmps51
  go_upto_region 1 with fail
  rw [← HW0.out]
  go_wp2_with fail
  refine (HC.out W0 (Below.refl _ _)).mono ?_
  rintro e w1 ⟨rfl, hb1⟩
  have HB1 := Lib.hid (HB0.out.trans (hb1.mono HB0.out.size))
  clear hb1
  go_wp2
  go_ret
  exact ⟨rfl, HB1.out⟩
theorem prv57_8 (g va vb vf vl : Value) (n : Nat) (kk Q N : Int) (es : List Tri) (fs l : List Int) (w : World) (hg : GV w g n es) (hf : RI w vf fs) (hl : RI w vl l) (hE : Edges n es) (hn1 : 1 ≤ n) (hn : n ≤ 12) (hfl : fs.length ≤ 100000) (hlb : Bd 1048576 l) (hk : kk = 8) :
    Calls Tryz.prog 51 #[g, .agg #[.int .i64 kk, .int .i64 Q, .int .i64 N, va, vb, vf], vl] w fun e w' => e = .returned (.int .i64 (groupedE (n - 1) es fs l)) ∧ Below w.heap.size w w' := by
  obtain ⟨A, c, rfl, -⟩ := hg.open_
  obtain ⟨W0, hW0⟩ : ∃ W0, W0 = (w.alloc (.cells #[.int .i64 (n:Int), .slice A es.length c] 24)).alloc (.cells #[.int .i64 kk, .int .i64 Q, .int .i64 N, va, vb, vf] 91) := ⟨_, rfl⟩
  have hb0 : Below w.heap.size w W0 := by rw [hW0]; exact (below_alloc w _).alloc (by simp) _
  have hxg : BL W0 w.heap.size 24 [.int .i64 (n:Int), .slice A es.length c] := by rw [hW0]; exact (BL.new' w _ _).alloc _
  have hxc : BL W0 (w.heap.size + 1) 91 [.int .i64 kk, .int .i64 Q, .int .i64 N, va, vb, vf] := by
    rw [hW0]
    have := BL.new' (w.alloc (.cells #[.int .i64 (n:Int), .slice A es.length c] 24)) #[.int .i64 kk, .int .i64 Q, .int .i64 N, va, vb, vf] 91
    rwa [World.size_alloc] at this
  have HXg := Lib.hid hxg
  have HXc := Lib.hid hxc
  have HG0 := Lib.hid (hg.below hb0)
  have HB0 := Lib.hid hb0
  have HW0 := Lib.hid hW0
  clear hg hxg hxc hW0
  have HL0 := Lib.hid (RI.below hl hb0)

  obtain ⟨A2, e2, rfl, hlc, -, -⟩ := HL0.out.open_
  have t0 : (kk == 0) = false := by rw [hk]; decide
  have t1 : (kk == 1) = false := by rw [hk]; decide
  have t2 : (kk == 2) = false := by rw [hk]; decide
  have t3 : (kk == 3) = false := by rw [hk]; decide
  have t4 : (kk == 4) = false := by rw [hk]; decide
  have t7 : (kk == 7) = false := by rw [hk]; decide
  have t8 : (kk == 8) = true := by rw [hk]; decide
  have g0 := HXg.out.cell 0
  have g1 := HXg.out.cell 1
  have x0 := HXc.out.cell 0
  have x1 := HXc.out.cell 1
  have x2 := HXc.out.cell 2
  have x3 := HXc.out.cell 3
  have x4 := HXc.out.cell 4
  have x5 := HXc.out.cell 5
  have HF0 := Lib.hid (RI.below hf hb0)
  have HC : Hid (∀ W, Below W0.heap.size W0 W → Calls Tryz.prog 92 #[.agg #[.int .i64 (n : Int), .slice A es.length c], .agg #[.int .i64 kk, .int .i64 Q, .int .i64 N, va, vb, vf], .slice A2 l.length e2] W fun e w' => e = .returned (.int .i64 (groupedE (n - 1) es fs l)) ∧ Below W.heap.size W w') := fun W h => by
    obtain ⟨n1, rfl⟩ : ∃ n1, n = n1 + 1 := ⟨n - 1, by omega⟩
    exact rGrouped_any _ va vb vf _ n1 kk Q N es fs l W (HG0.out.below h) (RI.below HF0.out h) (RI.below HL0.out h) hE (by omega) hfl hlb
  clear hl hE hlb hb0 hk hf hn1 hfl
  generalize groupedE (n - 1) es fs l = RE at *
  go_enter Tryz.func51, Tryz.ntmps51
  go_upto_region 1 with fail
  rw [← HW0.out]
  go_wp2_with fail
  refine (HC.out W0 (Below.refl _ _)).mono ?_
  rintro e w1 ⟨rfl, hb1⟩
  have HB1 := Lib.hid (HB0.out.trans (hb1.mono HB0.out.size))
  clear hb1
  go_wp2
  go_ret
  exact ⟨rfl, HB1.out⟩
theorem prv57_5 (g va vb vf vl : Value) (n : Nat) (kk Q N : Int) (es : List Tri) (a l : List Int) (q : Nat) (w : World) (hg : GV w g n es) (ha : RI w va a) (hl : RI w vl l) (hE : Edges n es) (hn1 : 1 ≤ n) (hn : n ≤ 12) (hQ : Q = (q : Int)) (hq : q < n) (hal : a.length = n) (hll : l.length ≤ 100000) (hk : kk = 5) :
    Calls Tryz.prog 51 #[g, .agg #[.int .i64 kk, .int .i64 Q, .int .i64 N, va, vb, vf], vl] w fun e w' => e = .returned (.int .i64 (fireE n es q a a l)) ∧ Below w.heap.size w w' := by
  obtain ⟨A, c, rfl, -⟩ := hg.open_
  obtain ⟨W0, hW0⟩ : ∃ W0, W0 = (w.alloc (.cells #[.int .i64 (n:Int), .slice A es.length c] 24)).alloc (.cells #[.int .i64 kk, .int .i64 Q, .int .i64 N, va, vb, vf] 91) := ⟨_, rfl⟩
  have hb0 : Below w.heap.size w W0 := by rw [hW0]; exact (below_alloc w _).alloc (by simp) _
  have hxg : BL W0 w.heap.size 24 [.int .i64 (n:Int), .slice A es.length c] := by rw [hW0]; exact (BL.new' w _ _).alloc _
  have hxc : BL W0 (w.heap.size + 1) 91 [.int .i64 kk, .int .i64 Q, .int .i64 N, va, vb, vf] := by
    rw [hW0]
    have := BL.new' (w.alloc (.cells #[.int .i64 (n:Int), .slice A es.length c] 24)) #[.int .i64 kk, .int .i64 Q, .int .i64 N, va, vb, vf] 91
    rwa [World.size_alloc] at this
  have HXg := Lib.hid hxg
  have HXc := Lib.hid hxc
  have HG0 := Lib.hid (hg.below hb0)
  have HB0 := Lib.hid hb0
  have HW0 := Lib.hid hW0
  clear hg hxg hxc hW0
  have HL0 := Lib.hid (RI.below hl hb0)
  have HA0 := Lib.hid (RI.below ha hb0)
  obtain ⟨A2, e2, rfl, hlc, -, -⟩ := HL0.out.open_
  have t0 : (kk == 0) = false := by rw [hk]; decide
  have t1 : (kk == 1) = false := by rw [hk]; decide
  have t2 : (kk == 2) = false := by rw [hk]; decide
  have t3 : (kk == 3) = false := by rw [hk]; decide
  have t4 : (kk == 4) = false := by rw [hk]; decide
  have t7 : (kk == 7) = false := by rw [hk]; decide
  have t8 : (kk == 8) = false := by rw [hk]; decide
  have t6 : (kk == 6) = false := by rw [hk]; decide
  have g0 := HXg.out.cell 0
  have g1 := HXg.out.cell 1
  have x0 := HXc.out.cell 0
  have x1 := HXc.out.cell 1
  have x2 := HXc.out.cell 2
  have x3 := HXc.out.cell 3
  have x4 := HXc.out.cell 4
  have x5 := HXc.out.cell 5
  by_cases hpn : (l.length : Int) = n - 1
  rotate_left
  · have t : ((l.length : Int) != (n : Int) - 1) = true := by simpa using hpn
    have HR : Hid (fireE n es q a a l = 8) := by show _ = _; unfold fireE; rw [if_pos hpn]
    clear hl ha hE hal hpn hb0 hk hQ
    go_enter Tryz.func51, Tryz.ntmps51
    go_upto_region 1 with fail
    rw [← HW0.out]
    go_wp2
    go_ret
    exact ⟨ret_i HR.out.symm, HB0.out⟩
  have t : ((l.length : Int) != (n : Int) - 1) = false := by simpa using hpn
  have HSp : Hid (fireE n es q a a l = if (decide (a.getD q 0 = 0) && !debtB a q && !debtB a q && burnsB n es q a l) = true then 0 else 16) := by show _ = _; unfold fireE; rw [if_neg (by omega)]
  obtain ⟨Aa, ca, rfl, -, -, hca⟩ := HA0.out.open_
  obtain ⟨ada, z, rfl, hzb, hz, hcz⟩ := hca q (by omega)
  rw [getD_of' hz.out] at HSp
  have hqa : (q : Int) < (a.length : Int) := by omega
  have HDa : Hid (∀ W : World, Below W0.heap.size W0 W → Calls Tryz.prog 95 #[.slice (some ada) a.length ca, .int .i64 Q] W fun e w' => e = .returned (.bool (debtB a q)) ∧ w' = W) := fun W h => by rw [hQ]; exact (rDebt_any _ a q W (RI.below HA0.out h) (by omega)).mono fun e w' ⟨h1, h2⟩ => ⟨h1, h2.symm⟩
  have HBu : Hid (∀ W : World, Below W0.heap.size W0 W → Calls Tryz.prog 96 #[.agg #[.int .i64 (n : Int), .slice A es.length c], .int .i64 Q, .slice (some ada) a.length ca, .slice A2 l.length e2] W fun e w' => e = .returned (.bool (burnsB n es q a l)) ∧ Below W.heap.size W w') := fun W h => by
    rw [hQ]
    exact r57Burns_any _ _ _ n q es a l W (HG0.out.below h) (RI.below HA0.out h) (RI.below HL0.out h) hE hn hq hal hll
  have xq : W0.cell? (ada.add Q.toNat) = some (.int .i64 z) := by rw [hQ, Int.toNat_natCast]; exact hcz
  have hq0 : 0 ≤ Q := by omega
  have hq1 : Q < (a.length : Int) := by omega
  clear hl ha hE hal hpn hb0 hk hQ hca hz hcz hzb hqa
  generalize fireE n es q a a l = RE at *
  generalize debtB a q = da at *
  generalize burnsB n es q a l = bu at *
  go_enter Tryz.func51, Tryz.ntmps51
  go_upto_region 1 with fail
  rw [← HW0.out]
  by_cases hz0 : z = 0
  rotate_left
  · have s0 : (z != 0) = true := by rw [bne_iff_ne]; exact hz0
    have HR : Hid (RE = 16) := by show _ = _; rw [HSp.out, decide_eq_false hz0]; rfl
    clear hz0
    go_wp2
    go_ret
    exact ⟨ret_i HR.out.symm, HB0.out⟩
  have s0 : (z != 0) = false := by rw [bne_eq_false_iff_eq]; exact hz0
  rw [decide_eq_true hz0] at HSp
  clear hz0
  go_wp2_with fail
  refine (HDa.out W0 (Below.refl _ _)).mono ?_
  rintro e w1 ⟨rfl, rfl⟩
  cases da
  rotate_left
  · go_wp2
    go_ret
    exact ⟨ret_i (by rw [HSp.out] <;> rfl), HB0.out⟩
  go_wp2_with fail
  refine (HDa.out w1 (Below.refl _ _)).mono ?_
  rintro e w2 ⟨rfl, rfl⟩
  go_wp2_with fail
  refine (HBu.out w2 (Below.refl _ _)).mono ?_
  rintro e w3 ⟨rfl, hb3⟩
  have HB3 := Lib.hid (HB0.out.trans (hb3.mono HB0.out.size))
  clear hb3
  cases bu
  · go_wp2
    go_ret
    exact ⟨ret_i (by rw [HSp.out] <;> rfl), HB3.out⟩
  · go_wp2
    go_ret
    exact ⟨ret_i (by rw [HSp.out] <;> rfl), HB3.out⟩
theorem prv57_6 (g va vb vf vl : Value) (n : Nat) (kk Q N : Int) (es : List Tri) (a l : List Int) (q : Nat) (w : World) (hg : GV w g n es) (ha : RI w va a) (hl : RI w vl l) (hE : Edges n es) (hn1 : 1 ≤ n) (hn : n ≤ 6) (hQ : Q = (q : Int)) (hq : q < n) (hal : a.length = n) (hab : Bd 1048576 a) (hll : l.length ≤ 100000) (hk : kk = 6) :
    Calls Tryz.prog 51 #[g, .agg #[.int .i64 kk, .int .i64 Q, .int .i64 N, va, vb, vf], vl] w fun e w' => e = .returned (.int .i64 (fireE n es q a (restL n es q a) l)) ∧ Below w.heap.size w w' := by
  obtain ⟨A, c, rfl, -⟩ := hg.open_
  obtain ⟨W0, hW0⟩ : ∃ W0, W0 = (w.alloc (.cells #[.int .i64 (n:Int), .slice A es.length c] 24)).alloc (.cells #[.int .i64 kk, .int .i64 Q, .int .i64 N, va, vb, vf] 91) := ⟨_, rfl⟩
  have hb0 : Below w.heap.size w W0 := by rw [hW0]; exact (below_alloc w _).alloc (by simp) _
  have hxg : BL W0 w.heap.size 24 [.int .i64 (n:Int), .slice A es.length c] := by rw [hW0]; exact (BL.new' w _ _).alloc _
  have hxc : BL W0 (w.heap.size + 1) 91 [.int .i64 kk, .int .i64 Q, .int .i64 N, va, vb, vf] := by
    rw [hW0]
    have := BL.new' (w.alloc (.cells #[.int .i64 (n:Int), .slice A es.length c] 24)) #[.int .i64 kk, .int .i64 Q, .int .i64 N, va, vb, vf] 91
    rwa [World.size_alloc] at this
  have HXg := Lib.hid hxg
  have HXc := Lib.hid hxc
  have HG0 := Lib.hid (hg.below hb0)
  have HB0 := Lib.hid hb0
  have HW0 := Lib.hid hW0
  clear hg hxg hxc hW0
  have HL0 := Lib.hid (RI.below hl hb0)
  have HA0 := Lib.hid (RI.below ha hb0)
  obtain ⟨A2, e2, rfl, hlc, -, -⟩ := HL0.out.open_
  have t0 : (kk == 0) = false := by rw [hk]; decide
  have t1 : (kk == 1) = false := by rw [hk]; decide
  have t2 : (kk == 2) = false := by rw [hk]; decide
  have t3 : (kk == 3) = false := by rw [hk]; decide
  have t4 : (kk == 4) = false := by rw [hk]; decide
  have t7 : (kk == 7) = false := by rw [hk]; decide
  have t8 : (kk == 8) = false := by rw [hk]; decide
  have t6 : (kk == 6) = true := by rw [hk]; decide
  have g0 := HXg.out.cell 0
  have g1 := HXg.out.cell 1
  have x0 := HXc.out.cell 0
  have x1 := HXc.out.cell 1
  have x2 := HXc.out.cell 2
  have x3 := HXc.out.cell 3
  have x4 := HXc.out.cell 4
  have x5 := HXc.out.cell 5
  by_cases hpn : (l.length : Int) = n - 1
  rotate_left
  · have t : ((l.length : Int) != (n : Int) - 1) = true := by simpa using hpn
    have HR : Hid (fireE n es q a (restL n es q a) l = 8) := by show _ = _; unfold fireE; rw [if_pos hpn]
    clear hl ha hE hal hpn hb0 hk hQ
    go_enter Tryz.func51, Tryz.ntmps51
    go_upto_region 1 with fail
    rw [← HW0.out]
    go_wp2
    go_ret
    exact ⟨ret_i HR.out.symm, HB0.out⟩
  have t : ((l.length : Int) != (n : Int) - 1) = false := by simpa using hpn
  have HSp : Hid (fireE n es q a (restL n es q a) l = if (decide (a.getD q 0 = 0) && !debtB a q && !debtB (restL n es q a) q && burnsB n es q (restL n es q a) l) = true then 0 else 16) := by show _ = _; unfold fireE; rw [if_neg (by omega)]
  obtain ⟨Aa, ca, rfl, -, -, hca⟩ := HA0.out.open_
  obtain ⟨ada, z, rfl, hzb, hz, hcz⟩ := hca q (by omega)
  rw [getD_of' hz.out] at HSp
  have hqa : (q : Int) < (a.length : Int) := by omega
  have HDa : Hid (∀ W : World, Below W0.heap.size W0 W → Calls Tryz.prog 95 #[.slice (some ada) a.length ca, .int .i64 Q] W fun e w' => e = .returned (.bool (debtB a q)) ∧ w' = W) := fun W h => by rw [hQ]; exact (rDebt_any _ a q W (RI.below HA0.out h) (by omega)).mono fun e w' ⟨h1, h2⟩ => ⟨h1, h2.symm⟩
  have HGr : Hid (∀ W : World, Below W0.heap.size W0 W → Calls Tryz.prog 94 #[.agg #[.int .i64 (n : Int), .slice A es.length c], .int .i64 Q] W fun e w' => ∃ v, e = .returned v ∧ OI w' W.heap.size v (topL n es q) ∧ Below W.heap.size W w') := fun W h => by rw [hQ]; exact rGreat_any _ n q es W (HG0.out.below h) hE hn
  have HPl : Hid (∀ (v : Value) (W : World), Below W0.heap.size W0 W → RI W v (topL n es q) → Calls Tryz.prog 93 #[v, .slice (some ada) a.length ca, .int .i64 (-1)] W fun e w' => ∃ v, e = .returned v ∧ OI w' W.heap.size v (restL n es q a) ∧ Below W.heap.size W w') := fun v W h hv => by
    rw [← top_rest es hal]
    exact rPlus_any _ _ (topL n es q) a (-1) W hv (RI.below HA0.out h) (by rw [hal]; simp [topL]) (by simp [topL]; omega) (fun j hj => by
      have q1 := hab j
      have q2 : -1 ≤ (topL n es q).getD j 0 ∧ (topL n es q).getD j 0 ≤ 300 := by
        have hj' : j < n := by simpa [topL] using hj
        rw [topL_get' es q hj']
        split
        · omega
        · have := valK_le hE j n; omega
      omega)
  have hrl : (restL n es q a).length = n := by simp [restL]
  have HDr : Hid (∀ (v : Value) (W : World), RI W v (restL n es q a) → Calls Tryz.prog 95 #[v, .int .i64 Q] W fun e w' => e = .returned (.bool (debtB (restL n es q a) q)) ∧ w' = W) := fun v W h => by rw [hQ]; exact (rDebt_any v _ q W h (by omega)).mono fun e w' ⟨h1, h2⟩ => ⟨h1, h2.symm⟩
  have HBu : Hid (∀ (v : Value) (W : World), Below W0.heap.size W0 W → RI W v (restL n es q a) → Calls Tryz.prog 96 #[.agg #[.int .i64 (n : Int), .slice A es.length c], .int .i64 Q, v, .slice A2 l.length e2] W fun e w' => e = .returned (.bool (burnsB n es q (restL n es q a) l)) ∧ Below W.heap.size W w') := fun v W h hv => by
    rw [hQ]
    exact r57Burns_any _ v _ n q es _ l W (HG0.out.below h) hv (RI.below HL0.out h) hE (by omega) hq hrl hll
  have HK : Hid (∀ W : World, Below W0.heap.size W0 W → W.cell? ⟨w.heap.size, 0, none⟩ = some (.int .i64 (n : Int)) ∧ W.cell? ⟨w.heap.size, 1, none⟩ = some (.slice A es.length c) ∧ W.cell? ⟨w.heap.size + 1, 1, none⟩ = some (.int .i64 Q) ∧ W.cell? ⟨w.heap.size + 1, 3, none⟩ = some (.slice (some ada) a.length ca)) := fun W h =>
    ⟨(HXg.out.bel h).cell 0, (HXg.out.bel h).cell 1, (HXc.out.bel h).cell 1, (HXc.out.bel h).cell 3⟩
  have HXq : Hid (∀ W : World, Below W0.heap.size W0 W → W.cell? (ada.add Q.toNat) = some (.int .i64 z)) := fun W h => by rw [hQ, Int.toNat_natCast]; exact (h.cell (p := ada.add q) (by rw [block_of_add]; exact hzb)).trans hcz
  have hq0 : 0 ≤ Q := by omega
  have hq1 : Q < (a.length : Int) := by omega
  clear hl ha hE hal hpn hb0 hk hQ hca hz hcz hzb hqa hrl
  generalize fireE n es q a (restL n es q a) l = RE at *
  generalize debtB a q = da at *
  generalize burnsB n es q (restL n es q a) l = bu at *
  generalize debtB (restL n es q a) q = dr at *
  generalize restL n es q a = x at *
  have HS0 := Lib.hid (HK.out W0.drew (Below.refl _ _).drew)
  have HGx := Lib.hid (HGr.out W0.drew (Below.refl _ _).drew)
  go_enter Tryz.func51, Tryz.ntmps51
  go_upto_region 1 with fail
  rw [← HW0.out]
  go_wp2_with fail
  clear g0 g1 x0 x1 x2 x3 x4 x5
  go_region_held3 (fun W : World => W.cell? ⟨w.heap.size, 0, none⟩ = some (.int .i64 (n : Int)) ∧ W.cell? ⟨w.heap.size, 1, none⟩ = some (.slice A es.length c) ∧ W.cell? ⟨w.heap.size + 1, 1, none⟩ = some (.int .i64 Q) ∧ W.cell? ⟨w.heap.size + 1, 3, none⟩ = some (.slice (some ada) a.length ca)) (first | exact HS0.out | exact HSa.out | exact HSb.out)
    (first
      | (go_at_call 94; (with_reducible refine HGx.out.mono ?_); rintro e w6 ⟨v6, rfl, ho6, hb6⟩; have HBa := Lib.hid ((Below.refl W0.heap.size W0).drew.trans hb6); have HSa := Lib.hid (HK.out w6 HBa.out); have HPy := Lib.hid (HPl.out v6 w6 HBa.out ho6.ri); clear ho6 hb6)
      | (go_at_call 93; (with_reducible refine HPy.out.mono ?_); rintro e w7 ⟨v7, rfl, ho7, hb7⟩; have HBb := Lib.hid (HBa.out.trans (hb7.mono HBa.out.size)); have HSb := Lib.hid (HK.out w7 HBb.out); have HO7 := Lib.hid ho7.ri; clear ho7 hb7))
  all_goals
    obtain ⟨g0, g1, x1, x3⟩ := HSb.out
    have xq := HXq.out w7 HBb.out
    have HB7 := Lib.hid (HB0.out.trans (HBb.out.mono HB0.out.size))
    by_cases hz0 : z = 0
    rotate_left
    · have s0 : (z != 0) = true := by rw [bne_iff_ne]; exact hz0
      have HR : Hid (RE = 16) := by show _ = _; rw [HSp.out, decide_eq_false hz0]; rfl
      clear hz0
      go_wp2
      go_ret
      exact ⟨ret_i HR.out.symm, HB7.out⟩
    have s0 : (z != 0) = false := by rw [bne_eq_false_iff_eq]; exact hz0
    rw [decide_eq_true hz0] at HSp
    clear hz0
    go_wp2_with fail
    refine (HDa.out w7 HBb.out).mono ?_
    rintro e w1 ⟨rfl, rfl⟩
    cases da
    rotate_left
    · go_wp2
      go_ret
      exact ⟨ret_i (by rw [HSp.out] <;> rfl), HB7.out⟩
    go_wp2_with fail
    refine (HDr.out v7 w1 HO7.out).mono ?_
    rintro e w2 ⟨rfl, rfl⟩
    cases dr
    rotate_left
    · go_wp2
      go_ret
      exact ⟨ret_i (by rw [HSp.out] <;> rfl), HB7.out⟩
    go_wp2_with fail
    refine (HBu.out v7 w2 HBb.out HO7.out).mono ?_
    rintro e w3 ⟨rfl, hb3⟩
    have HB3 := Lib.hid (HB7.out.trans (hb3.mono HB7.out.size))
    clear hb3
    cases bu
    · go_wp2
      go_ret
      exact ⟨ret_i (by rw [HSp.out] <;> rfl), HB3.out⟩
    · go_wp2
      go_ret
      exact ⟨ret_i (by rw [HSp.out] <;> rfl), HB3.out⟩
end Go.Proofs.YtgcnijmmjlfabaaGreatDoor

