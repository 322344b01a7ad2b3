/- The law EquivalenceFires: what the function answers.
   From what the form hands over to the words of the walks: an argument of type graph, of type divisor, of type script. -/
import Derived.Test.YtefggpdobjboeaaGreatG26
import Derived.Test.YtefggpdobjboeaaGreatG24
import Derived.ProofKit
import Derived.SizedLaws
import Derived.Lib.SmallJoins
import Derived.Deep.Slices
import Derived.Deep.Fields
namespace Go.Proofs.YtefggpdobjboeaaGreat
open Go.RowKit Go.Shelf

theorem tall_clo (w : World) : CloB Tryz.prog w (.func (.func 26) #[] #[]) (fun _ => True) tallB :=
  ⟨_, _, rfl, enters_of Tryz.func26 (by kernel_rfl) rfl, fun W _ x _ => by
    show Calls _ _ #[.int .i64 x] _ _
    by_cases h : x < -4
    · go_enter Tryz.func26, Tryz.ntmps26
      go_wp2
      go_ret
      exact ⟨ret_b (by simp [tallB, h]), rfl⟩
    · go_enter Tryz.func26, Tryz.ntmps26
      go_wp2
      go_ret
      exact ⟨ret_b (by simp [tallB]; omega), rfl⟩⟩
/-- What the law's walk keeps: the graph, a divisor, a script, the box of the graph. -/
structure FC (w : World) (gv : Value) (gu : List Value) (n : Int) (es : List Tri) (va vs : Value) (a s : List Int) (W : World) : Prop where
  g : GV W gv n es
  a : RI W va a
  s : RI W vs s
  x : BL W w.heap.size 24 gu
  b : Below w.heap.size w W
theorem FC.next {w : World} {gv : Value} {gu : List Value} {n : Int} {es : List Tri} {va vs : Value} {a s : List Int} {W W' : World} (h : FC w gv gu n es va vs a s W) (hb : Below W.heap.size W W') : FC w gv gu n es va vs a s W' :=
  ⟨h.g.below hb, RI.below h.a hb, RI.below h.s hb, h.x.bel hb, h.b.trans (hb.mono h.b.size)⟩
set_option maxRecDepth 100000 in
set_option maxHeartbeats 8000000 in
theorem fires_any (g va vs : Value) (n : Int) (es : List Tri) (a s : List Int) (w : World) (hg : GV w g n es) (ha : RI w va a) (hs : RI w vs s) :
    Calls Tryz.prog 6 #[g, va, vs] w fun e w' => e = .returned (.bool true) ∧ Below w.heap.size w w' := by
  obtain ⟨A, c, rfl, -⟩ := hg.open_
  obtain ⟨A2, c2, rfl, -⟩ := RI.open_ ha
  obtain ⟨A3, c3, rfl, -⟩ := RI.open_ hs
  obtain ⟨W0, hW0⟩ : ∃ W0, W0 = w.alloc (.cells #[.int .i64 n, .slice A es.length c] 24) := ⟨_, rfl⟩
  have hb0 : Below w.heap.size w W0 := by rw [hW0]; exact below_alloc w _
  have hz0 : W0.heap.size = w.heap.size + 1 := by rw [hW0]; simp
  have hf0 : FC w (.agg #[.int .i64 n, .slice A es.length c]) [.int .i64 n, .slice A es.length c] n es (.slice A2 a.length c2) (.slice A3 s.length c3) a s W0 :=
    ⟨hg.below hb0, RI.below ha hb0, RI.below hs hb0, by rw [hW0]; exact BL.new' w _ _, hb0⟩
  obtain ⟨W1, hW1⟩ : ∃ W1, W1 = W0.alloc (.cells #[.slice A2 a.length c2] 26) := ⟨_, rfl⟩
  have hb1 : Below W0.heap.size W0 W1 := by rw [hW1]; exact below_alloc W0 _
  have hr1 : RR W1 (.slice (some ⟨w.heap.size + 1, 0, none⟩) 1 1) [a] := by rw [hW1, ← hz0]; exact RR.lit1 26 hf0.a
  have hf1 := hf0.next hb1
  have hri := right_any _ _ n es [a] W1 hf1.g hr1
  have c0 := hf0.x.cell 0
  have c1 := hf0.x.cell 1
  have HF1 := Lib.hid hf1
  have HW0 := Lib.hid hW0
  have HW1 := Lib.hid hW1
  rw [hW0] at c0 c1
  clear hg ha hs hb0 hf0 hb1 hr1 hf1 hW0 hW1 hz0
  have AW : Hid (∀ W, Calls Tryz.prog 10 #[] W fun e w' => e = .returned (.bool true) ∧ Below W.heap.size W w') := awake_any
  go_enter Tryz.func6, Tryz.ntmps6
  go_wp2_with fail
  rw [← HW0.out, ← HW1.out]
  by_cases hR : rightP n es [a] = false
  · rw [hR] at hri
    refine hri.mono ?_
    rintro e w2 ⟨rfl, hb2⟩
    have HF2 := Lib.hid (HF1.out.next hb2)
    clear hb2 hri hR c0 c1
    go_wp2_with fail
    refine (AW.out _).mono ?_
    rintro e w3 ⟨rfl, hb3⟩
    have HF3 := Lib.hid (HF2.out.next hb3)
    clear hb3
    go_wp2
    go_ret
    exact ⟨rfl, HF3.out.b⟩
  have hR : rightP n es [a] = true := by simpa using hR
  rw [hR] at hri
  obtain ⟨hsm, hj, hall⟩ := rightP_iff hR
  obtain ⟨hca, hla⟩ := hall a (by simp)
  obtain ⟨g1, g2, -⟩ := eGiven_ok hj
  obtain ⟨m, rfl, hrt⟩ := rt_of hsm g1 g2
  have HRt := Lib.hid hrt
  have HSm := Lib.hid hsm
  have HJ := Lib.hid hj
  have HCa := Lib.hid hca
  have HLa := Lib.hid hla
  refine hri.mono ?_
  rintro e w2 ⟨rfl, hb2⟩
  have HF2 := Lib.hid (HF1.out.next hb2)
  have d0 := HF2.out.x.cell 0
  have d1 := HF2.out.x.cell 1
  clear hb2 hri hR hsm hj hall hca hla g1 g2 hrt c0 c1
  by_cases hl : s.length ≠ m
  · have t1 : ((s.length : Int) != (m : Int)) = true := by simp; omega
    go_wp2_with fail
    refine (AW.out _).mono ?_
    rintro e w3 ⟨rfl, hb3⟩
    have HF3 := Lib.hid (HF2.out.next hb3)
    clear hb3
    go_wp2
    go_ret
    exact ⟨rfl, HF3.out.b⟩
  have hl : s.length = m := by omega
  have t1 : ((s.length : Int) != (m : Int)) = false := by simp; omega
  have hct := ContainsS_any _ _ s _ _ w2 HF2.out.s (tall_clo w2) (fun _ _ => trivial)
  have HL := Lib.hid hl
  clear hl
  by_cases hta : s.any tallB = true
  · rw [hta] at hct
    have HCt := Lib.hid hct
    clear hct hta
    go_wp2_with fail
    refine HCt.out.mono ?_
    rintro e w3 ⟨rfl, rfl⟩
    go_wp2_with fail
    refine (AW.out _).mono ?_
    rintro e w3 ⟨rfl, hb3⟩
    have HF3 := Lib.hid (HF2.out.next hb3)
    clear hb3
    go_wp2
    go_ret
    exact ⟨rfl, HF3.out.b⟩
  have hta : s.any tallB = false := by simpa using hta
  rw [hta] at hct
  have HCt := Lib.hid hct
  have hsb : ∀ z ∈ s, -4 ≤ z ∧ z ≤ 4 := by
    intro z hz
    have := List.any_eq_false.1 hta z hz
    simp only [tallB, Bool.or_eq_true, decide_eq_true_eq, not_or] at this
    omega
  have HSb := Lib.hid hsb
  obtain ⟨b, hab, hbl, hwy⟩ := apply_ok HRt.out HCa.out (HLa.out HCa.out) HL.out hsb
  have hap := Apply_any _ _ _ m es a s w2 HF2.out.g HF2.out.a HF2.out.s
  rw [hab] at hap
  have HAp := Lib.hid hap
  have HBl := Lib.hid hbl
  have HWy := Lib.hid hwy
  clear hct hta hsb hab hap hbl hwy
  go_wp2_with fail
  refine HCt.out.mono ?_
  rintro e w3 ⟨rfl, rfl⟩
  go_wp2_with fail
  refine HAp.out.mono ?_
  rintro e w3 ⟨vb, rfl, hob, hb3⟩
  obtain ⟨A4, c4, rfl, -⟩ := OV.rv hob
  dsimp only at hob ⊢
  rw [List.length_map] at hob ⊢
  have hf3 := HF2.out.next hb3
  obtain ⟨W4, hW4⟩ : ∃ W4, W4 = w3.alloc (.cells #[.slice A4 b.length c4] 26) := ⟨_, rfl⟩
  have hb4 : Below w3.heap.size w3 W4 := by rw [hW4]; exact below_alloc w3 _
  have hr4 : RR W4 (.slice (some ⟨w3.heap.size, 0, none⟩) 1 1) [b] := by rw [hW4]; exact RR.lit1 26 hob.rv
  have HF4 := Lib.hid (hf3.next hb4)
  have HO4 := Lib.hid (RI.below hob.rv hb4)
  have e0 := hf3.x.cell 0
  have e1 := hf3.x.cell 1
  have hri := right_any _ _ m es [b] W4 HF4.out.g hr4
  have HW4 := Lib.hid hW4
  clear hb3 hf3 hb4 hr4 hob hW4 d0 d1
  go_wp2_with fail
  rw [← HW4.out]
  by_cases hR : rightP m es [b] = false
  · rw [hR] at hri
    refine hri.mono ?_
    rintro e w5 ⟨rfl, hb5⟩
    have HF5 := Lib.hid (HF4.out.next hb5)
    clear hb5 hri hR e0 e1
    go_wp2_with fail
    refine (AW.out _).mono ?_
    rintro e w6 ⟨rfl, hb6⟩
    have HF6 := Lib.hid (HF5.out.next hb6)
    clear hb6
    go_wp2
    go_ret
    exact ⟨rfl, HF6.out.b⟩
  have hR : rightP m es [b] = true := by simpa using hR
  rw [hR] at hri
  obtain ⟨-, -, hall⟩ := rightP_iff hR
  obtain ⟨hcb, hlb⟩ := hall b (by simp)
  have HCb := Lib.hid hcb
  have HLb := Lib.hid hlb
  refine hri.mono ?_
  rintro e w5 ⟨rfl, hb5⟩
  have HF5 := Lib.hid (HF4.out.next hb5)
  have HO5 := Lib.hid (RI.below HO4.out hb5)
  have f0 := HF5.out.x.cell 0
  have f1 := HF5.out.x.cell 1
  have HEq := Lib.hid (Equivalent_any _ _ _ m es a b w5 HF5.out.g HF5.out.a HO5.out HSm.out HLa.out HLb.out)
  have HEg : Hid (eGiven m es [a, b] = 0) := eGiven_of HJ.out fun zs hz => by
    simp only [List.mem_cons, List.not_mem_nil, or_false] at hz
    rcases hz with rfl | rfl
    · exact HCa.out
    · exact HCb.out
  clear hb5 hri hR hall hcb hlb e0 e1
  go_wp2_with fail
  refine HEq.out.mono ?_
  rintro e w6 ⟨bb, vu, u, er, rfl, hou, hb6, hP⟩
  obtain ⟨rfl, rfl, rfl⟩ := fires_eqv HRt.out hP HEg.out HL.out HWy.out
  obtain ⟨A5, c5, rfl, -⟩ := OV.rv hou
  rw [List.length_map] at hou ⊢
  have HF6 := Lib.hid (HF5.out.next hb6)
  have HO6 := Lib.hid (RI.below HO5.out hb6)
  have hle := Least_any _ s w6 HF6.out.s
  rw [leastE_ok HRt.out.n1 (by have := HRt.out.n6; omega) HL.out (fun z hz => by have := HSb.out z hz; rw [inB_iff]; omega)] at hle
  have HLe := Lib.hid hle
  have HU6 := Lib.hid hou
  clear hou hb6 hP hle f0 f1
  go_wp2_with fail
  refine HLe.out.mono ?_
  rintro e w7 ⟨vl, rfl, hol, hb7⟩
  obtain ⟨A6, c6, rfl, -⟩ := OV.rv hol
  dsimp only at hol ⊢
  rw [List.length_map] at hol ⊢
  have HF7 := Lib.hid (HF6.out.next hb7)
  have HO7 := Lib.hid (RI.below HO6.out hb7)
  have heq := EqualS_any _ _ (leastL s) (leastL s) w7 (RI.below HU6.out.rv hb7) hol.rv
  rw [(eqL_iff _ _).2 rfl] at heq
  have HEs := Lib.hid heq
  clear hol hb7 heq
  go_wp2_with fail
  refine HEs.out.mono ?_
  rintro e w8 ⟨rfl, j8, hw8⟩
  have hb8 : Below w7.heap.size w7 w8 := by rw [hw8]; exact below_drewN (Below.refl _ _) j8
  have HF8 := Lib.hid (HF7.out.next hb8)
  have HO8 := Lib.hid (RI.below HO7.out hb8)
  have HCl := Lib.hid (CloneD_any _ b w8 HO8.out (by have := HBl.out; have := HRt.out.n6; omega))
  clear hw8 hb8
  go_wp2_with fail
  refine HCl.out.mono ?_
  rintro e w9 ⟨vm, rfl, hom, hb9⟩
  have hbp : 1 ≤ b.length := by have := HBl.out; have := HRt.out.n1; omega
  obtain ⟨gm, cm, rfl, hgm, -⟩ := OV.shape hom (by simpa using hbp)
  rw [List.length_map] at hom ⊢
  obtain ⟨-, -, q0, q1, q2⟩ := OI.at' hom (k := 0) (by omega)
  have hlb9 := HLb.out HCb.out 0
  have hbl1 : (0 : Int) < b.length := by omega
  obtain ⟨z, hz⟩ : ∃ z, z = b.getD 0 0 := ⟨_, rfl⟩
  rw [← hz] at q0 hlb9
  have HZ := Lib.hid hz
  obtain ⟨W9, hW9⟩ : ∃ W9, W9 = w9.setCell ⟨gm, 0, none⟩ (.int .i64 (z + 1)) := ⟨_, rfl⟩
  have hf9 := HF8.out.next hb9
  have hbw : Below w8.heap.size w8 W9 := by rw [hW9]; exact hb9.setCell (p := ⟨gm, 0, none⟩) hgm _
  have HF9 := Lib.hid (HF8.out.next hbw)
  obtain ⟨mr, hmr⟩ : ∃ mr, mr = b.set 0 (z + 1) := ⟨_, rfl⟩
  have hom9 : OI W9 w8.heap.size (.slice (some ⟨gm, 0, none⟩) b.length cm) mr := by rw [hW9, hmr]; exact (q2 (z + 1)).1
  have hml : mr.length = b.length := by rw [hmr]; simp
  have HO9 := Lib.hid hom9
  have HMl := Lib.hid hml
  have HMr := Lib.hid hmr
  have r0 := HF9.out.x.cell 0
  have r1 := HF9.out.x.cell 1
  have hlo := rLow_any _ _ m es mr W9 HF9.out.g hom9.rv
  rw [hW9] at r0 r1
  have HW9 := Lib.hid hW9
  clear hz hf9 hbw hom9 hml hmr hW9 hom q2 hb9 hgm
  go_wp2_with fail
  rw [← HW9.out]
  by_cases hlw : lowB m mr = false
  · rw [hlw] at hlo
    refine hlo.mono ?_
    rintro e x1 ⟨rfl, hy1⟩
    have HG1 := Lib.hid (HF9.out.next hy1)
    clear hy1 hlo hlw r0 r1
    go_wp2_with fail
    refine (AW.out _).mono ?_
    rintro e x2 ⟨rfl, hy2⟩
    have HG2 := Lib.hid (HG1.out.next hy2)
    clear hy2
    go_wp2
    go_ret
    exact ⟨rfl, HG2.out.b⟩
  have hlw : lowB m mr = true := by simpa using hlw
  rw [hlw] at hlo
  have HLw := Lib.hid (lowB_lw hlw)
  refine hlo.mono ?_
  rintro e x1 ⟨rfl, hy1⟩
  have HG1 := Lib.hid (HF9.out.next hy1)
  have HM1 := Lib.hid (RI.below HO9.out.rv hy1)
  have hcm : checkE mr m = 0 := by
    refine checkE_of HRt.out.n1 (by have := HRt.out.n6; omega) (HMl.out.trans HBl.out) fun z' hz' => ?_
    rw [HMr.out] at hz'
    have hbd : Bd 100 b := HLb.out HCb.out
    rcases List.mem_or_eq_of_mem_set hz' with h | h
    · exact bd_inB hbd (by decide) z' h
    · rw [h, inB_iff]; omega
  have HEg2 : Hid (eGiven m es [a, mr] = 0) := eGiven_of HJ.out fun zs hz => by
    simp only [List.mem_cons, List.not_mem_nil, or_false] at hz
    rcases hz with rfl | rfl
    · exact HCa.out
    · exact hcm
  have s0 := HG1.out.x.cell 0
  have s1 := HG1.out.x.cell 1
  have heq2 := Equivalent_any _ _ _ m es a mr x1 HG1.out.g HG1.out.a HM1.out HSm.out HLa.out HLw.out
  have HEq2 := Lib.hid heq2
  clear hy1 hlo hlw hcm r0 r1 heq2
  go_wp2_with fail
  refine HEq2.out.mono ?_
  rintro e x2 ⟨bb, vw, uw, er, rfl, how, hy2, hP⟩
  obtain ⟨rfl, rfl, rfl⟩ := fires_not HRt.out hP HEg2.out HWy.out fun v hv => by
    rw [HMr.out, List.getD_eq_getElem?_getD, List.getElem?_set]
    by_cases h0 : v = 0
    · subst h0
      rw [if_pos rfl, if_pos (by omega), if_pos rfl, ← HZ.out]; rfl
    · rw [if_neg (fun e => h0 e.symm), if_neg h0, ← List.getD_eq_getElem?_getD]; omega
  obtain ⟨A7, c7, rfl, -⟩ := OV.rv how
  simp only [List.map_nil, List.length_nil] at how ⊢
  have HG2 := Lib.hid (HG1.out.next hy2)
  clear how hy2 hP s0 s1
  go_wp2_with fail
  refine (AW.out _).mono ?_
  rintro e x3 ⟨rfl, hy3⟩
  have HG3 := Lib.hid (HG2.out.next hy3)
  clear hy3
  go_wp2
  go_ret
  exact ⟨rfl, HG3.out.b⟩
end Go.Proofs.YtefggpdobjboeaaGreat

namespace Go.Proofs.YtefggpdobjboeaaGreat
open Go.ChangeShapes Go.WideShapes Go.ChangeAt Go.RowKit Go.Shelf

theorem own_ : ownKnob Tryz.prog.godebug = none := by kernel_rfl
theorem laidOut_ : laidOutB Tryz.prog = true := by kernel_rfl
theorem cellsInt_ : Tryz.prog.cellsOf 3 = 1 := by kernel_rfl
theorem bytesInt_ : Tryz.prog.bytesOf 3 = 8 := by kernel_rfl
theorem block_lt_of_cell' {W : World} {a : Addr} {v : Value} (h : W.cell? a = some v) : a.block < W.heap.size := by
  rcases Nat.lt_or_ge a.block W.heap.size with h' | h'
  · exact h'
  · simp [World.cell?, Array.getElem?_eq_none h'] at h

set_option maxRecDepth 100000 in
theorem open_div {H : Type} {enc : TypeId × Value → H} {W : World} {base : Nat} {v : Value} {d : DataW H} {p : List MemPlace} (hv : Value.okWide Tryz.prog W .any base 26 v)
    (h : DataW.Trod enc Tryz.prog W 0 (fun _ => true) true 26 v d p) (hs : ∀ elems spare, d = .slice elems spare → (elems.length + spare.length) * 8 ≤ 140737488351232) : ∃ xs, RI W v xs := by
  obtain ⟨a0, len, cap, rfl⟩ := okWide_slice Tryz.underlying26 hv
  obtain ⟨fuel, hf⟩ := h
  rcases open_ints Tryz.underlying26 Tryz.underlying3 cellsInt_ hf with ⟨hcs, hx⟩ | ⟨a, len', cap', zs, hcs, _, hl, hm, hz, hx, hcell, hwz⟩
  · simp [Value.cells] at hcs
    obtain ⟨rfl, rfl, rfl⟩ := hcs
    exact ⟨[], RI.nil_ W⟩
  · simp [Value.cells] at hcs
    obtain ⟨rfl, rfl, rfl⟩ := hcs
    simp only [Prod.mk.injEq] at hx
    obtain ⟨rfl, rfl⟩ := hx
    simp only [if_true] at hz
    have hreach := hs _ _ rfl
    simp only [lits, List.length_map, List.length_take, List.length_drop] at hreach
    have hlen : (zs.take len).length = len := by rw [List.length_take]; omega
    refine ⟨zs.take len, ?_⟩
    have key := RI.mk_ (w := W) (A := some a) (c := cap) (zs := zs.take len) (by omega) (by omega) fun k z hk => ?_
    · rw [hlen] at key; exact key
    · have hk2 : k < (zs.take len).length := (List.getElem?_eq_some_iff.1 hk).1
      have hkz : k < zs.length := by omega
      have hc := hcell k hkz
      have e : zs.getD k 0 = z := by
        rw [List.getElem?_take, if_pos (by omega)] at hk
        rw [List.getD_eq_getElem?_getD, hk]; rfl
      rw [e] at hc
      exact ⟨a, rfl, by have := block_lt_of_cell' hc; rwa [block_of_add] at this, hc⟩

set_option maxRecDepth 100000 in
theorem sized_div {H : Type} {ts : List TypeId} {ds : List (DataW H)} (hsz : (DataW.weightsEach Tryz.prog ts ds).all (· ≤ reachBytes) = true) {j : Nat} {d : DataW H} (ht : ts[j]? = some 26) (hd : ds[j]? = some d) :
    ∀ elems spare, d = .slice elems spare → (elems.length + spare.length) * 8 ≤ 140737488351232 := by
  intro elems spare e
  subst e
  have := sized_slice hsz ht hd Tryz.underlying26
  rw [bytesInt_] at this
  simp only [reachBytes] at this
  omega
set_option maxRecDepth 100000 in
theorem open_scr {H : Type} {enc : TypeId × Value → H} {W : World} {base : Nat} {v : Value} {d : DataW H} {p : List MemPlace} (hv : Value.okWide Tryz.prog W .any base 29 v)
    (h : DataW.Trod enc Tryz.prog W 0 (fun _ => true) true 29 v d p) (hs : ∀ elems spare, d = .slice elems spare → (elems.length + spare.length) * 8 ≤ 140737488351232) : ∃ xs, RI W v xs := by
  obtain ⟨a0, len, cap, rfl⟩ := okWide_slice Tryz.underlying29 hv
  obtain ⟨fuel, hf⟩ := h
  rcases open_ints Tryz.underlying29 Tryz.underlying3 cellsInt_ hf with ⟨hcs, hx⟩ | ⟨a, len', cap', zs, hcs, _, hl, hm, hz, hx, hcell, hwz⟩
  · simp [Value.cells] at hcs
    obtain ⟨rfl, rfl, rfl⟩ := hcs
    exact ⟨[], RI.nil_ W⟩
  · simp [Value.cells] at hcs
    obtain ⟨rfl, rfl, rfl⟩ := hcs
    simp only [Prod.mk.injEq] at hx
    obtain ⟨rfl, rfl⟩ := hx
    simp only [if_true] at hz
    have hreach := hs _ _ rfl
    simp only [lits, List.length_map, List.length_take, List.length_drop] at hreach
    have hlen : (zs.take len).length = len := by rw [List.length_take]; omega
    refine ⟨zs.take len, ?_⟩
    have key := RI.mk_ (w := W) (A := some a) (c := cap) (zs := zs.take len) (by omega) (by omega) fun k z hk => ?_
    · rw [hlen] at key; exact key
    · have hk2 : k < (zs.take len).length := (List.getElem?_eq_some_iff.1 hk).1
      have hkz : k < zs.length := by omega
      have hc := hcell k hkz
      have e : zs.getD k 0 = z := by
        rw [List.getElem?_take, if_pos (by omega)] at hk
        rw [List.getD_eq_getElem?_getD, hk]; rfl
      rw [e] at hc
      exact ⟨a, rfl, by have := block_lt_of_cell' hc; rwa [block_of_add] at this, hc⟩

set_option maxRecDepth 100000 in
theorem sized_scr {H : Type} {ts : List TypeId} {ds : List (DataW H)} (hsz : (DataW.weightsEach Tryz.prog ts ds).all (· ≤ reachBytes) = true) {j : Nat} {d : DataW H} (ht : ts[j]? = some 29) (hd : ds[j]? = some d) :
    ∀ elems spare, d = .slice elems spare → (elems.length + spare.length) * 8 ≤ 140737488351232 := by
  intro elems spare e
  subst e
  have := sized_slice hsz ht hd Tryz.underlying29
  rw [bytesInt_] at this
  simp only [reachBytes] at this
  omega
theorem cellsEdge_ : Tryz.prog.cellsOf 76 = 3 := by kernel_rfl
theorem bytesEdge_ : Tryz.prog.bytesOf 76 = 24 := by kernel_rfl
/-- A list of what there is for each number. -/
theorem list_of {α : Type} (l : Nat) (p : Nat → α → Prop) (h : ∀ i, i < l → ∃ t, p i t) : ∃ L : List α, L.length = l ∧ ∀ k t, L[k]? = some t → p k t := by
  induction l with
  | zero => exact ⟨[], rfl, fun k t hk => by simp at hk⟩
  | succ l ih =>
    obtain ⟨L, h1, h2⟩ := ih fun i hi => h i (by omega)
    obtain ⟨t, ht⟩ := h l (by omega)
    refine ⟨L ++ [t], by simp [h1], fun k u hk => ?_⟩
    by_cases hkl : k < L.length
    · rw [List.getElem?_append_left hkl] at hk; exact h2 k u hk
    · rw [List.getElem?_append_right (by omega)] at hk
      by_cases e : k = L.length
      · subst e
        simp only [Nat.sub_self, List.getElem?_cons_zero, Option.some.injEq] at hk
        rw [h1, ← hk]; exact ht
      · rw [List.getElem?_eq_none (by simp; omega)] at hk; cases hk
/-- A struct of three ints out of its three cells. -/
theorem edge_of' {H : Type} {enc : TypeId × Value → H} {P : Program} {W : World} {e : TypeId} {f0 f1 f2 : Field} (hu : P.underlying e = some (.struct #[f0, f1, f2])) (hone : Go.Deep.oneCellFields P #[f0, f1, f2] = true) (hC : P.cellsOf e = 3)
    (t0 : P.underlying f0.type = some (.int .i64)) (t1 : P.underlying f1.type = some (.int .i64)) (t2 : P.underlying f2.type = some (.int .i64)) {n : Nat} {cs : List Value} {x : DataW H × List MemPlace} (h : DataW.trod enc P W 0 (fun _ => true) true n e cs = some x) :
    ∃ a b m : Int, cs = [.int .i64 a, .int .i64 b, .int .i64 m] := by
  obtain ⟨xs, k, -, -, hl, hxl, hf⟩ := DataW.trod_struct hu h
  rw [hC] at hl
  obtain ⟨o0, k0⟩ := Go.Deep.hone_of hone 0 f0 rfl
  obtain ⟨o1, k1⟩ := Go.Deep.hone_of hone 1 f1 rfl
  obtain ⟨o2, k2⟩ := Go.Deep.hone_of hone 2 f2 rfl
  match cs, hl with
  | [c0, c1, c2], _ =>
    match xs, hxl with
    | [y0, y1, y2], _ =>
      have h0 := hf 0 f0 rfl
      have h1 := hf 1 f1 rfl
      have h2 := hf 2 f2 rfl
      simp only [o0, k0, o1, k1, o2, k2, List.drop_zero, List.drop_succ_cons, List.take_succ_cons, List.take_zero, List.getElem?_cons_zero, List.getElem?_cons_succ] at h0 h1 h2
      obtain ⟨a, ha, -, -⟩ := DataW.trod_int t0 h0
      obtain ⟨b, hb, -, -⟩ := DataW.trod_int t1 h1
      obtain ⟨m, hm, -, -⟩ := DataW.trod_int t2 h2
      simp only [List.cons.injEq, and_true] at ha hb hm
      exact ⟨a, b, m, by rw [ha, hb, hm]⟩
set_option maxRecDepth 100000 in
theorem edge_of {H : Type} {enc : TypeId × Value → H} {W : World} {n : Nat} {cs : List Value} {x : DataW H × List MemPlace} (h : DataW.trod enc Tryz.prog W 0 (fun _ => true) true n 76 cs = some x) : ∃ a b m : Int, cs = [.int .i64 a, .int .i64 b, .int .i64 m] :=
  edge_of' Tryz.underlying76 (by kernel_rfl) cellsEdge_ Tryz.underlying3 Tryz.underlying3 Tryz.underlying3 h
set_option maxRecDepth 100000 in
theorem open_graph {H : Type} {enc : TypeId × Value → H} {W : World} {base : Nat} {v : Value} {d : DataW H} {p : List MemPlace} (hv : Value.okWide Tryz.prog W .any base 24 v)
    (h : DataW.Trod enc Tryz.prog W 0 (fun _ => true) true 24 v d p) (hs : ∀ y elems spare, d = .agg [y, .slice elems spare] → (elems.length + spare.length) * 24 ≤ 140737488351232) : ∃ n es, GV W v n es := by
  obtain ⟨v0, v1, y0, y1, n, rfl, rfl, -, h0, h1⟩ := Go.Joins.open_agg2 Tryz.underlying24 (by kernel_rfl) (by kernel_rfl) hv h
  obtain ⟨z, hz, -, -⟩ := DataW.trod_int Tryz.underlying3 h0
  simp only [List.cons.injEq, and_true] at hz
  subst hz
  refine ⟨z, ?_⟩
  rcases Go.Deep.open_slice Tryz.underlying22 h1 with ⟨hcs, -⟩ | ⟨a, len, cap, m, k, D, Pl, hcs, -, hl, -, hm, hx, hi⟩
  · simp only [List.cons.injEq, and_true] at hcs
    subst hcs
    exact ⟨[], _, rfl, none, 0, rfl, Nat.zero_le _, by decide, fun k hk => by simp at hk⟩
  · simp only [List.cons.injEq, and_true] at hcs
    subst hcs
    simp only [if_true] at hm
    have hreach := hs _ _ _ (by rw [hx])
    simp only [List.length_map, List.length_range] at hreach
    obtain ⟨es, hel, hes⟩ := list_of (α := Tri) len (fun i t => W.cell? (a.add (i * 3)) = some (.int .i64 t.1) ∧ W.cell? ⟨(a.add (i * 3)).block, (a.add (i * 3)).off + 1, none⟩ = some (.int .i64 t.2.1) ∧ W.cell? ⟨(a.add (i * 3)).block, (a.add (i * 3)).off + 2, none⟩ = some (.int .i64 t.2.2)) fun i hil => by
      obtain ⟨cs', hc, ht⟩ := hi i (by omega)
      rw [cellsEdge_] at hc
      obtain ⟨x, y, q, rfl⟩ := edge_of ht
      obtain ⟨_, _, hat⟩ := World.cells?_some hc
      have a0 := hat 0 (by omega)
      have a1 := hat 1 (by omega)
      have a2 := hat 2 (by omega)
      simp only [List.getElem?_cons_zero, List.getElem?_cons_succ] at a0 a1 a2
      rw [show (a.add (i * 3)).add 0 = a.add (i * 3) by simp [Addr.add]] at a0
      rw [show (a.add (i * 3)).add 1 = ⟨(a.add (i * 3)).block, (a.add (i * 3)).off + 1, none⟩ by simp [Addr.add]] at a1
      rw [show (a.add (i * 3)).add 2 = ⟨(a.add (i * 3)).block, (a.add (i * 3)).off + 2, none⟩ by simp [Addr.add]] at a2
      exact ⟨(x, y, q), a0, a1, a2⟩
    refine ⟨es, _, rfl, some a, cap, by rw [hel], by omega, by omega, fun k hk => ?_⟩
    obtain ⟨c0, c1, c2⟩ := hes k es[k] (List.getElem?_eq_getElem hk)
    exact ⟨a, es[k].1, es[k].2.1, es[k].2.2, rfl, by have := block_lt_of_cell' c0; rwa [block_of_add] at this, List.getElem?_eq_getElem hk, c0, c1, c2⟩
set_option maxRecDepth 100000 in
theorem sized_graph {H : Type} {ts : List TypeId} {ds : List (DataW H)} (hsz : (DataW.weightsEach Tryz.prog ts ds).all (· ≤ reachBytes) = true) {j : Nat} {d : DataW H} (ht : ts[j]? = some 24) (hd : ds[j]? = some d) :
    ∀ y elems spare, d = .agg [y, .slice elems spare] → (elems.length + spare.length) * 24 ≤ 140737488351232 := by
  intro y elems spare e
  subst e
  have := List.all_eq_true.1 hsz _ (DataW.weights_mem_each ht hd ((elems.length + spare.length) * Tryz.prog.bytesOf 76) (by simp [DataW.weights, DataW.weightsEach, Tryz.underlying24, Tryz.underlying22]))
  have h2 := of_decide_eq_true this
  rw [bytesEdge_] at h2
  simp only [reachBytes] at h2
  omega
end Go.Proofs.YtefggpdobjboeaaGreat
