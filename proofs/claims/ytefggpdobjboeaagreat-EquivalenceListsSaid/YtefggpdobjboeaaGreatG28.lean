/- The law Chains in plain words.
   The law EquivalenceChains: what the function answers. Printed by gen/chains35.py.
   From what the form hands over to the words of the walks: an argument that is a pair of scripts. -/
import Derived.Test.YtefggpdobjboeaaGreatG26
import Derived.Test.YtefggpdobjboeaaGreatG27
import Derived.OpenShut
namespace Go.Proofs.YtefggpdobjboeaaGreat
open Go.RowKit Go.Shelf

theorem lap_shift {n : Nat} {w : Nat → Nat → Int} {s t : Nat → Int} {c : Int} (h : ∀ v, v < n → s v = t v + c) {v : Nat} (hv : v < n) : lap n w s v = lap n w t v := by
  unfold lap
  refine sumN_congr fun u hu => ?_
  rw [h v hv, h u hu, show t v + c - (t u + c) = t v - t u by omega]
theorem apply_ok2 {m : Nat} {es : List Tri} {a s : List Int} {B : Int} (h : Rt m es) (ha : checkE a m = 0) (hb : Bd B a) (hB : 0 ≤ B ∧ B ≤ 900000) (hl : s.length = m) (hs : ∀ z ∈ s, -4 ≤ z ∧ z ≤ 4) :
    ∃ b, applyL m es a s = (b, 0) ∧ b.length = m ∧ Way m es a b (fun v => s.getD v 0) ∧ Bd (B + 7200) b ∧ checkE b m = 0 := by
  obtain ⟨_, h12, hal, _⟩ := checkE_ok ha
  have hal' : a.length = m := by omega
  have hsb : Bd 4 s := mem_bd (by decide) hs
  have hcs : checkE s m = 0 := checkE_of h.n1 (by omega) hl (bd_inB hsb (by decide))
  have hmb := moveE_bd (S := 4) (B := B) hal' h.ed.ends h.ed.mult hsb hb
  have hes := es_le h
  have hmb2 : Bd (B + 7200) (moveE s es a) := hmb.mono (by omega)
  have hin : (moveE s es a).all InB = true := List.all_eq_true.2 (bd_inB hmb2 (by omega))
  have hml : (moveE s es a).length = m := by rw [moveE_len]; exact hal'
  refine ⟨moveE s es a, ?_, hml, fun v hv => ?_, hmb2, checkE_of h.n1 (by omega) hml (bd_inB hmb2 (by omega))⟩
  · have g1 : fGiven m es a = 0 := by unfold fGiven; rw [if_neg (by simpa using h.gc), ha]
    have g2 : fGiven m es s = 0 := by unfold fGiven; rw [if_neg (by simpa using h.gc), hcs]
    unfold applyL
    rw [if_neg (by simpa using g1), if_neg (by simpa using g2)]
    unfold bndL
    rw [if_pos hin]
  · rw [moveE_get hal' h.ed.ends v, ← lap_edges h.ed.ends]
    omega
theorem eqv_way {m : Nat} {es : List Tri} {a b u : List Int} {t : Nat → Int} {bb : Bool} {er : Int} (h : EqvP m es a b bb u er) (h0 : eGiven m es [a, b] = 0) (hw : Way m es a b t) : er = 0 ∧ bb = true ∧ LeastOf m u t := by
  obtain ⟨he, m', hm, hr', h⟩ := h.ok h0
  obtain rfl : m = m' := by omega
  rcases h with ⟨hb, _, h⟩ | ⟨_, hn, _⟩
  · exact ⟨he, hb, h _ hw⟩
  · exact absurd ⟨_, hw⟩ hn
theorem way_refl (m : Nat) (es : List Tri) (a : List Int) : Way m es a a (fun _ => 0) := fun v _ => by
  have : lap m (wgt es) (fun _ => 0) v = 0 := by
    unfold lap
    simp only [Int.sub_self, Int.mul_zero]
    exact sumN_zero fun _ _ => rfl
  rw [this]; omega
theorem way_add {m : Nat} {es : List Tri} {a b c : List Int} {s t : Nat → Int} (h : Way m es a b s) (k : Way m es b c t) : Way m es a c (fun v => s v + t v) := fun v hv => by
  have e1 := h v hv
  have e2 := k v hv
  rw [lap_add]; omega
theorem way_neg {m : Nat} {es : List Tri} {a b : List Int} {s : Nat → Int} (h : Way m es a b s) : Way m es b a (fun v => - s v) := fun v hv => by
  have e1 := h v hv
  rw [lap_neg]; omega
theorem least_zero {m : Nat} {u : List Int} (h : LeastOf m u (fun _ => 0)) : u.any (fun z => z != 0) = false := by
  obtain ⟨h1, ⟨c, h2⟩, h3, x, hx, h4⟩ := h
  have hc := h2 x hx
  rw [List.any_eq_false]
  intro z hz
  obtain ⟨k, hk, rfl⟩ := List.mem_iff_getElem.1 hz
  have := h2 k (by omega)
  rw [List.getD_eq_getElem?_getD, List.getElem?_eq_getElem hk] at this
  simp only [Option.getD_some] at this
  dsimp only at hc
  simp; omega
/-- The least script with the effect of a small one is small. -/
theorem least_small {m : Nat} {u s : List Int} (h : LeastOf m u (fun v => s.getD v 0)) (hs : ∀ z ∈ s, -4 ≤ z ∧ z ≤ 4) : ∀ v, v < m → 0 ≤ u.getD v 0 ∧ u.getD v 0 ≤ 8 := by
  obtain ⟨h1, ⟨c, h2⟩, h3, x, hx, h4⟩ := h
  have hb : Bd 4 s := mem_bd (by decide) hs
  intro v hv
  have a1 := h2 v hv
  have a2 := h2 x hx
  have a3 := h3 v hv
  have a4 := hb v
  have a5 := hb x
  simp only at a1 a2
  omega
theorem sum_getD {u v : List Int} {m : Nat} (hu : u.length = m) (hv : v.length = m) {k : Nat} (hk : k < m) : (List.zipWith (fun x y => x + y) u v).getD k 0 = u.getD k 0 + v.getD k 0 := by
  simp only [List.getD_eq_getElem?_getD]
  rw [List.getElem?_eq_getElem (by simp; omega), List.getElem?_eq_getElem (by omega), List.getElem?_eq_getElem (by omega)]
  simp
/-- The sum of the least scripts of two steps leads all the way, and its least one is that of the whole way. -/
theorem chain_end {m : Nat} {es : List Tri} {a b c s t u v w : List Int} (hr : Rt m es) (hca : checkE a m = 0) (hcc : checkE c m = 0) (hs : ∀ z ∈ s, -4 ≤ z ∧ z ≤ 4) (ht : ∀ z ∈ t, -4 ≤ z ∧ z ≤ 4)
    (h1 : Way m es a b (fun k => s.getD k 0)) (h2 : Way m es b c (fun k => t.getD k 0)) (hu : LeastOf m u (fun k => s.getD k 0)) (hv : LeastOf m v (fun k => t.getD k 0)) (hw : LeastOf m w (fun k => s.getD k 0 + t.getD k 0)) (h0 : eGiven m es [a, c] = 0) :
    leastE (List.zipWith (fun x y => x + y) u v) = (w, 0) ∧ verifyE m es a c (List.zipWith (fun x y => x + y) u v) = 0 := by
  obtain ⟨sm, hsm⟩ : ∃ sm, sm = List.zipWith (fun x y : Int => x + y) u v := ⟨_, rfl⟩
  have hul := hu.1
  have hvl := hv.1
  have hml : sm.length = m := by rw [hsm]; simp; omega
  have hg : ∀ k, k < m → sm.getD k 0 = u.getD k 0 + v.getD k 0 := fun k hk => by rw [hsm]; exact sum_getD hul hvl hk
  have su := least_small hu hs
  have sv := least_small hv ht
  have hsb : ∀ z ∈ sm, InB z = true := by
    intro z hz
    obtain ⟨k, hk, rfl⟩ := List.mem_iff_getElem.1 hz
    have e := hg k (by omega)
    rw [List.getD_eq_getElem?_getD, List.getElem?_eq_getElem hk] at e
    simp only [Option.getD_some] at e
    have := su k (by omega)
    have := sv k (by omega)
    rw [inB_iff]; omega
  obtain ⟨cu, hcu⟩ := hu.2.1
  obtain ⟨cv, hcv⟩ := hv.2.1
  have hsh : ∀ k, k < m → sm.getD k 0 = (s.getD k 0 + t.getD k 0) + (-(cu + cv)) := fun k hk => by
    have e1 := hcu k hk
    have e2 := hcv k hk
    have e3 := hg k hk
    simp only at e1 e2
    omega
  rw [← hsm]
  have hn6 := hr.n6
  refine ⟨?_, ?_⟩
  · rw [leastE_ok hr.n1 (by omega) hml hsb]
    have hls := leastL_of (s := sm) (by have := hr.n1; omega)
    rw [hml] at hls
    rw [hls.uniq hw hsh]
  · have hcs : checkE sm m = 0 := checkE_of hr.n1 (by omega) hml hsb
    have hg3 : eGiven m es [a, c, sm] = 0 := by
      obtain ⟨q1, q2, -⟩ := eGiven_ok h0
      have : eGiven m es [] = 0 := by unfold eGiven; rw [if_neg (by simpa using q1), if_neg (by simp [q2])]; rfl
      refine eGiven_of this fun zs hz => ?_
      simp only [List.mem_cons, List.not_mem_nil, or_false] at hz
      rcases hz with rfl | rfl | rfl
      · exact hca
      · exact hcc
      · exact hcs
    obtain ⟨_, h12, hal, _⟩ := checkE_ok hca
    obtain ⟨_, _, hcl, hci⟩ := checkE_ok hcc
    have hal' : a.length = m := by omega
    have hmv : moveE sm es a = c := by
      refine List.ext_getElem (by rw [moveE_len]; omega) fun k hk hk' => ?_
      have hkm : k < m := by rw [moveE_len] at hk; omega
      have e := moveE_get (s := sm) hal' hr.ed.ends k
      rw [← lap_edges hr.ed.ends, lap_shift hsh hkm] at e
      have ew := way_add h1 h2 k hkm
      rw [List.getD_eq_getElem?_getD, List.getElem?_eq_getElem hk] at e
      rw [List.getD_eq_getElem?_getD (l := c), List.getElem?_eq_getElem hk'] at ew
      simp only [Option.getD_some] at e ew
      omega
    have g1 : fGiven m es a = 0 := by unfold fGiven; rw [if_neg (by simpa using hr.gc), hca]
    have g2 : fGiven m es sm = 0 := by unfold fGiven; rw [if_neg (by simpa using hr.gc), hcs]
    have hap : applyL m es a sm = (c, 0) := by
      unfold applyL
      rw [if_neg (by simpa using g1), if_neg (by simpa using g2), hmv]
      unfold bndL
      rw [if_pos hci]
    unfold verifyE
    rw [if_neg (by simpa using hg3), hap, if_pos ⟨rfl, rfl⟩]
end Go.Proofs.YtefggpdobjboeaaGreat

namespace Go.Proofs.YtefggpdobjboeaaGreat
open Go.RowKit Go.Shelf

theorem tallC_clo (w : World) : CloB Tryz.prog w (.func (.func 34) #[] #[]) (fun _ => True) tallB :=
  ⟨_, _, rfl, enters_of Tryz.func34 (by kernel_rfl) rfl, fun W _ x _ => by
    show Calls _ _ #[.int .i64 x] _ _
    by_cases h : x < -4
    · go_enter Tryz.func34, Tryz.ntmps34
      go_wp2
      go_ret
      exact ⟨ret_b (by simp [tallB, h]), rfl⟩
    · go_enter Tryz.func34, Tryz.ntmps34
      go_wp2
      go_ret
      exact ⟨ret_b (by simp [tallB]; omega), rfl⟩⟩
theorem nzC_clo (w : World) : CloB Tryz.prog w (.func (.func 35) #[] #[]) (fun _ => True) (fun z => z != 0) :=
  ⟨_, _, rfl, enters_of Tryz.func35 (by kernel_rfl) rfl, fun W _ x _ => by
    show Calls _ _ #[.int .i64 x] _ _
    go_enter Tryz.func35, Tryz.ntmps35
    go_wp2
    go_ret
    exact ⟨rfl, rfl⟩⟩
/-- What the walk keeps: the graph, its box, some slices of ints. -/
structure GC (w : World) (gv : Value) (gu : List Value) (n : Int) (es : List Tri) (L : List (Value × List Int)) (W : World) : Prop where
  g : GV W gv n es
  x : BL W w.heap.size 24 gu
  b : Below w.heap.size w W
  r : ∀ p ∈ L, RI W p.1 p.2
theorem GC.next {w : World} {gv : Value} {gu : List Value} {n : Int} {es : List Tri} {L : List (Value × List Int)} {W W' : World} (h : GC w gv gu n es L W) (hb : Below W.heap.size W W') : GC w gv gu n es L W' :=
  ⟨h.g.below hb, h.x.bel hb, h.b.trans (hb.mono h.b.size), fun p hp => RI.below (h.r p hp) hb⟩
theorem GC.add {w : World} {gv : Value} {gu : List Value} {n : Int} {es : List Tri} {L : List (Value × List Int)} {W : World} (h : GC w gv gu n es L W) {v : Value} {zs : List Int} (hr : RI W v zs) : GC w gv gu n es ((v, zs) :: L) W :=
  ⟨h.g, h.x, h.b, fun p hp => by
    rcases List.mem_cons.1 hp with rfl | hp
    · exact hr
    · exact h.r p hp⟩
set_option maxRecDepth 100000 in
set_option maxHeartbeats 16000000 in
theorem chains_any (g va vs vt : Value) (n : Int) (es : List Tri) (a s t : List Int) (w : World) (hg : GV w g n es) (ha : RI w va a) (hs : RI w vs s) (ht : RI w vt t) :
    Calls Tryz.prog 8 #[g, va, .agg #[vs, vt]] w fun e w' => e = .returned (.bool true) ∧ Below w.heap.size w w' := by
  obtain ⟨A, c, rfl, -⟩ := hg.open_
  obtain ⟨A2, c2, rfl, -⟩ := RI.open_ ha
  obtain ⟨A3, c3, rfl, -⟩ := RI.open_ hs
  obtain ⟨A4, c4, rfl, -⟩ := RI.open_ ht
  obtain ⟨W0, hW0⟩ : ∃ W0, W0 = w.alloc (.cells #[.int .i64 n, .slice A es.length c] 24) := ⟨_, rfl⟩
  have hb0 : Below w.heap.size w W0 := by rw [hW0]; exact below_alloc w _
  have hz0 : W0.heap.size = w.heap.size + 1 := by rw [hW0]; simp
  obtain ⟨W1, hW1⟩ : ∃ W1, W1 = W0.alloc (.cells #[.slice A3 s.length c3, .slice A4 t.length c4] 71) := ⟨_, rfl⟩
  have hb1 : Below W0.heap.size W0 W1 := by rw [hW1]; exact below_alloc W0 _
  have hz1 : W1.heap.size = w.heap.size + 1 + 1 := by rw [hW1]; simp [hz0]
  have hbx : BL W1 (w.heap.size + 1) 71 [.slice A3 s.length c3, .slice A4 t.length c4] := by rw [hW1, ← hz0]; exact BL.new' W0 _ _
  have hx0 : BL W0 w.heap.size 24 [.int .i64 n, .slice A es.length c] := by rw [hW0]; exact BL.new' w _ _
  have hc1 : GC w (.agg #[.int .i64 n, .slice A es.length c]) [.int .i64 n, .slice A es.length c] n es [(.slice A2 a.length c2, a), (.slice A3 s.length c3, s), (.slice A4 t.length c4, t)] W1 := by
    have hbb := hb0.trans (hb1.mono hb0.size)
    refine ⟨hg.below hbb, hx0.bel hb1, hbb, fun p hp => ?_⟩
    simp only [List.mem_cons, List.not_mem_nil, or_false] at hp
    rcases hp with rfl | rfl | rfl
    · exact RI.below ha hbb
    · exact RI.below hs hbb
    · exact RI.below ht hbb
  have q0 := hbx.cell 0
  have q1 := hbx.cell 1
  rw [hW1, hW0] at q0 q1
  have HC1 := Lib.hid hc1
  have HW0 := Lib.hid hW0
  have HW1 := Lib.hid hW1
  have HZ1 := Lib.hid hz1
  have AW : Hid (∀ W, Calls Tryz.prog 10 #[] W fun e w' => e = .returned (.bool true) ∧ Below W.heap.size W w') := awake_any
  clear hg ha hs ht hb0 hz0 hb1 hbx hx0 hc1 hW0 hW1 hz1
  go_enter Tryz.func8, Tryz.ntmps8
  go_wp2_with fail
  rw [← HW0.out, ← HW1.out]
  rw [← HW0.out, ← HW1.out] at q0 q1
  go_quiet (fail)
  obtain ⟨W2, hW2⟩ : ∃ W2, W2 = W1.drewN nq := ⟨_, rfl⟩
  have hb2 : Below W1.heap.size W1 W2 := by rw [hW2]; exact below_drewN (Below.refl _ _) nq
  have hz2 : W2.heap.size = w.heap.size + 1 + 1 := by rw [hW2]; exact HZ1.out
  rw [← hW2]
  obtain ⟨W3, hW3⟩ : ∃ W3, W3 = W2.alloc (.cells #[.slice A2 a.length c2] 26) := ⟨_, rfl⟩
  have hb3 : Below W2.heap.size W2 W3 := by rw [hW3]; exact below_alloc W2 _
  have hc2 := HC1.out.next hb2
  have hc3 := hc2.next hb3
  have hr3 : RR W3 (.slice (some ⟨W2.heap.size, 0, none⟩) 1 1) [a] := by rw [hW3]; exact RR.lit1 26 (hc2.r (.slice A2 a.length c2, a) (by simp))
  have hri := right_any _ _ n es [a] W3 hc3.g hr3
  have c0 := hc2.x.cell 0
  have c1 := hc2.x.cell 1
  have HC3 := Lib.hid hc3
  have HW3 := Lib.hid hW3
  clear hb2 hW2 hb3 hc2 hc3 hr3 hW3 hz2 q0 q1
  go_wp2_with fail
  rw [← HW3.out]

  by_cases hR : rightP n es [a] = false
  · rw [hR] at hri
    refine hri.mono ?_
    rintro e w4 ⟨rfl, hb4⟩
    have HC4 := Lib.hid (HC3.out.next hb4)
    clear hb4 hri hR c0 c1
    go_wp2_with fail
    refine (AW.out _).mono ?_
    rintro e z91 ⟨rfl, hz91⟩
    have HZ91 := Lib.hid (HC4.out.next hz91)
    clear hz91
    go_wp2
    go_ret
    exact ⟨rfl, HZ91.out.b⟩
  have hR : rightP n es [a] = true := by simpa using hR
  rw [hR] at hri
  obtain ⟨hsm, hj, hall⟩ := rightP_iff hR
  obtain ⟨hca, hla⟩ := hall a (by simp)
  obtain ⟨g1, g2, -⟩ := eGiven_ok hj
  obtain ⟨m, rfl, hrt⟩ := rt_of hsm g1 g2
  have HRt := Lib.hid hrt
  have HSm := Lib.hid hsm
  have HJ := Lib.hid hj
  have HCa := Lib.hid hca
  have HLa := Lib.hid hla
  refine hri.mono ?_
  rintro e w4 ⟨rfl, hb4⟩
  have HC4 := Lib.hid (HC3.out.next hb4)
  have d0 := HC4.out.x.cell 0
  have d1 := HC4.out.x.cell 1
  clear hb4 hri hR hsm hj hall hca hla g1 g2 hrt c0 c1
  by_cases hl : s.length ≠ m
  · have t1 : ((s.length : Int) != (m : Int)) = true := by simp; omega
    go_wp2_with fail
    refine (AW.out _).mono ?_
    rintro e z92 ⟨rfl, hz92⟩
    have HZ92 := Lib.hid (HC4.out.next hz92)
    clear hz92
    go_wp2
    go_ret
    exact ⟨rfl, HZ92.out.b⟩
  have hl : s.length = m := by omega
  have t1 : ((s.length : Int) != (m : Int)) = false := by simp; omega
  by_cases hlt : t.length ≠ m
  · have t2 : ((t.length : Int) != (m : Int)) = true := by simp; omega
    clear hl
    go_wp2_with fail
    refine (AW.out _).mono ?_
    rintro e z93 ⟨rfl, hz93⟩
    have HZ93 := Lib.hid (HC4.out.next hz93)
    clear hz93
    go_wp2
    go_ret
    exact ⟨rfl, HZ93.out.b⟩
  have hlt : t.length = m := by omega
  have t2 : ((t.length : Int) != (m : Int)) = false := by simp; omega
  have HL := Lib.hid hl
  have HLt := Lib.hid hlt
  clear hl hlt
  have hcs := ContainsS_any _ _ s _ _ w4 (HC4.out.r (.slice A3 s.length c3, s) (by simp)) (tallC_clo w4) (fun _ _ => trivial)
  have hct := ContainsS_any _ _ t _ _ w4 (HC4.out.r (.slice A4 t.length c4, t) (by simp)) (tallC_clo w4) (fun _ _ => trivial)
  by_cases hta : s.any tallB = true
  · rw [hta] at hcs
    have HCs := Lib.hid hcs
    clear hcs hct hta
    go_wp2_with fail
    refine HCs.out.mono ?_
    rintro e w5 ⟨rfl, rfl⟩
    go_wp2_with fail
    refine (AW.out _).mono ?_
    rintro e z94 ⟨rfl, hz94⟩
    have HZ94 := Lib.hid (HC4.out.next hz94)
    clear hz94
    go_wp2
    go_ret
    exact ⟨rfl, HZ94.out.b⟩
  have hta : s.any tallB = false := by simpa using hta
  rw [hta] at hcs
  have HCs := Lib.hid hcs
  by_cases htb : t.any tallB = true
  · rw [htb] at hct
    have HCt := Lib.hid hct
    clear hcs hct hta htb
    go_wp2_with fail
    refine HCs.out.mono ?_
    rintro e w5 ⟨rfl, rfl⟩
    go_wp2_with fail
    refine HCt.out.mono ?_
    rintro e w5 ⟨rfl, rfl⟩
    go_wp2_with fail
    refine (AW.out _).mono ?_
    rintro e z95 ⟨rfl, hz95⟩
    have HZ95 := Lib.hid (HC4.out.next hz95)
    clear hz95
    go_wp2
    go_ret
    exact ⟨rfl, HZ95.out.b⟩
  have htb : t.any tallB = false := by simpa using htb
  rw [htb] at hct
  have HCt := Lib.hid hct
  have hsb : ∀ z ∈ s, -4 ≤ z ∧ z ≤ 4 := by
    intro z hz
    have := List.any_eq_false.1 hta z hz
    simp only [tallB, Bool.or_eq_true, decide_eq_true_eq, not_or] at this
    omega
  have htbd : ∀ z ∈ t, -4 ≤ z ∧ z ≤ 4 := by
    intro z hz
    have := List.any_eq_false.1 htb z hz
    simp only [tallB, Bool.or_eq_true, decide_eq_true_eq, not_or] at this
    omega
  have HSb := Lib.hid hsb
  have HTb := Lib.hid htbd
  obtain ⟨b, hab, hbl, hwy, hbb, hcb⟩ := apply_ok2 HRt.out HCa.out (HLa.out HCa.out) (by decide) HL.out hsb
  obtain ⟨d, hbd, hdl, hwy2, hdb, hcd⟩ := apply_ok2 HRt.out hcb hbb (by decide) HLt.out htbd
  have hap := Apply_any _ _ _ m es a s w4 HC4.out.g (HC4.out.r (.slice A2 a.length c2, a) (by simp)) (HC4.out.r (.slice A3 s.length c3, s) (by simp))
  rw [hab] at hap
  have HAp := Lib.hid hap
  have HWy := Lib.hid hwy
  have HWy2 := Lib.hid hwy2
  have HBd := Lib.hid hbd
  have HBl := Lib.hid hbl
  have HDl := Lib.hid hdl
  clear hcs hct hta htb hsb htbd hab hap hwy hwy2 hbb hdb hbd hcb hcd hbl hdl
  go_wp2_with fail
  refine HCs.out.mono ?_
  rintro e w5 ⟨rfl, rfl⟩
  go_wp2_with fail
  refine HCt.out.mono ?_
  rintro e w5 ⟨rfl, rfl⟩
  go_wp2_with fail
  refine HAp.out.mono ?_
  rintro e w5 ⟨vb, rfl, hob, hb5⟩
  obtain ⟨A5, c5, rfl, -⟩ := OV.rv hob
  dsimp only at hob ⊢
  rw [List.length_map] at hob ⊢
  have HC5 := Lib.hid ((HC4.out.next hb5).add hob.rv)
  have e0 := HC5.out.x.cell 0
  have e1 := HC5.out.x.cell 1
  have hap := Apply_any _ _ _ m es b t w5 HC5.out.g (HC5.out.r (.slice A5 b.length c5, b) (by simp)) (HC5.out.r (.slice A4 t.length c4, t) (by simp))
  rw [HBd.out] at hap
  have HAp2 := Lib.hid hap
  clear hb5 hob hap d0 d1
  go_wp2_with fail
  refine HAp2.out.mono ?_
  rintro e w6 ⟨vd, rfl, hod, hb6⟩
  obtain ⟨A6, c6, rfl, -⟩ := OV.rv hod
  dsimp only at hod ⊢
  rw [List.length_map] at hod ⊢
  have hc6 := (HC5.out.next hb6).add hod.rv
  obtain ⟨W7, hW7⟩ : ∃ W7, W7 = w6.alloc (.cells #[.slice A5 b.length c5, .slice A6 d.length c6] 26) := ⟨_, rfl⟩
  have hb7 : Below w6.heap.size w6 W7 := by rw [hW7]; exact below_alloc w6 _
  have hc7 := hc6.next hb7
  have hr7 : RR W7 (.slice (some ⟨w6.heap.size, 0, none⟩) 2 2) [b, d] := by rw [hW7]; exact RR.lit2 26 (hc6.r (.slice A5 b.length c5, b) (by simp)) (hc6.r (.slice A6 d.length c6, d) (by simp))
  have hri := right_any _ _ m es [b, d] W7 hc7.g hr7
  have f0 := hc6.x.cell 0
  have f1 := hc6.x.cell 1
  have HC7 := Lib.hid hc7
  have HW7 := Lib.hid hW7
  clear hb6 hod hc6 hb7 hc7 hr7 hW7 e0 e1
  go_wp2_with fail
  rw [← HW7.out]
  by_cases hR : rightP m es [b, d] = false
  · rw [hR] at hri
    refine hri.mono ?_
    rintro e w8 ⟨rfl, hb8⟩
    have HC8 := Lib.hid (HC7.out.next hb8)
    clear hb8 hri hR f0 f1
    go_wp2_with fail
    refine (AW.out _).mono ?_
    rintro e z96 ⟨rfl, hz96⟩
    have HZ96 := Lib.hid (HC8.out.next hz96)
    clear hz96
    go_wp2
    go_ret
    exact ⟨rfl, HZ96.out.b⟩
  have hR : rightP m es [b, d] = true := by simpa using hR
  rw [hR] at hri
  obtain ⟨-, -, hall⟩ := rightP_iff hR
  obtain ⟨hcb, hlb⟩ := hall b (by simp)
  obtain ⟨hcd, hld⟩ := hall d (by simp)
  have HCb := Lib.hid hcb
  have HLb := Lib.hid hlb
  have HCd := Lib.hid hcd
  have HLd := Lib.hid hld
  have HEg : Hid (∀ x y, checkE x m = 0 → checkE y m = 0 → eGiven m es [x, y] = 0) := fun x y hx hy => eGiven_of HJ.out fun zs hz => by
    simp only [List.mem_cons, List.not_mem_nil, or_false] at hz
    rcases hz with rfl | rfl
    · exact hx
    · exact hy
  refine hri.mono ?_
  rintro e w8 ⟨rfl, hb8⟩
  have HC8 := Lib.hid (HC7.out.next hb8)
  clear hb8 hri hR hall hcb hlb hcd hld f0 f1
  have j00 := HC8.out.x.cell 0
  have j01 := HC8.out.x.cell 1
  have HEq0 := Lib.hid (Equivalent_any _ _ _ m es a a w8 HC8.out.g (HC8.out.r (.slice A2 a.length c2, a) (by simp)) (HC8.out.r (.slice A2 a.length c2, a) (by simp)) HSm.out HLa.out HLa.out)
  go_wp2_with fail
  refine HEq0.out.mono ?_
  rintro e w9 ⟨bb, vx0, uz, er, rfl, hou, hb9, hP⟩
  obtain ⟨rfl, rfl, hlo⟩ := eqv_way hP (HEg.out a a HCa.out HCa.out) (way_refl m es a)
  have HLo0 := Lib.hid hlo
  obtain ⟨B0, k0, rfl, -⟩ := OV.rv hou
  rw [List.length_map] at hou ⊢
  have HC9 := Lib.hid ((HC8.out.next hb9).add hou.rv)
  clear hou hb9 hP hlo j00 j01
  have j10 := HC9.out.x.cell 0
  have j11 := HC9.out.x.cell 1
  have HEq1 := Lib.hid (Equivalent_any _ _ _ m es a b w9 HC9.out.g (HC9.out.r (.slice A2 a.length c2, a) (by simp)) (HC9.out.r (.slice A5 b.length c5, b) (by simp)) HSm.out HLa.out HLb.out)
  go_wp2_with fail
  refine HEq1.out.mono ?_
  rintro e w10 ⟨bb, vx1, uu, er, rfl, hou, hb10, hP⟩
  obtain ⟨rfl, rfl, hlo⟩ := eqv_way hP (HEg.out a b HCa.out HCb.out) (HWy.out)
  have HLo1 := Lib.hid hlo
  obtain ⟨B1, k1, rfl, -⟩ := OV.rv hou
  rw [List.length_map] at hou ⊢
  have HC10 := Lib.hid ((HC9.out.next hb10).add hou.rv)
  clear hou hb10 hP hlo j10 j11
  have j20 := HC10.out.x.cell 0
  have j21 := HC10.out.x.cell 1
  have HEq2 := Lib.hid (Equivalent_any _ _ _ m es b d w10 HC10.out.g (HC10.out.r (.slice A5 b.length c5, b) (by simp)) (HC10.out.r (.slice A6 d.length c6, d) (by simp)) HSm.out HLb.out HLd.out)
  go_wp2_with fail
  refine HEq2.out.mono ?_
  rintro e w11 ⟨bb, vx2, uv, er, rfl, hou, hb11, hP⟩
  obtain ⟨rfl, rfl, hlo⟩ := eqv_way hP (HEg.out b d HCb.out HCd.out) (HWy2.out)
  have HLo2 := Lib.hid hlo
  obtain ⟨B2, k2, rfl, -⟩ := OV.rv hou
  rw [List.length_map] at hou ⊢
  have HC11 := Lib.hid ((HC10.out.next hb11).add hou.rv)
  clear hou hb11 hP hlo j20 j21
  have j30 := HC11.out.x.cell 0
  have j31 := HC11.out.x.cell 1
  have HEq3 := Lib.hid (Equivalent_any _ _ _ m es a d w11 HC11.out.g (HC11.out.r (.slice A2 a.length c2, a) (by simp)) (HC11.out.r (.slice A6 d.length c6, d) (by simp)) HSm.out HLa.out HLd.out)
  go_wp2_with fail
  refine HEq3.out.mono ?_
  rintro e w12 ⟨bb, vx3, uw, er, rfl, hou, hb12, hP⟩
  obtain ⟨rfl, rfl, hlo⟩ := eqv_way hP (HEg.out a d HCa.out HCd.out) (way_add HWy.out HWy2.out)
  have HLo3 := Lib.hid hlo
  obtain ⟨B3, k3, rfl, -⟩ := OV.rv hou
  rw [List.length_map] at hou ⊢
  have HC12 := Lib.hid ((HC11.out.next hb12).add hou.rv)
  clear hou hb12 hP hlo j30 j31
  have j40 := HC12.out.x.cell 0
  have j41 := HC12.out.x.cell 1
  have HEq4 := Lib.hid (Equivalent_any _ _ _ m es d a w12 HC12.out.g (HC12.out.r (.slice A6 d.length c6, d) (by simp)) (HC12.out.r (.slice A2 a.length c2, a) (by simp)) HSm.out HLd.out HLa.out)
  go_wp2_with fail
  refine HEq4.out.mono ?_
  rintro e w13 ⟨bb, vx4, ub, er, rfl, hou, hb13, hP⟩
  obtain ⟨rfl, rfl, hlo⟩ := eqv_way hP (HEg.out d a HCd.out HCa.out) (way_neg (way_add HWy.out HWy2.out))
  have HLo4 := Lib.hid hlo
  obtain ⟨B4, k4, rfl, -⟩ := OV.rv hou
  rw [List.length_map] at hou ⊢
  have HC13 := Lib.hid ((HC12.out.next hb13).add hou.rv)
  clear hou hb13 hP hlo j40 j41
  have j0 := HC13.out.x.cell 0
  have hzc := ContainsS_any _ _ uz _ _ w13 (HC13.out.r (.slice B0 uz.length k0, uz) (by simp)) (nzC_clo w13) (fun _ _ => trivial)
  rw [least_zero HLo0.out] at hzc
  have HZc := Lib.hid hzc
  have s1 : ((uu.length : Int) != (m : Int)) = false := by have := HLo1.out.1; simp; omega
  have s2 : ((uv.length : Int) != (m : Int)) = false := by have := HLo2.out.1; simp; omega
  clear hzc
  go_wp2_with fail
  refine HZc.out.mono ?_
  rintro e w14 ⟨rfl, rfl⟩
  have hn1 := HRt.out.n1
  have hn6 := HRt.out.n6
  have hmk := run_make_row' (P := Tryz.prog) 29 3 (.int .i64 0) 8 Tryz.underlying29 int_info rfl .i64 .i64 m (by omega) (by omega)
  have hb14 : Below w13.heap.size w13 (w13.alloc (.cells (madeCells #[Value.int .i64 0] m) 3)) := below_alloc w13 _
  have HO14 := Lib.hid (own_zeros w13 m (by omega))
  have HB14 := Lib.hid hb14
  have huul := HLo1.out.1
  have huvl := HLo2.out.1
  have HUl := Lib.hid huul
  have HVl := Lib.hid huvl
  have HR1 := Lib.hid (HC13.out.r (.slice B1 uu.length k1, uu) (by simp))
  have HR2 := Lib.hid (HC13.out.r (.slice B2 uv.length k2, uv) (by simp))
  have HS1 := Lib.hid (least_small HLo1.out HSb.out)
  have HS2 := Lib.hid (least_small HLo2.out HTb.out)
  clear hb14 huul huvl
  go_wp2_with fail
  clear hmk j0
  go_loopw [194] (fun i wr => ∃ (j : Nat) (os : List Int), j ≤ m ∧ i = .int .i64 (j : Int) ∧ Hid (os.length = m) ∧ Hid (os.take j = (List.zipWith (fun x y => x + y) uu uv).take j) ∧
    Hid (OI wr w13.heap.size (.slice (some ⟨w13.heap.size, 0, none⟩) m m) os) ∧ Hid (Below w13.heap.size w13 wr)) (fun i _ => m - (intOf i).toNat)
  case atStart => exact ⟨0, List.replicate m 0, Nat.zero_le _, rfl, by simp [Hid], by simp [Hid], HO14.out, HB14.out⟩
  case round =>
    obtain ⟨j, os, hj, rfl, ho1, ho2, hown, hbel⟩ := hrel
    by_cases hltj : j < m
    · obtain ⟨AX, cX, hX, -, -, hcX⟩ := RI.open_ (RI.below HR1.out hbel.out)
      obtain ⟨AY, cY, hY, -, -, hcY⟩ := RI.open_ (RI.below HR2.out hbel.out)
      simp only [Value.slice.injEq, true_and] at hX hY
      obtain ⟨rfl, rfl⟩ := hX
      obtain ⟨rfl, rfl⟩ := hY
      obtain ⟨ad, z, rfl, hadb, hz, hcl⟩ := hcX j (by have := HUl.out; omega)
      obtain ⟨ad', z', rfl, hadb', hz', hcl'⟩ := hcY j (by have := HVl.out; omega)
      have hb1 := HS1.out j hltj
      have hb2 := HS2.out j hltj
      rw [List.getD_eq_getElem?_getD, hz.out] at hb1
      rw [List.getD_eq_getElem?_getD, hz'.out] at hb2
      simp only [Option.getD_some] at hb1 hb2
      have hlx : (j : Int) < uu.length := by have := HUl.out; omega
      have hly : (j : Int) < uv.length := by have := HVl.out; omega
      have hlm : (j : Int) < m := by omega
      have hj0 : (0 : Int) ≤ j := by omega
      have hwr : IntKind.i64.wrap (z + z') = z + z' := IntWalk.i64_in _ (by omega)
      obtain ⟨-, -, e1, f1, est⟩ := OI.at' hown.out (k := j) (by have := ho1.out; omega)
      have HSt := Lib.hid (est (z + z')).1
      have hz1 : (List.zipWith (fun x y : Int => x + y) uu uv)[j]? = some (z + z') := by rw [List.getElem?_zipWith, hz.out, hz'.out]
      have HZq := Lib.hid hz1
      clear est hz1 hcX hcY hz hz' s1 s2
      generalize os.getD j 0 = ok at *
      go_wp2_with fail
      refine wp_region_still_tail 12 (by kernel_rfl) (by kernel_rfl) ?_
      change wpStill _ _ wr.drew _ _ _
      simp only [List.take_succ_cons, List.take_zero, List.drop_succ_cons, List.drop_zero]
      repeat still_step
      refine wpStill_nil ?_
      change wpList _ _ _ _ _ wr.drew
      go_wp2
      go_roundw
      case rel => exact ⟨j + 1, os.set j (z + z'), by omega, by go_num, by simpa [Hid] using ho1.out, by
        show List.take (j + 1) (os.set j (z + z')) = _
        rw [List.take_add_one, List.take_add_one, List.take_set_of_le (Nat.le_refl _), ho2.out, HZq.out, List.getElem?_set_self (by have := ho1.out; omega)], OI.below HSt.out (Below.refl _ _).drew, (hbel.out.setCell (p := ⟨w13.heap.size, j, none⟩) (by simp) _).drew⟩
      case measure => simp [intOf]; omega
    · obtain rfl : j = m := by omega
      have hse : os = List.zipWith (fun x y : Int => x + y) uu uv := by
        have h := ho2.out
        rwa [List.take_of_length_le (by have := ho1.out; omega), List.take_of_length_le (by have := HUl.out; have := HVl.out; simp; omega)] at h
      obtain ⟨hfin1, hfin2⟩ := chain_end HRt.out HCa.out HCd.out HSb.out HTb.out HWy.out HWy2.out HLo1.out HLo2.out HLo3.out (HEg.out a d HCa.out HCd.out)
      rw [← hse] at hfin1 hfin2
      have hosl := ho1.out
      have hcE := HC13.out.next hbel.out
      have hos : RI wr (.slice (some ⟨w13.heap.size, 0, none⟩) j j) os := hown.out.rv
      have HCE := Lib.hid (hcE.add hos)
      have hle := Least_any _ os wr hos
      rw [hfin1] at hle
      have HLe := Lib.hid hle
      have HF2 := Lib.hid hfin2
      clear hse hfin1 hfin2 hosl hcE hos hle ho1 ho2 hown hbel s1 s2
      go_wp2_with fail
      refine HLe.out.mono ?_
      rintro e x1 ⟨vl, rfl, hol, hy1⟩
      obtain ⟨Al, cl, rfl, -⟩ := OV.rv hol
      dsimp only at hol ⊢
      rw [List.length_map] at hol ⊢
      have HCF := Lib.hid (HCE.out.next hy1)
      have heq := EqualS_any _ _ uw uw x1 hol.rv (HCF.out.r (.slice B3 uw.length k3, uw) (by simp))
      rw [(eqL_iff _ _).2 rfl] at heq
      have HEs := Lib.hid heq
      clear hol hy1 heq
      go_wp2_with fail
      refine HEs.out.mono ?_
      rintro e x2 ⟨rfl, j8, hw8⟩
      have hb8 : Below x1.heap.size x1 x2 := by rw [hw8]; exact below_drewN (Below.refl _ _) j8
      have HCG := Lib.hid (HCF.out.next hb8)
      have u0 := HCG.out.x.cell 0
      have u1 := HCG.out.x.cell 1
      have hve := Verify_any _ _ _ _ j es a d os x2 HCG.out.g (HCG.out.r (.slice A2 a.length c2, a) (by simp)) (HCG.out.r (.slice A6 d.length c6, d) (by simp)) (HCG.out.r (.slice (some ⟨w13.heap.size, 0, none⟩) j j, os) (by simp))
      rw [HF2.out] at hve
      have HVe := Lib.hid hve
      clear hw8 hb8 hve
      go_wp2_with fail
      refine HVe.out.mono ?_
      rintro e x3 ⟨rfl, hy3⟩
      have HCH := Lib.hid (HCG.out.next hy3)
      clear hy3 u0 u1
      go_wp2_with fail
      refine (AW.out _).mono ?_
      rintro e x4 ⟨rfl, hy4⟩
      have HCI := Lib.hid (HCH.out.next hy4)
      clear hy4
      go_wp2
      go_ret
      exact ⟨rfl, HCI.out.b⟩
end Go.Proofs.YtefggpdobjboeaaGreat

namespace Go.Proofs.YtefggpdobjboeaaGreat
open Go.ChangeShapes Go.WideShapes Go.ChangeAt Go.RowKit Go.Shelf

theorem cellsScr_ : Tryz.prog.cellsOf 29 = 1 := by kernel_rfl
theorem cellsPair_ : Tryz.prog.cellsOf 71 = 2 := by kernel_rfl
set_option maxRecDepth 100000 in
theorem ints_of {H : Type} {enc : TypeId × Value → H} {W : World} {fuel : Nat} {v : Value} {x : DataW H × List MemPlace} (h : DataW.trod enc Tryz.prog W 0 (fun _ => true) true fuel 29 [v] = some x)
    (hs : ∀ elems spare, x.1 = .slice elems spare → (elems.length + spare.length) * 8 ≤ 140737488351232) : ∃ zs, RI W v zs := by
  rcases open_ints Tryz.underlying29 Tryz.underlying3 cellsInt_ h with ⟨hcs, -⟩ | ⟨a, len, cap, zs, hcs, _, hl, hm, hz, hx, hcell, _⟩
  · simp only [List.cons.injEq, and_true] at hcs
    subst hcs
    exact ⟨[], RI.nil_ W⟩
  · simp only [List.cons.injEq, and_true] at hcs
    subst hcs
    simp only [if_true] at hz
    have hreach := hs _ _ (by rw [hx])
    simp only [lits, List.length_map, List.length_take, List.length_drop] at hreach
    have hlen : (zs.take len).length = len := by rw [List.length_take]; omega
    refine ⟨zs.take len, ?_⟩
    have key := RI.mk_ (w := W) (A := some a) (c := cap) (zs := zs.take len) (by omega) (by omega) fun k z hk => ?_
    · rw [hlen] at key; exact key
    · have hk2 : k < (zs.take len).length := (List.getElem?_eq_some_iff.1 hk).1
      have hkz : k < zs.length := by omega
      have hc := hcell k hkz
      have e : zs.getD k 0 = z := by
        rw [List.getElem?_take, if_pos (by omega)] at hk
        rw [List.getD_eq_getElem?_getD, hk]; rfl
      rw [e] at hc
      exact ⟨a, rfl, by have := block_lt_of_cell' hc; rwa [block_of_add] at this, hc⟩
theorem okWide_pair {P : Program} {W : World} {r : Reach} {b0 : Nat} {t e : TypeId} {n : Nat} {v : Value} (hu : P.underlying t = some (.array n e)) (h : Value.okWide P W r b0 t v) : ∃ cs : Array Value, v = .agg cs := by
  simp only [Value.okWide, hu] at h
  obtain ⟨cs, h1, _⟩ := h
  exact ⟨cs, h1⟩
set_option maxRecDepth 100000 in
theorem open_pair {H : Type} {enc : TypeId × Value → H} {W : World} {base : Nat} {v : Value} {d : DataW H} {p : List MemPlace} (hv : Value.okWide Tryz.prog W .any base 71 v)
    (h : DataW.Trod enc Tryz.prog W 0 (fun _ => true) true 71 v d p) (hs : ∀ x y, d = .agg [x, y] → (∀ elems spare, x = .slice elems spare → (elems.length + spare.length) * 8 ≤ 140737488351232) ∧ ∀ elems spare, y = .slice elems spare → (elems.length + spare.length) * 8 ≤ 140737488351232) :
    ∃ v0 v1 x0 x1, v = .agg #[v0, v1] ∧ RI W v0 x0 ∧ RI W v1 x1 := by
  obtain ⟨cs, rfl⟩ := okWide_pair Tryz.underlying71 hv
  obtain ⟨fuel, hf⟩ := h
  obtain ⟨xs, m, -, hx, hl, hxl, hi⟩ := DataW.trod_array Tryz.underlying71 hf
  rw [cellsPair_] at hl
  obtain ⟨l⟩ := cs
  match l, hl with
  | [c0, c1], _ =>
    match xs, hxl with
    | [y0, y1], _ =>
      have h0 := hi 0 (by omega)
      have h1 := hi 1 (by omega)
      simp only [cellsScr_, Value.cells, Nat.zero_mul, Nat.one_mul, List.drop_zero, List.drop_succ_cons, List.take_succ_cons, List.take_zero, List.getElem?_cons_zero, List.getElem?_cons_succ] at h0 h1
      simp only [Prod.mk.injEq, List.map_cons, List.map_nil] at hx
      obtain ⟨s0, s1⟩ := hs _ _ hx.1
      obtain ⟨x0, r0⟩ := ints_of h0 s0
      obtain ⟨x1, r1⟩ := ints_of h1 s1
      exact ⟨c0, c1, x0, x1, rfl, r0, r1⟩
set_option maxRecDepth 100000 in
theorem sized_pair {H : Type} {ts : List TypeId} {ds : List (DataW H)} (hsz : (DataW.weightsEach Tryz.prog ts ds).all (· ≤ reachBytes) = true) {j : Nat} {d : DataW H} (ht : ts[j]? = some 71) (hd : ds[j]? = some d) :
    ∀ x y, d = .agg [x, y] → (∀ elems spare, x = .slice elems spare → (elems.length + spare.length) * 8 ≤ 140737488351232) ∧ ∀ elems spare, y = .slice elems spare → (elems.length + spare.length) * 8 ≤ 140737488351232 := by
  intro x y e
  subst e
  refine ⟨fun elems spare e => ?_, fun elems spare e => ?_⟩
  all_goals
    subst e
    have := List.all_eq_true.1 hsz _ (DataW.weights_mem_each ht hd ((elems.length + spare.length) * Tryz.prog.bytesOf 3) (by simp [DataW.weights, DataW.weightsAll, Tryz.underlying71, Tryz.underlying29]))
    have h2 := of_decide_eq_true this
    rw [bytesInt_] at h2
    simp only [reachBytes] at h2
    omega
end Go.Proofs.YtefggpdobjboeaaGreat
