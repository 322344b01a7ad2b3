/- Contract of reduced's Reduce on small graphs.
   Contracts of package equivalence: Equivalent.
   Contracts of package equivalence: Verify, Normal, Principal, Least. -/
import Derived.Test.YtefggpdobjboeaaGreatG14
import Derived.Test.YtefggpdobjboeaaGreatG09
namespace Go.Proofs.YtefggpdobjboeaaGreat
open Go.RowKit Go.Shelf

/-- r is the reduced form of zs at q, by the script s, in which q does not fire. -/
structure Red (n q : Nat) (es : List Tri) (zs r s : List Int) : Prop where
  rl : r.length = n
  sl : s.length = n
  eq : ∀ v, v < n → r.getD v 0 = zs.getD v 0 - lap n (wgt es) (fun u => s.getD u 0) v
  own : s.getD q 0 = 0
  pos : ∀ v, v < n → v ≠ q → 0 ≤ r.getD v 0
  tight : Tight n (wgt es) q (fnD r)
  rb : ∀ v, v < n → -1048576 ≤ r.getD v 0 ∧ r.getD v 0 ≤ 1048576
  sb : ∀ v, v < n → -1048576 ≤ s.getD v 0 ∧ s.getD v 0 ≤ 1048576
theorem sumN_bd {n : Nat} {f : Nat → Int} {B : Int} (h : ∀ v, v < n → -B ≤ f v ∧ f v ≤ B) : -(n * B) ≤ sumN n f ∧ sumN n f ≤ n * B := by
  induction n with
  | zero => simp [sumN]
  | succ n ih =>
    have h1 := ih fun v hv => h v (by omega)
    have h2 := h n (by omega)
    have e : ((n + 1 : Nat) : Int) * B = n * B + B := by rw [Int.natCast_succ, Int.add_mul, Int.one_mul]
    simp only [sumN]
    rw [e]; omega
theorem lnd_ready {n q : Nat} {es : List Tri} {zs d1 s1 o : List Int} {top : Int} (hE : Edges n es) (hn : n ≤ 6) (hm : multS es ≤ 9) (hzb : Bd 100 zs) (hD : Dist n q es o) (htop : top ≤ 12) (hL : Lnd n es o zs top d1 s1 0) :
    (∀ v, v < n → v ≠ q → 0 ≤ d1.getD v 0) ∧ (sumN n fun v => d1.getD v 0) - d1.getD q 0 ≤ 52000 ∧ (-1000000 ≤ d1.getD q 0 ∧ d1.getD q 0 ≤ 1000000) ∧ Bd 1000000 s1 := by
  obtain ⟨b1, b2⟩ := hL.bds hE hm (Int.le_refl _) htop
  refine ⟨fun v hv hne => hL.pos v hv ?_, ?_, by have := b1 q; omega, fun j => by have := b2 j; omega⟩
  · obtain ⟨p, hp, he, -⟩ := hD.par v hv hne
    have := (hD.bd p hp).1
    omega
  · have e : (sumN n fun v => d1.getD v 0) = (sumN n fun v => zs.getD v 0) + -(sumN n fun v => lap n (wgt es) (fun u => s1.getD u 0) v) := by
      rw [← sumN_neg, ← sumN_add]
      exact sumN_congr fun v hv => by rw [hL.eq v hv]; omega
    rw [lap_sum (wgt_sym es)] at e
    have hb := (sumN_bd (n := n) (f := fun v => zs.getD v 0) (B := 100) (fun v _ => hzb v)).2
    have := (b1 q).1
    rw [e]
    omega
theorem lap_less {n q : Nat} {es : List Tri} {s : List Int} (hs : s.length = n) {v : Nat} (hv : v < n) : lap n (wgt es) (fun u => (lessL s (s.getD q 0) n).getD u 0) v = lap n (wgt es) (fun u => s.getD u 0) v := by
  unfold lap
  refine sumN_congr fun u hu => ?_
  simp only [lessL_get (show n ≤ s.length by omega), if_pos hv, if_pos hu]
  congr 1; omega
/-- What lend and settle leave, joined. -/
theorem red_of {n q : Nat} {es : List Tri} {zs d1 s1 d s o : List Int} {top : Int} (hE : Edges n es) (hc : Conn n (wgt es)) (hq : q < n) (hn : n ≤ 6) (hm : multS es ≤ 9) (hzb : Bd 100 zs) (hD : Dist n q es o) (htop : top ≤ 12) (hL : Lnd n es o zs top d1 s1 0) (hS : Stl n q es d1 s1 d s) (hT : Tight n (wgt es) q (fnD d)) :
    Red n q es zs d (lessL s (s.getD q 0) n) ∧ (∀ v, v < n → -1048576 ≤ d.getD v 0 ∧ d.getD v 0 ≤ 1048576) ∧ (∀ v, v < n → -1048576 ≤ s.getD v 0 - s.getD q 0 ∧ s.getD v 0 - s.getD q 0 ≤ 1048576) := by
  obtain ⟨r1, r2, r3, r4⟩ := lnd_ready hE hn hm hzb hD htop hL
  obtain ⟨b1, b2⟩ := hL.bds hE hm (Int.le_refl _) htop
  obtain ⟨t1, t2, t3⟩ := stl_bd hE hc hq hS r1 r2 (by omega)
  have hdb : ∀ v, v < n → -1048576 ≤ d.getD v 0 ∧ d.getD v 0 ≤ 1048576 := fun v hv => by
    by_cases e : v = q
    · subst e
      have := hS.low
      have := b1 v
      omega
    · have := t1 v hv e
      have := hS.pos v hv e
      omega
  have hsb : ∀ v, v < n → -1048576 ≤ s.getD v 0 - s.getD q 0 ∧ s.getD v 0 - s.getD q 0 ≤ 1048576 := fun v hv => by
    have h1 := t3 v hv
    have h2 := hS.up v hv
    have h3 := hL.up v hv
    have h4 := (b2 v).2
    have h5 := hL.up q hq
    have h6 := (b2 q).2
    rw [hS.own]
    omega
  refine ⟨⟨hS.dl, by rw [lessL_len]; exact hS.sl, fun v hv => ?_, ?_, hS.pos, hT, hdb, fun v hv => ?_⟩, hdb, hsb⟩
  · rw [hS.eq v hv, hL.eq v hv, lap_less hS.sl hv]
    have : lap n (wgt es) (fun u => s.getD u 0) v = lap n (wgt es) (fun u => s1.getD u 0) v + lap n (wgt es) (fun u => s.getD u 0 - s1.getD u 0) v := by
      rw [← lap_add]; exact lap_congr hv fun u _ => by omega
    omega
  · rw [lessL_get (by have := hS.sl; omega), if_pos hq]; omega
  · rw [lessL_get (by have := hS.sl; omega), if_pos hv]; exact hsb v hv
theorem rGiven_ok {n : Nat} {es : List Tri} {q : Nat} {zs : List Int} (h1 : gcheckE n es = 0) (h2 : connB n es = true) (hq : q < n) (h3 : checkE zs n = 0) : rGiven n es q zs = 0 := by
  unfold rGiven
  rw [if_neg (by simpa using h1), if_neg (by simp [h2]), if_neg (by omega), h3]
set_option maxRecDepth 100000 in
set_option maxHeartbeats 4000000 in
theorem Reduce_any (g d : Value) (n q : Nat) (es : List Tri) (zs : List Int) (w : World) (hg : GV w g n es) (hd : RI w d zs) (h1 : gcheckE n es = 0) (h2 : connB n es = true) (hq : q < n) (h3 : checkE zs n = 0) (hn : n ≤ 6) (hm : multS es ≤ 9) (hzb : Bd 100 zs) (hE : Edges n es) (hc : Conn n (wgt es)) :
    Calls Tryz.prog 39 #[g, .int .i64 (q : Int), d] w fun e w' => ∃ vr vs r s, e = .returned (.tuple #[vr, vs, .int .i64 0]) ∧ OI w' w.heap.size vr r ∧ OI w' w.heap.size vs s ∧ Red n q es zs r s ∧ Below w.heap.size w w' := by
  obtain ⟨A, c, rfl, -, -, -⟩ := hg.open_
  obtain ⟨W0, hW0⟩ : ∃ W0, W0 = w.alloc (.cells #[.int .i64 (n : Int), .slice A es.length c] 24) := ⟨_, rfl⟩
  have hb0 : Below w.heap.size w W0 := by rw [hW0]; exact below_alloc w _
  have hz0 : W0.heap.size = w.heap.size + 1 := by rw [hW0]; simp
  have hg0 := hg.below hb0
  have hd0 := hd.below hb0
  have hbx : BL W0 w.heap.size 24 [.int .i64 (n : Int), .slice A es.length c] := by rw [hW0]; exact BL.new' w _ _
  have HGi := rGiven_any _ d n q es zs W0 hg0 hd0
  rw [rGiven_ok h1 h2 hq h3] at HGi
  obtain ⟨-, -, hlen, -⟩ := checkE_ok h3
  have hzl : zs.length = n := by omega
  obtain ⟨ev, hev⟩ := hg0
  simp only [Value.agg.injEq] at hev
  obtain ⟨hve, hEV⟩ := hev
  obtain rfl : ev = .slice A es.length c := by simpa using hve.symm
  obtain ⟨eb, hEB, heb⟩ := hEV.toB (by omega)
  have HG0 := Lib.hid (hg.below hb0)
  have HD0 := Lib.hid hd0
  have HGI := Lib.hid HGi
  have HB0 := Lib.hid hb0
  have HW0 := Lib.hid hW0
  have HBX := Lib.hid hbx
  have HEB := Lib.hid hEB
  have HE := Lib.hid hE
  have HC := Lib.hid hc
  have HZB := Lib.hid hzb
  have HM := Lib.hid hm
  clear hg hd h1 h2 h3 hm hzb hE hc hb0 hW0 hbx hEB HGi hEV hd0 hve
  go_enter Tryz.func39, Tryz.ntmps39
  go_wp2_with fail
  rw [← HW0.out]
  refine HGI.out.mono ?_
  rintro e w1 ⟨rfl, hb1⟩
  have HG1 := HG0.out.below hb1
  have HD1 := HD0.out.below hb1
  have hbx1 := HBX.out.bel hb1
  have c0 := hbx1.cell 0
  have c1 := hbx1.cell 1
  have HBeg := Lib.hid (begin_any _ d n (q : Int) es zs w1 HG1 HD1 hzl (by omega) (by omega))
  have HEB1 := Lib.hid (HEB.out.below hb1)
  have hz1 := hb1.size
  have HB1 := Lib.hid (HB0.out.trans (hb1.mono (by omega)))
  clear hb1 hbx1 HG1 HD1
  go_wp2_with fail
  refine HBeg.out.mono ?_
  rintro e w2 ⟨b, ve, rfl, hge, ⟨gd, capd, gs, caps, hST, hd2, hs2, hgg, hBb, hdl, hsl⟩, hb2⟩
  obtain rfl : Value.slice A es.length c = ve := by simpa using hge
  have hgd := (hd2.1.lt gd rfl)
  have hgs := (hs2.1.lt gs rfl)
  have hz2 := hb2.size
  have hbs : b ≠ gs := BL.ne_own hST hs2 (by decide)
  have HLe := Lib.hid (lend_any b eb n q gd capd gs caps w1.heap.size _ es zs w2 HE.out hn hq HC.out HM.out hST (HEB1.out.below hb2) (by omega) (by omega) (by omega) hgg hd2 hs2 hdl HZB.out)
  have HB2 := Lib.hid (HB1.out.trans (hb2.mono (by omega)))
  clear hge hST hd2 hs2 hb2 c0 c1
  go_wp2_with fail
  refine HLe.out.mono ?_
  rintro e w3 ⟨⟨vv, rfl⟩, o, top, d1, s1, hR3, hdist, htop, hlnd⟩
  obtain ⟨r1, r2, r3, r4⟩ := lnd_ready HE.out hn HM.out HZB.out hdist htop hlnd
  have hz3 := hR3.2.2.2.2.size
  have HSe := Lib.hid (settle_any b eb n q gd capd gs caps w1.heap.size _ es d1 s1 w3 52000 HE.out (by omega) hq HC.out hR3.1 hR3.2.1 (by omega) (by omega) (by omega) hgg hR3.2.2.1 hR3.2.2.2.1 hlnd.dl hlnd.sl r1 r2 (by omega) r3 r4)
  have HF3 := Lib.hid hR3.2.2.2.2
  have HDi := Lib.hid hdist
  have HLn := Lib.hid hlnd
  clear hR3 r1 r2 r3 r4 hdist hlnd
  go_wp2_with fail
  refine HSe.out.mono ?_
  rintro e w4 ⟨⟨vv2, rfl⟩, d2, s2, hS4, htight⟩
  obtain ⟨hred, hdb, hsb⟩ := red_of HE.out HC.out hq hn HM.out HZB.out HDi.out htop HLn.out hS4.2.2.2.2.2 htight
  have HRe := Lib.hid (result_any b eb n q gd capd gs caps w1.heap.size _ es d2 s2 w4 (by omega) hq ⟨hS4.1, hS4.2.1, hS4.2.2.1, hS4.2.2.2.1, Fr.refl _ _⟩ hbs hgg (by omega) hS4.2.2.2.2.2.dl hS4.2.2.2.2.2.sl hdb hsb)
  have HF4 := Lib.hid (HF3.out.trans hS4.2.2.2.2.1)
  have HRd := Lib.hid hred
  clear hS4 htight hred hdb hsb
  go_wp2_with fail
  refine HRe.out.mono ?_
  rintro e w5 ⟨rfl, hR5⟩
  have HR5 := Lib.hid hR5
  clear hR5
  go_wp2
  refine bodyPost_ret (results_tmp3 rfl _ _ _) rfl ?_
  exact ⟨_, _, d2, _, rfl, OV.mono HR5.out.2.2.1 (by omega), OV.mono HR5.out.2.2.2.1 (by omega), HRd.out, (HF4.out.trans HR5.out.2.2.2.2).toBelow HB2.out (by intro b' hb'; simp only [List.mem_cons, List.not_mem_nil, or_false] at hb'; rcases hb' with rfl | rfl <;> omega)⟩
end Go.Proofs.YtefggpdobjboeaaGreat

namespace Go.Proofs.YtefggpdobjboeaaGreat
open Go.RowKit Go.Shelf

/-- What the laws call small. -/
def Sm (n : Int) (es : List Tri) : Prop := gcheckE n es = 0 → n ≤ 6 ∧ multS es ≤ 9
def Lw (n : Int) (zs : List Int) : Prop := checkE zs n = 0 → Bd 100 zs
theorem eGiven_ok {n : Int} {es : List Tri} {l : List (List Int)} (h : eGiven n es l = 0) : gcheckE n es = 0 ∧ connB n es = true ∧ ∀ zs ∈ l, checkE zs n = 0 := by
  unfold eGiven at h
  by_cases a : gcheckE n es ≠ 0
  · rw [if_pos a] at h; exact absurd h a
  · rw [if_neg a] at h
    by_cases b : connB n es = false
    · rw [if_pos b] at h; cases h
    · rw [if_neg b] at h
      refine ⟨by simpa using a, by simpa using b, ?_⟩
      clear a b
      induction l with
      | nil => intro zs hz; cases hz
      | cons x r ih =>
        simp only [firstE] at h
        by_cases c : checkE x n ≠ 0
        · rw [if_pos c] at h; exact absurd h c
        · rw [if_neg c] at h
          intro zs hz
          rcases List.mem_cons.1 hz with rfl | hz
          · simpa using c
          · exact ih h zs hz
/-- A right, connected, small graph. -/
structure Rt (n : Nat) (es : List Tri) : Prop where
  n1 : 1 ≤ n
  n6 : n ≤ 6
  m9 : multS es ≤ 9
  ed : Edges n es
  cn : Conn n (wgt es)
  gc : gcheckE n es = 0
  cb : connB n es = true
theorem rt_of {n : Int} {es : List Tri} (hs : Sm n es) (h1 : gcheckE n es = 0) (h2 : connB n es = true) : ∃ m : Nat, n = m ∧ Rt m es := by
  obtain ⟨m, rfl, a, b, hE⟩ := gcheckE_zero h1
  obtain ⟨c, d⟩ := hs h1
  exact ⟨m, rfl, a, by omega, d, hE, (connB_iff a b hE).1 h2, h1, h2⟩
theorem Rt.reduce {n : Nat} {es : List Tri} (h : Rt n es) (g d : Value) (zs : List Int) (w : World) (hg : GV w g n es) (hd : RI w d zs) (h3 : checkE zs n = 0) (hl : Lw n zs) :
    Calls Tryz.prog 39 #[g, .int .i64 0, d] w fun e w' => ∃ vr vs r s, e = .returned (.tuple #[vr, vs, .int .i64 0]) ∧ OI w' w.heap.size vr r ∧ OI w' w.heap.size vs s ∧ Red n 0 es zs r s ∧ Below w.heap.size w w' :=
  Reduce_any g d n 0 es zs w hg hd h.gc h.cb h.n1 h3 h.n6 h.m9 (hl h3) h.ed h.cn
/-- What Equivalent answers. -/
def EqvP (n : Int) (es : List Tri) (a b : List Int) (bb : Bool) (u : List Int) (er : Int) : Prop :=
  (eGiven n es [a, b] ≠ 0 ∧ bb = false ∧ u = [] ∧ er = eGiven n es [a, b]) ∨
    (eGiven n es [a, b] = 0 ∧ er = 0 ∧ ∃ (m : Nat) (r1 s1 r2 s2 : List Int), n = m ∧ Rt m es ∧ Red m 0 es a r1 s1 ∧ Red m 0 es b r2 s2 ∧ bb = decide (r1 = r2) ∧ u = if r1 = r2 then leastL (List.zipWith (fun x y => x - y) s1 s2) else [])
set_option maxRecDepth 100000 in
set_option maxHeartbeats 2000000 in
theorem Equivalent_any (g va vb : Value) (n : Int) (es : List Tri) (a b : List Int) (w : World) (hg : GV w g n es) (ha : RI w va a) (hb : RI w vb b) (hs : Sm n es) (hla : Lw n a) (hlb : Lw n b) :
    Calls Tryz.prog 11 #[g, va, vb] w fun e w' => ∃ bb v u er, e = .returned (.tuple #[.bool bb, v, .int .i64 er]) ∧ OI w' w.heap.size v u ∧ Below w.heap.size w w' ∧ EqvP n es a b bb u er := by
  obtain ⟨A, c, rfl, -, -, -⟩ := hg.open_
  obtain ⟨A2, c2, rfl, -, -, -⟩ := ha.open_
  obtain ⟨A3, c3, rfl, -, -, -⟩ := hb.open_
  obtain ⟨W0, hW0⟩ : ∃ W0, W0 = w.alloc (.cells #[.int .i64 n, .slice A es.length c] 24) := ⟨_, rfl⟩
  have hb0 : Below w.heap.size w W0 := by rw [hW0]; exact below_alloc w _
  have hz0 : W0.heap.size = w.heap.size + 1 := by rw [hW0]; simp
  have hbx : BL W0 w.heap.size 24 [.int .i64 n, .slice A es.length c] := by rw [hW0]; exact BL.new' w _ _
  obtain ⟨W1, hW1⟩ : ∃ W1, W1 = W0.alloc (.cells #[.slice A2 a.length c2, .slice A3 b.length c3] 26) := ⟨_, rfl⟩
  have hb1 : Below W0.heap.size W0 W1 := by rw [hW1]; exact below_alloc W0 _
  have hz1 : W1.heap.size = W0.heap.size + 1 := by rw [hW1]; simp
  have hrr : RR W1 (.slice (some ⟨W0.heap.size, 0, none⟩) 2 2) [a, b] := by rw [hW1]; exact RR.lit2 26 (ha.below hb0) (hb.below hb0)
  rw [hz0] at hrr
  have HGi := Lib.hid (eGiven_any _ _ n es [a, b] W1 ((hg.below hb0).below hb1) hrr)
  have c00 := hbx.cell 0
  have c01 := hbx.cell 1
  have HG1 := Lib.hid ((hg.below hb0).below hb1)
  have HA1 := Lib.hid (RI.below (RI.below ha hb0) hb1)
  have HB1 := Lib.hid (RI.below (RI.below hb hb0) hb1)
  have HX1 := Lib.hid (hbx.bel hb1)
  have HW0 := Lib.hid hW0
  have HW1 := Lib.hid hW1
  have HBe := Lib.hid (hb0.trans (hb1.mono (by omega)))
  have HSm := Lib.hid hs
  have HLa := Lib.hid hla
  have HLb := Lib.hid hlb
  clear hg ha hb hb0 hb1 hbx hrr hs hla hlb hW1
  rw [hW0] at c00 c01
  clear hW0
  by_cases h0 : eGiven n es [a, b] = 0
  · rw [h0] at HGi
    obtain ⟨g1, g2, g3⟩ := eGiven_ok h0
    obtain ⟨m, rfl, hrt⟩ := rt_of HSm.out g1 g2
    have HC1 := Lib.hid (g3 a (by simp))
    have HC2 := Lib.hid (g3 b (by simp))
    have HRt := Lib.hid hrt
    have H0 := Lib.hid h0
    clear g1 g2 g3 hrt h0
    go_enter Tryz.func11, Tryz.ntmps11
    go_wp2_with fail
    rw [← HW0.out, ← HW1.out]
    refine HGi.out.mono ?_
    rintro e w1 ⟨rfl, hb1⟩
    have HG2 := Lib.hid (HG1.out.below hb1)
    have HA2 := Lib.hid (RI.below HA1.out hb1)
    have HB2 := Lib.hid (RI.below HB1.out hb1)
    have HX2 := Lib.hid (HX1.out.bel hb1)
    have HBe2 := Lib.hid (HBe.out.trans (hb1.mono HBe.out.size))
    have c10 := HX2.out.cell 0
    have c11 := HX2.out.cell 1
    have HR1 := Lib.hid (HRt.out.reduce _ _ a w1 HG2.out HA2.out HC1.out HLa.out)
    clear hb1 c00 c01
    go_wp2_with fail
    refine HR1.out.mono ?_
    rintro e w2 ⟨vr1, vs1, r1, s1, rfl, ho1, hp1, hd1, hb2⟩
    have HG3 := Lib.hid (HG2.out.below hb2)
    have HB3 := Lib.hid (RI.below HB2.out hb2)
    have HX3 := Lib.hid (HX2.out.bel hb2)
    have HBe3 := Lib.hid (HBe2.out.trans (hb2.mono HBe2.out.size))
    have c20 := HX3.out.cell 0
    have c21 := HX3.out.cell 1
    have HR2 := Lib.hid (HRt.out.reduce _ _ b w2 HG3.out HB3.out HC2.out HLb.out)
    have HO1 := Lib.hid ho1
    have HP1 := Lib.hid hp1
    have HD1 := Lib.hid hd1
    clear hb2 c10 c11 ho1 hp1 hd1 HR1
    go_wp2_with fail
    refine HR2.out.mono ?_
    rintro e w3 ⟨vr2, vs2, r2, s2, rfl, ho2, hp2, hd2, hb3⟩
    have HO1' := Lib.hid (OI.below HO1.out hb3)
    have HP1' := Lib.hid (OI.below HP1.out hb3)
    have HBe4 := Lib.hid (HBe3.out.trans (hb3.mono HBe3.out.size))
    have HEq := Lib.hid (EqualD_any _ _ r1 r2 w3 HO1'.out.rv ho2.rv)
    have HP2 := Lib.hid hp2
    have HD2 := Lib.hid hd2
    clear hb3 c20 c21 ho2 hp2 hd2 HR2
    by_cases hrr : r1 = r2
    · rw [(eqL_iff _ _).2 hrr] at HEq
      have HRR := Lib.hid hrr
      have hl1 := HD1.out.sl
      have hl2 := HD2.out.sl
      have h6 := HRt.out.n6
      have hb1 : ∀ k, k < s1.length → -1048576 ≤ s1.getD k 0 ∧ s1.getD k 0 ≤ 1048576 := fun k hk => HD1.out.sb k (by omega)
      have hb2 : ∀ k, k < s1.length → -1048576 ≤ s2.getD k 0 ∧ s2.getD k 0 ≤ 1048576 := fun k hk => HD2.out.sb k (by omega)
      have HEa := fun j => eachS_any vs1 vs2 _ s1 s2 Mid _ (w3.drewN j) (OV.rv (OV.below HP1'.out (below_drewN (Below.refl _ _) j))) (OV.rv (OV.below HP2.out (below_drewN (Below.refl _ _) j))) (by omega) (by omega) (fun k hk => ⟨by have := hb1 k hk; omega, by have := hb1 k hk; omega, by have := hb2 k hk; omega, by have := hb2 k hk; omega⟩) (subD_clo _)
      have hzl : (List.zipWith (fun x y => x - y) s1 s2).length ≤ 100 := by simp; omega
      have hzb : Bd 10000000 (List.zipWith (fun x y => x - y) s1 s2) := fun j => by
        rw [List.getD_eq_getElem?_getD]
        by_cases hj : j < (List.zipWith (fun x y : Int => x - y) s1 s2).length
        · rw [List.getElem?_eq_getElem hj]
          simp only [List.getElem_zipWith, Option.getD_some]
          simp only [List.length_zipWith] at hj
          have a1 := hb1 j (by omega)
          have a2 := hb2 j (by omega)
          rw [List.getD_eq_getElem?_getD, List.getElem?_eq_getElem (by omega)] at a1 a2
          simp only [Option.getD_some] at a1 a2
          omega
        · rw [List.getElem?_eq_none (by omega)]; simp
      have HEA := Lib.hid HEa
      have HZL := Lib.hid hzl
      have HZB := Lib.hid hzb
      clear HEa hzl hzb hb1 hb2 hl1 hl2 h6 hrr
      go_wp2_with fail
      refine HEq.out.mono ?_
      rintro e w4 ⟨rfl, j, rfl⟩
      go_wp2_with fail
      refine (HEA.out j).mono ?_
      rintro e w5 ⟨v5, rfl, ho5, hb5⟩
      have HLe := Lib.hid (least_any v5 _ w5 ho5.rv HZL.out HZB.out)
      have HBe5 := Lib.hid ((below_drewN HBe4.out j).trans (hb5.mono HBe4.out.size))
      clear ho5 hb5
      go_wp2_with fail
      refine HLe.out.mono ?_
      rintro e w6 ⟨v6, rfl, ho6, hb6⟩
      have HO6 := Lib.hid ho6
      have HB6 := Lib.hid hb6
      clear ho6 hb6
      go_wp2
      refine bodyPost_ret (results_tmp3 rfl _ _ _) rfl ?_
      exact ⟨true, v6, _, 0, rfl, OV.mono HO6.out HBe5.out.size, HBe5.out.trans (HB6.out.mono HBe5.out.size), .inr ⟨H0.out, rfl, m, r1, s1, r2, s2, rfl, HRt.out, HD1.out, HD2.out, by simp [HRR.out], by rw [if_pos HRR.out]⟩⟩
    · rw [Bool.eq_false_iff.2 (fun h => hrr ((eqL_iff _ _).1 h))] at HEq
      have HRR := Lib.hid hrr
      clear hrr
      go_wp2_with fail
      refine HEq.out.mono ?_
      rintro e w4 ⟨rfl, j, rfl⟩
      go_wp2
      refine bodyPost_ret (results_tmp3 rfl _ _ _) rfl ?_
      exact ⟨false, _, [], 0, rfl, OI.nil_ _ _, below_drewN HBe4.out j, .inr ⟨H0.out, rfl, m, r1, s1, r2, s2, rfl, HRt.out, HD1.out, HD2.out, by simp [HRR.out], by rw [if_neg HRR.out]⟩⟩
  · have hne : (eGiven n es [a, b] != 0) = true := by simpa using h0
    have H0 := Lib.hid h0
    obtain ⟨ge, hge⟩ : ∃ ge, ge = eGiven n es [a, b] := ⟨_, rfl⟩
    rw [← hge] at HGi hne h0
    have HGE := Lib.hid hge
    clear hge
    go_enter Tryz.func11, Tryz.ntmps11
    go_wp2_with fail
    rw [← HW0.out, ← HW1.out]
    refine HGi.out.mono ?_
    rintro e w1 ⟨rfl, hb1⟩
    have HBe2 := Lib.hid (HBe.out.trans (hb1.mono HBe.out.size))
    clear hb1 c00 c01
    go_wp2
    refine bodyPost_ret (results_tmp3 rfl _ _ _) rfl ?_
    exact ⟨false, _, [], ge, rfl, OI.nil_ _ _, HBe2.out, .inl ⟨H0.out, rfl, rfl, HGE.out⟩⟩
end Go.Proofs.YtefggpdobjboeaaGreat

namespace Go.Proofs.YtefggpdobjboeaaGreat
open Go.RowKit Go.Shelf

theorem RR.lit3 {w : World} {v u t : Value} {zs ys xs : List Int} (e : TypeId) (h : RI w v zs) (h' : RI w u ys) (h'' : RI w t xs) : RR (w.alloc (.cells #[v, u, t] e)) (.slice (some ⟨w.heap.size, 0, none⟩) 3 3) [zs, ys, xs] := by
  refine ⟨[v, u, t], RV.lit w #[v, u, t] e 3 rfl (by omega), rfl, fun k zs' hk => ?_⟩
  match k, hk with
  | 0, hk => simp at hk; subst hk; exact ⟨v, rfl, h.below (below_alloc w _)⟩
  | 1, hk => simp at hk; subst hk; exact ⟨u, rfl, h'.below (below_alloc w _)⟩
  | 2, hk => simp at hk; subst hk; exact ⟨t, rfl, h''.below (below_alloc w _)⟩
def verifyE (n : Int) (es : List Tri) (a b s : List Int) : Int :=
  if eGiven n es [a, b, s] ≠ 0 then eGiven n es [a, b, s] else if (applyL n es a s).2 = 0 ∧ (applyL n es a s).1 = b then 0 else 16
set_option maxRecDepth 100000 in
set_option maxHeartbeats 2000000 in
theorem Verify_any (g va vb vs : Value) (n : Int) (es : List Tri) (a b s : List Int) (w : World) (hg : GV w g n es) (ha : RI w va a) (hb : RI w vb b) (hs : RI w vs s) :
    Calls Tryz.prog 32 #[g, va, vb, vs] w fun e w' => e = .returned (.int .i64 (verifyE n es a b s)) ∧ Below w.heap.size w w' := by
  obtain ⟨A, c, rfl, -, -, -⟩ := hg.open_
  obtain ⟨A2, c2, rfl, -, -, -⟩ := ha.open_
  obtain ⟨A3, c3, rfl, -, -, -⟩ := hb.open_
  obtain ⟨A4, c4, rfl, -, -, -⟩ := hs.open_
  obtain ⟨W0, hW0⟩ : ∃ W0, W0 = w.alloc (.cells #[.int .i64 n, .slice A es.length c] 24) := ⟨_, rfl⟩
  have hb0 : Below w.heap.size w W0 := by rw [hW0]; exact below_alloc w _
  have hz0 : W0.heap.size = w.heap.size + 1 := by rw [hW0]; simp
  have hbx : BL W0 w.heap.size 24 [.int .i64 n, .slice A es.length c] := by rw [hW0]; exact BL.new' w _ _
  obtain ⟨W1, hW1⟩ : ∃ W1, W1 = W0.alloc (.cells #[.slice A2 a.length c2, .slice A3 b.length c3, .slice A4 s.length c4] 26) := ⟨_, rfl⟩
  have hb1 : Below W0.heap.size W0 W1 := by rw [hW1]; exact below_alloc W0 _
  have hrr : RR W1 (.slice (some ⟨W0.heap.size, 0, none⟩) 3 3) [a, b, s] := by rw [hW1]; exact RR.lit3 26 (ha.below hb0) (hb.below hb0) (hs.below hb0)
  rw [hz0] at hrr
  have HGi := Lib.hid (eGiven_any _ _ n es [a, b, s] W1 ((hg.below hb0).below hb1) hrr)
  have c00 := hbx.cell 0
  have c01 := hbx.cell 1
  have HG1 := Lib.hid ((hg.below hb0).below hb1)
  have HA1 := Lib.hid (RI.below (RI.below ha hb0) hb1)
  have HB1 := Lib.hid (RI.below (RI.below hb hb0) hb1)
  have HS1 := Lib.hid (RI.below (RI.below hs hb0) hb1)
  have HX1 := Lib.hid (hbx.bel hb1)
  have HW0 := Lib.hid hW0
  have HW1 := Lib.hid hW1
  have HBe := Lib.hid (hb0.trans (hb1.mono (by omega)))
  clear hg ha hb hs hb0 hb1 hbx hrr hW1
  rw [hW0] at c00 c01
  clear hW0
  by_cases h0 : eGiven n es [a, b, s] = 0
  · rw [h0] at HGi
    have H0 := Lib.hid h0
    clear h0
    go_enter Tryz.func32, Tryz.ntmps32
    go_wp2_with fail
    rw [← HW0.out, ← HW1.out]
    refine HGi.out.mono ?_
    rintro e w1 ⟨rfl, hb1⟩
    have HX2 := Lib.hid (HX1.out.bel hb1)
    have c10 := HX2.out.cell 0
    have c11 := HX2.out.cell 1
    have HAp := Lib.hid (Apply_any _ _ _ n es a s w1 (HG1.out.below hb1) (RI.below HA1.out hb1) (RI.below HS1.out hb1))
    have HB2 := Lib.hid (RI.below HB1.out hb1)
    have HBe2 := Lib.hid (HBe.out.trans (hb1.mono HBe.out.size))
    clear hb1 c00 c01
    obtain ⟨r, er⟩ : ∃ r : List Int × Int, r = applyL n es a s := ⟨_, rfl⟩
    rw [← er] at HAp
    obtain ⟨cl, ce⟩ := r
    have HR := Lib.hid er
    clear er
    go_wp2_with fail
    refine HAp.out.mono ?_
    rintro e w2 ⟨v2, rfl, ho2, hb2⟩
    have HEq := Lib.hid (EqualD_any _ _ cl b w2 ho2.rv (RI.below HB2.out hb2))
    have HBe3 := Lib.hid (HBe2.out.trans (hb2.mono HBe2.out.size))
    have HO2 := Lib.hid ho2
    clear hb2 c10 c11 ho2
    by_cases hce : ce = 0
    · subst hce
      by_cases hcl : cl = b
      · rw [(eqL_iff _ _).2 hcl] at HEq
        have HCl := Lib.hid hcl
        clear hcl
        go_wp2_with fail
        refine HEq.out.mono ?_
        rintro e w4 ⟨rfl, j, rfl⟩
        go_wp2
        go_ret
        exact ⟨ret_i (by unfold verifyE; rw [if_neg (by simp [H0.out]), ← HR.out, if_pos ⟨rfl, HCl.out⟩]), below_drewN HBe3.out j⟩
      · rw [Bool.eq_false_iff.2 (fun h => hcl ((eqL_iff _ _).1 h))] at HEq
        have HCl := Lib.hid hcl
        clear hcl
        go_wp2_with fail
        refine HEq.out.mono ?_
        rintro e w4 ⟨rfl, j, rfl⟩
        go_wp2
        go_ret
        exact ⟨ret_i (by unfold verifyE; rw [if_neg (by simp [H0.out]), ← HR.out, if_neg (fun h => HCl.out h.2)]), below_drewN HBe3.out j⟩
    · have hne : (ce != 0) = true := by simpa using hce
      have HCE := Lib.hid hce
      go_wp2
      go_ret
      exact ⟨ret_i (by unfold verifyE; rw [if_neg (by simp [H0.out]), ← HR.out, if_neg (fun h => HCE.out h.1)]), HBe3.out⟩
  · have hne : (eGiven n es [a, b, s] != 0) = true := by simpa using h0
    have H0 := Lib.hid h0
    obtain ⟨ge, hge⟩ : ∃ ge, ge = eGiven n es [a, b, s] := ⟨_, rfl⟩
    rw [← hge] at HGi hne h0
    have HGE := Lib.hid hge
    clear hge
    go_enter Tryz.func32, Tryz.ntmps32
    go_wp2_with fail
    rw [← HW0.out, ← HW1.out]
    refine HGi.out.mono ?_
    rintro e w1 ⟨rfl, hb1⟩
    have HBe2 := Lib.hid (HBe.out.trans (hb1.mono HBe.out.size))
    clear hb1 c00 c01
    go_wp2
    go_ret
    exact ⟨ret_i (by unfold verifyE; rw [if_pos H0.out]; exact HGE.out), HBe2.out⟩
/-- What Normal answers. -/
def NrmP (n : Int) (es : List Tri) (d u : List Int) (er : Int) : Prop :=
  (eGiven n es [d] ≠ 0 ∧ u = [] ∧ er = eGiven n es [d]) ∨ (eGiven n es [d] = 0 ∧ er = 0 ∧ ∃ (m : Nat) (s : List Int), n = m ∧ Rt m es ∧ Red m 0 es d u s)
set_option maxRecDepth 100000 in
set_option maxHeartbeats 2000000 in
theorem Normal_any (g vd : Value) (n : Int) (es : List Tri) (d : List Int) (w : World) (hg : GV w g n es) (hd : RI w vd d) (hs : Sm n es) (hl : Lw n d) :
    Calls Tryz.prog 20 #[g, vd] w fun e w' => ∃ v u er, e = .returned (.tuple #[v, .int .i64 er]) ∧ OI w' w.heap.size v u ∧ Below w.heap.size w w' ∧ NrmP n es d u er := by
  obtain ⟨A, c, rfl, -, -, -⟩ := hg.open_
  obtain ⟨A2, c2, rfl, -, -, -⟩ := hd.open_
  obtain ⟨W0, hW0⟩ : ∃ W0, W0 = w.alloc (.cells #[.int .i64 n, .slice A es.length c] 24) := ⟨_, rfl⟩
  have hb0 : Below w.heap.size w W0 := by rw [hW0]; exact below_alloc w _
  have hz0 : W0.heap.size = w.heap.size + 1 := by rw [hW0]; simp
  have hbx : BL W0 w.heap.size 24 [.int .i64 n, .slice A es.length c] := by rw [hW0]; exact BL.new' w _ _
  obtain ⟨W1, hW1⟩ : ∃ W1, W1 = W0.alloc (.cells #[.slice A2 d.length c2] 26) := ⟨_, rfl⟩
  have hb1 : Below W0.heap.size W0 W1 := by rw [hW1]; exact below_alloc W0 _
  have hrr : RR W1 (.slice (some ⟨W0.heap.size, 0, none⟩) 1 1) [d] := by rw [hW1]; exact RR.lit1 26 (hd.below hb0)
  rw [hz0] at hrr
  have HGi := Lib.hid (eGiven_any _ _ n es [d] W1 ((hg.below hb0).below hb1) hrr)
  have c00 := hbx.cell 0
  have c01 := hbx.cell 1
  have HG1 := Lib.hid ((hg.below hb0).below hb1)
  have HA1 := Lib.hid (RI.below (RI.below hd hb0) hb1)
  have HX1 := Lib.hid (hbx.bel hb1)
  have HW0 := Lib.hid hW0
  have HW1 := Lib.hid hW1
  have HBe := Lib.hid (hb0.trans (hb1.mono (by omega)))
  have HSm := Lib.hid hs
  have HLa := Lib.hid hl
  clear hg hd hb0 hb1 hbx hrr hs hl hW1
  rw [hW0] at c00 c01
  clear hW0
  by_cases h0 : eGiven n es [d] = 0
  · rw [h0] at HGi
    obtain ⟨g1, g2, g3⟩ := eGiven_ok h0
    obtain ⟨m, rfl, hrt⟩ := rt_of HSm.out g1 g2
    have HC1 := Lib.hid (g3 d (by simp))
    have HRt := Lib.hid hrt
    have H0 := Lib.hid h0
    clear g1 g2 g3 hrt h0
    go_enter Tryz.func20, Tryz.ntmps20
    go_wp2_with fail
    rw [← HW0.out, ← HW1.out]
    refine HGi.out.mono ?_
    rintro e w1 ⟨rfl, hb1⟩
    have HX2 := Lib.hid (HX1.out.bel hb1)
    have HBe2 := Lib.hid (HBe.out.trans (hb1.mono HBe.out.size))
    have c10 := HX2.out.cell 0
    have c11 := HX2.out.cell 1
    have HR1 := Lib.hid (HRt.out.reduce _ _ d w1 (HG1.out.below hb1) (RI.below HA1.out hb1) HC1.out HLa.out)
    clear hb1 c00 c01
    go_wp2_with fail
    refine HR1.out.mono ?_
    rintro e w2 ⟨vr1, vs1, r1, s1, rfl, ho1, hp1, hd1, hb2⟩
    have HBe3 := Lib.hid (HBe2.out.trans (hb2.mono HBe2.out.size))
    have HO1 := Lib.hid (OV.mono ho1 HBe2.out.size : OI w2 w.heap.size vr1 r1)
    have HD1 := Lib.hid hd1
    clear hb2 c10 c11 ho1 hp1 hd1 HR1
    go_wp2
    refine bodyPost_ret (results_tmp2 rfl _ _ _) rfl ?_
    exact ⟨vr1, r1, 0, rfl, HO1.out, HBe3.out, .inr ⟨H0.out, rfl, m, s1, rfl, HRt.out, HD1.out⟩⟩
  · have hne : (eGiven n es [d] != 0) = true := by simpa using h0
    have H0 := Lib.hid h0
    obtain ⟨ge, hge⟩ : ∃ ge, ge = eGiven n es [d] := ⟨_, rfl⟩
    rw [← hge] at HGi hne h0
    have HGE := Lib.hid hge
    clear hge
    go_enter Tryz.func20, Tryz.ntmps20
    go_wp2_with fail
    rw [← HW0.out, ← HW1.out]
    refine HGi.out.mono ?_
    rintro e w1 ⟨rfl, hb1⟩
    have HBe2 := Lib.hid (HBe.out.trans (hb1.mono HBe.out.size))
    clear hb1 c00 c01
    go_wp2
    refine bodyPost_ret (results_tmp2 rfl _ _ _) rfl ?_
    exact ⟨_, [], ge, rfl, OI.nil_ _ _, HBe2.out, .inl ⟨H0.out, rfl, HGE.out⟩⟩
theorem nz_clo (w : World) : CloB Tryz.prog w (.func (.func 63) #[] #[]) (fun _ => True) (fun x => x != 0) :=
  ⟨_, _, rfl, enters_of Tryz.func63 (by kernel_rfl) rfl, fun W _ x _ => by
    go_enter Tryz.func63, Tryz.ntmps63
    go_wp2
    go_ret
    exact ⟨rfl, rfl⟩⟩
/-- What Principal answers. -/
def PrcP (n : Int) (es : List Tri) (d : List Int) (bb : Bool) (er : Int) : Prop :=
  (eGiven n es [d] ≠ 0 ∧ bb = false ∧ er = eGiven n es [d]) ∨ (eGiven n es [d] = 0 ∧ er = 0 ∧ ∃ (m : Nat) (r s : List Int), n = m ∧ Rt m es ∧ Red m 0 es d r s ∧ bb = !r.any fun x => x != 0)
set_option maxRecDepth 100000 in
set_option maxHeartbeats 2000000 in
theorem Principal_any (g vd : Value) (n : Int) (es : List Tri) (d : List Int) (w : World) (hg : GV w g n es) (hd : RI w vd d) (hs : Sm n es) (hl : Lw n d) :
    Calls Tryz.prog 22 #[g, vd] w fun e w' => ∃ bb er, e = .returned (.tuple #[.bool bb, .int .i64 er]) ∧ Below w.heap.size w w' ∧ PrcP n es d bb er := by
  obtain ⟨A, c, rfl, -, -, -⟩ := hg.open_
  obtain ⟨A2, c2, rfl, -, -, -⟩ := hd.open_
  obtain ⟨W0, hW0⟩ : ∃ W0, W0 = w.alloc (.cells #[.int .i64 n, .slice A es.length c] 24) := ⟨_, rfl⟩
  have hb0 : Below w.heap.size w W0 := by rw [hW0]; exact below_alloc w _
  have hbx : BL W0 w.heap.size 24 [.int .i64 n, .slice A es.length c] := by rw [hW0]; exact BL.new' w _ _
  have HNo := Lib.hid (Normal_any _ _ n es d W0 (hg.below hb0) (RI.below hd hb0) hs hl)
  have c00 := hbx.cell 0
  have c01 := hbx.cell 1
  have HW0 := Lib.hid hW0
  have HBe := Lib.hid hb0
  clear hg hd hb0 hbx hs hl
  rw [hW0] at c00 c01
  clear hW0
  go_enter Tryz.func22, Tryz.ntmps22
  go_wp2_with fail
  rw [← HW0.out]
  refine HNo.out.mono ?_
  rintro e w1 ⟨v, u, er, rfl, ho, hb1, hp⟩
  have HBe2 := Lib.hid (HBe.out.trans (hb1.mono HBe.out.size))
  have HCo := Lib.hid (ContainsD_any v _ u (fun _ => True) _ w1 ho.rv (nz_clo w1) (fun _ _ => trivial))
  have HP := Lib.hid hp
  clear c00 c01 hb1 ho
  rcases hp with ⟨h1, rfl, h3⟩ | ⟨h1, rfl, m, s, rfl, hrt, hred⟩
  · have hn0 : ¬ er = 0 := by rw [h3]; exact h1
    have hne : (er != 0) = true := by simpa using hn0
    have H1 := Lib.hid h1
    have H3 := Lib.hid h3
    clear h1 h3
    go_wp2
    refine bodyPost_ret (results_tmp2 rfl _ _ _) rfl ?_
    exact ⟨false, er, rfl, HBe2.out, .inl ⟨H1.out, rfl, H3.out⟩⟩
  · have H1 := Lib.hid h1
    have HRt := Lib.hid hrt
    have HRd := Lib.hid hred
    clear h1 hrt hred
    go_wp2_with fail
    refine HCo.out.mono ?_
    rintro e w2 ⟨rfl, rfl⟩
    go_wp2
    refine bodyPost_ret (results_tmp2 rfl _ _ _) rfl ?_
    exact ⟨_, 0, rfl, HBe2.out, .inr ⟨H1.out, rfl, m, u, s, rfl, HRt.out, HRd.out, rfl⟩⟩
def leastE (s : List Int) : List Int × Int := if 12 < s.length then ([], 5) else if s.all InB then (leastL s, 0) else ([], 2)
set_option maxRecDepth 100000 in
set_option maxHeartbeats 2000000 in
theorem Least_any (v : Value) (s : List Int) (w : World) (hv : RI w v s) :
    Calls Tryz.prog 28 #[v] w (Pair w (leastE s)) := by
  obtain ⟨A, c, rfl, hlc, hc, hcell⟩ := hv.open_
  by_cases h1 : 12 < s.length
  · have e1 : leastE s = ([], 5) := by unfold leastE; rw [if_pos h1]
    rw [e1]
    clear hv hcell e1
    go_enter Tryz.func28, Tryz.ntmps28
    go_wp2
    refine bodyPost_ret (results_tmp2 rfl _ _ _) rfl ?_
    exact ⟨_, rfl, OI.nil_ _ _, Below.refl _ _⟩
  · have HC := Lib.hid hcell
    have HV := Lib.hid hv
    have HE : Hid (leastE s = if s.all InB then (leastL s, 0) else ([], 2)) := by show _ = _; unfold leastE; rw [if_neg h1]
    clear hcell hv
    go_enter Tryz.func28, Tryz.ntmps28
    go_wp2
    go_loop [11] (fun i => ∃ k : Nat, k ≤ s.length ∧ i = .int .i64 (k : Int) ∧ Hid ((s.drop k).all InB = s.all InB)) (fun i => s.length - (intOf i).toNat)
    case atStart => exact ⟨0, Nat.zero_le _, rfl, rfl⟩
    case round =>
      obtain ⟨k, hk, rfl, hr⟩ := hrel
      by_cases hlt : k < s.length
      · obtain ⟨ad, z, rfl, _, hz, hcl⟩ := HC.out k hlt
        have HD := Lib.hid (drop_at hz)
        by_cases hlo : z < -1048576
        · have hb : InB z = false := by rw [Bool.eq_false_iff]; intro h; have := (inB_iff z).1 h; omega
          have HB := Lib.hid hb
          clear hb
          go_wp2
          refine bodyPost_ret (results_tmp2 rfl _ _ _) rfl ?_
          have h := hr.out
          rw [HD.out] at h
          simp only [List.all_cons, HB.out, Bool.false_and] at h
          rw [HE.out, ← h]
          exact ⟨_, rfl, OI.nil_ _ _, Below.refl _ _⟩
        · by_cases hhi : 1048576 < z
          · have hb : InB z = false := by rw [Bool.eq_false_iff]; intro h; have := (inB_iff z).1 h; omega
            have HB := Lib.hid hb
            clear hb
            go_wp2
            refine bodyPost_ret (results_tmp2 rfl _ _ _) rfl ?_
            have h := hr.out
            rw [HD.out] at h
            simp only [List.all_cons, HB.out, Bool.false_and] at h
            rw [HE.out, ← h]
            exact ⟨_, rfl, OI.nil_ _ _, Below.refl _ _⟩
          · have hb : InB z = true := (inB_iff z).2 (by omega)
            have HB := Lib.hid hb
            clear hb
            go_wp2
            go_round
            case rel => exact ⟨k + 1, by omega, by go_num, by have := hr.out; rw [HD.out] at this; simpa [Hid, HB.out] using this⟩
            case measure => simp [intOf]; omega
      · have h := hr.out
        rw [List.drop_of_length_le (by omega)] at h
        have hall : s.all InB = true := by rw [← h]; rfl
        have hbd : Bd 10000000 s := Bd.mono (inB_bd hall) (by omega)
        have HLe := Lib.hid (least_any _ s w HV.out (by omega) hbd)
        have HA := Lib.hid hall
        clear h hall hbd
        go_wp2_with fail
        refine HLe.out.mono ?_
        rintro e w2 ⟨v', rfl, ho, hb2⟩
        have HO := Lib.hid ho
        have HB2 := Lib.hid hb2
        clear ho hb2
        go_wp2
        refine bodyPost_ret (results_tmp2 rfl _ _ _) rfl ?_
        rw [HE.out, if_pos HA.out]
        exact ⟨_, rfl, HO.out, HB2.out⟩
end Go.Proofs.YtefggpdobjboeaaGreat
