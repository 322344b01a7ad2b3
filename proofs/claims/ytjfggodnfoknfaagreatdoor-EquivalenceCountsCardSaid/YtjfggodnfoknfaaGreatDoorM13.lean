/- Contract of reduced's Reduce on small graphs.
   Contracts of package equivalence: Equivalent.
   Contracts of package equivalence: Verify, Normal, Principal, Least.
   A range over a function whose round begins by writing memory (a loop variable of more cells than one).
   The single edges of a graph: graph.singles and its iterator. -/
import Derived.Test.YtjfggodnfoknfaaGreatDoorM12
set_option maxRecDepth 100000
set_option maxHeartbeats 16000000
namespace Go.Proofs.YtjfggodnfoknfaaGreatDoor
open Go.RowKit Go.Shelf

/-- r is the reduced form of zs at q, by the script s, in which q does not fire. -/
structure Red (n q : Nat) (es : List Tri) (zs r s : List Int) : Prop where
  rl : r.length = n
  sl : s.length = n
  eq : ∀ v, v < n → r.getD v 0 = zs.getD v 0 - lap n (wgt es) (fun u => s.getD u 0) v
  own : s.getD q 0 = 0
  pos : ∀ v, v < n → v ≠ q → 0 ≤ r.getD v 0
  tight : Tight n (wgt es) q (fnD r)
  rb : ∀ v, v < n → -1048576 ≤ r.getD v 0 ∧ r.getD v 0 ≤ 1048576
  sb : ∀ v, v < n → -1048576 ≤ s.getD v 0 ∧ s.getD v 0 ≤ 1048576
theorem sumN_bd {n : Nat} {f : Nat → Int} {B : Int} (h : ∀ v, v < n → -B ≤ f v ∧ f v ≤ B) : -(n * B) ≤ sumN n f ∧ sumN n f ≤ n * B := by
  induction n with
  | zero => simp [sumN]
  | succ n ih =>
    have h1 := ih fun v hv => h v (by omega)
    have h2 := h n (by omega)
    have e : ((n + 1 : Nat) : Int) * B = n * B + B := by rw [Int.natCast_succ, Int.add_mul, Int.one_mul]
    simp only [sumN]
    rw [e]; omega
theorem lnd_ready {n q : Nat} {es : List Tri} {zs d1 s1 o : List Int} {top : Int} (hE : Edges n es) (hn : n ≤ 6) (hm : multS es ≤ 9) (hzb : Bd 100 zs) (hD : Dist n q es o) (htop : top ≤ 12) (hL : Lnd n es o zs top d1 s1 0) :
    (∀ v, v < n → v ≠ q → 0 ≤ d1.getD v 0) ∧ (sumN n fun v => d1.getD v 0) - d1.getD q 0 ≤ 52000 ∧ (-1000000 ≤ d1.getD q 0 ∧ d1.getD q 0 ≤ 1000000) ∧ Bd 1000000 s1 := by
  obtain ⟨b1, b2⟩ := hL.bds hE hm (Int.le_refl _) htop
  refine ⟨fun v hv hne => hL.pos v hv ?_, ?_, by have := b1 q; omega, fun j => by have := b2 j; omega⟩
  · obtain ⟨p, hp, he, -⟩ := hD.par v hv hne
    have := (hD.bd p hp).1
    omega
  · have e : (sumN n fun v => d1.getD v 0) = (sumN n fun v => zs.getD v 0) + -(sumN n fun v => lap n (wgt es) (fun u => s1.getD u 0) v) := by
      rw [← sumN_neg, ← sumN_add]
      exact sumN_congr fun v hv => by rw [hL.eq v hv]; omega
    rw [lap_sum (wgt_sym es)] at e
    have hb := (sumN_bd (n := n) (f := fun v => zs.getD v 0) (B := 100) (fun v _ => hzb v)).2
    have := (b1 q).1
    rw [e]
    omega
theorem lap_less {n q : Nat} {es : List Tri} {s : List Int} (hs : s.length = n) {v : Nat} (hv : v < n) : lap n (wgt es) (fun u => (lessL s (s.getD q 0) n).getD u 0) v = lap n (wgt es) (fun u => s.getD u 0) v := by
  unfold lap
  refine sumN_congr fun u hu => ?_
  simp only [lessL_get (show n ≤ s.length by omega), if_pos hv, if_pos hu]
  congr 1; omega
/-- What lend and settle leave, joined. -/
theorem red_of {n q : Nat} {es : List Tri} {zs d1 s1 d s o : List Int} {top : Int} (hE : Edges n es) (hc : Conn n (wgt es)) (hq : q < n) (hn : n ≤ 6) (hm : multS es ≤ 9) (hzb : Bd 100 zs) (hD : Dist n q es o) (htop : top ≤ 12) (hL : Lnd n es o zs top d1 s1 0) (hS : Stl n q es d1 s1 d s) (hT : Tight n (wgt es) q (fnD d)) :
    Red n q es zs d (lessL s (s.getD q 0) n) ∧ (∀ v, v < n → -1048576 ≤ d.getD v 0 ∧ d.getD v 0 ≤ 1048576) ∧ (∀ v, v < n → -1048576 ≤ s.getD v 0 - s.getD q 0 ∧ s.getD v 0 - s.getD q 0 ≤ 1048576) := by
  obtain ⟨r1, r2, r3, r4⟩ := lnd_ready hE hn hm hzb hD htop hL
  obtain ⟨b1, b2⟩ := hL.bds hE hm (Int.le_refl _) htop
  obtain ⟨t1, t2, t3⟩ := stl_bd hE hc hq hS r1 r2 (by omega)
  have hdb : ∀ v, v < n → -1048576 ≤ d.getD v 0 ∧ d.getD v 0 ≤ 1048576 := fun v hv => by
    by_cases e : v = q
    · subst e
      have := hS.low
      have := b1 v
      omega
    · have := t1 v hv e
      have := hS.pos v hv e
      omega
  have hsb : ∀ v, v < n → -1048576 ≤ s.getD v 0 - s.getD q 0 ∧ s.getD v 0 - s.getD q 0 ≤ 1048576 := fun v hv => by
    have h1 := t3 v hv
    have h2 := hS.up v hv
    have h3 := hL.up v hv
    have h4 := (b2 v).2
    have h5 := hL.up q hq
    have h6 := (b2 q).2
    rw [hS.own]
    omega
  refine ⟨⟨hS.dl, by rw [lessL_len]; exact hS.sl, fun v hv => ?_, ?_, hS.pos, hT, hdb, fun v hv => ?_⟩, hdb, hsb⟩
  · rw [hS.eq v hv, hL.eq v hv, lap_less hS.sl hv]
    have : lap n (wgt es) (fun u => s.getD u 0) v = lap n (wgt es) (fun u => s1.getD u 0) v + lap n (wgt es) (fun u => s.getD u 0 - s1.getD u 0) v := by
      rw [← lap_add]; exact lap_congr hv fun u _ => by omega
    omega
  · rw [lessL_get (by have := hS.sl; omega), if_pos hq]; omega
  · rw [lessL_get (by have := hS.sl; omega), if_pos hv]; exact hsb v hv
theorem rGiven_ok {n : Nat} {es : List Tri} {q : Nat} {zs : List Int} (h1 : gcheckE n es = 0) (h2 : connB n es = true) (hq : q < n) (h3 : checkE zs n = 0) : rGiven n es q zs = 0 := by
  unfold rGiven
  rw [if_neg (by simpa using h1), if_neg (by simp [h2]), if_neg (by omega), h3]
theorem Reduce_any (g d : Value) (n q : Nat) (es : List Tri) (zs : List Int) (w : World) (hg : GV w g n es) (hd : RI w d zs) (h1 : gcheckE n es = 0) (h2 : connB n es = true) (hq : q < n) (h3 : checkE zs n = 0) (hn : n ≤ 6) (hm : multS es ≤ 9) (hzb : Bd 100 zs) (hE : Edges n es) (hc : Conn n (wgt es)) :
    Calls Tryz.prog 30 #[g, .int .i64 (q : Int), d] w fun e w' => ∃ vr vs r s, e = .returned (.tuple #[vr, vs, .int .i64 0]) ∧ OI w' w.heap.size vr r ∧ OI w' w.heap.size vs s ∧ Red n q es zs r s ∧ Below w.heap.size w w' := by
  obtain ⟨A, c, rfl, -, -, -⟩ := hg.open_
  obtain ⟨W0, hW0⟩ : ∃ W0, W0 = w.alloc (.cells #[.int .i64 (n : Int), .slice A es.length c] 24) := ⟨_, rfl⟩
  have hb0 : Below w.heap.size w W0 := by rw [hW0]; exact below_alloc w _
  have hz0 : W0.heap.size = w.heap.size + 1 := by rw [hW0]; simp
  have hg0 := hg.below hb0
  have hd0 := hd.below hb0
  have hbx : BL W0 w.heap.size 24 [.int .i64 (n : Int), .slice A es.length c] := by rw [hW0]; exact BL.new' w _ _
  have HGi := rGiven_any _ d n q es zs W0 hg0 hd0
  rw [rGiven_ok h1 h2 hq h3] at HGi
  obtain ⟨-, -, hlen, -⟩ := checkE_ok h3
  have hzl : zs.length = n := by omega
  obtain ⟨ev, hev⟩ := hg0
  simp only [Value.agg.injEq] at hev
  obtain ⟨hve, hEV⟩ := hev
  obtain rfl : ev = .slice A es.length c := by simpa using hve.symm
  obtain ⟨eb, hEB, heb⟩ := hEV.toB (by omega)
  have HG0 := Lib.hid (hg.below hb0)
  have HD0 := Lib.hid hd0
  have HGI := Lib.hid HGi
  have HB0 := Lib.hid hb0
  have HW0 := Lib.hid hW0
  have HBX := Lib.hid hbx
  have HEB := Lib.hid hEB
  have HE := Lib.hid hE
  have HC := Lib.hid hc
  have HZB := Lib.hid hzb
  have HM := Lib.hid hm
  clear hg hd h1 h2 h3 hm hzb hE hc hb0 hW0 hbx hEB HGi hEV hd0 hve
  go_enter Tryz.func30, Tryz.ntmps30
  go_wp2_with fail
  rw [← HW0.out]
  refine HGI.out.mono ?_
  rintro e w1 ⟨rfl, hb1⟩
  have HG1 := HG0.out.below hb1
  have HD1 := HD0.out.below hb1
  have hbx1 := HBX.out.bel hb1
  have c0 := hbx1.cell 0
  have c1 := hbx1.cell 1
  have HBeg := Lib.hid (begin_any _ d n (q : Int) es zs w1 HG1 HD1 hzl (by omega) (by omega))
  have HEB1 := Lib.hid (HEB.out.below hb1)
  have hz1 := hb1.size
  have HB1 := Lib.hid (HB0.out.trans (hb1.mono (by omega)))
  clear hb1 hbx1 HG1 HD1
  go_wp2_with fail
  refine HBeg.out.mono ?_
  rintro e w2 ⟨b, ve, rfl, hge, ⟨gd, capd, gs, caps, hST, hd2, hs2, hgg, hBb, hdl, hsl⟩, hb2⟩
  obtain rfl : Value.slice A es.length c = ve := by simpa using hge
  have hgd := (hd2.1.lt gd rfl)
  have hgs := (hs2.1.lt gs rfl)
  have hz2 := hb2.size
  have hbs : b ≠ gs := BL.ne_own hST hs2 (by decide)
  have HLe := Lib.hid (lend_any b eb n q gd capd gs caps w1.heap.size _ es zs w2 HE.out hn hq HC.out HM.out hST (HEB1.out.below hb2) (by omega) (by omega) (by omega) hgg hd2 hs2 hdl HZB.out)
  have HB2 := Lib.hid (HB1.out.trans (hb2.mono (by omega)))
  clear hge hST hd2 hs2 hb2 c0 c1
  go_wp2_with fail
  refine HLe.out.mono ?_
  rintro e w3 ⟨⟨vv, rfl⟩, o, top, d1, s1, hR3, hdist, htop, hlnd⟩
  obtain ⟨r1, r2, r3, r4⟩ := lnd_ready HE.out hn HM.out HZB.out hdist htop hlnd
  have hz3 := hR3.2.2.2.2.size
  have HSe := Lib.hid (settle_any b eb n q gd capd gs caps w1.heap.size _ es d1 s1 w3 52000 HE.out (by omega) hq HC.out hR3.1 hR3.2.1 (by omega) (by omega) (by omega) hgg hR3.2.2.1 hR3.2.2.2.1 hlnd.dl hlnd.sl r1 r2 (by omega) r3 r4)
  have HF3 := Lib.hid hR3.2.2.2.2
  have HDi := Lib.hid hdist
  have HLn := Lib.hid hlnd
  clear hR3 r1 r2 r3 r4 hdist hlnd
  go_wp2_with fail
  refine HSe.out.mono ?_
  rintro e w4 ⟨⟨vv2, rfl⟩, d2, s2, hS4, htight⟩
  obtain ⟨hred, hdb, hsb⟩ := red_of HE.out HC.out hq hn HM.out HZB.out HDi.out htop HLn.out hS4.2.2.2.2.2 htight
  have HRe := Lib.hid (result_any b eb n q gd capd gs caps w1.heap.size _ es d2 s2 w4 (by omega) hq ⟨hS4.1, hS4.2.1, hS4.2.2.1, hS4.2.2.2.1, Fr.refl _ _⟩ hbs hgg (by omega) hS4.2.2.2.2.2.dl hS4.2.2.2.2.2.sl hdb hsb)
  have HF4 := Lib.hid (HF3.out.trans hS4.2.2.2.2.1)
  have HRd := Lib.hid hred
  clear hS4 htight hred hdb hsb
  go_wp2_with fail
  refine HRe.out.mono ?_
  rintro e w5 ⟨rfl, hR5⟩
  have HR5 := Lib.hid hR5
  clear hR5
  go_wp2
  refine bodyPost_ret (results_tmp3 rfl _ _ _) rfl ?_
  exact ⟨_, _, d2, _, rfl, OV.mono HR5.out.2.2.1 (by omega), OV.mono HR5.out.2.2.2.1 (by omega), HRd.out, (HF4.out.trans HR5.out.2.2.2.2).toBelow HB2.out (by intro b' hb'; simp only [List.mem_cons, List.not_mem_nil, or_false] at hb'; rcases hb' with rfl | rfl <;> omega)⟩
end Go.Proofs.YtjfggodnfoknfaaGreatDoor

namespace Go.Proofs.YtjfggodnfoknfaaGreatDoor
open Go.RowKit Go.Shelf

/-- What the laws call small. -/
def Sm (n : Int) (es : List Tri) : Prop := gcheckE n es = 0 → n ≤ 6 ∧ multS es ≤ 9
def Lw (n : Int) (zs : List Int) : Prop := checkE zs n = 0 → Bd 100 zs
theorem eGiven_ok {n : Int} {es : List Tri} {l : List (List Int)} (h : eGiven n es l = 0) : gcheckE n es = 0 ∧ connB n es = true ∧ ∀ zs ∈ l, checkE zs n = 0 := by
  unfold eGiven at h
  by_cases a : gcheckE n es ≠ 0
  · rw [if_pos a] at h; exact absurd h a
  · rw [if_neg a] at h
    by_cases b : connB n es = false
    · rw [if_pos b] at h; cases h
    · rw [if_neg b] at h
      refine ⟨by simpa using a, by simpa using b, ?_⟩
      clear a b
      induction l with
      | nil => intro zs hz; cases hz
      | cons x r ih =>
        simp only [firstE] at h
        by_cases c : checkE x n ≠ 0
        · rw [if_pos c] at h; exact absurd h c
        · rw [if_neg c] at h
          intro zs hz
          rcases List.mem_cons.1 hz with rfl | hz
          · simpa using c
          · exact ih h zs hz
/-- A right, connected, small graph. -/
structure Rt (n : Nat) (es : List Tri) : Prop where
  n1 : 1 ≤ n
  n6 : n ≤ 6
  m9 : multS es ≤ 9
  ed : Edges n es
  cn : Conn n (wgt es)
  gc : gcheckE n es = 0
  cb : connB n es = true
theorem rt_of {n : Int} {es : List Tri} (hs : Sm n es) (h1 : gcheckE n es = 0) (h2 : connB n es = true) : ∃ m : Nat, n = m ∧ Rt m es := by
  obtain ⟨m, rfl, a, b, hE⟩ := gcheckE_zero h1
  obtain ⟨c, d⟩ := hs h1
  exact ⟨m, rfl, a, by omega, d, hE, (connB_iff a b hE).1 h2, h1, h2⟩
theorem Rt.reduce {n : Nat} {es : List Tri} (h : Rt n es) (g d : Value) (zs : List Int) (w : World) (hg : GV w g n es) (hd : RI w d zs) (h3 : checkE zs n = 0) (hl : Lw n zs) :
    Calls Tryz.prog 30 #[g, .int .i64 0, d] w fun e w' => ∃ vr vs r s, e = .returned (.tuple #[vr, vs, .int .i64 0]) ∧ OI w' w.heap.size vr r ∧ OI w' w.heap.size vs s ∧ Red n 0 es zs r s ∧ Below w.heap.size w w' :=
  Reduce_any g d n 0 es zs w hg hd h.gc h.cb h.n1 h3 h.n6 h.m9 (hl h3) h.ed h.cn
/-- What Equivalent answers. -/
def EqvP (n : Int) (es : List Tri) (a b : List Int) (bb : Bool) (u : List Int) (er : Int) : Prop :=
  (eGiven n es [a, b] ≠ 0 ∧ bb = false ∧ u = [] ∧ er = eGiven n es [a, b]) ∨
    (eGiven n es [a, b] = 0 ∧ er = 0 ∧ ∃ (m : Nat) (r1 s1 r2 s2 : List Int), n = m ∧ Rt m es ∧ Red m 0 es a r1 s1 ∧ Red m 0 es b r2 s2 ∧ bb = decide (r1 = r2) ∧ u = if r1 = r2 then leastL (List.zipWith (fun x y => x - y) s1 s2) else [])
theorem Equivalent_any (g va vb : Value) (n : Int) (es : List Tri) (a b : List Int) (w : World) (hg : GV w g n es) (ha : RI w va a) (hb : RI w vb b) (hs : Sm n es) (hla : Lw n a) (hlb : Lw n b) :
    Calls Tryz.prog 13 #[g, va, vb] w fun e w' => ∃ bb v u er, e = .returned (.tuple #[.bool bb, v, .int .i64 er]) ∧ OI w' w.heap.size v u ∧ Below w.heap.size w w' ∧ EqvP n es a b bb u er := by
  obtain ⟨A, c, rfl, -, -, -⟩ := hg.open_
  obtain ⟨A2, c2, rfl, -, -, -⟩ := ha.open_
  obtain ⟨A3, c3, rfl, -, -, -⟩ := hb.open_
  obtain ⟨W0, hW0⟩ : ∃ W0, W0 = w.alloc (.cells #[.int .i64 n, .slice A es.length c] 24) := ⟨_, rfl⟩
  have hb0 : Below w.heap.size w W0 := by rw [hW0]; exact below_alloc w _
  have hz0 : W0.heap.size = w.heap.size + 1 := by rw [hW0]; simp
  have hbx : BL W0 w.heap.size 24 [.int .i64 n, .slice A es.length c] := by rw [hW0]; exact BL.new' w _ _
  obtain ⟨W1, hW1⟩ : ∃ W1, W1 = W0.alloc (.cells #[.slice A2 a.length c2, .slice A3 b.length c3] 26) := ⟨_, rfl⟩
  have hb1 : Below W0.heap.size W0 W1 := by rw [hW1]; exact below_alloc W0 _
  have hz1 : W1.heap.size = W0.heap.size + 1 := by rw [hW1]; simp
  have hrr : RR W1 (.slice (some ⟨W0.heap.size, 0, none⟩) 2 2) [a, b] := by rw [hW1]; exact RR.lit2 26 (ha.below hb0) (hb.below hb0)
  rw [hz0] at hrr
  have HGi := Lib.hid (eGiven_any _ _ n es [a, b] W1 ((hg.below hb0).below hb1) hrr)
  have c00 := hbx.cell 0
  have c01 := hbx.cell 1
  have HG1 := Lib.hid ((hg.below hb0).below hb1)
  have HA1 := Lib.hid (RI.below (RI.below ha hb0) hb1)
  have HB1 := Lib.hid (RI.below (RI.below hb hb0) hb1)
  have HX1 := Lib.hid (hbx.bel hb1)
  have HW0 := Lib.hid hW0
  have HW1 := Lib.hid hW1
  have HBe := Lib.hid (hb0.trans (hb1.mono (by omega)))
  have HSm := Lib.hid hs
  have HLa := Lib.hid hla
  have HLb := Lib.hid hlb
  clear hg ha hb hb0 hb1 hbx hrr hs hla hlb hW1
  rw [hW0] at c00 c01
  clear hW0
  by_cases h0 : eGiven n es [a, b] = 0
  · rw [h0] at HGi
    obtain ⟨g1, g2, g3⟩ := eGiven_ok h0
    obtain ⟨m, rfl, hrt⟩ := rt_of HSm.out g1 g2
    have HC1 := Lib.hid (g3 a (by simp))
    have HC2 := Lib.hid (g3 b (by simp))
    have HRt := Lib.hid hrt
    have H0 := Lib.hid h0
    clear g1 g2 g3 hrt h0
    go_enter Tryz.func13, Tryz.ntmps13
    go_wp2_with fail
    rw [← HW0.out, ← HW1.out]
    refine HGi.out.mono ?_
    rintro e w1 ⟨rfl, hb1⟩
    have HG2 := Lib.hid (HG1.out.below hb1)
    have HA2 := Lib.hid (RI.below HA1.out hb1)
    have HB2 := Lib.hid (RI.below HB1.out hb1)
    have HX2 := Lib.hid (HX1.out.bel hb1)
    have HBe2 := Lib.hid (HBe.out.trans (hb1.mono HBe.out.size))
    have c10 := HX2.out.cell 0
    have c11 := HX2.out.cell 1
    have HR1 := Lib.hid (HRt.out.reduce _ _ a w1 HG2.out HA2.out HC1.out HLa.out)
    clear hb1 c00 c01
    go_wp2_with fail
    refine HR1.out.mono ?_
    rintro e w2 ⟨vr1, vs1, r1, s1, rfl, ho1, hp1, hd1, hb2⟩
    have HG3 := Lib.hid (HG2.out.below hb2)
    have HB3 := Lib.hid (RI.below HB2.out hb2)
    have HX3 := Lib.hid (HX2.out.bel hb2)
    have HBe3 := Lib.hid (HBe2.out.trans (hb2.mono HBe2.out.size))
    have c20 := HX3.out.cell 0
    have c21 := HX3.out.cell 1
    have HR2 := Lib.hid (HRt.out.reduce _ _ b w2 HG3.out HB3.out HC2.out HLb.out)
    have HO1 := Lib.hid ho1
    have HP1 := Lib.hid hp1
    have HD1 := Lib.hid hd1
    clear hb2 c10 c11 ho1 hp1 hd1 HR1
    go_wp2_with fail
    refine HR2.out.mono ?_
    rintro e w3 ⟨vr2, vs2, r2, s2, rfl, ho2, hp2, hd2, hb3⟩
    have HO1' := Lib.hid (OI.below HO1.out hb3)
    have HP1' := Lib.hid (OI.below HP1.out hb3)
    have HBe4 := Lib.hid (HBe3.out.trans (hb3.mono HBe3.out.size))
    have HEq := Lib.hid (EqualD_any _ _ r1 r2 w3 HO1'.out.rv ho2.rv)
    have HP2 := Lib.hid hp2
    have HD2 := Lib.hid hd2
    clear hb3 c20 c21 ho2 hp2 hd2 HR2
    by_cases hrr : r1 = r2
    · rw [(eqL_iff _ _).2 hrr] at HEq
      have HRR := Lib.hid hrr
      have hl1 := HD1.out.sl
      have hl2 := HD2.out.sl
      have h6 := HRt.out.n6
      have hb1 : ∀ k, k < s1.length → -1048576 ≤ s1.getD k 0 ∧ s1.getD k 0 ≤ 1048576 := fun k hk => HD1.out.sb k (by omega)
      have hb2 : ∀ k, k < s1.length → -1048576 ≤ s2.getD k 0 ∧ s2.getD k 0 ≤ 1048576 := fun k hk => HD2.out.sb k (by omega)
      have HEa := fun j => eachS_any vs1 vs2 _ s1 s2 Mid _ (w3.drewN j) (OV.rv (OV.below HP1'.out (below_drewN (Below.refl _ _) j))) (OV.rv (OV.below HP2.out (below_drewN (Below.refl _ _) j))) (by omega) (by omega) (fun k hk => ⟨by have := hb1 k hk; omega, by have := hb1 k hk; omega, by have := hb2 k hk; omega, by have := hb2 k hk; omega⟩) (subD_clo _)
      have hzl : (List.zipWith (fun x y => x - y) s1 s2).length ≤ 100 := by simp; omega
      have hzb : Bd 10000000 (List.zipWith (fun x y => x - y) s1 s2) := fun j => by
        rw [List.getD_eq_getElem?_getD]
        by_cases hj : j < (List.zipWith (fun x y : Int => x - y) s1 s2).length
        · rw [List.getElem?_eq_getElem hj]
          simp only [List.getElem_zipWith, Option.getD_some]
          simp only [List.length_zipWith] at hj
          have a1 := hb1 j (by omega)
          have a2 := hb2 j (by omega)
          rw [List.getD_eq_getElem?_getD, List.getElem?_eq_getElem (by omega)] at a1 a2
          simp only [Option.getD_some] at a1 a2
          omega
        · rw [List.getElem?_eq_none (by omega)]; simp
      have HEA := Lib.hid HEa
      have HZL := Lib.hid hzl
      have HZB := Lib.hid hzb
      clear HEa hzl hzb hb1 hb2 hl1 hl2 h6 hrr
      go_wp2_with fail
      refine HEq.out.mono ?_
      rintro e w4 ⟨rfl, j, rfl⟩
      go_wp2_with fail
      refine (HEA.out j).mono ?_
      rintro e w5 ⟨v5, rfl, ho5, hb5⟩
      have HLe := Lib.hid (least_any v5 _ w5 ho5.rv HZL.out HZB.out)
      have HBe5 := Lib.hid ((below_drewN HBe4.out j).trans (hb5.mono HBe4.out.size))
      clear ho5 hb5
      go_wp2_with fail
      refine HLe.out.mono ?_
      rintro e w6 ⟨v6, rfl, ho6, hb6⟩
      have HO6 := Lib.hid ho6
      have HB6 := Lib.hid hb6
      clear ho6 hb6
      go_wp2
      refine bodyPost_ret (results_tmp3 rfl _ _ _) rfl ?_
      exact ⟨true, v6, _, 0, rfl, OV.mono HO6.out HBe5.out.size, HBe5.out.trans (HB6.out.mono HBe5.out.size), .inr ⟨H0.out, rfl, m, r1, s1, r2, s2, rfl, HRt.out, HD1.out, HD2.out, by simp [HRR.out], by rw [if_pos HRR.out]⟩⟩
    · rw [Bool.eq_false_iff.2 (fun h => hrr ((eqL_iff _ _).1 h))] at HEq
      have HRR := Lib.hid hrr
      clear hrr
      go_wp2_with fail
      refine HEq.out.mono ?_
      rintro e w4 ⟨rfl, j, rfl⟩
      go_wp2
      refine bodyPost_ret (results_tmp3 rfl _ _ _) rfl ?_
      exact ⟨false, _, [], 0, rfl, OI.nil_ _ _, below_drewN HBe4.out j, .inr ⟨H0.out, rfl, m, r1, s1, r2, s2, rfl, HRt.out, HD1.out, HD2.out, by simp [HRR.out], by rw [if_neg HRR.out]⟩⟩
  · have hne : (eGiven n es [a, b] != 0) = true := by simpa using h0
    have H0 := Lib.hid h0
    obtain ⟨ge, hge⟩ : ∃ ge, ge = eGiven n es [a, b] := ⟨_, rfl⟩
    rw [← hge] at HGi hne h0
    have HGE := Lib.hid hge
    clear hge
    go_enter Tryz.func13, Tryz.ntmps13
    go_wp2_with fail
    rw [← HW0.out, ← HW1.out]
    refine HGi.out.mono ?_
    rintro e w1 ⟨rfl, hb1⟩
    have HBe2 := Lib.hid (HBe.out.trans (hb1.mono HBe.out.size))
    clear hb1 c00 c01
    go_wp2
    refine bodyPost_ret (results_tmp3 rfl _ _ _) rfl ?_
    exact ⟨false, _, [], ge, rfl, OI.nil_ _ _, HBe2.out, .inl ⟨H0.out, rfl, rfl, HGE.out⟩⟩
end Go.Proofs.YtjfggodnfoknfaaGreatDoor

namespace Go.Proofs.YtjfggodnfoknfaaGreatDoor
open Go.RowKit Go.Shelf

theorem RR.lit3 {w : World} {v u t : Value} {zs ys xs : List Int} (e : TypeId) (h : RI w v zs) (h' : RI w u ys) (h'' : RI w t xs) : RR (w.alloc (.cells #[v, u, t] e)) (.slice (some ⟨w.heap.size, 0, none⟩) 3 3) [zs, ys, xs] := by
  refine ⟨[v, u, t], RV.lit w #[v, u, t] e 3 rfl (by omega), rfl, fun k zs' hk => ?_⟩
  match k, hk with
  | 0, hk => simp at hk; subst hk; exact ⟨v, rfl, h.below (below_alloc w _)⟩
  | 1, hk => simp at hk; subst hk; exact ⟨u, rfl, h'.below (below_alloc w _)⟩
  | 2, hk => simp at hk; subst hk; exact ⟨t, rfl, h''.below (below_alloc w _)⟩
def verifyE (n : Int) (es : List Tri) (a b s : List Int) : Int :=
  if eGiven n es [a, b, s] ≠ 0 then eGiven n es [a, b, s] else if (applyL n es a s).2 = 0 ∧ (applyL n es a s).1 = b then 0 else 16
theorem Verify_any (g va vb vs : Value) (n : Int) (es : List Tri) (a b s : List Int) (w : World) (hg : GV w g n es) (ha : RI w va a) (hb : RI w vb b) (hs : RI w vs s) :
    Calls Tryz.prog 15 #[g, va, vb, vs] w fun e w' => e = .returned (.int .i64 (verifyE n es a b s)) ∧ Below w.heap.size w w' := by
  obtain ⟨A, c, rfl, -, -, -⟩ := hg.open_
  obtain ⟨A2, c2, rfl, -, -, -⟩ := ha.open_
  obtain ⟨A3, c3, rfl, -, -, -⟩ := hb.open_
  obtain ⟨A4, c4, rfl, -, -, -⟩ := hs.open_
  obtain ⟨W0, hW0⟩ : ∃ W0, W0 = w.alloc (.cells #[.int .i64 n, .slice A es.length c] 24) := ⟨_, rfl⟩
  have hb0 : Below w.heap.size w W0 := by rw [hW0]; exact below_alloc w _
  have hz0 : W0.heap.size = w.heap.size + 1 := by rw [hW0]; simp
  have hbx : BL W0 w.heap.size 24 [.int .i64 n, .slice A es.length c] := by rw [hW0]; exact BL.new' w _ _
  obtain ⟨W1, hW1⟩ : ∃ W1, W1 = W0.alloc (.cells #[.slice A2 a.length c2, .slice A3 b.length c3, .slice A4 s.length c4] 26) := ⟨_, rfl⟩
  have hb1 : Below W0.heap.size W0 W1 := by rw [hW1]; exact below_alloc W0 _
  have hrr : RR W1 (.slice (some ⟨W0.heap.size, 0, none⟩) 3 3) [a, b, s] := by rw [hW1]; exact RR.lit3 26 (ha.below hb0) (hb.below hb0) (hs.below hb0)
  rw [hz0] at hrr
  have HGi := Lib.hid (eGiven_any _ _ n es [a, b, s] W1 ((hg.below hb0).below hb1) hrr)
  have c00 := hbx.cell 0
  have c01 := hbx.cell 1
  have HG1 := Lib.hid ((hg.below hb0).below hb1)
  have HA1 := Lib.hid (RI.below (RI.below ha hb0) hb1)
  have HB1 := Lib.hid (RI.below (RI.below hb hb0) hb1)
  have HS1 := Lib.hid (RI.below (RI.below hs hb0) hb1)
  have HX1 := Lib.hid (hbx.bel hb1)
  have HW0 := Lib.hid hW0
  have HW1 := Lib.hid hW1
  have HBe := Lib.hid (hb0.trans (hb1.mono (by omega)))
  clear hg ha hb hs hb0 hb1 hbx hrr hW1
  rw [hW0] at c00 c01
  clear hW0
  by_cases h0 : eGiven n es [a, b, s] = 0
  · rw [h0] at HGi
    have H0 := Lib.hid h0
    clear h0
    go_enter Tryz.func15, Tryz.ntmps15
    go_wp2_with fail
    rw [← HW0.out, ← HW1.out]
    refine HGi.out.mono ?_
    rintro e w1 ⟨rfl, hb1⟩
    have HX2 := Lib.hid (HX1.out.bel hb1)
    have c10 := HX2.out.cell 0
    have c11 := HX2.out.cell 1
    have HAp := Lib.hid (Apply_any _ _ _ n es a s w1 (HG1.out.below hb1) (RI.below HA1.out hb1) (RI.below HS1.out hb1))
    have HB2 := Lib.hid (RI.below HB1.out hb1)
    have HBe2 := Lib.hid (HBe.out.trans (hb1.mono HBe.out.size))
    clear hb1 c00 c01
    obtain ⟨r, er⟩ : ∃ r : List Int × Int, r = applyL n es a s := ⟨_, rfl⟩
    rw [← er] at HAp
    obtain ⟨cl, ce⟩ := r
    have HR := Lib.hid er
    clear er
    go_wp2_with fail
    refine HAp.out.mono ?_
    rintro e w2 ⟨v2, rfl, ho2, hb2⟩
    have HEq := Lib.hid (EqualD_any _ _ cl b w2 ho2.rv (RI.below HB2.out hb2))
    have HBe3 := Lib.hid (HBe2.out.trans (hb2.mono HBe2.out.size))
    have HO2 := Lib.hid ho2
    clear hb2 c10 c11 ho2
    by_cases hce : ce = 0
    · subst hce
      by_cases hcl : cl = b
      · rw [(eqL_iff _ _).2 hcl] at HEq
        have HCl := Lib.hid hcl
        clear hcl
        go_wp2_with fail
        refine HEq.out.mono ?_
        rintro e w4 ⟨rfl, j, rfl⟩
        go_wp2
        go_ret
        exact ⟨ret_i (by unfold verifyE; rw [if_neg (by simp [H0.out]), ← HR.out, if_pos ⟨rfl, HCl.out⟩]), below_drewN HBe3.out j⟩
      · rw [Bool.eq_false_iff.2 (fun h => hcl ((eqL_iff _ _).1 h))] at HEq
        have HCl := Lib.hid hcl
        clear hcl
        go_wp2_with fail
        refine HEq.out.mono ?_
        rintro e w4 ⟨rfl, j, rfl⟩
        go_wp2
        go_ret
        exact ⟨ret_i (by unfold verifyE; rw [if_neg (by simp [H0.out]), ← HR.out, if_neg (fun h => HCl.out h.2)]), below_drewN HBe3.out j⟩
    · have hne : (ce != 0) = true := by simpa using hce
      have HCE := Lib.hid hce
      go_wp2
      go_ret
      exact ⟨ret_i (by unfold verifyE; rw [if_neg (by simp [H0.out]), ← HR.out, if_neg (fun h => HCE.out h.1)]), HBe3.out⟩
  · have hne : (eGiven n es [a, b, s] != 0) = true := by simpa using h0
    have H0 := Lib.hid h0
    obtain ⟨ge, hge⟩ : ∃ ge, ge = eGiven n es [a, b, s] := ⟨_, rfl⟩
    rw [← hge] at HGi hne h0
    have HGE := Lib.hid hge
    clear hge
    go_enter Tryz.func15, Tryz.ntmps15
    go_wp2_with fail
    rw [← HW0.out, ← HW1.out]
    refine HGi.out.mono ?_
    rintro e w1 ⟨rfl, hb1⟩
    have HBe2 := Lib.hid (HBe.out.trans (hb1.mono HBe.out.size))
    clear hb1 c00 c01
    go_wp2
    go_ret
    exact ⟨ret_i (by unfold verifyE; rw [if_pos H0.out]; exact HGE.out), HBe2.out⟩
/-- What Normal answers. -/
def NrmP (n : Int) (es : List Tri) (d u : List Int) (er : Int) : Prop :=
  (eGiven n es [d] ≠ 0 ∧ u = [] ∧ er = eGiven n es [d]) ∨ (eGiven n es [d] = 0 ∧ er = 0 ∧ ∃ (m : Nat) (s : List Int), n = m ∧ Rt m es ∧ Red m 0 es d u s)
theorem Normal_any (g vd : Value) (n : Int) (es : List Tri) (d : List Int) (w : World) (hg : GV w g n es) (hd : RI w vd d) (hs : Sm n es) (hl : Lw n d) :
    Calls Tryz.prog 10 #[g, vd] w fun e w' => ∃ v u er, e = .returned (.tuple #[v, .int .i64 er]) ∧ OI w' w.heap.size v u ∧ Below w.heap.size w w' ∧ NrmP n es d u er := by
  obtain ⟨A, c, rfl, -, -, -⟩ := hg.open_
  obtain ⟨A2, c2, rfl, -, -, -⟩ := hd.open_
  obtain ⟨W0, hW0⟩ : ∃ W0, W0 = w.alloc (.cells #[.int .i64 n, .slice A es.length c] 24) := ⟨_, rfl⟩
  have hb0 : Below w.heap.size w W0 := by rw [hW0]; exact below_alloc w _
  have hz0 : W0.heap.size = w.heap.size + 1 := by rw [hW0]; simp
  have hbx : BL W0 w.heap.size 24 [.int .i64 n, .slice A es.length c] := by rw [hW0]; exact BL.new' w _ _
  obtain ⟨W1, hW1⟩ : ∃ W1, W1 = W0.alloc (.cells #[.slice A2 d.length c2] 26) := ⟨_, rfl⟩
  have hb1 : Below W0.heap.size W0 W1 := by rw [hW1]; exact below_alloc W0 _
  have hrr : RR W1 (.slice (some ⟨W0.heap.size, 0, none⟩) 1 1) [d] := by rw [hW1]; exact RR.lit1 26 (hd.below hb0)
  rw [hz0] at hrr
  have HGi := Lib.hid (eGiven_any _ _ n es [d] W1 ((hg.below hb0).below hb1) hrr)
  have c00 := hbx.cell 0
  have c01 := hbx.cell 1
  have HG1 := Lib.hid ((hg.below hb0).below hb1)
  have HA1 := Lib.hid (RI.below (RI.below hd hb0) hb1)
  have HX1 := Lib.hid (hbx.bel hb1)
  have HW0 := Lib.hid hW0
  have HW1 := Lib.hid hW1
  have HBe := Lib.hid (hb0.trans (hb1.mono (by omega)))
  have HSm := Lib.hid hs
  have HLa := Lib.hid hl
  clear hg hd hb0 hb1 hbx hrr hs hl hW1
  rw [hW0] at c00 c01
  clear hW0
  by_cases h0 : eGiven n es [d] = 0
  · rw [h0] at HGi
    obtain ⟨g1, g2, g3⟩ := eGiven_ok h0
    obtain ⟨m, rfl, hrt⟩ := rt_of HSm.out g1 g2
    have HC1 := Lib.hid (g3 d (by simp))
    have HRt := Lib.hid hrt
    have H0 := Lib.hid h0
    clear g1 g2 g3 hrt h0
    go_enter Tryz.func10, Tryz.ntmps10
    go_wp2_with fail
    rw [← HW0.out, ← HW1.out]
    refine HGi.out.mono ?_
    rintro e w1 ⟨rfl, hb1⟩
    have HX2 := Lib.hid (HX1.out.bel hb1)
    have HBe2 := Lib.hid (HBe.out.trans (hb1.mono HBe.out.size))
    have c10 := HX2.out.cell 0
    have c11 := HX2.out.cell 1
    have HR1 := Lib.hid (HRt.out.reduce _ _ d w1 (HG1.out.below hb1) (RI.below HA1.out hb1) HC1.out HLa.out)
    clear hb1 c00 c01
    go_wp2_with fail
    refine HR1.out.mono ?_
    rintro e w2 ⟨vr1, vs1, r1, s1, rfl, ho1, hp1, hd1, hb2⟩
    have HBe3 := Lib.hid (HBe2.out.trans (hb2.mono HBe2.out.size))
    have HO1 := Lib.hid (OV.mono ho1 HBe2.out.size : OI w2 w.heap.size vr1 r1)
    have HD1 := Lib.hid hd1
    clear hb2 c10 c11 ho1 hp1 hd1 HR1
    go_wp2
    refine bodyPost_ret (results_tmp2 rfl _ _ _) rfl ?_
    exact ⟨vr1, r1, 0, rfl, HO1.out, HBe3.out, .inr ⟨H0.out, rfl, m, s1, rfl, HRt.out, HD1.out⟩⟩
  · have hne : (eGiven n es [d] != 0) = true := by simpa using h0
    have H0 := Lib.hid h0
    obtain ⟨ge, hge⟩ : ∃ ge, ge = eGiven n es [d] := ⟨_, rfl⟩
    rw [← hge] at HGi hne h0
    have HGE := Lib.hid hge
    clear hge
    go_enter Tryz.func10, Tryz.ntmps10
    go_wp2_with fail
    rw [← HW0.out, ← HW1.out]
    refine HGi.out.mono ?_
    rintro e w1 ⟨rfl, hb1⟩
    have HBe2 := Lib.hid (HBe.out.trans (hb1.mono HBe.out.size))
    clear hb1 c00 c01
    go_wp2
    refine bodyPost_ret (results_tmp2 rfl _ _ _) rfl ?_
    exact ⟨_, [], ge, rfl, OI.nil_ _ _, HBe2.out, .inl ⟨H0.out, rfl, HGE.out⟩⟩
end Go.Proofs.YtjfggodnfoknfaaGreatDoor

namespace Go.Proofs.YtjfggodnfoknfaaGreatDoor
open Go.RowKit Go.Shelf
variable {P : Program}
theorem wpIn_rangeFunc_iterA {α : Type} {g : Operand} {ps : Array Tmp} {assign body : Code} {Q : Exit → Act → World → Prop} {a : Act} {w : World} {n : Nat}
    {gf : Nat} {lb : Array Value} (hg : a.eval g = .func (.func gf) #[] lb) (eg : ∀ args w, (callFunc gf args).run P w = .ok (.enter gf args) w)
    {encs : α → Array Value} {It : List α → α → World → Prop} {R Kp : World → World → Prop} {S Sp : List α → Prop} {Pre : World → Prop}
    (hseq : IterC P gf lb encs It R Kp S Sp Pre) (hps : ∀ x, (encs x).size = ps.size)
    (hR : ∀ A B, R A B → A.heap.size ≥ w.heap.size + 2 → KeepLD w.heap.size A B)
    (hKt : ∀ A B C, Kp A B → Kp B C → Kp A C) (hKp : ∀ (W : World) (r : Loop) (o : Obj), W.heap[w.heap.size + 1]? = some (.loop r) → Kp W (W.putObj (w.heap.size + 1) o))
    (I : List α → World → Prop) (Ix : Code → List α → World → Prop)
    (hI : ∀ pre (W : World) (r : Loop) (o : Obj), I pre W → W.heap[w.heap.size + 1]? = some (.loop r) → I pre (W.putObj (w.heap.size + 1) o))
    (hIx : ∀ c pre (W : World) (r : Loop) (o : Obj), Ix c pre W → W.heap[w.heap.size + 1]? = some (.loop r) → Ix c pre (W.putObj (w.heap.size + 1) o))
    (hIR : ∀ pre A B, I pre A → R A B → I pre B) (hIxR : ∀ c pre A B, Ix c pre A → R A B → Ix c pre B)
    (hpre : ∀ r, Pre ((w.alloc (.deferred (some []))).alloc (.loop r))) (h0 : ∀ r, I [] ((w.alloc (.deferred (some []))).alloc (.loop r)))
    (hassign : ∀ (l : Nat) (pre : List α) (x : α) (W : World) (r : Loop), I pre W → It pre x W → W.heap[w.heap.size + 1]? = some (.loop r) → W.heap[w.heap.size]? = some (.deferred (some [])) →
      assign.wpIn (Fence.wide.inRound l) (n - 1 - 1) P (Exit.then (fun a₁ W₁ => KeepLD w.heap.size W W₁ ∧ Kp W W₁ ∧ ∀ r' : Loop, body.wpIn (Fence.wide.inRound l) (n - 1 - 1) P (iterPost w.heap.size Kp I Ix (pre ++ [x]) (W₁.putObj (w.heap.size + 1) (.loop r'))) a₁ (W₁.putObj (w.heap.size + 1) (.loop r'))) (fun _ _ _ => False)) { tmps := (ps.zip (encs x)).foldl (fun t (p, v) => t.setIfInBounds p v) a.tmps, defers := [] } W)
    (hdone : ∀ (xs : List α) (W : World), S xs → I xs W → W.heap[w.heap.size]? = some (.deferred (some [])) → Q .normal { a with defers := { target := .collected w.heap.size, args := #[] } :: a.defers } W)
    (hstop : ∀ (c : Code) (pre : List α) (W : World), Sp pre → Ix c pre W → W.heap[w.heap.size]? = some (.deferred (some [])) → c.wpIn Fence.wide n P Q { a with defers := { target := .collected w.heap.size, args := #[] } :: a.defers } W) :
    (Code.rangeFunc g ps assign body).wpIn Fence.wide n P Q a w := by
  refine wpIn_rangeFunc ?_
  intro fn _
  obtain ⟨rec, hrec⟩ : ∃ rec : LoopState → Option Code → Loop, rec = fun st pe => { state := st, pending := pe, fn, tmps := a.tmps, params := ps, assign, body, defers := w.heap.size } := ⟨_, rfl⟩
  obtain ⟨W1, hW1⟩ : ∃ W1, (w.alloc (.deferred (some []))).alloc (.loop (rec .ready none)) = W1 := ⟨_, rfl⟩
  have hL1 : W1.heap[w.heap.size + 1]? = some (.loop (rec .ready none)) := by
    rw [← hW1]; have := World.alloc_heap_new (w.alloc (.deferred (some []))) (.loop (rec .ready none)); rwa [World.size_alloc] at this
  have hK1 : W1.heap[w.heap.size]? = some (.deferred (some [])) := by
    rw [← hW1]; exact (Below.heap_alloc _ _ _ (by simp)).trans (World.alloc_heap_new w _)
  refine ⟨w.heap.size + 1, [{ target := .collected w.heap.size, args := #[] }], W1, { target := .fn (.func gf) lb, args := #[.func (.yield (w.heap.size + 1)) #[] #[]] }, W1, gf,
    #[.func (.yield (w.heap.size + 1)) #[] #[]] ++ lb, W1, ?_, ?_, ?_, ?_, ?_, ?_⟩
  · rw [← hW1, hrec]; exact run_enterLoop_outer _ _ _ _ _
  · simp only [resolve, hg]
    simp [go_sem]
  · intro f' _; trivial
  · simp [invoke, go_sem, eg]
  · intro h; simp [Fence.wide] at h
  · refine (hseq (n - 1) (w.heap.size + 1)
      (fun pre W => I pre W ∧ W.heap[w.heap.size + 1]? = some (.loop (rec .ready none)) ∧ W.heap[w.heap.size]? = some (.deferred (some [])))
      (fun pre W => ∃ c, Ix c pre W ∧ W.heap[w.heap.size + 1]? = some (.loop (rec .done (some c))) ∧ W.heap[w.heap.size]? = some (.deferred (some [])))
      W1 (hW1 ▸ hpre _) ?_ ?_ ?_ ⟨hW1 ▸ h0 _, hL1, hK1⟩).mono ?_
    · rintro pre A B ⟨hi, hl, hk⟩ hr
      have := hR A B hr (by have := (Array.getElem?_eq_some_iff.1 hl).1; omega)
      exact ⟨hIR _ _ _ hi hr, this.2.trans hl, this.1.trans hk⟩
    · rintro pre A B ⟨c, hi, hl, hk⟩ hr
      have := hR A B hr (by have := (Array.getElem?_eq_some_iff.1 hl).1; omega)
      exact ⟨c, hIxR _ _ _ _ hi hr, this.2.trans hl, this.1.trans hk⟩
    · rintro pre x W ⟨hi, hl, hk⟩ hit
      have hlt : w.heap.size + 1 < W.heap.size := (Array.getElem?_eq_some_iff.1 hl).1
      have hy := run_yield (P := P) (args := encs x) hl (by rw [hrec]; exact hps x)
      rw [hrec] at hy
      refine ⟨fn, _, assign, body, hy, roundIn_of_wpIn trivial (wpIn_mono (hassign _ pre x W _ hi hit hl hk) ?_)⟩
      rintro e0 a1 W0 hp0
      cases e0 with
      | panic _ => exact hp0
      | outgrown => exact hp0
      | ret => exact hp0
      | exit _ => exact hp0
      | goto _ => exact hp0
      | normal =>
      obtain ⟨hkl, hkp0, hm⟩ := hp0
      have hl0 := hkl.2.trans hl
      have hk0 := hkl.1.trans hk
      have hlt0 : w.heap.size + 1 < W0.heap.size := (Array.getElem?_eq_some_iff.1 hl0).1
      refine ⟨_, run_beginRound hl0 (by rw [hrec]), ?_⟩
      have hl2 : (W0.putObj (w.heap.size + 1) (.loop { rec .ready none with state := .busy })).heap[w.heap.size + 1]? = some (.loop { rec .ready none with state := .busy }) := World.putObj_heap_same hlt0
      have hk2 : (W0.putObj (w.heap.size + 1) (.loop { rec .ready none with state := .busy })).heap[w.heap.size]? = some (.deferred (some [])) := (World.putObj_heap_other (by omega)).trans hk0
      have hw2 : Kp W (W0.putObj (w.heap.size + 1) (.loop { rec .ready none with state := .busy })) := hKt _ _ _ hkp0 (hKp _ _ _ hl0)
      refine wpIn_mono (hm _) ?_
      have fin : ∀ (jump : Option Code) (W3 : World), KeepLD w.heap.size (W0.putObj (w.heap.size + 1) (.loop { rec .ready none with state := .busy })) W3 →
          (Instr.endRound (w.heap.size + 1) jump).run P W3 = .ok (.bool jump.isNone) (W3.putObj (w.heap.size + 1) (.loop (rec (if jump.isNone then .ready else .done) jump))) ∧
          W3.heap[w.heap.size + 1]? = some (.loop { rec .ready none with state := .busy }) ∧
          (W3.putObj (w.heap.size + 1) (.loop (rec (if jump.isNone then .ready else .done) jump))).heap[w.heap.size + 1]? = some (.loop (rec (if jump.isNone then .ready else .done) jump)) ∧
          (W3.putObj (w.heap.size + 1) (.loop (rec (if jump.isNone then .ready else .done) jump))).heap[w.heap.size]? = some (.deferred (some [])) := fun jump W3 hk3 => by
        have hl3 := hk3.2.trans hl2
        have := run_endRound (P := P) jump hl3
        rw [hrec] at this ⊢
        exact ⟨this, by rw [hrec] at hl3; exact hl3, World.putObj_heap_same (Array.getElem?_eq_some_iff.1 hl3).1, (World.putObj_heap_other (by omega)).trans (hk3.1.trans hk2)⟩
      rintro e a3 W3 hp
      cases e with
      | normal =>
        obtain ⟨hk3, hkp3, hi3⟩ := hp
        obtain ⟨hr, hl3, hl4, hk4⟩ := fin none W3 hk3
        exact ⟨_, _, hr, .inl ⟨rfl, ⟨hI _ _ _ _ hi3 hl3, hl4, hk4⟩, hKt _ _ _ (hKt _ _ _ hw2 hkp3) (hKp _ _ _ hl3)⟩⟩
      | ret =>
        obtain ⟨hk3, hi3⟩ := hp
        obtain ⟨hr, hl3, hl4, hk4⟩ := fin (some .ret) W3 hk3
        exact ⟨_, _, hr, .inr ⟨rfl, .ret, hIx _ _ _ _ _ hi3 hl3, hl4, hk4⟩⟩
      | exit id =>
        obtain ⟨hk3, hi3⟩ := hp
        obtain ⟨hr, hl3, hl4, hk4⟩ := fin (some (.exit id)) W3 hk3
        exact ⟨_, _, hr, .inr ⟨rfl, .exit id, hIx _ _ _ _ _ hi3 hl3, hl4, hk4⟩⟩
      | goto t =>
        obtain ⟨hk3, hi3⟩ := hp
        obtain ⟨hr, hl3, hl4, hk4⟩ := fin (some (.goto t)) W3 hk3
        exact ⟨_, _, hr, .inr ⟨rfl, .goto t, hIx _ _ _ _ _ hi3 hl3, hl4, hk4⟩⟩
      | panic ch => exact hp.elim
      | outgrown => exact hp.elim
    · rintro e W2 ⟨⟨v, rfl⟩, (⟨xs, hS, hi, hl, hk⟩ | ⟨pre, hSp, c, hi, hl, hk⟩)⟩
      · exact ⟨none, _, by have := run_endLoop (P := P) hl (by rw [hrec]; simp); rw [hrec] at this; exact this, hdone xs _ hS (hI _ _ _ _ hi hl) ((World.putObj_heap_other (by omega)).trans hk)⟩
      · exact ⟨some c, _, by have := run_endLoop (P := P) hl (by rw [hrec]; simp); rw [hrec] at this; exact this, hstop c pre _ hSp (hIx _ _ _ _ _ hi hl) ((World.putObj_heap_other (by omega)).trans hk)⟩
end Go.Proofs.YtjfggodnfoknfaaGreatDoor

namespace Go.Proofs.YtjfggodnfoknfaaGreatDoor
open Go.RowKit Go.Shelf

def oneL (t : Tri) : List (Int × Int) := List.replicate t.2.2.toNat (t.1, t.2.1)
/-- The ends of all single edges. -/
def singL (es : List Tri) : List (Int × Int) := es.flatMap oneL
theorem sing_take {es : List Tri} {k : Nat} {t : Tri} (h : Hid (es[k]? = some t)) : singL (es.take (k + 1)) = singL (es.take k) ++ oneL t := by
  rw [take_tri h]; simp [singL]
theorem sing_split {es : List Tri} {k : Nat} {t : Tri} (h : Hid (es[k]? = some t)) : singL es = singL (es.take k) ++ (oneL t ++ singL (es.drop (k + 1))) := by
  have e : es = es.take k ++ t :: es.drop (k + 1) := by rw [← drop_at h, List.take_append_drop]
  conv => lhs; rw [e]
  simp [singL]
theorem sing_mem {n : Nat} {es : List Tri} (hE : Edges n es) {x : Int × Int} (hx : x ∈ singL es) : 0 ≤ x.1 ∧ x.1 ≤ x.2 ∧ x.2 < n := by
  unfold singL at hx
  obtain ⟨t, ht, h⟩ := List.mem_flatMap.1 hx
  obtain ⟨_, rfl⟩ := List.mem_replicate.1 h
  exact hE.lo t ht
theorem sing_len : ∀ (es : List Tri), (singL es).length = (es.map fun t => t.2.2.toNat).sum := by
  intro es
  induction es with
  | nil => rfl
  | cons t r ih => simp only [singL, List.flatMap_cons, List.length_append, List.map_cons, List.sum_cons] at ih ⊢; rw [ih]; simp [oneL]

/-- What the iterator of singles reads. -/
def SgPre (hx eb : Nat) (n : Int) (ve : Value) (es : List Tri) (W : World) : Prop := BL W hx 24 [.int .i64 n, ve] ∧ EB W ve es eb
/-- Some blocks, and all edges, are as they were. -/
def SgK (Bs : List Nat) (A C : World) : Prop := LkK Bs A C ∧ ∀ k us, BL A k 54 us → BL C k 54 us
theorem SgK.trans_ {Bs : List Nat} (A B C : World) (h : SgK Bs A B) (h' : SgK Bs B C) : SgK Bs A C :=
  ⟨⟨by have := h.1.1; have := h'.1.1; omega, fun k hk => (h'.1.2 k hk).trans (h.1.2 k hk)⟩, fun k us hb => h'.2 k us (h.2 k us hb)⟩
theorem SgPre.keep {hx eb : Nat} {n : Int} {ve : Value} {es : List Tri} {W W' : World} (h : SgPre hx eb n ve es W) (hk : LkK [hx, eb] W W') : SgPre hx eb n ve es W' :=
  ⟨(hk.2 hx (by simp)).trans h.1, h.2.keep hk.1 (hk.2 eb (by simp))⟩
theorem SgPre.below {hx eb : Nat} {n : Int} {ve : Value} {es : List Tri} {W W' : World} (h : SgPre hx eb n ve es W) (hb : Below W.heap.size W W') : SgPre hx eb n ve es W' :=
  ⟨h.1.bel hb, h.2.below hb⟩

theorem singles1_iter (hx eb n : Nat) (ve : Value) (es : List Tri) (hE : Edges n es) :
    IterC Tryz.prog 190 #[.pointer (some ⟨hx, 0, none⟩)] (fun x : Int × Int × Int => #[.int .i64 x.1, .agg #[.int .i64 x.2.1, .int .i64 x.2.2]]) (fun pre x _ => ∃ rest, pre.map (·.2) ++ x.2 :: rest = singL es)
      (fun A B => Below A.heap.size A B) (SgK [hx, eb]) (fun xs => xs.map (·.2) = singL es) (fun _ => True) (SgPre hx eb n ve es) := by
  intro N l J Jx W hpre hJ hJx hY h0
  have HJ := Lib.hid hJ
  have HY := Lib.hid hY
  have HP := Lib.hid hpre
  have HE := Lib.hid hE
  obtain ⟨A, c, rfl, hlc, hc, -⟩ := hpre.2.1
  have s1 : W.cell? ⟨hx, 1, none⟩ = some (.slice A es.length c) := BL.cell hpre.1 1
  clear hJ hY hpre hJx hE
  refine callsIn_of_wp Tryz.func190 rfl trivial ?_ rfl
  simp only [Tryz.ntmps190, List.size_toArray, List.length_cons, List.length_nil, Nat.reduceAdd, Nat.reduceSub, Array.replicate_succ, Array.replicate_zero, List.push_toArray, List.append_toArray, List.nil_append, List.cons_append]
  gi_wp2
  clear s1
  gi_loopg [3, 9] es.length (fun k e i wr => ∃ (j : Nat) (ez : Int) (pre : List (Int × Int × Int)), j + k = es.length ∧ e = .int .i64 ez ∧ i = .int .i64 j ∧ Hid (J pre wr) ∧ Hid (pre.map (·.2) = singL (es.take j)) ∧ Hid (SgPre hx eb n (.slice A es.length c) es wr))
  case atStart => exact ⟨0, 0, [], by omega, rfl, rfl, h0, rfl, HP.out⟩
  case round =>
    obtain ⟨j, ez, pre, hjk, rfl, rfl, hj, hp, hpr⟩ := hrel
    by_cases hlt : j < es.length
    · obtain ⟨A', c', he, -, -, hcell⟩ := hpr.out.2.1
      simp only [Value.slice.injEq, true_and] at he
      obtain ⟨rfl, rfl⟩ := he
      obtain ⟨ad, a, a2, m, rfl, hab, ht, c1, c2, c3⟩ := hcell j hlt
      have hbe := HE.out.lo _ (getD_tri ht)
      have hme := HE.out.mult _ (getD_tri ht)
      simp only at hbe hme
      obtain ⟨x, rfl⟩ := Int.eq_ofNat_of_zero_le hbe.1
      obtain ⟨y, rfl⟩ := Int.eq_ofNat_of_zero_le (show 0 ≤ a2 by omega)
      obtain ⟨mn, rfl⟩ := Int.eq_ofNat_of_zero_le (show 0 ≤ m by omega)
      have HT1 := Lib.hid (sing_take ht)
      have HT2 := Lib.hid (sing_split ht)
      obtain ⟨W1, hW1⟩ : ∃ W1, W1 = wr.alloc (.cells #[.int .i64 x, .int .i64 y, .int .i64 mn] 54) := ⟨_, rfl⟩
      have hb1 : Below wr.heap.size wr W1 := by rw [hW1]; exact below_alloc wr _
      have hx1 : BL W1 wr.heap.size 54 [.int .i64 x, .int .i64 y, .int .i64 mn] := by rw [hW1]; exact BL.new' wr _ _
      have HJ1 := Lib.hid (HJ.out pre wr W1 hj.out hb1)
      have HP1 := Lib.hid (hpr.out.below hb1)
      have HX1 := Lib.hid hx1
      have HW1 := Lib.hid hW1
      obtain ⟨K, hK⟩ : ∃ K, K = gk - 1 := ⟨_, rfl⟩
      obtain ⟨B0, hB0⟩ : ∃ B0, B0 = wr.heap.size := ⟨_, rfl⟩
      rw [← hB0] at HX1
      have HB0 := Lib.hid hB0
      clear hcell ht hb1 hx1 hW1 hj hpr hB0
      gi_wp2
      rw [← HW1.out]
      rw [← HB0.out]
      gi_loopg [3, 15] mn (fun k e i w2 => ∃ (v : Nat) (ez : Int) (pre : List (Int × Int × Int)), v + k = mn ∧ e = .int .i64 ez ∧ i = .int .i64 v ∧ Hid (J pre w2) ∧ Hid (pre.map (·.2) = singL (es.take j) ++ List.replicate v ((x : Int), (y : Int))) ∧ Hid (SgPre hx eb n (.slice (some ad) es.length c) es w2) ∧ Hid (BL w2 B0 54 [.int .i64 x, .int .i64 y, .int .i64 mn]))
      case atStart => exact ⟨0, ez, pre, by omega, rfl, rfl, HJ1.out, by show _ = _; rw [hp.out]; simp, HP1.out, HX1.out⟩
      case round =>
        obtain ⟨v, ez2, pre2, hvk, rfl, rfl, hj2, hp2, hpr2, hx2⟩ := hrel
        by_cases hv : v < mn
        · have x0 := hx2.out.cell 0
          have x1 := hx2.out.cell 1
          have hxl := hx2.out.lt
          have H2 : Hid (∃ rest, pre2.map (·.2) ++ ((x : Int), (y : Int)) :: rest = singL es) := by
            refine ⟨List.replicate (mn - v - 1) ((x : Int), (y : Int)) ++ singL (es.drop (j + 1)), ?_⟩
            rw [hp2.out, HT2.out]
            have e : oneL ((x : Int), (y : Int), (mn : Int)) = List.replicate v ((x : Int), (y : Int)) ++ ((x : Int), (y : Int)) :: List.replicate (mn - v - 1) ((x : Int), (y : Int)) := by
              unfold oneL
              simp only [Int.toNat_natCast]
              rw [show mn = v + ((mn - v - 1) + 1) by omega, ← List.replicate_append_replicate, List.replicate_succ]
              simp only [show v + (mn - v - 1 + 1) - v - 1 = mn - v - 1 by omega]
            rw [e]; simp
          obtain ⟨fn, tmps, assign, body, hy, hRd⟩ := HY.out pre2 (ez2, ((x : Int), (y : Int))) _ hj2.out H2.out
          dsimp only at hy hRd
          have HR := Lib.hid hRd
          clear hRd H2
          gi_wp2_with fail
          refine ⟨fun h => (by simp [Fence.wide] at h), HR.out.mono ?_⟩
          rintro e W2 (⟨rfl, hJ2, hk2⟩ | ⟨rfl, hJx2⟩)
          · have HJ2 := Lib.hid hJ2
            have HK2 := Lib.hid hk2
            clear hJ2 hk2 hy
            gi_wp2
            gi_roundg (gk - 1)
            case measure => omega
            case rel => exact ⟨v + 1, _, pre2 ++ [(ez2, ((x : Int), (y : Int)))], by omega, rfl, by go_num, HJ2.out, by show _ = _; rw [List.map_append, hp2.out]; simp [List.replicate_succ'], hpr2.out.keep HK2.out.1, HK2.out.2 _ _ hx2.out⟩
          · clear hy
            gi_wp2
            refine bodyPost_ret (results_none rfl _ _ _) rfl ?_
            exact ⟨⟨_, rfl⟩, .inr ⟨_, trivial, hJx2⟩⟩
        · obtain rfl : v = mn := by omega
          gi_wp2
          gi_roundg K
          case measure => omega
          case rel => exact ⟨j + 1, _, pre2, by omega, rfl, by go_num, hj2.out, by show _ = _; rw [hp2.out, HT1.out]; simp [oneL], hpr2.out⟩
    · have hje : es.take j = es := List.take_of_length_le (by omega)
      rw [hje] at hp
      have HPE := hp
      clear hje
      gi_wp2
      go_end0
      exact ⟨⟨_, rfl⟩, .inl ⟨pre, HPE.out, hj.out⟩⟩
end Go.Proofs.YtjfggodnfoknfaaGreatDoor

