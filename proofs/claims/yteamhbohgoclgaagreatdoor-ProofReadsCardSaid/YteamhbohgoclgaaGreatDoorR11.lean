/- Contract of reduced's Reduce on small graphs. -/
import Derived.Test.YteamhbohgoclgaaGreatDoorR10
set_option maxRecDepth 100000
set_option maxHeartbeats 16000000
namespace Go.Proofs.YteamhbohgoclgaaGreatDoor
open Go.RowKit Go.Shelf

structure Red (n q : Nat) (es : List Tri) (zs r s : List Int) : Prop where
 rl : r.length = n
 sl : s.length = n
 eq : ∀ v, v < n -> r.getD v 0 = zs.getD v 0 - lap n (wgt es) (fun u => s.getD u 0) v
 own : s.getD q 0 = 0
 pos : ∀ v, v < n -> v ≠ q -> 0 <= r.getD v 0
 tight : Tight n (wgt es) q (fnD r)
 rb : ∀ v, v < n -> -1048576 <= r.getD v 0 /\ r.getD v 0 <= 1048576
 sb : ∀ v, v < n -> -1048576 <= s.getD v 0 /\ s.getD v 0 <= 1048576
theorem sumN_bd {n : Nat} {f : Nat -> Int} {B : Int} (h : ∀ v, v < n -> -B <= f v /\ f v <= B) : -(n * B) <= sumN n f /\ sumN n f <= n * B := by
 induction n with
 | zero => simp [sumN]
 | succ n ih =>
   have h1 := ih fun v hv => h v (by omega)
   have h2 := h n (by omega)
   have e : ((n + 1 : Nat) : Int) * B = n * B + B := by rw [Int.natCast_succ, Int.add_mul, Int.one_mul]
   simp only [sumN]
   rw [e]; omega
theorem lnd_ready {n q : Nat} {es : List Tri} {zs d1 s1 o : List Int} {top : Int} (hE : Edges n es) (hn : n <= 6) (hm : multS es <= 9) (hzb : Bd 100 zs) (hD : Dist n q es o) (htop : top <= 12) (hL : Lnd n es o zs top d1 s1 0) :
   (∀ v, v < n -> v ≠ q -> 0 <= d1.getD v 0) /\ (sumN n fun v => d1.getD v 0) - d1.getD q 0 <= 52000 /\ (-1000000 <= d1.getD q 0 /\ d1.getD q 0 <= 1000000) /\ Bd 1000000 s1 := by
 obtain ⟨b1, b2⟩ := hL.bds hE hm (Int.le_refl _) htop
 refine ⟨fun v hv hne => hL.pos v hv ?_, ?_, by have := b1 q; omega, fun j => by have := b2 j; omega⟩
 · obtain ⟨p, hp, he, -⟩ := hD.par v hv hne
   have := (hD.bd p hp).1
   omega
 · have e : (sumN n fun v => d1.getD v 0) = (sumN n fun v => zs.getD v 0) + -(sumN n fun v => lap n (wgt es) (fun u => s1.getD u 0) v) := by
     rw [<- sumN_neg, <- sumN_add]
     exact sumN_congr fun v hv => by rw [hL.eq v hv]; omega
   rw [lap_sum (wgt_sym es)] at e
   have hb := (sumN_bd (n := n) (f := fun v => zs.getD v 0) (B := 100) (fun v _ => hzb v)).2
   have := (b1 q).1
   rw [e]
   omega
theorem lap_less {n q : Nat} {es : List Tri} {s : List Int} (hs : s.length = n) {v : Nat} (hv : v < n) : lap n (wgt es) (fun u => (lessL s (s.getD q 0) n).getD u 0) v = lap n (wgt es) (fun u => s.getD u 0) v := by
 unfold lap
 refine sumN_congr fun u hu => ?_
 simp only [lessL_get (show n <= s.length by omega), if_pos hv, if_pos hu]
 congr 1; omega
theorem red_of {n q : Nat} {es : List Tri} {zs d1 s1 d s o : List Int} {top : Int} (hE : Edges n es) (hc : Conn n (wgt es)) (hq : q < n) (hn : n <= 6) (hm : multS es <= 9) (hzb : Bd 100 zs) (hD : Dist n q es o) (htop : top <= 12) (hL : Lnd n es o zs top d1 s1 0) (hS : Stl n q es d1 s1 d s) (hT : Tight n (wgt es) q (fnD d)) :
   Red n q es zs d (lessL s (s.getD q 0) n) /\ (∀ v, v < n -> -1048576 <= d.getD v 0 /\ d.getD v 0 <= 1048576) /\ (∀ v, v < n -> -1048576 <= s.getD v 0 - s.getD q 0 /\ s.getD v 0 - s.getD q 0 <= 1048576) := by
 obtain ⟨r1, r2, r3, r4⟩ := lnd_ready hE hn hm hzb hD htop hL
 obtain ⟨b1, b2⟩ := hL.bds hE hm (Int.le_refl _) htop
 obtain ⟨t1, t2, t3⟩ := stl_bd hE hc hq hS r1 r2 (by omega)
 have hdb : ∀ v, v < n -> -1048576 <= d.getD v 0 /\ d.getD v 0 <= 1048576 := fun v hv => by
   by_cases e : v = q
   · subst e
     have := hS.low
     have := b1 v
     omega
   · have := t1 v hv e
     have := hS.pos v hv e
     omega
 have hsb : ∀ v, v < n -> -1048576 <= s.getD v 0 - s.getD q 0 /\ s.getD v 0 - s.getD q 0 <= 1048576 := fun v hv => by
   have h1 := t3 v hv
   have h2 := hS.up v hv
   have h3 := hL.up v hv
   have h4 := (b2 v).2
   have h5 := hL.up q hq
   have h6 := (b2 q).2
   rw [hS.own]
   omega
 refine ⟨⟨hS.dl, by rw [lessL_len]; exact hS.sl, fun v hv => ?_, ?_, hS.pos, hT, hdb, fun v hv => ?_⟩, hdb, hsb⟩
 · rw [hS.eq v hv, hL.eq v hv, lap_less hS.sl hv]
   have : lap n (wgt es) (fun u => s.getD u 0) v = lap n (wgt es) (fun u => s1.getD u 0) v + lap n (wgt es) (fun u => s.getD u 0 - s1.getD u 0) v := by
     rw [<- lap_add]; exact lap_congr hv fun u _ => by omega
   omega
 · rw [lessL_get (by have := hS.sl; omega), if_pos hq]; omega
 · rw [lessL_get (by have := hS.sl; omega), if_pos hv]; exact hsb v hv
theorem rGiven_ok {n : Nat} {es : List Tri} {q : Nat} {zs : List Int} (h1 : gcheckE n es = 0) (h2 : connB n es = true) (hq : q < n) (h3 : checkE zs n = 0) : rGiven n es q zs = 0 := by
 unfold rGiven
 rw [if_neg (by simpa using h1), if_neg (by simp [h2]), if_neg (by omega), h3]
theorem Reduce_any (g d : Value) (n q : Nat) (es : List Tri) (zs : List Int) (w : World) (hg : GV w g n es) (hd : RI w d zs) (h1 : gcheckE n es = 0) (h2 : connB n es = true) (hq : q < n) (h3 : checkE zs n = 0) (hn : n <= 6) (hm : multS es <= 9) (hzb : Bd 100 zs) (hE : Edges n es) (hc : Conn n (wgt es)) :
   Calls Tryz.prog 152 #[g, .int .i64 (q : Int), d] w fun e w' => ∃ vr vs r s, e = .returned (.tuple #[vr, vs, .int .i64 0]) /\ OI w' w.heap.size vr r /\ OI w' w.heap.size vs s /\ Red n q es zs r s /\ Below w.heap.size w w' := by
 obtain ⟨A, c, rfl, -, -, -⟩ := hg.open_
 obtain ⟨W0, hW0⟩ : ∃ W0, W0 = w.alloc (.cells #[.int .i64 (n : Int), .slice A es.length c] 25) := ⟨_, rfl⟩
 have hb0 : Below w.heap.size w W0 := by rw [hW0]; exact below_alloc w _
 have hz0 : W0.heap.size = w.heap.size + 1 := by rw [hW0]; simp
 have hg0 := hg.below hb0
 have hd0 := hd.below hb0
 have hbx : BL W0 w.heap.size 25 [.int .i64 (n : Int), .slice A es.length c] := by rw [hW0]; exact BL.new' w _ _
 have HGi := rGiven_any _ d n q es zs W0 hg0 hd0
 rw [rGiven_ok h1 h2 hq h3] at HGi
 obtain ⟨-, -, hlen, -⟩ := checkE_ok h3
 have hzl : zs.length = n := by omega
 obtain ⟨ev, hev⟩ := hg0
 simp only [Value.agg.injEq] at hev
 obtain ⟨hve, hEV⟩ := hev
 obtain rfl : ev = .slice A es.length c := by simpa using hve.symm
 obtain ⟨eb, hEB, heb⟩ := hEV.toB (by omega)
 have HG0 := Hd (hg.below hb0)
 have HD0 := Hd hd0
 have HGI := Hd HGi
 have HB0 := Hd hb0
 have HW0 := Hd hW0
 have HBX := Hd hbx
 have HEB := Hd hEB
 have HE := Hd hE
 have HC := Hd hc
 have HZB := Hd hzb
 have HM := Hd hm
 clear hg hd h1 h2 h3 hm hzb hE hc hb0 hW0 hbx hEB HGi hEV hd0 hve
 go_enter Tryz.func152, Tryz.ntmps152
 go_wp2_with fail
 rw [<- HW0.out]
 refine HGI.out.mono ?_
 rintro e w1 ⟨rfl, hb1⟩
 have HG1 := HG0.out.below hb1
 have HD1 := HD0.out.below hb1
 have hbx1 := HBX.out.bel hb1
 have c0 := hbx1.cell 0
 have c1 := hbx1.cell 1
 have HBeg := Hd (begin_any _ d n (q : Int) es zs w1 HG1 HD1 hzl (by omega) (by omega))
 have HEB1 := Hd (HEB.out.below hb1)
 have hz1 := hb1.size
 have HB1 := Hd (HB0.out.trans (hb1.mono (by omega)))
 clear hb1 hbx1 HG1 HD1
 go_wp2_with fail
 refine HBeg.out.mono ?_
 rintro e w2 ⟨b, ve, rfl, hge, ⟨gd, capd, gs, caps, hST, hd2, hs2, hgg, hBb, hdl, hsl⟩, hb2⟩
 obtain rfl : Value.slice A es.length c = ve := by simpa using hge
 have hgd := (hd2.1.lt gd rfl)
 have hgs := (hs2.1.lt gs rfl)
 have hz2 := hb2.size
 have hbs : b ≠ gs := BL.ne_own hST hs2 (by decide)
 have HLe := Hd (lend_any b eb n q gd capd gs caps w1.heap.size _ es zs w2 HE.out hn hq HC.out HM.out hST (HEB1.out.below hb2) (by omega) (by omega) (by omega) hgg hd2 hs2 hdl HZB.out)
 have HB2 := Hd (HB1.out.trans (hb2.mono (by omega)))
 clear hge hST hd2 hs2 hb2 c0 c1
 go_wp2_with fail
 refine HLe.out.mono ?_
 rintro e w3 ⟨⟨vv, rfl⟩, o, top, d1, s1, hR3, hdist, htop, hlnd⟩
 obtain ⟨r1, r2, r3, r4⟩ := lnd_ready HE.out hn HM.out HZB.out hdist htop hlnd
 have hz3 := hR3.2.2.2.2.size
 have HSe := Hd (settle_any b eb n q gd capd gs caps w1.heap.size _ es d1 s1 w3 52000 HE.out (by omega) hq HC.out hR3.1 hR3.2.1 (by omega) (by omega) (by omega) hgg hR3.2.2.1 hR3.2.2.2.1 hlnd.dl hlnd.sl r1 r2 (by omega) r3 r4)
 have HF3 := Hd hR3.2.2.2.2
 have HDi := Hd hdist
 have HLn := Hd hlnd
 clear hR3 r1 r2 r3 r4 hdist hlnd
 go_wp2_with fail
 refine HSe.out.mono ?_
 rintro e w4 ⟨⟨vv2, rfl⟩, d2, s2, hS4, htight⟩
 obtain ⟨hred, hdb, hsb⟩ := red_of HE.out HC.out hq hn HM.out HZB.out HDi.out htop HLn.out hS4.2.2.2.2.2 htight
 have HRe := Hd (result_any b eb n q gd capd gs caps w1.heap.size _ es d2 s2 w4 (by omega) hq ⟨hS4.1, hS4.2.1, hS4.2.2.1, hS4.2.2.2.1, Fr.refl _ _⟩ hbs hgg (by omega) hS4.2.2.2.2.2.dl hS4.2.2.2.2.2.sl hdb hsb)
 have HF4 := Hd (HF3.out.trans hS4.2.2.2.2.1)
 have HRd := Hd hred
 clear hS4 htight hred hdb hsb
 go_wp2_with fail
 refine HRe.out.mono ?_
 rintro e w5 ⟨rfl, hR5⟩
 have HR5 := Hd hR5
 clear hR5
 go_wp2
 refine bodyPost_ret (results_tmp3 rfl _ _ _) rfl ?_
 exact ⟨_, _, d2, _, rfl, OV.mono HR5.out.2.2.1 (by omega), OV.mono HR5.out.2.2.2.1 (by omega), HRd.out, (HF4.out.trans HR5.out.2.2.2.2).toBelow HB2.out (by intro b' hb'; simp only [List.mem_cons, List.not_mem_nil, or_false] at hb'; rcases hb' with rfl | rfl <;> omega)⟩

def Lw (n : Int) (zs : List Int) : Prop := checkE zs n = 0 -> Bd 100 zs
structure Rt (n : Nat) (es : List Tri) : Prop where
 n1 : 1 <= n
 n6 : n <= 6
 m9 : multS es <= 9
 ed : Edges n es
 cn : Conn n (wgt es)
 gc : gcheckE n es = 0
 cb : connB n es = true
theorem Rt.reduce {n : Nat} {es : List Tri} (h : Rt n es) (g d : Value) (zs : List Int) (w : World) (hg : GV w g n es) (hd : RI w d zs) (h3 : checkE zs n = 0) (hl : Lw n zs) :
   Calls Tryz.prog 152 #[g, .int .i64 0, d] w fun e w' => ∃ vr vs r s, e = .returned (.tuple #[vr, vs, .int .i64 0]) /\ OI w' w.heap.size vr r /\ OI w' w.heap.size vs s /\ Red n 0 es zs r s /\ Below w.heap.size w w' :=
 Reduce_any g d n 0 es zs w hg hd h.gc h.cb h.n1 h3 h.n6 h.m9 (hl h3) h.ed h.cn

theorem RR.lit3 {w : World} {v u t : Value} {zs ys xs : List Int} (e : TypeId) (h : RI w v zs) (h' : RI w u ys) (h'' : RI w t xs) : RR (w.alloc (.cells #[v, u, t] e)) (.slice (some ⟨w.heap.size, 0, none⟩) 3 3) [zs, ys, xs] := by
 refine ⟨[v, u, t], RV.lit w #[v, u, t] e 3 rfl (by omega), rfl, fun k zs' hk => ?_⟩
 match k, hk with
 | 0, hk => simp at hk; subst hk; exact ⟨v, rfl, h.below (below_alloc w _)⟩
 | 1, hk => simp at hk; subst hk; exact ⟨u, rfl, h'.below (below_alloc w _)⟩
 | 2, hk => simp at hk; subst hk; exact ⟨t, rfl, h''.below (below_alloc w _)⟩
attribute [local go_sem] Oper.semAt_some

theorem info_parts' {P : Program} {e : TypeId} {z : Value} {a b : Nat} (h : (P.info? e).map (fun i => (i.zero, i.size, i.bytes)) = some (some z, a, b)) : ∃ i, P.info? e = some i /\ i.zero = some z /\ i.size = a /\ i.bytes = b := by
 cases hq : P.info? e with
 | none => simp [hq] at h
 | some i =>
   simp only [hq, Option.map_some, Option.some.injEq, Prod.mk.injEq] at h
   exact ⟨i, rfl, h.1, h.2.1, h.2.2⟩
end Go.Proofs.YteamhbohgoclgaaGreatDoor

namespace Go.Proofs.YteamhbohgoclgaaGreatDoor
open Go.RowKit Go.Shelf

theorem rooted_ok (g : Value) (n q : Nat) (es : List Tri) (w : World) (hg : GV w g n es) (hr : Rt n es) (hq : q < n) :
   Calls Tryz.prog 169 #[g, .int .i64 (q : Int)] w fun e w' => e = .returned (.int .i64 0) /\ Below w.heap.size w w' := by
 obtain ⟨A, c, rfl, -, -, -⟩ := hg.open_
 have HB0 := Hd (below_alloc w (.cells #[.int .i64 (n : Int), .slice A es.length c] 25))
 have HBL := Hd (BL.new' w #[.int .i64 (n : Int), .slice A es.length c] 25)
 have hC := Connected_any _ n es _ (hg.below HB0.out)
 have hcl : connL n es = true := by unfold connL; rw [hr.gc, hr.cb]; rfl
 rw [hcl, hr.gc] at hC
 have HC := Hd hC
 have h6 := hr.n6
 clear hC hcl hg hr
 go_enter Tryz.func169, Tryz.ntmps169
 go_wp2_with fail
 refine HC.out.mono ?_
 rintro e w1 ⟨rfl, hb⟩
 have c0 : w1.cell? ⟨w.heap.size, 0, none⟩ = some (.int .i64 (n : Int)) := (HBL.out.bel hb).cell 0
 have HB := Hd (HB0.out.trans (hb.mono (by simp)))
 clear hb
 go_wp2
 go_ret
 exact ⟨rfl, HB.out⟩
structure Cf (n q : Nat) (cs : List Int) : Prop where
 len : cs.length = n
 lo : ∀ v, v < n -> 0 <= cs.getD v 0
 hi : ∀ v, v < n -> cs.getD v 0 <= 1048576
 own : cs.getD q 0 = 0
theorem Cf.check {n q : Nat} {cs : List Int} (h : Cf n q cs) (h1 : 1 <= n) (h6 : n <= 6) : checkE cs n = 0 := checkE_fine h1 (by omega) h.len fun v hv => ⟨by have := h.lo v hv; omega, h.hi v hv⟩
theorem sCheck_ok (g d : Value) (n q : Nat) (es : List Tri) (cs : List Int) (w : World) (hg : GV w g n es) (hr : Rt n es) (hq : q < n) (hd : RI w d cs) (hc : Cf n q cs) :
   Calls Tryz.prog 120 #[g, .int .i64 (q : Int), d] w fun e w' => e = .returned (.int .i64 0) /\ Below w.heap.size w w' := by
 obtain ⟨A, c, rfl, -, -, -⟩ := hg.open_
 obtain ⟨A2, c2, rfl, -, hlb, -⟩ := hd.open_
 have HB0 := Hd (below_alloc w (.cells #[.int .i64 (n : Int), .slice A es.length c] 25))
 have HBL := Hd (BL.new' w #[.int .i64 (n : Int), .slice A es.length c] 25)
 have HRo := Hd (rooted_ok _ n q es _ (hg.below HB0.out) hr hq)
 have HD := Hd (hd.below HB0.out)
 have HCf := Hd hc
 have HLen := Hd hc.len
 have HRt := Hd hr
 clear hg hr hd hc
 go_enter Tryz.func120, Tryz.ntmps120
 go_wp2_with fail
 refine HRo.out.mono ?_
 rintro e w1 ⟨rfl, hb⟩
 have c0 : w1.cell? ⟨w.heap.size, 0, none⟩ = some (.int .i64 (n : Int)) := (HBL.out.bel hb).cell 0
 have HB := Hd (HB0.out.trans (hb.mono (by simp)))
 have HD1 := Hd (HD.out.below hb)
 have hCk := check_any _ cs n w1 HD1.out
 rw [HCf.out.check HRt.out.n1 HRt.out.n6] at hCk
 have HCk := Hd hCk
 clear hb hCk
 go_wp2_with fail
 refine HCk.out.mono ?_
 rintro e w2 ⟨rfl, rfl⟩
 go_wp2
 go_loop [26] (fun i => ∃ k : Nat, k <= cs.length /\ i = .int .i64 (k : Int)) (fun i => cs.length - (intOf i).toNat)
 case atStart => exact ⟨0, Nat.zero_le _, rfl⟩
 case round =>
   obtain ⟨k, hk, rfl⟩ := hrel
   obtain ⟨A3, c3, he3, -, -, hcell⟩ := HD1.out.open_
   simp only [Value.slice.injEq, true_and] at he3
   obtain ⟨rfl, rfl⟩ := he3
   by_cases hlt : k < cs.length
   · obtain ⟨ad, z, rfl, hbl, hz, hcl⟩ := hcell k hlt
     have hz0 : 0 <= z := by
       have := HCf.out.lo k (by have := HLen.out; omega)
       rwa [List.getD_eq_getElem?_getD, hz.out] at this
     clear hcell hz
     by_cases hkq : k = q
     · subst hkq
       have t1 : ((k : Int) != k) = false := by simp
       go_wp2
       go_round
       case rel => exact ⟨k + 1, by omega, by go_num⟩
       case measure => simp [intOf]; omega
     · have t1 : ((k : Int) != q) = true := by simp; omega
       go_wp2
       go_round
       case rel => exact ⟨k + 1, by omega, by go_num⟩
       case measure => simp [intOf]; omega
   · go_wp2
     go_ret
     exact ⟨rfl, HB.out⟩
theorem bCheck_ok (g d : Value) (n q : Nat) (es : List Tri) (cs : List Int) (w : World) (hg : GV w g n es) (hr : Rt n es) (hq : q < n) (hd : RI w d cs) (hc : Cf n q cs) :
   Calls Tryz.prog 165 #[g, .int .i64 (q : Int), d] w fun e w' => e = .returned (.int .i64 0) /\ Below w.heap.size w w' := by
 obtain ⟨A, c, rfl, -, -, -⟩ := hg.open_
 obtain ⟨A2, c2, rfl, -, hlb, -⟩ := hd.open_
 have HB0 := Hd (below_alloc w (.cells #[.int .i64 (n : Int), .slice A es.length c] 25))
 have HS := Hd (sCheck_ok _ _ n q es cs _ (hg.below HB0.out) hr hq (hd.below HB0.out) hc)
 have HD := Hd (hd.below HB0.out)
 have HCf := Hd hc
 have hql : q < cs.length := by have := hc.len; omega
 clear hg hr hd hc
 go_enter Tryz.func165, Tryz.ntmps165
 go_wp2_with fail
 refine HS.out.mono ?_
 rintro e w1 ⟨rfl, hb⟩
 have HB := Hd (HB0.out.trans (hb.mono (by simp)))
 obtain ⟨A3, c3, he3, -, -, hcell⟩ := (HD.out.below hb).open_
 simp only [Value.slice.injEq, true_and] at he3
 obtain ⟨rfl, rfl⟩ := he3
 obtain ⟨ad, z, rfl, hbl, hz, hcl⟩ := hcell q hql
 obtain rfl : z = 0 := by
   have := HCf.out.own
   rwa [List.getD_eq_getElem?_getD, hz.out] at this
 clear hb hcell hz
 go_wp2
 go_ret
 exact ⟨rfl, HB.out⟩

def WU (n : Int) (tl : List Int) (ch : Value) (bl : List Bool) : List Value := .int .i64 n :: ((tl.map fun z => Value.int .i64 z) ++ (ch :: bl.map Value.bool))
def WD (w : World) (b : Nat) (n : Int) (tl : List Int) (ch : Value) (bl : List Bool) : Prop := BL w b 301 (WU n tl ch bl) /\ tl.length = 144 /\ bl.length = 12
theorem WD.n {w : World} {b : Nat} {n : Int} {tl : List Int} {ch : Value} {bl : List Bool} (h : WD w b n tl ch bl) : w.cell? ⟨b, 0, none⟩ = some (.int .i64 n) := h.1.cell 0
theorem WD.time {w : World} {b : Nat} {n : Int} {tl : List Int} {ch : Value} {bl : List Bool} (h : WD w b n tl ch bl) {i : Nat} (hi : i < 144) : w.cell? ⟨b, 1 + i, none⟩ = some (.int .i64 (tl.getD i 0)) := by
 rw [h.1.cell (1 + i), Nat.add_comm 1 i]
 unfold WU
 rw [List.getElem?_cons_succ, List.getElem?_append_left (by simp [h.2.1]; exact hi), List.getElem?_map, List.getD_eq_getElem?_getD, List.getElem?_eq_getElem (by rw [h.2.1]; exact hi)]
 rfl
theorem WD.chips {w : World} {b : Nat} {n : Int} {tl : List Int} {ch : Value} {bl : List Bool} (h : WD w b n tl ch bl) : w.cell? ⟨b, 145, none⟩ = some ch := by
 rw [h.1.cell 145]
 unfold WU
 rw [List.getElem?_cons_succ, List.getElem?_append_right (by simp [h.2.1])]
 simp [h.2.1]
theorem WD.burnt {w : World} {b : Nat} {n : Int} {tl : List Int} {ch : Value} {bl : List Bool} (h : WD w b n tl ch bl) {j : Nat} (hj : j < 12) : w.cell? ⟨b, 146 + j, none⟩ = some (.bool (fnB bl j)) := by
 rw [h.1.cell (146 + j)]
 unfold WU fnB
 rw [show 146 + j = (145 + j) + 1 by omega, List.getElem?_cons_succ, List.getElem?_append_right (by simp [h.2.1]; omega)]
 simp only [List.length_map, h.2.1]
 rw [show 145 + j - 144 = j + 1 by omega, List.getElem?_cons_succ, List.getElem?_map, List.getD_eq_getElem?_getD, List.getElem?_eq_getElem (by rw [h.2.2]; exact hj)]
 rfl
theorem WD.setT {w : World} {b : Nat} {n : Int} {tl : List Int} {ch : Value} {bl : List Bool} (h : WD w b n tl ch bl) {i : Nat} (hi : i < 144) (x : Int) : WD (w.setCell ⟨b, 1 + i, none⟩ (.int .i64 x)) b n (tl.set i x) ch bl := by
 refine ⟨?_, by simpa using h.2.1, h.2.2⟩
 have := h.1.set (1 + i) (.int .i64 x)
 rw [show (WU n tl ch bl).set (1 + i) (.int .i64 x) = WU n (tl.set i x) ch bl by
   unfold WU
   rw [Nat.add_comm, List.set_cons_succ, List.set_append_left _ _ (by simp [h.2.1]; exact hi), List.map_set]] at this
 exact this
theorem WD.setB {w : World} {b : Nat} {n : Int} {tl : List Int} {ch : Value} {bl : List Bool} (h : WD w b n tl ch bl) {j : Nat} (hj : j < 12) (x : Bool) : WD (w.setCell ⟨b, 146 + j, none⟩ (.bool x)) b n tl ch (bl.set j x) := by
 refine ⟨?_, h.2.1, by simpa using h.2.2⟩
 have := h.1.set (146 + j) (.bool x)
 rw [show (WU n tl ch bl).set (146 + j) (.bool x) = WU n tl ch (bl.set j x) by
   unfold WU
   rw [show 146 + j = (145 + j) + 1 by omega, List.set_cons_succ, List.set_append_right _ _ (by simp [h.2.1]; omega)]
   simp only [List.length_map, h.2.1]
   rw [show 145 + j - 144 = j + 1 by omega, List.set_cons_succ, List.map_set]] at this
 exact this
theorem WD.bel {w w' : World} {b : Nat} {n : Int} {tl : List Int} {ch : Value} {bl : List Bool} (h : WD w b n tl ch bl) (hb : Below w.heap.size w w') : WD w' b n tl ch bl := ⟨h.1.bel hb, h.2⟩
theorem WD.keep {w w' : World} {b : Nat} {n : Int} {tl : List Int} {ch : Value} {bl : List Bool} (h : WD w b n tl ch bl) (hk : w'.heap[b]? = w.heap[b]?) : WD w' b n tl ch bl := ⟨hk.trans h.1, h.2⟩
theorem WD.drewN {w : World} {b : Nat} {n : Int} {tl : List Int} {ch : Value} {bl : List Bool} (h : WD w b n tl ch bl) (k : Nat) : WD (w.drewN k) b n tl ch bl := h
def TT (n : Nat) (es : List Tri) (tl : List Int) : Prop := ∀ a b, a < n -> b < n -> tl.getD (a * 12 + b) 0 = wgt es a b
theorem sumN_le_of {k n : Nat} {f : Nat -> Int} (h : ∀ i, i < n -> 0 <= f i) (hk : k <= n) : sumN k f <= sumN n f := by
 induction n with
 | zero => have : k = 0 := by omega
           subst this; exact Int.le_refl _
 | succ n ih =>
   by_cases e : k = n + 1
   · subst e; exact Int.le_refl _
   · have := ih (fun i hi => h i (by omega)) (by omega)
     have := h n (by omega)
     simp only [sumN]; omega
def flameN (es : List Tri) (bl : List Bool) (v k : Nat) : Int := sumN k fun u => if fnB bl u = true then wgt es v u else 0
theorem flameN_bd {n k v : Nat} {es : List Tri} {bl : List Bool} (hr : Rt n es) (hk : k <= n) : 0 <= flameN es bl v k /\ flameN es bl v k <= 9 := by
 have hw := wgt_nonneg hr.ed.pos
 have h0 : ∀ i, 0 <= (if fnB bl i = true then wgt es v i else 0) := fun i => by split; exact hw v i; exact Int.le_refl _
 have h1 : flameN es bl v k <= flameN es bl v n := sumN_le_of (fun i _ => h0 i) hk
 have h2 : flameN es bl v n = joinE es (fnB bl) v := join_edges hr.ed.ends (fnB bl) v
 have h3 := joinE_le hr.ed.pos (fnB bl) v
 have := hr.m9
 refine ⟨sumN_nonneg fun i _ => h0 i, by omega⟩
theorem flames_any (b n v : Nat) (es : List Tri) (tl : List Int) (ch : Value) (bl : List Bool) (w : World) (hr : Rt n es) (hw : WD w b n tl ch bl) (hT : TT n es tl) (hv : v < n) :
   Calls Tryz.prog 269 #[.pointer (some ⟨b, 0, none⟩), .int .i64 (v : Int)] w fun e w' => e = .returned (.int .i64 (flameN es bl v n)) /\ w = w' := by
 have h6 := hr.n6
 have HR := Hd hr
 have HW := Hd hw
 have HT := Hd hT
 have c0 := hw.n
 clear hr hw hT
 go_enter Tryz.func269, Tryz.ntmps269
 go_wp2
 go_loop [5, 11] (fun s i => ∃ k : Nat, k <= n /\ i = .int .i64 (k : Int) /\ s = .int .i64 (flameN es bl v k)) (fun _ i => n - (intOf i).toNat)
 case atStart => exact ⟨0, Nat.zero_le _, rfl, rfl⟩
 case round =>
   obtain ⟨k, hk, rfl, rfl⟩ := hrel
   by_cases hlt : k < n
   · have cb := HW.out.burnt (j := k) (by omega)
     have ct := HW.out.time (i := v * 12 + k) (by omega)
     rw [HT.out v k hv hlt] at ct
     obtain ⟨s0, s1⟩ := flameN_bd (bl := bl) (v := v) HR.out hk
     obtain ⟨r0, r1⟩ := flameN_bd (bl := bl) (v := v) (k := k + 1) HR.out (by omega)
     have HS : Hid (flameN es bl v (k + 1) = flameN es bl v k + if fnB bl k = true then wgt es v k else 0) := rfl
     rw [HS.out] at r0 r1
     rw [<- Nat.add_assoc] at ct
     generalize wgt es v k = x at *
     generalize flameN es bl v k = y at *
     have hwr : IntKind.i64.wrap (y + x) = y + x \/ fnB bl k = false := by
       by_cases c : fnB bl k = true
       · rw [if_pos c] at r0 r1; exact .inl (IntWalk.i64_in _ (by omega))
       · exact .inr (by simpa using c)
     cases hb : fnB bl k
     · rw [hb] at cb HS
       have HS' : Hid (flameN es bl v (k + 1) = y) := by show _ = _; rw [HS.out, if_neg (by simp)]; omega
       clear hb hwr r0 r1 HS
       go_wp2
       go_round
       case rel => exact ⟨k + 1, by omega, by go_num, by rw [HS'.out]⟩
       case measure => simp [intOf]; omega
     · rw [hb] at cb HS hwr r0 r1
       rw [if_pos rfl] at r0 r1
       have hw : IntKind.i64.wrap (y + x) = y + x := hwr.resolve_right (by simp)
       have HS' : Hid (flameN es bl v (k + 1) = y + x) := by show _ = _; rw [HS.out, if_pos rfl]
       clear hb hwr HS
       go_wp2
       go_round
       case rel => exact ⟨k + 1, by omega, by go_num, by rw [HS'.out]⟩
       case measure => simp [intOf]; omega
   · obtain rfl : k = n := by omega
     go_wp2
     go_ret
     exact ⟨rfl, rfl⟩
def catchB (n : Nat) (es : List Tri) (cs : List Int) (bl : List Bool) (v : Nat) : Bool := !fnB bl v && decide (cs.getD v 0 < flameN es bl v n)
theorem catches_any (b n v : Nat) (es : List Tri) (tl : List Int) (ch : Value) (cs : List Int) (bl : List Bool) (w : World) (hr : Rt n es) (hw : WD w b n tl ch bl) (hT : TT n es tl) (hv : v < n) (hc : RI w ch cs) (hcl : cs.length = n) :
   Calls Tryz.prog 216 #[.pointer (some ⟨b, 0, none⟩), .int .i64 (v : Int)] w (Quiet w (.bool (catchB n es cs bl v))) := by
 obtain ⟨A, c, rfl, -, -, hcell⟩ := hc.open_
 obtain ⟨ad, z, rfl, hadl, hz, hcc⟩ := hcell v (by omega)
 have h6 := hr.n6
 have c1 := hw.burnt (j := v) (by omega)
 have c2 := hw.chips
 have HF := fun m => flames_any b n v es tl _ bl (w.drewN m) hr (hw.drewN m) hT hv
 have hzv : cs.getD v 0 = z := by rw [List.getD_eq_getElem?_getD, hz.out]; rfl
 have HFm : ∀ m, Calls Tryz.prog 269 #[.pointer (some ⟨b, 0, none⟩), .int .i64 (v : Int)] (w.drewN m) fun e w' => e = .returned (.int .i64 (flameN es bl v n)) /\ ∃ k, w' = w.drewN k := fun m => (HF m).mono fun _ _ ⟨he, hm⟩ => ⟨he, m, hm.symm⟩
 have HB : Hid (catchB n es cs bl v = (!fnB bl v && decide (z < flameN es bl v n))) := by show _ = _; unfold catchB; rw [hzv]
 generalize flameN es bl v n = fl at *
 clear hr hw hT hc hcell hz HF hzv
 rw [HB.out]
 clear HB
 cases hb : fnB bl v
 · rw [hb] at c1
   clear hb
   go_enter Tryz.func216, Tryz.ntmps216
   go_wp2_with fail
   go_quiet (first | (go_at_call 269; exact HFm _))
   go_wp2
   go_ret
   exact ⟨ret_b (by simp), nq, rfl⟩
 · rw [hb] at c1
   clear hb
   go_enter Tryz.func216, Tryz.ntmps216
   go_wp2_with fail
   go_quiet (fail)
   go_wp2
   go_ret
   exact ⟨ret_b (by simp), nq, rfl⟩

theorem wgt_snoc (es : List Tri) (t : Tri) (v u : Nat) : wgt (es ++ [t]) v u = wgt es v u + ew t v u := by
 induction es with
 | nil => simp [wgt]
 | cons x r ih => simp only [List.cons_append, wgt, ih]; omega
theorem wgt_new {n : Nat} {es : List Tri} (hE : Edges n es) {k : Nat} {t : Tri} (ht : es[k]? = some t) (a b : Nat) (hab : (t.1 = a /\ t.2.1 = b) \/ (t.1 = b /\ t.2.1 = a)) : wgt (es.take k) a b = 0 := by
 have hw : 0 <= wgt (es.take k) a b := wgt_nonneg (fun s hs => hE.pos s (List.mem_of_mem_take hs)) a b
 apply Classical.byContradiction
 intro hne
 obtain ⟨s, hs, hsn, hh⟩ := wgt_pos_mem (show 0 < wgt (es.take k) a b by omega)
 obtain ⟨i, hi, hsi⟩ := List.getElem_of_mem hs
 simp only [List.length_take] at hi
 rw [List.getElem_take] at hsi
 obtain ⟨hkl, hkt⟩ := List.getElem?_eq_some_iff.1 ht
 have hlt := List.pairwise_iff_getElem.1 hE.ord i k (by omega) hkl (by omega)
 rw [hsi, hkt] at hlt
 have h1 := hE.lo s (List.mem_of_mem_take hs)
 have h2 := hE.lo t (List.mem_of_getElem? ht)
 unfold LexLt at hlt
 omega
theorem tt_skip {n : Nat} {es : List Tri} {k : Nat} {t : Tri} {tl : List Int} (ht : es[k]? = some t) (h : TT n (es.take k) tl) (he : t.1 = t.2.1) : TT n (es.take (k + 1)) tl := by
 intro a b ha hb
 rw [List.take_add_one, ht, Option.toList_some, wgt_snoc, h a b ha hb]
 unfold ew
 rw [if_neg fun hh => hh.1 he]; omega
theorem tt_step {n : Nat} {es : List Tri} (hE : Edges n es) (hn : n <= 12) {k x y : Nat} {m : Int} {tl : List Int} (ht : es[k]? = some ((x : Int), (y : Int), m)) (h : TT n (es.take k) tl) (hl : tl.length = 144) (hxy : x ≠ y) (hx : x < n) (hy : y < n) :
   TT n (es.take (k + 1)) ((tl.set (x * 12 + y) m).set (y * 12 + x) m) := by
 intro a b ha hb
 rw [List.take_add_one, ht, Option.toList_some, wgt_snoc]
 rw [getD_set_int _ _ _ _ (by simp [hl]; omega), getD_set_int _ _ _ _ (by rw [hl]; omega)]
 unfold ew
 simp only
 by_cases c1 : y * 12 + x = a * 12 + b
 · rw [if_pos c1, if_pos ⟨by omega, .inr ⟨by omega, by omega⟩⟩, wgt_new hE ht a b (.inr ⟨by simp only; omega, by simp only; omega⟩)]; omega
 · rw [if_neg c1]
   by_cases c2 : x * 12 + y = a * 12 + b
   · rw [if_pos c2, if_pos ⟨by omega, .inl ⟨by omega, by omega⟩⟩, wgt_new hE ht a b (.inl ⟨by simp only; omega, by simp only; omega⟩)]; omega
   · rw [if_neg c2, h a b ha hb, if_neg fun hh => by omega]; omega
theorem RV.two {w : World} {g n cap : Nat} {us : List Value} {p p' : Addr} (h : RV w (.slice (some ⟨g, 0, none⟩) n cap) us) (hp : ∀ g', Value.slice (some ⟨g, 0, none⟩) n cap = .slice (some ⟨g', 0, none⟩) n cap -> g' ≠ p.block /\ g' ≠ p'.block) (x y : Value) : RV ((w.setCell p x).setCell p' y) (.slice (some ⟨g, 0, none⟩) n cap) us := by
 obtain ⟨h1, h2⟩ := hp g rfl
 obtain ⟨A, c, he, h3, h4, h5⟩ := h
 refine ⟨A, c, he, h3, h4, fun k hk => ?_⟩
 obtain ⟨ad, rfl, hb, hc⟩ := h5 k hk
 simp only [Value.slice.injEq, Option.some.injEq] at he
 obtain ⟨rfl, -⟩ := he
 refine ⟨_, rfl, by simpa using hb, ?_⟩
 rw [World.cell?_of_block (w := w) ((heap_setCell_other _ p' _ y (by rw [block_of_add]; exact h2)).trans (heap_setCell_other w p _ x (by rw [block_of_add]; exact h1)))]
 exact hc
theorem RV.keep1 {w : World} {g n cap : Nat} {us : List Value} {p : Addr} (h : RV w (.slice (some ⟨g, 0, none⟩) n cap) us) (hp : g ≠ p.block) (x : Value) : RV (w.setCell p x) (.slice (some ⟨g, 0, none⟩) n cap) us := by
 obtain ⟨A, c, he, h3, h4, h5⟩ := h
 refine ⟨A, c, he, h3, h4, fun k hk => ?_⟩
 obtain ⟨ad, rfl, hb, hc⟩ := h5 k hk
 simp only [Value.slice.injEq, Option.some.injEq] at he
 obtain ⟨rfl, -⟩ := he
 refine ⟨_, rfl, by simpa using hb, ?_⟩
 rw [World.cell?_of_block (w := w) (heap_setCell_other w p _ x (by rw [block_of_add]; exact hp))]
 exact hc
theorem RI.two {w : World} {g n cap : Nat} {zs : List Int} {p p' : Addr} (h : RI w (.slice (some ⟨g, 0, none⟩) n cap) zs) (hp : ∀ g', Value.slice (some ⟨g, 0, none⟩) n cap = .slice (some ⟨g', 0, none⟩) n cap -> g' ≠ p.block /\ g' ≠ p'.block) (x y : Value) : RI ((w.setCell p x).setCell p' y) (.slice (some ⟨g, 0, none⟩) n cap) zs := RV.two h hp x y
theorem tt_zero (n : Nat) (hn : n <= 12) : TT n [] (List.replicate 144 0) := by
 intro a b ha hb
 rw [List.getD_eq_getElem?_getD, List.getElem?_replicate, if_pos (by omega)]; rfl
theorem wood_zero : Tryz.zeroCells301.toList = .int .i64 0 :: (List.replicate 144 (Value.int .i64 0) ++ (Value.slice none 0 0 :: List.replicate 12 (Value.bool false))) := by kernel_rfl
theorem wood_new (n : Int) (ch : Value) : ((Tryz.zeroCells301.setIfInBounds 0 (.int .i64 n)).setIfInBounds 145 ch).toList = WU n (List.replicate 144 0) ch (List.replicate 12 false) := by
 rw [Array.toList_setIfInBounds, Array.toList_setIfInBounds, wood_zero]
 unfold WU
 rw [List.set_cons_zero, List.set_cons_succ, List.set_append_right _ _ (by simp)]
 simp only [List.length_replicate, List.map_replicate, Nat.sub_self, List.set_cons_zero]
theorem kindled_any (g d : Value) (n q : Nat) (es : List Tri) (cs : List Int) (w : World) (hg : GV w g n es) (hr : Rt n es) (hq : q < n) (hd : RI w d cs) (hcl : cs.length = n) :
   Calls Tryz.prog 166 #[g, .int .i64 (q : Int), d] w fun e w' => ∃ b tl gd cap, e = .returned (.pointer (some ⟨b, 0, none⟩)) /\ w.heap.size <= b /\ gd < b /\ WD w' b n tl (.slice (some ⟨gd, 0, none⟩) n cap) ((List.replicate 12 false).set q true) /\ TT n es tl /\ RI w' (.slice (some ⟨gd, 0, none⟩) n cap) cs /\ Below w.heap.size w w' := by
 obtain ⟨A, c, rfl, hlc, hc, hcell⟩ := hg.open_
 have HCe := Hd hcell
 obtain ⟨A2, c2, rfl, -, -, -⟩ := hd.open_
 clear hcell
 obtain ⟨W0, hW0⟩ : ∃ W0, W0 = w.alloc (.cells #[.int .i64 (n : Int), .slice A es.length c] 25) := ⟨_, rfl⟩
 have hb0 : Below w.heap.size w W0 := by rw [hW0]; exact below_alloc w _
 have hz0 : W0.heap.size = w.heap.size + 1 := by rw [hW0]; simp
 have hbx : BL W0 w.heap.size 25 [.int .i64 (n : Int), .slice A es.length c] := by rw [hW0]; exact BL.new' w _ _
 have c0 := hbx.cell 0
 have h6 := hr.n6
 have h1 := hr.n1
 have HD0 := Hd (hd.below hb0)
 have HG0 := Hd (hg.below hb0)
 have HX0 := Hd hbx
 have hcA := Hd (clone_shape _ cs W0.drew HD0.out n hcl h1)
 have CA : Hid (∀ w1 : World, Below W0.drew.heap.size W0.drew w1 -> w1.cell? ⟨w.heap.size, 0, none⟩ = some (.int .i64 (n : Int))) := fun w1 hb => (hb.cell (p := ⟨w.heap.size, 0, none⟩) (by simp; omega)).trans c0
 have HB0 := Hd hb0
 have HW0 := Hd hW0
 have HCl := Hd hcl
 have HR := Hd hr
 clear hg hd hb0 hW0 hbx hcl hr
 go_enter Tryz.func166, Tryz.ntmps166
 go_wp2_with fail
 rw [<- HW0.out]
 go_region_with (go_at_call 115; refine hcA.out.mono ?_; rintro e w1 ⟨gd, cap, rfl, ho, hb⟩; have k0 := CA.out w1 hb.out; have kz : w.heap.size < w1.heap.size := block_lt_of_cell k0)
 all_goals
   obtain ⟨W2, hW2⟩ : ∃ W2, W2 = w1.alloc (.cells ((Tryz.zeroCells301.setIfInBounds 0 (.int .i64 (n : Int))).setIfInBounds 145 (.slice (some ⟨gd, 0, none⟩) n cap)) 301) := ⟨_, rfl⟩
   have hb2 : Below w1.heap.size w1 W2 := by rw [hW2]; exact below_alloc w1 _
   have hbw1 : Below w.heap.size w w1 := (HB0.out.drew).trans (hb.out.mono (by simp; omega))
   have HWD : Hid (WD W2 w1.heap.size n (List.replicate 144 0) (.slice (some ⟨gd, 0, none⟩) n cap) (List.replicate 12 false)) := by
     refine ⟨?_, by simp, by simp⟩
     rw [hW2, <- wood_new]
     exact BL.new' w1 _ _
   have HO2 : Hid (RI W2 (.slice (some ⟨gd, 0, none⟩) n cap) cs) := OV.rv (OV.below ho.out hb2)
   have HBe := Hd (hbw1.trans (hb2.mono hbw1.size))
   have k1 : w1.cell? ⟨w.heap.size, 1, none⟩ = some (.slice A es.length c) := ((hb.out.cell (p := ⟨w.heap.size, 1, none⟩) (by simp; omega)).trans (HX0.out.cell 1))
   have HW2 := Hd hW2
   have hzz := hbw1.size
   clear hW2 hb2 hbw1 k0
   go_wp2_with fail
   rw [<- HW2.out]
   clear k1 kz hb
   have HT0 : Hid (TT n (es.take 0) (List.replicate 144 0)) := tt_zero n (by omega)
   go_loopw [19] (fun i wr => ∃ (k : Nat) (tl : List Int), k <= es.length /\ i = .int .i64 (k : Int) /\ Hid (WD wr w1.heap.size n tl (.slice (some ⟨gd, 0, none⟩) n cap) (List.replicate 12 false)) /\ Hid (TT n (es.take k) tl) /\ Hid (RI wr (.slice (some ⟨gd, 0, none⟩) n cap) cs) /\ Hid (gd < w1.heap.size) /\ Hid (Below w.heap.size w wr)) (fun i _ => es.length - (intOf i).toNat)
   case atStart => exact ⟨0, _, Nat.zero_le _, rfl, HWD.out, HT0.out, HO2.out, (ho.out.1.lt gd rfl).2, HBe.out⟩
   case round =>
     obtain ⟨k, tl, hk, rfl, hw, ht, ho2, hgd, hbe⟩ := hrel
     have hbl := hw.out.1.lt
     by_cases hlt : k < es.length
     · obtain ⟨ad, a, a2, m, rfl, hab, ht3, e1, e2, e3⟩ := HCe.out k hlt
       have hlo := HR.out.ed.lo _ (List.mem_of_getElem? ht3.out)
       have hmu := HR.out.ed.mult _ (List.mem_of_getElem? ht3.out)
       simp only at hlo hmu
       obtain ⟨x, rfl⟩ := Int.eq_ofNat_of_zero_le hlo.1
       obtain ⟨y, rfl⟩ := Int.eq_ofNat_of_zero_le (show 0 <= a2 by omega)
       have f1 := (hbe.out.cell (p := ad.add (k * 3)) (by rw [block_of_add]; exact hab)).trans e1
       have f2 := (hbe.out.cell (p := ⟨(ad.add (k * 3)).block, (ad.add (k * 3)).off + 1, none⟩) (by rw [block_of_add]; exact hab)).trans e2
       have f3 := (hbe.out.cell (p := ⟨(ad.add (k * 3)).block, (ad.add (k * 3)).off + 2, none⟩) (by rw [block_of_add]; exact hab)).trans e3
       clear e1 e2 e3
       by_cases hxy : x = y
       · subst hxy
         have t1 : ((x : Int) != x) = false := by simp
         have HT1 := Hd (tt_skip ht3.out ht.out rfl)
         clear ht3
         go_wp2
         go_roundw
         case rel => exact ⟨k + 1, tl, by omega, by go_num, hw.out.bel (below_alloc _ _), HT1.out, RI.below ho2.out (below_alloc _ _), hgd.out, hbe.out.alloc hbe.out.size _⟩
         case measure => simp [intOf]; omega
       · have t1 : ((x : Int) != y) = true := by simp; omega
         have HT1 := Hd (tt_step HR.out.ed (by omega) ht3.out ht.out hw.out.2.1 hxy (by omega) (by omega))
         obtain ⟨W3, hW3⟩ : ∃ W3, W3 = wr.alloc (.cells #[.int .i64 (x : Int), .int .i64 (y : Int), .int .i64 m] 68) := ⟨_, rfl⟩
         have hb3 : Below wr.heap.size wr W3 := by rw [hW3]; exact below_alloc wr _
         have hbx3 : BL W3 wr.heap.size 68 [.int .i64 (x : Int), .int .i64 (y : Int), .int .i64 m] := by rw [hW3]; exact BL.new' wr _ _
         have hw3 := hw.out.bel hb3
         have hz3 := hb3.size
         have g0 := hbx3.cell 0
         have g1 := hbx3.cell 1
         have g2 := hbx3.cell 2
         have d0 : W3.cell? ⟨wr.heap.size, 0, none⟩ = some (.int .i64 (x : Int)) := g0
         have d1 : W3.cell? ⟨wr.heap.size, 1, none⟩ = some (.int .i64 (y : Int)) := g1
         have d2 : W3.cell? ⟨wr.heap.size, 2, none⟩ = some (.int .i64 m) := g2
         have q1 := hw3.time (i := x * 12 + y) (by omega)
         have p1 : W3.frozen? ⟨w1.heap.size, 1 + (x * 12 + y), none⟩ = false := hw3.1.frozen _
         have hw4 := hw3.setT (i := x * 12 + y) (by omega) m
         have q2 := hw4.time (i := y * 12 + x) (by omega)
         have p2 : (W3.setCell ⟨w1.heap.size, 1 + (x * 12 + y), none⟩ (.int .i64 m)).frozen? ⟨w1.heap.size, 1 + (y * 12 + x), none⟩ = false := hw4.1.frozen _
         have hw5 := hw4.setT (i := y * 12 + x) (by omega) m
         have ho5 : RI ((W3.setCell ⟨w1.heap.size, 1 + (x * 12 + y), none⟩ (.int .i64 m)).setCell ⟨w1.heap.size, 1 + (y * 12 + x), none⟩ (.int .i64 m)) (.slice (some ⟨gd, 0, none⟩) n cap) cs := by
           exact (RI.below ho2.out hb3).two (fun g hg => by cases hg; exact ⟨by simp; have := hgd.out; omega, by simp; have := hgd.out; omega⟩) _ _
         have hbe5 : Below w.heap.size w ((W3.setCell ⟨w1.heap.size, 1 + (x * 12 + y), none⟩ (.int .i64 m)).setCell ⟨w1.heap.size, 1 + (y * 12 + x), none⟩ (.int .i64 m)) :=
           ((hbe.out.trans (hb3.mono hbe.out.size)).setCell (p := ⟨w1.heap.size, 1 + (x * 12 + y), none⟩) (by simp; omega) _).setCell (p := ⟨w1.heap.size, 1 + (y * 12 + x), none⟩) (by simp; omega) _
         rw [<- Nat.add_assoc] at q1 p1 q2 p2 hw5 ho5 hbe5
         rw [<- Nat.add_assoc] at q2 p2 hw5 ho5 hbe5
         have i1 : (0 : Int) <= (x : Int) := by omega
         have i2 : (x : Int) < 12 := by omega
         have i3 : (0 : Int) <= (y : Int) := by omega
         have i4 : (y : Int) < 12 := by omega
         have HS0 : Hid (W3.drew.cell? ⟨wr.heap.size, 0, none⟩ = some (.int .i64 (x : Int)) /\ W3.drew.cell? ⟨wr.heap.size, 1, none⟩ = some (.int .i64 (y : Int)) /\ W3.drew.cell? ⟨wr.heap.size, 2, none⟩ = some (.int .i64 m)) := ⟨d0, d1, d2⟩
         have hx4 := hbx3.set_other (a := ⟨w1.heap.size, 1 + x * 12 + y, none⟩) (by simp; omega) (.int .i64 m)
         have hx5 := hx4.set_other (a := ⟨w1.heap.size, 1 + y * 12 + x, none⟩) (by simp; omega) (.int .i64 m)
         have HS1 : Hid ((W3.drew.setCell ⟨w1.heap.size, 1 + x * 12 + y, none⟩ (.int .i64 m)).cell? ⟨wr.heap.size, 0, none⟩ = some (.int .i64 (x : Int)) /\ (W3.drew.setCell ⟨w1.heap.size, 1 + x * 12 + y, none⟩ (.int .i64 m)).cell? ⟨wr.heap.size, 1, none⟩ = some (.int .i64 (y : Int)) /\ (W3.drew.setCell ⟨w1.heap.size, 1 + x * 12 + y, none⟩ (.int .i64 m)).cell? ⟨wr.heap.size, 2, none⟩ = some (.int .i64 m)) := ⟨hx4.cell 0, hx4.cell 1, hx4.cell 2⟩
         have HS2 : Hid (((W3.drew.setCell ⟨w1.heap.size, 1 + x * 12 + y, none⟩ (.int .i64 m)).setCell ⟨w1.heap.size, 1 + y * 12 + x, none⟩ (.int .i64 m)).cell? ⟨wr.heap.size, 0, none⟩ = some (.int .i64 (x : Int)) /\ ((W3.drew.setCell ⟨w1.heap.size, 1 + x * 12 + y, none⟩ (.int .i64 m)).setCell ⟨w1.heap.size, 1 + y * 12 + x, none⟩ (.int .i64 m)).cell? ⟨wr.heap.size, 1, none⟩ = some (.int .i64 (y : Int)) /\ ((W3.drew.setCell ⟨w1.heap.size, 1 + x * 12 + y, none⟩ (.int .i64 m)).setCell ⟨w1.heap.size, 1 + y * 12 + x, none⟩ (.int .i64 m)).cell? ⟨wr.heap.size, 2, none⟩ = some (.int .i64 m)) := ⟨hx5.cell 0, hx5.cell 1, hx5.cell 2⟩
         clear hx4 hx5
         have HW3 := Hd hW3
         have HW5 := Hd hw5
         have HO5 := Hd ho5
         have HBe5 := Hd hbe5
         clear hb3 hbx3 hw3 hw4 hw5 ho5 hbe5 ht3
         rw [hW3] at g0 g1 g2
         clear hW3
         go_wp2_with fail
         rw [<- HW3.out]
         go_region_held3 (fun W' : World => W'.cell? ⟨wr.heap.size, 0, none⟩ = some (.int .i64 (x : Int)) /\ W'.cell? ⟨wr.heap.size, 1, none⟩ = some (.int .i64 (y : Int)) /\ W'.cell? ⟨wr.heap.size, 2, none⟩ = some (.int .i64 m)) (first | exact HS0.out | exact HS1.out | exact HS2.out) (fail)
         all_goals
           go_wp2
           go_roundw
           case rel => exact ⟨k + 1, _, by omega, by go_num, HW5.out, HT1.out, HO5.out, hgd.out, HBe5.out.drew⟩
           case measure => simp [intOf]; omega
     · obtain rfl : k = es.length := by omega
       have q1 : wr.cell? ⟨w1.heap.size, 146 + q, none⟩ = some (.bool (fnB (List.replicate 12 false) q)) := hw.out.burnt (by omega)
       have p1 : wr.frozen? ⟨w1.heap.size, 146 + q, none⟩ = false := hw.out.1.frozen _
       have hw5 := hw.out.setB (j := q) (by omega) true
       have ho5 : RI ((wr.setCell ⟨w1.heap.size, 146 + q, none⟩ (.bool true))) (.slice (some ⟨gd, 0, none⟩) n cap) cs := RV.keep1 ho2.out (by simp; have := hgd.out; omega) _
       have hbe5 : Below w.heap.size w (wr.setCell ⟨w1.heap.size, 146 + q, none⟩ (.bool true)) := hbe.out.setCell (p := ⟨w1.heap.size, 146 + q, none⟩) (by simp; omega) _
       have HW5 := Hd hw5
       have HO5 := Hd ho5
       have HBe5 := Hd hbe5
       have hTT := ht.out
       rw [List.take_of_length_le (Nat.le_refl _)] at hTT
       have HTT := Hd hTT
       clear hw5 ho5 hbe5 hTT
       go_wp2
       go_ret
       exact ⟨w1.heap.size, tl, gd, cap, rfl, hzz, hgd.out, HW5.out, HTT.out, HO5.out, HBe5.out⟩
end Go.Proofs.YteamhbohgoclgaaGreatDoor
