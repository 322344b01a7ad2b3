/- The contract of the reference's given, for each kind. -/
import Derived.Test.YteamhbohgoclgaaGreatDoorR30
set_option maxRecDepth 100000
set_option maxHeartbeats 16000000
namespace Go.Proofs.YteamhbohgoclgaaGreatDoor
open Go.RowKit Go.Shelf

theorem rGiv57_any (g lv : Value) (m k : Nat) (es : List Tri) (l : List Int) (w : World) (hk : k < 9) (hg : GV w g m es) (hl : RI w lv l) (hm1 : 1 <= m) (hm : m <= 12) (hll : l.length <= 100000) (hs : shortN k <= l.length) :
   Calls Tryz.prog 54 #[g, .int .i64 (k : Int), lv] w fun e w' => GivQ m k (kq k) (kn k) (kb k) (kf k) lv l w e w' := by
 have hU := fun (f : Nat) (W : World) (hf : f < 5) => uses_any k f hk hf W
 unfold usB at hU
 unfold shortN at hs
 obtain rfl | rfl | rfl | rfl | rfl | rfl | rfl | rfl | rfl : k = 0 \/ k = 1 \/ k = 2 \/ k = 3 \/ k = 4 \/ k = 5 \/ k = 6 \/ k = 7 \/ k = 8 := by omega
 · exact given_00b g lv m 0 es l w hg hl hm1 hm hll hU
 · exact given_00c g lv m 1 es l w hg hl hU
 · exact given_00c g lv m 2 es l w hg hl hU
 · exact given_01c g lv m 3 es l w hg hl hll hs hU
 · exact given_01c g lv m 4 es l w hg hl hll hs hU
 · exact given_10c g lv m 5 es l w hg hl hll hs hU
 · exact given_10c g lv m 6 es l w hg hl hll hs hU
 · exact given_10b g lv m 7 es l w hg hl hm1 hm hll hs hU
 · exact given_00f g lv m 8 es l w hg hl hll hU

theorem rNumsO_any (v : Value) (ws : List (List UInt8)) (w : World) (hv : RS w v ws) (hl : ws.length <= 100000) (hs : ∀ s ∈ ws, s.length <= 1000000) :
   Calls Tryz.prog 51 #[v] w fun e w' => ∃ vo, e = .returned (.tuple #[vo, .int .i64 (numsE ws)]) /\ (numsE ws = 0 -> OI w' w.heap.size vo (numsV ws)) /\ Below w.heap.size w w' := by
 obtain ⟨i0, hi, hz0, hz1, hz2⟩ := info_parts int_info
 obtain ⟨A, c, rfl, hlc, hcell⟩ := hv.open_
 have HC := Hd hcell
 have HS := Hd hs
 clear hcell hv hs
 go_enter Tryz.func51, Tryz.ntmps51
 go_wp2_with fail
 go_loopw [4] (fun i wr => ∃ k : Nat, k <= ws.length /\ i = .int .i64 (k : Int) /\ Hid ((ws.take k).all canB = true) /\ Hid (Below w.heap.size w wr)) (fun i _ => ws.length - (intOf i).toNat)
 case atStart => exact ⟨0, Nat.zero_le _, rfl, rfl, Below.refl _ _⟩
 case round =>
   obtain ⟨k, hk, rfl, hA, hb⟩ := hrel
   by_cases hlt : k < ws.length
   · obtain ⟨ad, rfl, hadb, hcl⟩ := HC.out k hlt
     have hc2 := (hb.out.cell (p := ad.add k) (by rw [block_of_add]; exact hadb)).trans hcl
     have hx : ws[k]? = some (ws.getD k []) := by rw [List.getD_eq_getElem?_getD, List.getElem?_eq_getElem hlt]; rfl
     have HX := Hd hx
     generalize ws.getD k [] = s at *
     have HCan := Hd (rChk_any s wr (HS.out s (List.mem_of_getElem? HX.out)))
     have h3 := chk3 (s := s)
     clear hcl hx
     have hcv : strV s = .string ⟨s.toArray⟩ := rfl
     rw [hcv] at HCan hc2
     clear hcv
     generalize (⟨s.toArray⟩ : ByteArray) = S at *
     generalize chkE s = ce at *
     cases hcb : canB s
     · have HR : Hid (numsE ws = 4) := by
         show _ = _; unfold numsE; rw [all_not HX.out hcb]; rfl
       have t3 : (ce == 3) = true := by rw [h3, hcb]; rfl
       clear hcb h3
       go_wp2_with fail
       refine HCan.out.mono ?_
       rintro e w2 ⟨rfl, hb2⟩
       have HB2 := Hd (hb.out.trans (hb2.mono hb.out.size))
       clear hb2
       go_wp2
       go_ret2
       exact ⟨.slice none 0 0, by rw [HR.out] <;> rfl, fun h => absurd (HR.out.symm.trans h) (by decide), HB2.out⟩
     · have HA2 : Hid ((ws.take (k + 1)).all canB = true) := all_take HX.out hA.out hcb
       have t3 : (ce == 3) = false := by rw [h3, hcb]; rfl
       clear hcb h3
       go_wp2_with fail
       refine HCan.out.mono ?_
       rintro e w2 ⟨rfl, hb2⟩
       have HB2 := Hd (hb.out.trans (hb2.mono hb.out.size))
       clear hb2
       go_wp2
       go_roundw
       case rel => exact ⟨k + 1, by omega, by go_num, HA2.out, HB2.out⟩
       case measure => simp [intOf]; omega
   · have HAll : Hid (ws.all canB = true) := by
       have := hA.out
       rwa [List.take_of_length_le (by omega)] at this
     have HNs : Hid (numsE ws = if ws.all smallB = false then 2 else 0) := by
       show _ = _; unfold numsE; rw [HAll.out]; rfl
     go_wp2_with fail
     clear hA hlt hk
     go_loopw [5, 6] (fun o i wr => ∃ (k : Nat) (vo : Value), vo = o /\ k <= ws.length /\ i = .int .i64 (k : Int) /\ Hid ((ws.take k).all smallB = true) /\ Hid (OI wr w.heap.size o (numsV (ws.take k))) /\ Hid (Below w.heap.size w wr)) (fun _ i _ => ws.length - (intOf i).toNat)
     case atStart => exact ⟨0, _, rfl, Nat.zero_le _, rfl, rfl, OI.nil_ _ _, hb.out⟩
     case round =>
       clear hb
       obtain ⟨k, vo, rfl, hk, rfl, hA, ho, hbk⟩ := hrel
       by_cases hlt : k < ws.length
       · obtain ⟨ad, rfl, hadb, hcl⟩ := HC.out k hlt
         have hc2 := (hbk.out.cell (p := ad.add k) (by rw [block_of_add]; exact hadb)).trans hcl
         have hx : ws[k]? = some (ws.getD k []) := by rw [List.getD_eq_getElem?_getD, List.getElem?_eq_getElem hlt]; rfl
         have HX := Hd hx
         generalize ws.getD k [] = s at *
         have hcan : canB s = true := List.all_eq_true.1 HAll.out s (List.mem_of_getElem? HX.out)
         have hsl := HS.out s (List.mem_of_getElem? HX.out)
         have HAt := Hd (zSmall_any s wr hsl)
         have hnl : (numsV (ws.take k)).length <= ws.length := by unfold numsV; rw [List.length_map, List.length_take]; omega
         have HTk : Hid (numsV (ws.take (k + 1)) = numsV (ws.take k) ++ [wv s]) := by
           show _ = _; unfold numsV; rw [List.take_add_one, HX.out, List.map_append]; rfl
         have HA2 : Hid (-1048576 <= wv s /\ wv s <= 1048576 -> (ws.take (k + 1)).all smallB = true) := fun h => all_take HX.out hA.out (by unfold smallB; simp; exact h)
         have HBad : Hid (smallB s = false -> numsE ws = 2) := fun h => by
           rw [HNs.out, all_not HX.out h]; rfl
         have HSn : Hid (smE s ≠ 0 -> smallB s = false) := sm_not hcan
         have HSw : Hid (¬ (-1048576 <= wv s /\ wv s <= 1048576) -> smallB s = false) := fun h => by unfold smallB; simp; omega
         have hcv : strV s = .string ⟨s.toArray⟩ := rfl
         rw [hcv] at HAt hc2
         clear hcv hcan hsl hcl hx
         generalize (⟨s.toArray⟩ : ByteArray) = S at *
         generalize wv s = z at *
         generalize smE s = se at *
         go_wp2_with fail
         refine HAt.out.mono ?_
         rintro e w2 ⟨zz, rfl, hzz, hb2⟩
         have HB2 := Hd (hbk.out.trans (hb2.mono hbk.out.size))
         have HO2 : Hid (OI w2 w.heap.size vo (numsV (ws.take k))) := ho.out.below hb2
         clear hb2 hc2
         by_cases hse : se ≠ 0
         · have HR : Hid (numsE ws = 2) := HBad.out (HSn.out hse)
           have t4 : (se != 0) = true := by simpa using hse
           clear HA2 HBad hse hzz HSn HSw
           go_wp2
           go_ret2
           exact ⟨.slice none 0 0, by rw [HR.out] <;> rfl, fun h => absurd (HR.out.symm.trans h) (by decide), HB2.out⟩
         · obtain rfl : se = 0 := by omega
           obtain rfl := hzz rfl
           clear hse hzz HSn
           by_cases hsm : -1048576 <= zz /\ zz <= 1048576
           · have HA3 := Hd (HA2.out hsm)
             clear HA2 HBad HSw
             obtain ⟨hov, hrv, hfin⟩ := OI.snoc HO2.out zz HB2.out
             have HOv := Hd hov
             have HRv := Hd hrv
             have HFin := Hd hfin
             have hszB := HB2.out.size
             clear hov hrv hfin
             generalize numsV (ws.take k) = os at *
             go_wp2_with (at_builtin; refine wpList_appendV _ rfl _ _ _ rfl 3 i0 _ 8 Tryz.underlying37 hi hz0 hz1 hz2 rfl w.heap.size _ _ rfl HOv.out _ _ rfl HRv.out (one_ones rfl) (by first | omega | (simp; omega)) (by first | omega | (simp; omega)) (by first | omega | (simp; omega)) ?_; intro v1 w3 hown hg hat; obtain ⟨hf1, hf2⟩ := HFin.out v1 w3 hown hg; have HF1 := Hd hf1; have HF2 := Hd hf2; clear hown hg hat hf1 hf2)
             go_wp2
             go_roundw
             case rel => exact ⟨k + 1, _, rfl, by omega, by go_num, HA3.out, by rw [HTk.out]; exact HF1.out, HF2.out⟩
             case measure => simp [intOf]; omega
           · have HR : Hid (numsE ws = 2) := HBad.out (HSw.out hsm)
             clear HA2 HBad HSw
             by_cases hlo : zz < -1048576
             · clear hsm
               go_wp2
               go_ret2
               exact ⟨.slice none 0 0, by rw [HR.out] <;> rfl, fun h => absurd (HR.out.symm.trans h) (by decide), HB2.out⟩
             · have hhi : 1048576 < zz := by omega
               clear hsm
               go_wp2
               go_ret2
               exact ⟨.slice none 0 0, by rw [HR.out] <;> rfl, fun h => absurd (HR.out.symm.trans h) (by decide), HB2.out⟩
       · have HAs : Hid (ws.all smallB = true) := by
           have := hA.out
           rwa [List.take_of_length_le (by omega)] at this
         have HR : Hid (numsE ws = 0) := by show _ = _; rw [HNs.out, HAs.out]; rfl
         have HO2 : Hid (OI wr w.heap.size vo (numsV ws)) := by
           have := ho.out
           rw [List.take_of_length_le (by omega)] at this
           exact this
         clear hA ho
         go_wp2
         go_ret2
         exact ⟨vo, by rw [HR.out] <;> rfl, fun _ => HO2.out, hbk.out⟩

theorem results_row_tmp2 {P : Program} {fn : Func} {p u v : Tmp} {ty : TypeId} (h : fn.results = #[.cell p ty, .tmp u, .tmp v]) (tmps : Array Value) (w : World) (g : Nat) (t : TypeId) (cs : Array Value) (fr : Nat × Nat) (d : TypeDesc)
   (hp : tmps.getD p undef = .pointer (some ⟨g, 0, none⟩)) (hg : w.heap[g]? = some (.cells cs t fr))
   (hu : P.underlying ty = some d) (hd : (match d with | .struct _ | .array _ _ => true | _ => false) = true) (hi : (P.info? ty).map (·.size) = some cs.size) :
   (results fn tmps).run P w = .ok (.tuple #[.agg cs, tmps.getD u undef, tmps.getD v undef]) w := by
 have hp' : tmps[p]?.getD undef = .pointer (some ⟨g, 0, none⟩) := by simpa using hp
 simp [results, h, hp', asAddr, run_loadVar_row w g t ty cs fr d hg hu hd hi]
theorem OI.set6' {w : World} {B b : Nat} {v : Value} {zs : List Int} (h : OI w B v zs) (hb : b < B) (v0 v1 v2 v3 v4 v5 : Value) :
   OI ((((((w.setCell ⟨b, 0, none⟩ v0).setCell ⟨b, 1, none⟩ v1).setCell ⟨b, 2, none⟩ v2).setCell ⟨b, 3, none⟩ v3).setCell ⟨b, 4, none⟩ v4).setCell ⟨b, 5, none⟩ v5) B v zs := by
 obtain ⟨⟨h1, h2⟩, h3⟩ := h
 refine ⟨⟨h1, ?_⟩, h3⟩
 rcases h2 with h2 | ⟨g, cap, cur, e, hb1, hh, hrest⟩
 · exact .inl h2
 · exact .inr ⟨g, cap, cur, e, hb1, by rw [heap6 w b g (by omega)]; exact hh, hrest⟩
def atN (ws : List (List UInt8)) : Nat -> Nat
 | 0 => 0
 | i + 1 => if 1 <= i /\ ws.getD i [] = [58] /\ atN ws i = 0 then i else atN ws i
theorem idxG_first {v : List UInt8} : ∀ {l : List (List UInt8)} {j : Nat}, ((j : Int) < idxG v l \/ idxG v l < 0) -> j < l.length -> l.getD j [] ≠ v
 | [], j, _, h => by simp at h
 | z :: r, 0, h, _ => by
   intro e
   have e' : z = v := e
   rw [idxG, if_pos e'.symm] at h
   omega
 | z :: r, j + 1, h, hl => by
   have ih := idxG_first (v := v) (l := r) (j := j)
   intro e
   have e' : r.getD j [] = v := e
   refine ih ?_ (by simpa using hl) e'
   rw [idxG] at h
   by_cases c1 : v = z
   · rw [if_pos c1] at h; omega
   · rw [if_neg c1] at h
     by_cases c2 : idxG v r < 0
     · exact .inr c2
     · rw [if_neg c2] at h; omega
theorem at_idx {ws : List (List UInt8)} (h0 : ws.getD 0 [] ≠ [58]) : ∀ i, i <= ws.length -> (atN ws i : Int) = if 0 <= idxG [58] ws /\ idxG [58] ws < i then idxG [58] ws else 0
 | 0, _ => by rw [if_neg (by omega)]; rfl
 | i + 1, hi => by
   have ih := at_idx h0 i (by omega)
   have hpos : 0 <= idxG [58] ws -> 1 <= idxG [58] ws := fun h => by
     obtain ⟨k, hk⟩ : ∃ k : Nat, idxG [58] ws = k := ⟨(idxG [58] ws).toNat, by omega⟩
     have h1 := idxG_at hk
     by_cases hz : k = 0
     · subst hz
       exact absurd (by rw [List.getD_eq_getElem?_getD, h1]; rfl) h0
     · omega
   rw [atN]
   by_cases c : 1 <= i /\ ws.getD i [] = [58] /\ atN ws i = 0
   · rw [if_pos c]
     obtain ⟨c1, c2, c3⟩ := c
     rw [c3] at ih
     have hge : ¬ (0 <= idxG [58] ws /\ idxG [58] ws < i) := fun hh => by
       rw [if_pos hh] at ih
       have := hpos hh.1
       omega
     have hno : ¬ ((i : Int) < idxG [58] ws \/ idxG [58] ws < 0) := fun hh => idxG_first hh (by omega) c2
     have he : idxG [58] ws = i := by omega
     rw [if_pos (by omega), he]
   · rw [if_neg c, ih]
     by_cases c1 : 0 <= idxG [58] ws /\ idxG [58] ws < i
     · rw [if_pos c1, if_pos (by omega)]
     · rw [if_neg c1]
       by_cases c2 : 0 <= idxG [58] ws /\ idxG [58] ws < ((i + 1 : Nat) : Int)
       · exfalso
         have he : idxG [58] ws = i := by omega
         have h1 := idxG_at he
         have h2 := hpos c2.1
         rw [if_neg c1] at ih
         exact c ⟨by omega, by rw [List.getD_eq_getElem?_getD, h1]; rfl, by omega⟩
       · rw [if_neg c2]
theorem atN_le (ws : List (List UInt8)) : ∀ i, atN ws i <= i
 | 0 => Nat.le_refl _
 | i + 1 => by
   rw [atN]
   split
   · omega
   · have := atN_le ws i; omega
theorem kw_colon {s : List UInt8} (h : 0 <= idxG s kwL) : s ≠ [58] := fun e => by
 subst e
 revert h; decide
def parC (m i : Nat) (l : List Int) : Int :=
 if fillE m (kq i) (kn i) (kb i) (kf i) l ≠ 0 then fillE m (kq i) (kn i) (kb i) (kf i) l
 else rightE m (kq i) (kn i) (kl i) (fQ (kq i) l) (fQ (kn i) (l1L (kq i) l)) (fF (kf i) (l2L (kq i) (kn i) l))
def parE (m : Nat) (s : List UInt8) : Int :=
 if idxG ((splitL 32 s).getD 0 []) kwL < 0 \/ idxG [58] (splitL 32 s) < 0 then 4
 else if numsE (((splitL 32 s).take (idxG [58] (splitL 32 s)).toNat).drop 1) = 4 \/ numsE ((splitL 32 s).drop ((idxG [58] (splitL 32 s)).toNat + 1)) = 4 then 4
 else if numsE (((splitL 32 s).take (idxG [58] (splitL 32 s)).toNat).drop 1) ≠ 0 \/ numsE ((splitL 32 s).drop ((idxG [58] (splitL 32 s)).toNat + 1)) ≠ 0 then 2
 else parC m (idxG ((splitL 32 s).getD 0 []) kwL).toNat (numsV (((splitL 32 s).take (idxG [58] (splitL 32 s)).toNat).drop 1))
theorem fill_short {m i : Nat} {l : List Int} (hi : i < 9) (h : l.length < shortN i) : fillE m (kq i) (kn i) (kb i) (kf i) l = 8 := by
 unfold fillE
 unfold shortN at h
 obtain rfl | rfl | rfl | rfl | rfl | rfl | rfl | rfl | rfl : i = 0 \/ i = 1 \/ i = 2 \/ i = 3 \/ i = 4 \/ i = 5 \/ i = 6 \/ i = 7 \/ i = 8 := by omega
 · exact absurd h (by simp [kq, kn])
 · exact absurd h (by simp [kq, kn])
 · exact absurd h (by simp [kq, kn])
 · have : l = [] := List.eq_nil_of_length_eq_zero (by simp [kq, kn] at h; exact List.length_eq_zero_iff.2 h)
   rw [if_neg (by simp [kq]), if_pos ⟨rfl, by rw [this]; rfl⟩]
 · have : l = [] := List.eq_nil_of_length_eq_zero (by simp [kq, kn] at h; exact List.length_eq_zero_iff.2 h)
   rw [if_neg (by simp [kq]), if_pos ⟨rfl, by rw [this]; rfl⟩]
 · have : l = [] := List.eq_nil_of_length_eq_zero (by simp [kq, kn] at h; exact List.length_eq_zero_iff.2 h)
   rw [if_pos ⟨rfl, this⟩]
 · have : l = [] := List.eq_nil_of_length_eq_zero (by simp [kq, kn] at h; exact List.length_eq_zero_iff.2 h)
   rw [if_pos ⟨rfl, this⟩]
 · have : l = [] := List.eq_nil_of_length_eq_zero (by simp [kq, kn] at h; exact List.length_eq_zero_iff.2 h)
   rw [if_pos ⟨rfl, this⟩]
 · exact absurd h (by simp [kq, kn])
theorem fill_08 (m i : Nat) (l : List Int) : fillE m (kq i) (kn i) (kb i) (kf i) l = 0 \/ fillE m (kq i) (kn i) (kb i) (kf i) l = 8 := by
 unfold fillE
 repeat' split
 all_goals first | exact .inl rfl | exact .inr rfl
theorem shortN_le (k : Nat) : shortN k <= 2 := by
 unfold shortN
 cases kq k <;> cases kn k <;> decide
theorem subS_l {W : World} {ad : Addr} {c : Nat} {l : List (List UInt8)} (h : RS W (.slice (some ad) l.length c) l) (lo : Nat) (z : Int) (hz : z = lo) (h2 : lo <= l.length) :
   ∃ P : Option Addr, RS W (.slice P (l.length - lo) (c - lo)) (l.drop lo) /\ ∀ W' : World, (Instr.slice 55 (.slice (some ad) l.length c) (some (.int .i64 z)) none none).run Tryz.prog W' = .ok (.slice P (l.length - lo) (c - lo)) W' := by
 subst hz
 have h3 := RS.sub h (i := lo) (j := l.length) h2 (Nat.le_refl _)
 rw [List.take_of_length_le (Nat.le_refl _)] at h3
 refine ⟨if c = lo then some ad else some (ad.add lo), h3, fun W' => ?_⟩
 rw [run_slice_l W' 55 (some ad) l.length c Tryz.underlying55 .i64 (lo : Int) (by omega) (by omega)]
 by_cases e : c = lo
 · simp [go_sem, e]
 · simp [go_sem, e]

def rdBody (m : Nat) : List (List UInt8) -> Nat -> Int × Int
 | [], _ => (0, 0)
 | s :: r, i => if parE m s ≠ 0 then ((i : Int), parE m s) else rdBody m r (i + 1)
def rdE (s : List UInt8) : Int × Int :=
 if linesE s ≠ 0 then (linesN s, linesE s)
 else if hdE ((linesV s).getD 0 []) ≠ 0 then (0, hdE ((linesV s).getD 0 []))
 else rdBody (hdN ((linesV s).getD 0 [])).toNat ((linesV s).drop 1) 1
def rdG (s : List UInt8) : Int × List Tri := if (rdE s).2 = 0 then (hdN ((linesV s).getD 0 []), hdT ((linesV s).getD 0 [])) else (0, [])
def rdC (s : List UInt8) : List Clm := if (rdE s).2 = 0 then ((linesV s).drop 1).map (clmOf (hdN ((linesV s).getD 0 [])).toNat) else []
theorem rdBody_bad (m : Nat) : ∀ (ls : List (List UInt8)) (i k : Nat), (∀ j, j < k -> parE m (ls.getD j []) = 0) -> k < ls.length -> parE m (ls.getD k []) ≠ 0 -> rdBody m ls i = (((i + k : Nat) : Int), parE m (ls.getD k []))
 | [], i, k, _, h, _ => by simp at h
 | s :: r, i, 0, _, _, h => by
   simp only [List.getD_cons_zero] at h
   unfold rdBody
   rw [if_pos h]; simp
 | s :: r, i, k + 1, h0, h1, h2 => by
   have e := h0 0 (by omega)
   simp only [List.getD_cons_zero] at e
   unfold rdBody
   rw [if_neg (by rw [e]; simp), rdBody_bad m r (i + 1) k (fun j hj => by have := h0 (j + 1) (by omega); simpa using this) (by simpa using h1) (by simpa using h2)]
   simp only [List.getD_cons_succ, Prod.mk.injEq, and_true]
   omega
theorem rdBody_good (m : Nat) : ∀ (ls : List (List UInt8)) (i : Nat), (∀ j, j < ls.length -> parE m (ls.getD j []) = 0) -> rdBody m ls i = (0, 0)
 | [], i, _ => rfl
 | s :: r, i, h => by
   have e := h 0 (by simp)
   simp only [List.getD_cons_zero] at e
   unfold rdBody
   rw [if_neg (by rw [e]; simp)]
   exact rdBody_good m r (i + 1) fun j hj => by have := h (j + 1) (by simp; omega); simpa using this
theorem rd_err {s : List UInt8} (h : (rdE s).2 ≠ 0) : rdG s = (0, []) /\ rdC s = [] := by
 unfold rdG rdC
 rw [if_neg h, if_neg h]; exact ⟨rfl, rfl⟩
theorem rd_long {s : List UInt8} (h : 65536 < s.length) : rdE s = (0, 19) /\ rdG s = (0, []) /\ rdC s = [] := by
 have e : rdE s = (0, 19) := by unfold rdE linesE linesN; rw [if_pos h, if_pos h, if_pos (by decide)]
 exact ⟨e, rd_err (by rw [e]; decide)⟩
theorem rd_torn {s : List UInt8} (h : s.length <= 65536) (ht : tornB s = true) : rdE s = ((((splitL 10 s).length - 1 : Nat) : Int), 20) /\ rdG s = (0, []) /\ rdC s = [] := by
 have e : rdE s = ((((splitL 10 s).length - 1 : Nat) : Int), 20) := by
   have e1 : linesE s = 20 := by unfold linesE; rw [if_neg (by omega), if_pos ht]
   have e2 : linesN s = (((splitL 10 s).length - 1 : Nat) : Int) := by unfold linesN; rw [if_neg (by omega), if_pos ht]
   unfold rdE; rw [e1, if_pos (by decide), e2]
 exact ⟨e, rd_err (by rw [e]; show (20 : Int) ≠ 0; decide)⟩
theorem rd_l0 {s : List UInt8} (ht : tornB s = false) : (linesV s).getD 0 [] = (splitL 10 s).getD 0 [] := by
 unfold tornB at ht
 simp only [Bool.or_eq_false_iff, decide_eq_false_iff_not] at ht
 have := splitL_ne 10 s
 have hp : 0 < (splitL 10 s).length := List.length_pos_iff.2 this
 unfold linesV
 simp only [List.getD_eq_getElem?_getD]
 rw [List.getElem?_take_of_lt (by omega)]
theorem rd_head {s : List UInt8} (h : s.length <= 65536) (ht : tornB s = false) (he : hdE ((splitL 10 s).getD 0 []) ≠ 0) : rdE s = (0, hdE ((splitL 10 s).getD 0 [])) /\ rdG s = (0, []) /\ rdC s = [] := by
 have e : rdE s = (0, hdE ((splitL 10 s).getD 0 [])) := by
   have e1 : linesE s = 0 := by unfold linesE; rw [if_neg (by omega), if_neg (by rw [ht]; simp)]
   unfold rdE; rw [e1, if_neg (by simp), rd_l0 ht, if_pos he]
 exact ⟨e, rd_err (by rw [e]; exact he)⟩
theorem rd_bodyE {s : List UInt8} (h : s.length <= 65536) (ht : tornB s = false) (he : hdE ((splitL 10 s).getD 0 []) = 0) :
   rdE s = rdBody (hdN ((splitL 10 s).getD 0 [])).toNat (((splitL 10 s).take ((splitL 10 s).length - 1)).drop 1) 1 := by
 have e1 : linesE s = 0 := by unfold linesE; rw [if_neg (by omega), if_neg (by rw [ht]; simp)]
 unfold rdE; rw [e1, if_neg (by simp), rd_l0 ht, if_neg (by rw [he]; simp)]; rfl
theorem rd_body {s : List UInt8} (h : s.length <= 65536) (ht : tornB s = false) (he : hdE ((splitL 10 s).getD 0 []) = 0) (m : Nat) (hm : hdN ((splitL 10 s).getD 0 []) = m) (k : Nat)
   (h0 : ∀ j, j < k -> parE m ((((splitL 10 s).take ((splitL 10 s).length - 1)).drop 1).getD j []) = 0) (h1 : k < (((splitL 10 s).take ((splitL 10 s).length - 1)).drop 1).length) (h2 : parE m ((((splitL 10 s).take ((splitL 10 s).length - 1)).drop 1).getD k []) ≠ 0) :
   rdE s = (((1 + k : Nat) : Int), parE m ((((splitL 10 s).take ((splitL 10 s).length - 1)).drop 1).getD k [])) /\ rdG s = (0, []) /\ rdC s = [] := by
 have e := rd_bodyE h ht he
 rw [hm, Int.toNat_natCast, rdBody_bad m _ 1 k h0 h1 h2] at e
 exact ⟨e, rd_err (by rw [e]; exact h2)⟩
theorem rd_good {s : List UInt8} (h : s.length <= 65536) (ht : tornB s = false) (he : hdE ((splitL 10 s).getD 0 []) = 0) (m : Nat) (hm : hdN ((splitL 10 s).getD 0 []) = m)
   (h0 : ∀ j, j < (((splitL 10 s).take ((splitL 10 s).length - 1)).drop 1).length -> parE m ((((splitL 10 s).take ((splitL 10 s).length - 1)).drop 1).getD j []) = 0) :
   rdE s = (0, 0) /\ rdG s = ((m : Int), hdT ((splitL 10 s).getD 0 [])) /\ rdC s = (((splitL 10 s).take ((splitL 10 s).length - 1)).drop 1).map (clmOf m) := by
 have e := rd_bodyE h ht he
 rw [hm, Int.toNat_natCast, rdBody_good m _ 1 h0] at e
 refine ⟨e, ?_, ?_⟩
 · unfold rdG; rw [e, if_pos rfl, rd_l0 ht, hm]
 · unfold rdC; rw [e, if_pos rfl, rd_l0 ht, hm, Int.toNat_natCast]; rfl
theorem rdV_lines {s : List UInt8} (h : linesE s ≠ 0) : rdE s = (linesN s, linesE s) /\ rdG s = (0, []) /\ rdC s = [] := by
 have e : rdE s = (linesN s, linesE s) := by unfold rdE; rw [if_pos h]
 exact ⟨e, rd_err (by rw [e]; exact h)⟩
theorem linesV_facts {s : List UInt8} (h : linesE s = 0) : s.length <= 65536 /\ tornB s = false /\ 1 <= (linesV s).length /\ (linesV s).length <= 65536 /\ ∀ x ∈ linesV s, x.length <= 65536 := by
 unfold linesE at h
 by_cases h1 : 65536 < s.length
 · rw [if_pos h1] at h; exact absurd h (by decide)
 · rw [if_neg h1] at h
   by_cases h2 : tornB s = true
   · rw [if_pos h2] at h; exact absurd h (by decide)
   · have h3 : tornB s = false := by simpa using h2
     have h4 := h3
     unfold tornB at h4
     simp only [Bool.or_eq_false_iff, decide_eq_false_iff_not] at h4
     have hne := splitL_ne 10 s
     have hp : 0 < (splitL 10 s).length := List.length_pos_iff.2 hne
     have hsl := splitL_length 10 s
     have hsp := splitL_part 10 s
     refine ⟨by omega, h3, ?_, ?_, fun x hx => ?_⟩
     · unfold linesV; rw [List.length_take]; omega
     · unfold linesV; rw [List.length_take]; omega
     · have := hsp x (List.mem_of_mem_take hx); omega
theorem rdV_head {s : List UInt8} (h : linesE s = 0) (he : hdE ((linesV s).getD 0 []) ≠ 0) : rdE s = (0, hdE ((linesV s).getD 0 [])) /\ rdG s = (0, []) /\ rdC s = [] := by
 obtain ⟨h1, h2, -⟩ := linesV_facts h
 rw [rd_l0 h2] at he ⊢
 exact rd_head h1 h2 he
theorem rdV_body {s : List UInt8} (h : linesE s = 0) (he : hdE ((linesV s).getD 0 []) = 0) (m : Nat) (hm : hdN ((linesV s).getD 0 []) = m) (k : Nat)
   (h0 : ∀ j, j < k -> parE m ((linesV s).getD (j + 1) []) = 0) (h1 : k + 1 < (linesV s).length) (h2 : parE m ((linesV s).getD (k + 1) []) ≠ 0) :
   rdE s = (((k + 1 : Nat) : Int), parE m ((linesV s).getD (k + 1) [])) /\ rdG s = (0, []) /\ rdC s = [] := by
 obtain ⟨q1, q2, -⟩ := linesV_facts h
 have hd : ∀ j, ((((splitL 10 s).take ((splitL 10 s).length - 1)).drop 1).getD j []) = (linesV s).getD (j + 1) [] := fun j => by
   unfold linesV
   simp only [List.getD_eq_getElem?_getD, List.getElem?_drop]
   rw [Nat.add_comm]
 rw [rd_l0 q2] at he hm
 have := rd_body q1 q2 he m hm k (fun j hj => by rw [hd]; exact h0 j hj) (by rw [List.length_drop]; have : (linesV s).length = ((splitL 10 s).take ((splitL 10 s).length - 1)).length := rfl; omega) (by rw [hd]; exact h2)
 rw [hd, show ((1 + k : Nat) : Int) = ((k + 1 : Nat) : Int) by omega] at this
 exact this
theorem rdV_good {s : List UInt8} (h : linesE s = 0) (he : hdE ((linesV s).getD 0 []) = 0) (m : Nat) (hm : hdN ((linesV s).getD 0 []) = m)
   (h0 : ∀ j, j + 1 < (linesV s).length -> parE m ((linesV s).getD (j + 1) []) = 0) :
   rdE s = (0, 0) /\ rdG s = ((m : Int), hdT ((linesV s).getD 0 [])) /\ rdC s = ((linesV s).drop 1).map (clmOf m) := by
 obtain ⟨q1, q2, -⟩ := linesV_facts h
 have hd : ∀ j, ((((splitL 10 s).take ((splitL 10 s).length - 1)).drop 1).getD j []) = (linesV s).getD (j + 1) [] := fun j => by
   unfold linesV
   simp only [List.getD_eq_getElem?_getD, List.getElem?_drop]
   rw [Nat.add_comm]
 rw [rd_l0 q2] at he hm ⊢
 exact rd_good q1 q2 he m hm fun j hj => by
   rw [hd]
   refine h0 j ?_
   rw [List.length_drop] at hj
   have : (linesV s).length = ((splitL 10 s).take ((splitL 10 s).length - 1)).length := rfl
   omega
theorem hd_m {s : List UInt8} (h : hdE s = 0) : ∃ m : Nat, hdN s = m /\ 1 <= m /\ m <= 12 := by
 have h2 : eGiven (hdN s) (hdT s) [] = 0 := by
   unfold hdE at h
   by_cases h1 : (splitL 32 s).getD 0 [] ≠ [103, 114, 97, 112, 104] \/ (splitL 32 s).length % 3 ≠ 2
   · rw [if_pos h1] at h; exact absurd h (by decide)
   · rw [if_neg h1] at h
     by_cases h3 : numsE ((splitL 32 s).drop 1) ≠ 0
     · rw [if_pos h3] at h; exact absurd h h3
     · rw [if_neg h3] at h; exact h
 obtain ⟨m, h3, h4, h5, -⟩ := eGivenP_ok h2
 exact ⟨m, h3, h4, h5⟩
theorem map_snoc (f : List UInt8 -> Clm) (l : List (List UInt8)) (k : Nat) (h : k < l.length) : (l.take (k + 1)).map f = (l.take k).map f ++ [f (l.getD k [])] := by
 rw [List.take_add_one, List.map_append, List.getD_eq_getElem?_getD, List.getElem?_eq_getElem h]
 rfl
theorem GV.zero (w : World) : GV w (.agg #[.int .i64 0, .slice none 0 0]) 0 [] := ⟨_, rfl, none, 0, rfl, Nat.le_refl _, by simp, fun k hk => by simp at hk⟩
theorem CV.nil_ (w : World) : CV w (.slice none 0 0) [] := ⟨none, 0, rfl, Nat.le_refl _, by simp, fun k hk => by simp at hk⟩
theorem grownBy_setCellA (W : World) (b i : Nat) (v : Value) : W.grownBy (W.setCell ⟨b, i, none⟩ v) (some b) :=
 ⟨rfl, rfl, rfl, by simp [World.setCell], fun k _ hk => Below.heap_setCell _ _ _ k (fun e => hk (by rw [e]))⟩
theorem GV.set2 {w : World} {g : Value} {n : Int} {es : List Tri} {b : Nat} {T : TypeId} {u0 u1 : Value} (h : GV w g n es) (hb : BL w b T [u0, u1]) (i : Nat) (x : Value) : GV (w.setCell ⟨b, i, none⟩ x) g n es := by
 obtain ⟨A, c, rfl, h1, h2, h3⟩ := h.open_
 refine ⟨_, rfl, A, c, rfl, h1, h2, fun k hk => ?_⟩
 obtain ⟨ad, a, b', m, e, hl, ht, c1, c2, c3⟩ := h3 k hk
 have hne : (ad.add (k * 3)).block ≠ b := by
   rintro rfl
   have h := hb.cell ((ad.add (k * 3)).off + 2)
   rw [c3] at h
   simp at h
 have hk : ∀ p : Addr, p.block ≠ b -> (w.setCell ⟨b, i, none⟩ x).cell? p = w.cell? p := fun p hp => World.cell?_setCell_far w ⟨b, i, none⟩ p x (fun e => hp e.symm)
 refine ⟨ad, a, b', m, e, by simpa using hl, ht, ?_, ?_, ?_⟩
 · rw [hk _ hne]; exact c1
 · rw [hk ⟨(ad.add (k * 3)).block, (ad.add (k * 3)).off + 1, none⟩ hne]; exact c2
 · rw [hk ⟨(ad.add (k * 3)).block, (ad.add (k * 3)).off + 2, none⟩ hne]; exact c3
theorem CO.setA {w : World} {B b : Nat} {r : List Value} {x : Clm} {G : TypeId} {us : List Value} (h : CO w B r x) (hb : BL w b G us) (hGi : 3 ≠ G) (i : Nat) (y : Value) : CO (w.setCell ⟨b, i, none⟩ y) B r x := by
 obtain ⟨vl, l, h4, h5⟩ := h
 exact ⟨vl, l, OV.keptBox h4 hb hGi (grownBy_setCellA w b i y), h5⟩
theorem CO.set6 {w : World} {B b : Nat} {r : List Value} {x : Clm} {us : List Value} (h : CO w B r x) (hb : BL w b 47 us) (v0 v1 v2 v3 v4 v5 : Value) :
   CO ((((((w.setCell ⟨b, 0, none⟩ v0).setCell ⟨b, 1, none⟩ v1).setCell ⟨b, 2, none⟩ v2).setCell ⟨b, 3, none⟩ v3).setCell ⟨b, 4, none⟩ v4).setCell ⟨b, 5, none⟩ v5) B r x :=
 (((((h.setA hb (by decide) 0 v0).setA (hb.set 0 v0) (by decide) 1 v1).setA ((hb.set 0 v0).set 1 v1) (by decide) 2 v2).setA (((hb.set 0 v0).set 1 v1).set 2 v2) (by decide) 3 v3).setA ((((hb.set 0 v0).set 1 v1).set 2 v2).set 3 v3) (by decide) 4 v4).setA (((((hb.set 0 v0).set 1 v1).set 2 v2).set 3 v3).set 4 v4) (by decide) 5 v5
theorem RW.set {T G : TypeId} {B : Nat} {w : World} {v : Value} {xs : List Clm} {b : Nat} {us : List Value} (h : RW T B w v xs) (hb : BL w b G us) (hG : G ≠ T) (hGi : 3 ≠ G) (i : Nat) (x : Value) : RW T B (w.setCell ⟨b, i, none⟩ x) v xs := by
 obtain ⟨rows, h1, h2, h3⟩ := h
 refine ⟨rows, ⟨⟨h1.1.1, ?_⟩, h1.2⟩, h2, fun j r y hr hy => ?_⟩
 · rcases h1.1.2 with h4 | ⟨g, cap, cur, hv, hg, hh, r'⟩
   · exact .inl h4
   · refine .inr ⟨g, cap, cur, hv, hg, (heap_setCell_other w _ g x ?_).trans hh, r'⟩
     rintro rfl
     unfold BL at hb
     rw [hh] at hb
     simp only [Option.some.injEq, Obj.cells.injEq] at hb
     exact hG hb.2.1.symm
 · obtain ⟨vl, l, h4, h5⟩ := h3 j r y hr hy
   exact ⟨vl, l, OV.keptBox h4 hb hGi (grownBy_setCellA w b i x), h5⟩
theorem results_row_tmp3 {P : Program} {fn : Func} {p u v z : Tmp} {ty : TypeId} (h : fn.results = #[.cell p ty, .tmp u, .tmp v, .tmp z]) (tmps : Array Value) (w : World) (g : Nat) (t : TypeId) (cs : Array Value) (fr : Nat × Nat) (d : TypeDesc)
   (hp : tmps.getD p undef = .pointer (some ⟨g, 0, none⟩)) (hg : w.heap[g]? = some (.cells cs t fr))
   (hu : P.underlying ty = some d) (hd : (match d with | .struct _ | .array _ _ => true | _ => false) = true) (hi : (P.info? ty).map (·.size) = some cs.size) :
   (results fn tmps).run P w = .ok (.tuple #[.agg cs, tmps.getD u undef, tmps.getD v undef, tmps.getD z undef]) w := by
 have hp' : tmps[p]?.getD undef = .pointer (some ⟨g, 0, none⟩) := by simpa using hp
 simp [results, h, hp', asAddr, run_loadVar_row w g t ty cs fr d hg hu hd hi]
theorem rd_fin' {RE : Int × Int} {RG : Int × List Tri} {RC : List Clm} {w W : World} {B : Nat} {a e : Int} (h : RE = (a, e) /\ RG = (0, []) /\ RC = []) (hb : Below B w W) :
   ∃ g v, Ending.returned (.tuple #[.agg #[.int .i64 0, .slice none 0 0], .slice none 0 0, .int .i64 a, .int .i64 e]) = .returned (.tuple #[g, v, .int .i64 RE.1, .int .i64 RE.2]) /\ GV W g RG.1 RG.2 /\ CV W v RC /\ Below B w W := by
 obtain ⟨rfl, rfl, rfl⟩ := h
 exact ⟨_, _, rfl, GV.zero W, CV.nil_ W, hb⟩

def ring : List Tri := [(0, 1, 1), (0, 2, 1), (1, 2, 1)]
theorem ring_given : eGiven 3 ring [] = 0 := by kernel_rfl
theorem ring_rt : Rt 3 ring := by
 obtain ⟨m, h, -, -, h1, h2, h3⟩ := eGivenP_ok ring_given
 have hm : m = 3 := by omega
 subst hm
 exact ⟨by omega, by omega, by decide, h1, (connB_iff (by omega) (by omega) h1).1 h2, h3, h2⟩
theorem ring_w : wgt ring 0 0 = 0 /\ wgt ring 0 1 = 1 /\ wgt ring 0 2 = 1 /\ wgt ring 1 0 = 1 /\ wgt ring 1 1 = 0 /\ wgt ring 1 2 = 1 /\ wgt ring 2 0 = 1 /\ wgt ring 2 1 = 1 /\ wgt ring 2 2 = 0 := by decide
theorem ring_cf : Cf 3 0 [0, 1, 0] := by
 refine ⟨rfl, fun v hv => ?_, fun v hv => ?_, rfl⟩
 · match v, hv with
   | 0, _ | 1, _ | 2, _ => decide
 · match v, hv with
   | 0, _ | 1, _ | 2, _ => decide
theorem ring_tight : Tight 3 (wgt ring) 0 (fnD [0, 1, 0]) := by
 have h0 : BurnW 3 0 ring [0, 1, 0] (blOf 0 []) := burnw_start (by omega)
 have h1 := burnw_step (v := 2) ring_rt h0 (by omega) (by decide)
 have h2 := burnw_step (v := 1) ring_rt h1 (by omega) (by decide)
 exact tight_of_burnt fun A hA hl v hv => h2.2.2 A hA hl v hv (by
   match v, hv with
   | 0, _ | 1, _ | 2, _ => decide)
theorem ring_order {xs : List Nat} (h : catF 3 0 ring [0, 1, 0] xs) : xs = [2, 1] := by
 obtain ⟨h1, h2⟩ := h
 have hu := catS_nodup (by omega) h1
 match xs, h1, h2, hu with
 | [], _, h2, _ => exact absurd (h2 2 (by omega)) (by decide)
 | [x], h1, h2, _ =>
   obtain ⟨a, b⟩ := h1 0 (by simp)
   simp only [List.getD_cons_zero, List.take_zero] at a b
   match x, a with
   | 0, _ => exact absurd b (by decide)
   | 1, _ => exact absurd b (by decide)
   | 2, _ => exact absurd (h2 1 (by omega)) (by decide)
 | [x, y], h1, h2, _ =>
   obtain ⟨a, b⟩ := h1 0 (by simp)
   obtain ⟨c, d⟩ := h1 1 (by simp)
   simp only [List.getD_cons_zero, List.take_zero] at a b
   simp only [List.getD_cons_succ, List.getD_cons_zero, List.take_succ_cons, List.take_zero] at c d
   match x, a with
   | 0, _ => exact absurd b (by decide)
   | 1, _ => exact absurd b (by decide)
   | 2, _ =>
     match y, c with
     | 0, _ => exact absurd d (by decide)
     | 1, _ => rfl
     | 2, _ => exact absurd d (by decide)
 | x :: y :: z :: r, h1, h2, hu =>
   have h3 := hu (r.length + 3) (by simp)
   have h4 : unb 3 (blOf 0 []) = 2 := by decide
   have h5 := hu 0 (by omega)
   have h6 : ∀ k, k <= (x :: y :: z :: r).length -> unb 3 (blOf 0 ((x :: y :: z :: r).take k)) + k <= 2 := by
     intro k
     induction k with
     | zero => intro _; rw [List.take_zero, h4]; omega
     | succ k ih =>
       intro hk
       have g1 := ih (by omega)
       obtain ⟨g2, g3⟩ := h1 k (by omega)
       have g4 : (x :: y :: z :: r).take (k + 1) = (x :: y :: z :: r).take k ++ [(x :: y :: z :: r).getD k 0] := by
         rw [List.take_add_one, List.getD_eq_getElem?_getD, List.getElem?_eq_getElem (by omega)]; rfl
       unfold catchB at g3
       simp only [Bool.and_eq_true, Bool.not_eq_true'] at g3
       have g5 := unb_set (blOf_len 0 ((x :: y :: z :: r).take k)) g2 (by omega) g3.1
       rw [g4, blOf_snoc]
       omega
   have h7 := h6 3 (by simp)
   omega
theorem ring_super {er : Int} {L : List Int} (h : SsP 3 0 ring [0, 1, 0] er L) : er = 0 /\ L = [2, 1] := by
 rcases h with ⟨h1, -, -, xs, h2, h3⟩ | ⟨-, h1⟩
 · have := ring_order h3
   subst this
   exact ⟨h1, h2⟩
 · exact absurd ⟨ring_cf, ring_tight⟩ h1
theorem ring_lost {er : Int} {L : List Int} (h : WnP 3 ring [1, -1, 0] er L) : er = 16 := by
 obtain ⟨r, hr, he⟩ := h
 have e0 := hr.eq 0 (by omega)
 have e1 := hr.eq 1 (by omega)
 have e2 := hr.eq 2 (by omega)
 have p1 := hr.pos 1 (by omega) (by omega)
 have p2 := hr.pos 2 (by omega) (by omega)
 have own := hr.own
 obtain ⟨w00, w01, w02, w10, w11, w12, w20, w21, w22⟩ := ring_w
 simp only [lap, sumN, w00, w01, w02, w10, w11, w12, w20, w21, w22, own, List.getD_cons_zero, List.getD_cons_succ] at e0 e1 e2
 rw [if_neg (by omega)] at he
 exact he
theorem ring_form5 : formA 3 5 0 0 [0, 1, 0] [] [] = 0 := by kernel_rfl
theorem ring_form1 : formA 3 1 0 0 [1, -1, 0] [] [] = 0 := by kernel_rfl
def supT : List UInt8 := [115, 117, 112, 101, 114, 115, 116, 97, 98, 108, 101, 32, 48, 32, 48, 32, 49, 32, 48, 32, 58, 32, 50, 32, 49]
theorem ring_line : mkT 5 0 0 [0, 1, 0] [] [] [2, 1] = supT := by kernel_rfl
theorem make_super {t : List UInt8} {er : Int} (h : MaP 3 ring 5 0 0 [0, 1, 0] [] [] (SsP 3 0 ring [0, 1, 0]) t er) : t = supT /\ er = 0 := by
 rcases h with ⟨h, -⟩ | ⟨-, h⟩
 · exact absurd ring_given h
 rcases h with ⟨h, -⟩ | ⟨-, e0, L, hP, h⟩
 · exact absurd ring_form5 h
 obtain ⟨rfl, rfl⟩ := ring_super hP
 rcases h with ⟨h, -⟩ | ⟨-, ⟨-, -, h⟩ | ⟨h1, h2, -⟩⟩
 · exact absurd rfl h
 · have e : mkT (5 : Int).toNat 0 0 [0, 1, 0] [] [] [2, 1] = supT := ring_line
   rw [e] at h
   exact absurd h (by decide)
 · exact ⟨h2.trans ring_line, h1⟩
theorem make_lost {t : List UInt8} {er : Int} (h : MaP 3 ring 1 0 0 [1, -1, 0] [] [] (WnP 3 ring [1, -1, 0]) t er) : t = [] /\ er = 16 := by
 rcases h with ⟨h, -⟩ | ⟨-, h⟩
 · exact absurd ring_given h
 rcases h with ⟨h, -⟩ | ⟨-, e0, L, hP, h⟩
 · exact absurd ring_form1 h
 obtain rfl := ring_lost hP
 rcases h with ⟨-, h1, h2⟩ | ⟨h, -⟩
 · exact ⟨h2, h1⟩
 · exact absurd h (by decide)
def eqvT : List UInt8 := [101, 113, 117, 105, 118, 97, 108, 101, 110, 116, 32, 49, 32, 49, 32, 48, 32, 48, 32, 48, 32, 50]
theorem claimed_eqv : (if chkC 3 ring 0 0 0 [1, 1, 0] [0, 0, 2] [] = 0 then txtS (0 : Int).toNat 0 0 [1, 1, 0] [0, 0, 2] [] else []) = eqvT /\ chkC 3 ring 0 0 0 [1, 1, 0] [0, 0, 2] [] = 0 := by
 constructor <;> kernel_rfl
def grpT : List UInt8 := [103, 114, 111, 117, 112, 32, 49, 32, 51]
theorem claimed_grp : (if chkC 3 ring 8 0 0 [] [] [3] = 0 then txtS (8 : Int).toNat 0 0 [] [] [3] else []) = grpT /\ chkC 3 ring 8 0 0 [] [] [3] = 0 := by
 constructor <;> kernel_rfl
def logT : List UInt8 := [103, 114, 97, 112, 104, 32, 51, 32, 48, 32, 49, 32, 49, 32, 48, 32, 50, 32, 49, 32, 49, 32, 50, 32, 49, 10, 101, 113, 117, 105, 118, 97, 108, 101, 110, 116, 32, 49, 32, 49, 32, 48, 32, 48, 32] ++ [48, 32, 50, 32, 58, 32, 49, 32, 49, 32, 48, 10, 117, 110, 119, 105, 110, 110, 97, 98, 108, 101, 32, 49, 32, 45, 49, 32, 48, 32, 58, 32, 48, 32, 48, 32, 45, 49, 32, 45, 49, 32, 49, 32, 50, 10]
theorem read_log : rdE logT = (0, 0) /\ rdG logT = (3, ring) /\ rdC logT = [(0, 0, 0, [1, 1, 0], [0, 0, 2], []), (2, 0, 0, [1, -1, 0], [], [])] := by
 refine ⟨?_, ?_, ?_⟩ <;> kernel_rfl

theorem edge_eq (W : World) (a1 b1 m1 a2 b2 m2 : Int) : (Op.equalIn 10000 68 (.agg #[.int .i64 a1, .int .i64 b1, .int .i64 m1]) (.agg #[.int .i64 a2, .int .i64 b2, .int .i64 m2])).run Tryz.prog W = .ok ((a1 == a2) && (b1 == b2) && (m1 == m2)) W := by
 have h1 : Tryz.prog.underlying 68 = some (.struct (Tryz.prog.fieldsOf 68)) := by kernel_rfl
 have h2 : Tryz.prog.stoodInHeld 68 = false := by kernel_rfl
 rw [run_equalIn_agg W 9999 _ _ _ h1 h2]
 simp only [Program.fieldsOf, Tryz.underlying68]
 simp [Op.eqFields, part, go_sem]
 by_cases e1 : a1 = a2 <;> by_cases e2 : b1 = b2 <;> by_cases e3 : m1 = m2 <;> simp [e1, e2, e3]
theorem edge_guard (W : World) (x y : Operand) (xs ys : Array Value) : (eqGuard .neq 68 x y (.agg xs) (.agg ys)).run Tryz.prog W = .ok () W := run_eqGuard_agg W .neq _ x y xs ys (by kernel_rfl)
attribute [local go_sem] edge_eq edge_guard
theorem rSame08_any (g h : Value) (n1 n2 : Int) (es1 es2 : List Tri) (w : World) (hg : GV w g n1 es1) (hh : GV w h n2 es2) :
   Calls Tryz.prog 9 #[g, h] w fun e w' => e = .returned (.bool (decide (n1 = n2 /\ es1 = es2))) /\ Below w.heap.size w w' := by
 obtain ⟨R, hRd⟩ : ∃ R, R = decide (n1 = n2 /\ es1 = es2) := ⟨_, rfl⟩
 rw [<- hRd]
 have HRd := Hd hRd
 clear hRd
 obtain ⟨A1, c1, rfl, hlc1, hl1, hc1⟩ := hg.open_
 obtain ⟨A2, c2, rfl, hlc2, hl2, hc2⟩ := hh.open_
 obtain ⟨W0, hW0⟩ : ∃ W0, W0 = (w.alloc (.cells #[.int .i64 n1, .slice A1 es1.length c1] 25)).alloc (.cells #[.int .i64 n2, .slice A2 es2.length c2] 25) := ⟨_, rfl⟩
 have hbW : Below w.heap.size w W0 := by rw [hW0]; exact (below_alloc w _).alloc (by simp) _
 have hx1 : BL W0 w.heap.size 25 [.int .i64 n1, .slice A1 es1.length c1] := by rw [hW0]; exact (BL.new' w _ _).alloc _
 have hx2 : BL W0 (w.heap.size + 1) 25 [.int .i64 n2, .slice A2 es2.length c2] := by
   rw [hW0]
   have := BL.new' (w.alloc (.cells #[.int .i64 n1, .slice A1 es1.length c1] 25)) #[.int .i64 n2, .slice A2 es2.length c2] 25
   rwa [World.size_alloc] at this
 have HX1 := Hd hx1
 have HX2 := Hd hx2
 have HB0 := Hd hbW
 have HW0 := Hd hW0
 have HC1 := Hd hc1
 have HC2 := Hd hc2
 have hbs : Hid (w.heap.size + 2 = W0.heap.size) := by show _ = _; rw [hW0]; simp
 have x0 := hx1.cell 0
 have x1 := hx1.cell 1
 have y0 := hx2.cell 0
 have y1 := hx2.cell 1
 clear hg hh hx1 hx2 hbW hW0 hc1 hc2
 by_cases hn : n1 = n2
 rotate_left
 · have hR : Hid (R = false) := HRd.out.trans (decide_eq_false (fun h => hn h.1))
   have t1 : (n1 != n2) = true := by simpa using hn
   clear hn
   go_enter Tryz.func9, Tryz.ntmps9
   go_upto_region 1 with fail
   rw [<- HW0.out]
   go_wp2
   go_ret
   exact ⟨ret_b hR.out.symm, HB0.out⟩
 subst hn
 by_cases hl : es1.length = es2.length
 rotate_left
 · have hR : Hid (R = false) := HRd.out.trans (decide_eq_false (fun h => hl (by rw [h.2])))
   have t1 : ((es1.length : Int) != (es2.length : Int)) = true := by simp; omega
   clear hl
   go_enter Tryz.func9, Tryz.ntmps9
   go_upto_region 1 with fail
   rw [<- HW0.out]
   go_wp2
   go_ret
   exact ⟨ret_b hR.out.symm, HB0.out⟩
 have HL := Hd hl
 rw [<- hl] at HC2 hlc2 HX2 y1 HW0
 rw [<- hl]
 obtain ⟨L, hL⟩ : ∃ L, L = es1.length := ⟨_, rfl⟩
 rw [<- hL] at HC1 HC2 hlc1 hlc2 hl1 HX1 HX2 x1 y1 HW0
 rw [<- hL]
 have HLe := Hd hL
 clear hl hL hl2
 go_enter Tryz.func9, Tryz.ntmps9
 go_upto_region 1 with fail
 rw [<- HW0.out]
 go_wp2_with fail
 go_loopw [5] (fun i wr => ∃ k : Nat, k <= L /\ i = .int .i64 (k : Int) /\ Hid (es1.take k = es2.take k) /\ Hid (Below W0.heap.size W0 wr)) (fun i _ => L - (intOf i).toNat)
 case atStart => exact ⟨0, Nat.zero_le _, rfl, rfl, Below.refl _ _⟩
 case round =>
   obtain ⟨k, hk, rfl, he, hw⟩ := hrel
   have z0 := (HX1.out.bel hw.out).cell 0
   have z1 := (HX1.out.bel hw.out).cell 1
   have u0 := (HX2.out.bel hw.out).cell 0
   have u1 := (HX2.out.bel hw.out).cell 1
   have HBw := Hd (HB0.out.trans (hw.out.mono HB0.out.size))
   by_cases hlt : k < L
   · obtain ⟨ad1, a1, b1, m1, rfl, hb1, ht1, p1, p2, p3⟩ := HC1.out k hlt
     obtain ⟨ad2, a2, b2, m2, rfl, hb2, ht2, q1, q2, q3⟩ := HC2.out k hlt
     obtain ⟨p1, p2, p3⟩ := tri_cells HBw.out hb1 p1 p2 p3
     obtain ⟨q1, q2, q3⟩ := tri_cells HBw.out hb2 q1 q2 q3
     have hx1 := ht1.out
     have hx2 := ht2.out
     have HT : Hid ((a1, b1, m1) = (a2, b2, m2) -> es1.take (k + 1) = es2.take (k + 1)) := fun h => by
       rw [List.take_add_one, List.take_add_one, he.out, hx1, hx2, h]
     have HF : Hid ((a1, b1, m1) ≠ (a2, b2, m2) -> R = false) := fun h => by
       refine HRd.out.trans (decide_eq_false ?_)
       rintro ⟨-, rfl⟩
       rw [hx1] at hx2
       exact h (Option.some.inj hx2)
     clear hx1 hx2 ht1 ht2 hb1 hb2
     by_cases e1 : a1 = a2
     rotate_left
     · have hR : Hid (R = false) := HF.out (fun h => by simp only [Prod.mk.injEq] at h; omega)
       clear HT HF he
       go_wp2_with fail
       go_region
       go_wp2
       go_ret
       exact ⟨ret_b hR.out.symm, HBw.out.drew⟩
     by_cases e2 : b1 = b2
     rotate_left
     · have hR : Hid (R = false) := HF.out (fun h => by simp only [Prod.mk.injEq] at h; omega)
       clear HT HF he
       go_wp2_with fail
       go_region
       go_wp2
       go_ret
       exact ⟨ret_b hR.out.symm, HBw.out.drew⟩
     by_cases e3 : m1 = m2
     rotate_left
     · have hR : Hid (R = false) := HF.out (fun h => by simp only [Prod.mk.injEq] at h; omega)
       clear HT HF he
       go_wp2_with fail
       go_region
       go_wp2
       go_ret
       exact ⟨ret_b hR.out.symm, HBw.out.drew⟩
     subst e1 e2 e3
     have HTk := Hd (HT.out rfl)
     clear HT HF he
     go_wp2_with fail
     go_region
     go_wp2
     go_roundw
     case rel => exact ⟨k + 1, by omega, by go_num, HTk.out, hw.out.drew⟩
     case measure => simp [intOf]; omega
   · have hR : Hid (R = true) := by
       refine HRd.out.trans (decide_eq_true ⟨by trivial, ?_⟩)
       have h := he.out
       have h1 := HLe.out
       have h2 := HL.out
       rwa [List.take_of_length_le (by omega), List.take_of_length_le (by omega)] at h
     clear he
     go_wp2
     go_ret
     exact ⟨ret_b hR.out.symm, HBw.out⟩
end Go.Proofs.YteamhbohgoclgaaGreatDoor

namespace Go.Proofs.YteamhbohgoclgaaGreatDoor
open Go.RowKit Go.Shelf
theorem RI.cap {W : World} {A : Option Addr} {n c c' : Nat} {l : List Int} (h : RI W (.slice A n c) l) (hc : n <= c') : RI W (.slice A n c') l := by
 obtain ⟨A', c0, he, h1, h2, h3⟩ := h
 simp only [Value.slice.injEq] at he
 obtain ⟨rfl, hn, rfl⟩ := he
 exact ⟨A, c', by rw [hn], by rw [<- hn]; exact hc, h2, h3⟩
theorem pclaim_size : (Tryz.prog.info? 40).map (·.size) = some 6 := by kernel_rfl
end Go.Proofs.YteamhbohgoclgaaGreatDoor
