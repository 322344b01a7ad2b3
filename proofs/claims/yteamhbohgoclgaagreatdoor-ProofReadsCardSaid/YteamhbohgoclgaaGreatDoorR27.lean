/- Contracts of the reference's short, kind, split. -/
import Derived.Test.YteamhbohgoclgaaGreatDoorR26
set_option maxRecDepth 100000
set_option maxHeartbeats 16000000
namespace Go.Proofs.YteamhbohgoclgaaGreatDoor
open Go.RowKit Go.Shelf

def shortN (k : Nat) : Nat := (kq k).toNat + (kn k).toNat
theorem short_any (k : Nat) (hk : k < 9) (w : World) : Calls Tryz.prog 53 #[.int .i64 (k : Int)] w fun e w' => e = .returned (.int .i64 (shortN k)) /\ Below w.heap.size w w' := by
 have hF : ∀ f, f < 2 -> ((((List.range (f + 1)).map fun j => (usB k j).toNat).sum : Nat) : Int) = ((((List.range f).map fun j => (usB k j).toNat).sum : Nat) : Int) + ((usB k f).toNat : Int) := fun f _ => by
   rw [List.range_succ, List.map_append, List.sum_append]; simp
 have HF := Hd hF
 have HR : Hid ((((List.range 2).map fun j => (usB k j).toNat).sum : Nat) = shortN k) := rfl
 have HU := Hd (fun f (hf : f < 2) W => uses_any k f hk (by omega) W)
 obtain ⟨S, hS⟩ : ∃ S : Nat -> Nat, S = fun f => ((List.range f).map fun j => (usB k j).toNat).sum := ⟨_, rfl⟩
 have HS : Hid (∀ f, f < 2 -> (S (f + 1) : Int) = (S f : Int) + ((usB k f).toNat : Int)) := fun f hf => by rw [hS]; exact hF f hf
 have HS2 : Hid (S 2 = shortN k) := by show _ = _; rw [hS]; exact HR.out
 have HS0 : Hid (S 0 = 0) := by show _ = _; rw [hS]; rfl
 clear hF HF HR hS
 go_enter Tryz.func53, Tryz.ntmps53
 go_wp2_with fail
 go_loopw [3, 4] (fun n i wr => ∃ f : Nat, f <= 2 /\ i = .int .i64 (f : Int) /\ n = .int .i64 (S f : Int) /\ Hid (S f <= f) /\ Hid (Below w.heap.size w wr)) (fun _ i _ => 2 - (intOf i).toNat)
 case atStart => exact ⟨0, by omega, rfl, by rw [HS0.out]; rfl, by show _ <= _; rw [HS0.out]; omega, Below.refl _ _⟩
 case round =>
   obtain ⟨f, hf, rfl, rfl, hs, hw⟩ := hrel
   have hs' := hs.out
   by_cases hlt : f < 2
   · have HUf := Hd (HU.out f hlt wr)
     have HSf := Hd (HS.out f hlt)
     generalize usB k f = u at *
     generalize S f = sf at *
     cases u
     · have hq : Hid ((S (f + 1) : Int) = sf) := by show _ = _; rw [HSf.out]; simp
       go_wp2_with fail
       refine HUf.out.mono ?_
       rintro e w3 ⟨rfl, hb3⟩
       have HB3 := Hd (hw.out.trans (hb3.mono hw.out.size))
       clear hb3
       go_wp2
       go_roundw
       case rel => exact ⟨f + 1, by omega, by go_num, by rw [hq.out], by show _ <= _; have := hq.out; omega, HB3.out⟩
       case measure => simp [intOf]; omega
     · have hq : Hid ((S (f + 1) : Int) = sf + 1) := by show _ = _; rw [HSf.out]; simp
       go_wp2_with fail
       refine HUf.out.mono ?_
       rintro e w3 ⟨rfl, hb3⟩
       have HB3 := Hd (hw.out.trans (hb3.mono hw.out.size))
       clear hb3
       go_wp2
       go_roundw
       case rel => exact ⟨f + 1, by omega, by go_num, by rw [hq.out], by show _ <= _; have := hq.out; omega, HB3.out⟩
       case measure => simp [intOf]; omega
   · have hf2 : Hid (S f = shortN k) := by show _ = _; rw [show f = 2 by omega]; exact HS2.out
     generalize S f = sf at *
     go_wp2
     go_ret
     exact ⟨ret_i (by rw [hf2.out]), hw.out⟩
theorem kind_any (s : List UInt8) (w : World) : Calls Tryz.prog 52 #[strV s] w fun e w' => e = .returned (.int .i64 (idxG s kwL)) /\ Below w.heap.size w w' := by
 obtain ⟨B, hB⟩ : ∃ B, B = ByteArray.mk s.toArray := ⟨_, rfl⟩
 have HBl : Hid (B.toList = s) := by show _ = _; rw [hB]; exact ByteArray.toList_mk s
 rw [show strV s = .string B by rw [hB]; rfl]
 clear hB
 go_enter Tryz.func52, Tryz.ntmps52
 go_wp2_with fail
 go_loopw [3] (fun i wr => ∃ k : Nat, k <= 9 /\ i = .int .i64 (k : Int) /\ Hid (idxG s kwL = if idxG s (kwL.drop k) < 0 then -1 else idxG s (kwL.drop k) + k) /\ Hid (Below w.heap.size w wr)) (fun i _ => 9 - (intOf i).toNat)
 case atStart => exact ⟨0, Nat.zero_le _, rfl, by show _ = _; have := idxG_lo s kwL; simp only [List.drop_zero]; split <;> omega, Below.refl _ _⟩
 case round =>
   obtain ⟨k, hk, rfl, he, hbe⟩ := hrel
   by_cases hlt : k < 9
   · have HW := Hd (Word_any k hlt wr)
     have hx : kwL[k]? = some (kwL.getD k []) := by rw [List.getD_eq_getElem?_getD, List.getElem?_eq_getElem (show k < kwL.length from hlt)]; rfl
     have HDr := Hd (dropL_at hx)
     have h := he.out
     rw [HDr.out] at h
     generalize kwL.getD k [] = z at *
     obtain ⟨Z, hZ⟩ : ∃ Z, Z = ByteArray.mk z.toArray := ⟨_, rfl⟩
     have hZl : Z.toList = z := by rw [hZ]; exact ByteArray.toList_mk z
     rw [show strV z = .string Z by rw [hZ]; rfl] at HW
     clear hx hZ
     by_cases hb : s = z
     · simp only [idxG, hb, if_true] at h
       have HR : Hid ((k : Int) = idxG s kwL) := by show _ = _; rw [hb, h]; simp
       have t1 : (Z.toList == B.toList) = true := by rw [hZl, HBl.out, hb]; simp
       clear h hb he hZl
       go_wp2_with fail
       refine HW.out.mono ?_
       rintro e w2 ⟨rfl, hb2⟩
       have HB2 := Hd (hbe.out.trans (hb2.mono hbe.out.size))
       clear hb2
       go_wp2
       go_ret
       exact ⟨ret_i HR.out, HB2.out⟩
     · simp only [idxG, hb, if_false] at h
       have hlo := idxG_lo s (kwL.drop (k + 1))
       have HN : Hid (idxG s kwL = if idxG s (kwL.drop (k + 1)) < 0 then -1 else idxG s (kwL.drop (k + 1)) + (k + 1 : Nat)) := by
         show _ = _
         rw [h]
         by_cases c1 : idxG s (kwL.drop (k + 1)) < 0
         · simp [c1]
         · rw [if_neg c1, if_neg c1, if_neg (by omega)]; push_cast; omega
       have t1 : (Z.toList == B.toList) = false := by rw [hZl, HBl.out]; simp; exact fun e => hb e.symm
       clear h hlo hb he hZl
       go_wp2_with fail
       refine HW.out.mono ?_
       rintro e w2 ⟨rfl, hb2⟩
       have HB2 := Hd (hbe.out.trans (hb2.mono hbe.out.size))
       clear hb2
       go_wp2
       go_roundw
       case rel => exact ⟨k + 1, by omega, by go_num, HN.out, HB2.out⟩
       case measure => simp [intOf]; omega
   · have h := he.out
     rw [List.drop_of_length_le (by show 9 <= k; omega)] at h
     have HR : Hid ((-1 : Int) = idxG s kwL) := by show _ = _; rw [h]; simp [idxG]
     clear h he
     go_wp2
     go_ret
     exact ⟨ret_i HR.out, hbe.out⟩

theorem rSplit_any (s : List UInt8) (c : UInt8) (w : World) (hs : s.length <= 140000) : Calls Tryz.prog 50 #[strV s, .int .u8 (c.toNat : Int)] w fun e w' => ∃ v, e = .returned v /\ RS w' v (splitL c s) /\ Below w.heap.size w w' := by
 obtain ⟨i0, hi, hz0, hz1, hz2⟩ := info_parts str_info
 obtain ⟨W0, hW0⟩ : ∃ W0, W0 = w.alloc (.cells #[.string ⟨#[]⟩] 9) := ⟨_, rfl⟩
 have ho0 : OS W0 w.heap.size (.slice (some ⟨w.heap.size, 0, none⟩) 1 1) (splitL c (s.take 0)) := by
   rw [hW0]
   exact ⟨World.ownsRow_lit w #[.string ⟨#[]⟩] 1 (Nat.le_refl _) (by unfold maxLen; omega) rfl, by show 1 <= _; omega⟩
 have hb0 : Below w.heap.size w W0 := by rw [hW0]; exact below_alloc w _
 have HO0 := Hd ho0
 have HB0 := Hd hb0
 have HW0 := Hd hW0
 have hsz : (⟨s.toArray⟩ : ByteArray).size = s.length := by simp [ByteArray.size]
 have hget : ∀ (i : Nat) (h : i < (⟨s.toArray⟩ : ByteArray).size) (x : UInt8), s[i]? = some x -> (⟨s.toArray⟩ : ByteArray)[i] = x := fun i h x hx => by
   obtain ⟨h1, rfl⟩ := List.getElem?_eq_some_iff.1 hx
   show (s.toArray)[i] = _
   simp
 have HGet := Hd hget
 rw [show strV s = .string ⟨s.toArray⟩ from rfl]
 have HSz := Hd hsz
 have hB : (⟨s.toArray⟩ : ByteArray).size <= 140000 := by omega
 generalize (⟨s.toArray⟩ : ByteArray) = B at *
 clear hW0 hb0 ho0 hsz hs hget
 go_enter Tryz.func50, Tryz.ntmps50
 go_wp2_with fail
 rw [<- HW0.out]
 go_loopw [5, 6] (fun o i wr => ∃ (k : Nat) (vo : Value), vo = o /\ k <= B.size /\ i = .int .i64 (k : Int) /\ Hid (OS wr w.heap.size o (splitL c (s.take k))) /\ Hid (Below w.heap.size w wr)) (fun _ i _ => B.size - (intOf i).toNat)
 case atStart => exact ⟨0, _, rfl, Nat.zero_le _, rfl, HO0.out, HB0.out⟩
 case round =>
   obtain ⟨k, vo, rfl, hk, rfl, ho, hb⟩ := hrel
   by_cases hlt : k < B.size
   · obtain ⟨x, hx⟩ : ∃ x, s[k]? = some x := ⟨s[k]'(by have := HSz.out; omega), List.getElem?_eq_getElem _⟩
     have hbk := HGet.out k hlt x hx
     have hsp := splitL_take (c := c) hx
     have hne := splitL_ne c (s.take k)
     have hlen := splitL_length c (s.take k)
     rw [List.length_take] at hlen
     by_cases hxc : x = c
     · rw [if_pos hxc] at hsp
       have HSp := Hd hsp
       have t1 : ((x.toNat : Int) == (c.toNat : Int)) = true := by rw [hxc]; simp
       have HBd : Hid ((splitL c (s.take k)).length <= 140001) := by show _ <= _; omega
       obtain ⟨hov, hrv, hfin⟩ := OS.snoc ho.out [] hb.out
       rw [show strV [] = .string ⟨#[]⟩ from rfl] at hov hrv hfin
       have HOv := Hd hov
       have HRv := Hd hrv
       have HFin := Hd hfin
       have hszB := hb.out.size
       have hbd := HBd.out
       generalize splitL c (s.take k) = os at *
       clear hov hrv hfin hsp hxc hx hne hlen ho
       go_wp2_with (at_builtin; refine wpList_appendV _ rfl _ _ _ rfl 9 i0 _ 16 Tryz.underlying55 hi hz0 hz1 hz2 rfl w.heap.size _ _ rfl HOv.out _ _ rfl HRv.out (one_ones rfl) (by first | omega | (simp; omega)) (by first | omega | (simp; omega)) (by first | omega | (simp; omega)) ?_; intro v8 w3 hown hg hat; obtain ⟨hf1, hf2⟩ := HFin.out v8 w3 hown hg; have HF1 := Hd hf1; have HF3 := Hd hf2; clear hown hg hat hf1 hf2)
       go_wp2
       go_roundw
       case rel => exact ⟨k + 1, _, rfl, by omega, by go_num, by rw [HSp.out]; exact HF1.out, HF3.out⟩
       case measure => simp [intOf]; omega
     · rw [if_neg hxc] at hsp
       obtain ⟨L, hL⟩ : ∃ L, (splitL c (s.take k)).length = L + 1 := ⟨(splitL c (s.take k)).length - 1, by have := List.length_pos_iff.2 hne; omega⟩
       have t1 : ((x.toNat : Int) == (c.toNat : Int)) = false := by
         rw [beq_eq_false_iff_ne]
         intro h
         exact hxc (UInt8.toNat_inj.1 (by omega))
       have hpl : ((splitL c (s.take k)).getD L []).length <= 140000 := by
         have h1 := splitL_part c (s.take k) ((splitL c (s.take k)).getD L []) (by rw [List.getD_eq_getElem?_getD, List.getElem?_eq_getElem (show L < (splitL c (s.take k)).length by omega)]; exact List.getElem_mem _)
         rw [List.length_take] at h1
         have := HSz.out
         omega
       have HSp : Hid (splitL c (s.take (k + 1)) = (splitL c (s.take k)).set L ((splitL c (s.take k)).getD L [] ++ [x])) := by
         show _ = _; rw [hsp]; unfold addLast; rw [hL, Nat.add_sub_cancel]
       have HLb : L < 140001 := by omega
       have hcell : ((splitL c (s.take k)).map strV)[L]? = some (strV ((splitL c (s.take k)).getD L [])) := by
         rw [List.getElem?_map, List.getD_eq_getElem?_getD, List.getElem?_eq_getElem (show L < (splitL c (s.take k)).length by omega)]; rfl
       have hb1 : Below wr.heap.size wr (wr.alloc (.cells #[.int .u8 (x.toNat : Int)] 5)).drew := (below_alloc wr _).drew
       have ho1 := ho.out.below hb1
       obtain ⟨g, cap, rfl, hgB, hgl, e1, -, -⟩ := OV.at_ ho.out hcell
       obtain ⟨g', cap', ev, -, -, d1, d2, d3⟩ := OV.at_ ho1 hcell
       simp only [Value.slice.injEq, Option.some.injEq, Addr.mk.injEq] at ev
       obtain ⟨⟨rfl, -⟩, -, rfl⟩ := ev
       obtain ⟨d4, d5⟩ := d3 (strV ((splitL c (s.take k)).getD L [] ++ [x]))
       have HO4 : Hid (OS ((wr.alloc (.cells #[.int .u8 (x.toNat : Int)] 5)).drew.setCell ⟨g, L, none⟩ (strV ((splitL c (s.take k)).getD L [] ++ [x]))) w.heap.size (.slice (some ⟨g, 0, none⟩) (L + 1) cap) (splitL c (s.take (k + 1)))) := by
         show OV _ _ _ _ _
         rw [HSp.out, List.map_set]
         rw [List.length_map, hL] at d4
         exact d4
       have HB4 : Hid (Below w.heap.size w ((wr.alloc (.cells #[.int .u8 (x.toNat : Int)] 5)).drew.setCell ⟨g, L, none⟩ (strV ((splitL c (s.take k)).getD L [] ++ [x])))) :=
         below_own (hb.out.trans (hb1.mono hb.out.size)) (by have := hb.out.size; have := hb1.size; omega) ho1 d5
       have hcv := run_convert_bytes_back (P := Tryz.prog) (wr.alloc (.cells #[.int .u8 (x.toNat : Int)] 5)).drew 130 9 5 ⟨wr.heap.size, 0, none⟩ 1 [x] Tryz.underlying130 Tryz.underlying5 Tryz.underlying9 (fun j hj => by
         simp only [List.length_singleton] at hj
         obtain rfl : j = 0 := by omega
         have hc1 := (show BL (wr.alloc (.cells #[.int .u8 (x.toNat : Int)] 5)).drew wr.heap.size 5 [.int .u8 (x.toNat : Int)] from BL.new' wr _ _).cell 0
         rw [show ((⟨wr.heap.size, 0, none⟩ : Addr).add 0) = ⟨wr.heap.size, 0, none⟩ from rfl, hc1]
         rfl)
       have hadd := fun W => run_string_add_lists (P := Tryz.prog) W ((splitL c (s.take k)).getD L []) [x] (by omega) (by simp)
       rw [List.length_map, hL]
       rw [show strV ((splitL c (s.take k)).getD L [] ++ [x]) = .string ⟨((splitL c (s.take k)).getD L [] ++ [x]).toArray⟩ from rfl] at HO4 HB4
       rw [show strV ((splitL c (s.take k)).getD L []) = .string ⟨((splitL c (s.take k)).getD L []).toArray⟩ from rfl] at e1 d1
       simp only [List.length_singleton] at hcv
       generalize ByteArray.mk ((splitL c (s.take k)).getD L [] ++ [x]).toArray = P2 at *
       generalize ByteArray.mk ((splitL c (s.take k)).getD L []).toArray = P1 at *
       generalize ByteArray.mk [x].toArray = X1 at *
       have HO4 := HO4.out
       have HB4 := HB4.out
       have heq : (wr.alloc (.cells #[.int .u8 (x.toNat : Int)] 5)).drew.setCell ⟨g, L, none⟩ (.string P2) = ((wr.setCell ⟨g, L, none⟩ (.string P2)).alloc (.cells #[.int .u8 (x.toNat : Int)] 5)).drew := by
         have h := World.setCell_alloc_past (w := wr) (.cells #[.int .u8 (x.toNat : Int)] 5) g L (.string P2) hgl
         show ((wr.alloc (.cells #[.int .u8 (x.toNat : Int)] 5)).setCell ⟨g, L, none⟩ (.string P2)).drew = _
         rw [h]
       rw [heq] at HO4 HB4
       replace HO4 := Hd HO4
       replace HB4 := Hd HB4
       clear heq d4 d5 d3 ho1 hb1 hcell hpl hL hsp hne hlen hx hxc ho HSp
       go_upto_region 7 with fail
       go_region
       all_goals
         go_wp2
         go_roundw
         case rel => exact ⟨k + 1, _, rfl, by omega, by go_num, HO4.out, HB4.out⟩
         case measure => simp [intOf]; omega
   · have hR : Hid (RS wr vo (splitL c s)) := by
       have h := ho.out.rv
       rwa [List.take_of_length_le (by have := HSz.out; omega)] at h
     clear ho
     go_wp2
     go_ret
     exact ⟨_, rfl, hR.out, hb.out⟩

def chkE (s : List UInt8) : Int := if canB s = false then 3 else if 1024 < (magW s).length then 11 else 0
theorem ba_size (s : List UInt8) : (⟨s.toArray⟩ : ByteArray).size = s.length := by simp [ByteArray.size]
theorem ba_get (s : List UInt8) : ∀ (i : Nat) (h : i < (⟨s.toArray⟩ : ByteArray).size) (x : UInt8), s[i]? = some x -> (⟨s.toArray⟩ : ByteArray)[i] = x := fun i h x hx => by
 obtain ⟨h1, rfl⟩ := List.getElem?_eq_some_iff.1 hx
 show (s.toArray)[i] = _
 simp
theorem chk_plain (d : List UInt8) (w : World) (hdl : d.length <= 1000000) (h45 : d.getD 0 0 ≠ 45) :
   Calls Tryz.prog 88 #[strV d] w fun e w' => e = .returned (.int .i64 (chkE d)) /\ Below w.heap.size w w' := by
 have hmg : magW d = d := by
   cases d with
   | nil => rfl
   | cons c r => simp at h45; simp [magW, h45]
 have hmi : minW d = false := by
   cases d with
   | nil => rfl
   | cons c r => simp at h45; simp [minW, h45]
 have hDs := ba_size d
 have hget := ba_get d
 have hcb : canB d = (decide (d ≠ []) && d.all isDg && (decide (d.getD 0 0 ≠ 48) || (decide (d = [48]) && !false))) := by unfold canB; rw [hmg, hmi]
 rw [show strV d = .string ⟨d.toArray⟩ from rfl]
 generalize (⟨d.toArray⟩ : ByteArray) = D at *
 have HCb : Hid (canB d = (decide (d ≠ []) && d.all isDg && (decide (d.getD 0 0 ≠ 48) || (decide (d = [48]) && !false)))) := hcb
 have HE3 : Hid (canB d = false -> chkE d = 3) := fun h => by show chkE d = 3; unfold chkE; rw [if_pos h]
 have HE1 : Hid (canB d = true -> chkE d = if 1024 < d.length then 11 else 0) := fun h => by show chkE d = _; unfold chkE; rw [if_neg (by rw [h]; simp), hmg]
 generalize chkE d = E at *
 generalize canB d = cb at *
 have h45' : ∀ c r, d = c :: r -> ((c.toNat : Int) == 45) = false := fun c r h => by
   subst h
   rw [beq_eq_false_iff_ne]
   intro hh
   exact h45 (UInt8.toNat_inj.1 (by show c.toNat = 45; omega))
 clear hmg hmi hcb h45
 cases d with
 | nil =>
   have hR : Hid (E = 3) := HE3.out (by rw [HCb.out]; rfl)
   have hz : D.size = 0 := hDs
   clear hDs hget
   go_enter Tryz.func88, Tryz.ntmps88
   go_wp2
   go_ret
   exact ⟨ret_i hR.out.symm, Below.refl _ _⟩
 | cons c0 r0 =>
   have t45 := h45' c0 r0 rfl
   clear h45'
   have hz : D.size = r0.length + 1 := hDs
   have hpos : 0 < D.size := by omega
   have hne : ¬ D = ByteArray.empty := by
     intro h
     rw [h] at hpos
     exact absurd hpos (by decide)
   have hb0 : D[0]'hpos = c0 := hget 0 hpos c0 rfl
   by_cases hc : c0 = 48
   · have t0 : ((c0.toNat : Int) == 48) = true := by rw [hc]; rfl
     by_cases hr : r0 = []
     · have HC1 : Hid (((c0 :: r0).all isDg = true) -> E = if 1024 < (c0 :: r0).length then 11 else 0) := fun h => HE1.out (by rw [HCb.out, h, hc, hr]; simp)
       have HC3 : Hid (((c0 :: r0).all isDg = false) -> E = 3) := fun h => HE3.out (by rw [HCb.out, h]; simp)
       have hl1 : ¬ (1 : Int) < (D.size : Int) := by rw [hz, hr]; decide
       clear hz hr hc
       generalize c0 :: r0 = d at *
       have HDs : Hid (D.size = d.length) := hDs
       have HGet := Hd hget
       have hszb : D.size <= 1000000 := by omega
       clear hDs hget
       go_enter Tryz.func88, Tryz.ntmps88
       go_wp2_with fail
       go_loopw [4] (fun i wr => ∃ k : Nat, k <= D.size /\ i = .int .i64 (k : Int) /\ Hid ((d.take k).all isDg = true) /\ wr = w) (fun i _ => D.size - (intOf i).toNat)
       case atStart => exact ⟨0, Nat.zero_le _, rfl, rfl, rfl⟩
       case round =>
         obtain ⟨k, hk, rfl, ha, rfl⟩ := hrel
         by_cases hlt : k < D.size
         · obtain ⟨x, hx⟩ : ∃ x, d[k]? = some x := ⟨d[k]'(by have := HDs.out; omega), List.getElem?_eq_getElem _⟩
           have hbk := HGet.out k hlt x hx
           have HX : Hid (d[k]? = some x) := hx
           have HF : Hid (isDg x = false -> E = 3) := fun h => HC3.out (all_not HX.out h)
           have HT : Hid (isDg x = true -> (d.take (k + 1)).all isDg = true) := fun h => all_take HX.out ha.out h
           clear hx ha
           by_cases h1 : x.toNat < 48
           · have hR : Hid (E = 3) := HF.out (by unfold isDg; rw [decide_eq_false (by omega)]; rfl)
             have t1 : (x.toNat : Int) < 48 := by omega
             clear h1
             go_wp2
             go_ret
             exact ⟨ret_i hR.out.symm, Below.refl _ _⟩
           · by_cases h2 : 57 < x.toNat
             · have hR : Hid (E = 3) := HF.out (by unfold isDg; rw [decide_eq_false (show ¬ x.toNat <= 57 by omega)]; simp)
               have t1 : ¬ (x.toNat : Int) < 48 := by omega
               have t2 : (57 : Int) < (x.toNat : Int) := by omega
               clear h1 h2
               go_wp2
               go_ret
               exact ⟨ret_i hR.out.symm, Below.refl _ _⟩
             · have HT2 := Hd (HT.out (by unfold isDg; rw [decide_eq_true (by omega), decide_eq_true (by omega)]; rfl))
               have t1 : ¬ (x.toNat : Int) < 48 := by omega
               have t2 : ¬ (57 : Int) < (x.toNat : Int) := by omega
               clear h1 h2
               go_wp2
               go_roundw
               case rel => exact ⟨k + 1, by omega, by go_num, HT2.out, trivial⟩
               case measure => simp [intOf]; omega
         · have hall : d.all isDg = true := by
             have h := ha.out
             rwa [List.take_of_length_le (by have := HDs.out; omega)] at h
           have hR := HC1.out hall
           rw [<- HDs.out] at hR
           clear hall ha
           by_cases hL : 1024 < D.size
           · rw [if_pos hL] at hR
             have HR := Hd hR
             have t1 : (1024 : Int) < (D.size : Int) := by omega
             clear hR hL
             go_wp2
             go_ret
             exact ⟨ret_i HR.out.symm, Below.refl _ _⟩
           · rw [if_neg hL] at hR
             have HR := Hd hR
             have t1 : ¬ (1024 : Int) < (D.size : Int) := by omega
             clear hR hL
             go_wp2
             go_ret
             exact ⟨ret_i HR.out.symm, Below.refl _ _⟩
     · have hR : Hid (E = 3) := HE3.out (by
         rw [HCb.out, hc]
         cases r0 with
         | nil => exact absurd rfl hr
         | cons a b => simp)
       have hl1 : (1 : Int) < (D.size : Int) := by
         have := List.length_pos_iff.2 hr
         omega
       clear hDs hget hz hc hr
       go_enter Tryz.func88, Tryz.ntmps88
       go_wp2
       go_ret
       exact ⟨ret_i hR.out.symm, Below.refl _ _⟩
   · have t0 : ((c0.toNat : Int) == 48) = false := by
       rw [beq_eq_false_iff_ne]
       intro h
       exact hc (UInt8.toNat_inj.1 (by show c0.toNat = 48; omega))
     have HC1 : Hid (((c0 :: r0).all isDg = true) -> E = if 1024 < (c0 :: r0).length then 11 else 0) := fun h => HE1.out (by rw [HCb.out, h]; simp [hc])
     have HC3 : Hid (((c0 :: r0).all isDg = false) -> E = 3) := fun h => HE3.out (by rw [HCb.out, h]; simp)
     clear hz hc
     generalize c0 :: r0 = d at *
     have HDs : Hid (D.size = d.length) := hDs
     have HGet := Hd hget
     have hszb : D.size <= 1000000 := by omega
     clear hDs hget
     go_enter Tryz.func88, Tryz.ntmps88
     go_wp2_with fail
     go_loopw [4] (fun i wr => ∃ k : Nat, k <= D.size /\ i = .int .i64 (k : Int) /\ Hid ((d.take k).all isDg = true) /\ wr = w) (fun i _ => D.size - (intOf i).toNat)
     case atStart => exact ⟨0, Nat.zero_le _, rfl, rfl, rfl⟩
     case round =>
       obtain ⟨k, hk, rfl, ha, rfl⟩ := hrel
       by_cases hlt : k < D.size
       · obtain ⟨x, hx⟩ : ∃ x, d[k]? = some x := ⟨d[k]'(by have := HDs.out; omega), List.getElem?_eq_getElem _⟩
         have hbk := HGet.out k hlt x hx
         have HX : Hid (d[k]? = some x) := hx
         have HF : Hid (isDg x = false -> E = 3) := fun h => HC3.out (all_not HX.out h)
         have HT : Hid (isDg x = true -> (d.take (k + 1)).all isDg = true) := fun h => all_take HX.out ha.out h
         clear hx ha
         by_cases h1 : x.toNat < 48
         · have hR : Hid (E = 3) := HF.out (by unfold isDg; rw [decide_eq_false (by omega)]; rfl)
           have t1 : (x.toNat : Int) < 48 := by omega
           clear h1
           go_wp2
           go_ret
           exact ⟨ret_i hR.out.symm, Below.refl _ _⟩
         · by_cases h2 : 57 < x.toNat
           · have hR : Hid (E = 3) := HF.out (by unfold isDg; rw [decide_eq_false (show ¬ x.toNat <= 57 by omega)]; simp)
             have t1 : ¬ (x.toNat : Int) < 48 := by omega
             have t2 : (57 : Int) < (x.toNat : Int) := by omega
             clear h1 h2
             go_wp2
             go_ret
             exact ⟨ret_i hR.out.symm, Below.refl _ _⟩
           · have HT2 := Hd (HT.out (by unfold isDg; rw [decide_eq_true (by omega), decide_eq_true (by omega)]; rfl))
             have t1 : ¬ (x.toNat : Int) < 48 := by omega
             have t2 : ¬ (57 : Int) < (x.toNat : Int) := by omega
             clear h1 h2
             go_wp2
             go_roundw
             case rel => exact ⟨k + 1, by omega, by go_num, HT2.out, trivial⟩
             case measure => simp [intOf]; omega
       · have hall : d.all isDg = true := by
           have h := ha.out
           rwa [List.take_of_length_le (by have := HDs.out; omega)] at h
         have hR := HC1.out hall
         rw [<- HDs.out] at hR
         clear hall ha
         by_cases hL : 1024 < D.size
         · rw [if_pos hL] at hR
           have HR := Hd hR
           have t1 : (1024 : Int) < (D.size : Int) := by omega
           clear hR hL
           go_wp2
           go_ret
           exact ⟨ret_i HR.out.symm, Below.refl _ _⟩
         · rw [if_neg hL] at hR
           have HR := Hd hR
           have t1 : ¬ (1024 : Int) < (D.size : Int) := by omega
           clear hR hL
           go_wp2
           go_ret
           exact ⟨ret_i HR.out.symm, Below.refl _ _⟩
theorem chk_minus (d : List UInt8) (w : World) (hdl : d.length <= 1000000) :
   Calls Tryz.prog 88 #[strV (45 :: d)] w fun e w' => e = .returned (.int .i64 (chkE (45 :: d))) /\ Below w.heap.size w w' := by
 have hmg : magW (45 :: d) = d := by simp [magW]
 have hmi : minW (45 :: d) = true := by simp [minW]
 have hDs := ba_size d
 have hget := ba_get d
 have hex := extract_rest 45 d
 have hBs := ba_size (45 :: d)
 have hp : 0 < (⟨(45 :: d).toArray⟩ : ByteArray).size := by rw [hBs]; simp
 have hB0 := ba_get (45 :: d) 0 hp 45 rfl
 have HDl : Hid ((⟨d.toArray⟩ : ByteArray).toList = d) := ByteArray.toList_mk d
 have hcb : canB (45 :: d) = (decide (d ≠ []) && d.all isDg && (decide (d.getD 0 0 ≠ 48) || (decide (d = [48]) && !true))) := by unfold canB; rw [hmg, hmi]
 rw [show strV (45 :: d) = .string ⟨(45 :: d).toArray⟩ from rfl]
 have HCb : Hid (canB (45 :: d) = (decide (d ≠ []) && d.all isDg && (decide (d.getD 0 0 ≠ 48) || (decide (d = [48]) && !true)))) := hcb
 have HE3 : Hid (canB (45 :: d) = false -> chkE (45 :: d) = 3) := fun h => by show chkE (45 :: d) = 3; unfold chkE; rw [if_pos h]
 have HE1 : Hid (canB (45 :: d) = true -> chkE (45 :: d) = if 1024 < d.length then 11 else 0) := fun h => by show chkE (45 :: d) = _; unfold chkE; rw [if_neg (by rw [h]; simp), hmg]
 generalize chkE (45 :: d) = E at *
 generalize canB (45 :: d) = cb at *
 generalize (⟨d.toArray⟩ : ByteArray) = D at *
 generalize (⟨(45 :: d).toArray⟩ : ByteArray) = B at *
 have hBne : ¬ B = ByteArray.empty := by
   intro h
   rw [h] at hp
   exact absurd hp (by decide)
 have hBb : (B.size : Int) <= 1000001 := by simp at hBs; omega
 clear hmg hmi hcb hBs
 cases d with
 | nil =>
   have hR : Hid (E = 3) := HE3.out (by rw [HCb.out]; rfl)
   have t9 : (D.toList == [48]) = false := by rw [HDl.out]; rfl
   have hz : D.size = 0 := hDs
   clear hDs hget
   go_enter Tryz.func88, Tryz.ntmps88
   go_wp2
   go_ret
   exact ⟨ret_i hR.out.symm, Below.refl _ _⟩
 | cons c0 r0 =>
   have hz : D.size = r0.length + 1 := hDs
   have hpos : 0 < D.size := by omega
   have hne : ¬ D = ByteArray.empty := by
     intro h
     rw [h] at hpos
     exact absurd hpos (by decide)
   have hb0 : D[0]'hpos = c0 := hget 0 hpos c0 rfl
   by_cases hc : c0 = 48
   · have t0 : ((c0.toNat : Int) == 48) = true := by rw [hc]; rfl
     by_cases hr : r0 = []
     · have hR : Hid (E = 3) := HE3.out (by rw [HCb.out, hc, hr]; simp)
       have t9 : (D.toList == [48]) = true := by rw [HDl.out, hc, hr]; rfl
       clear hDs hget hz hc hr
       go_enter Tryz.func88, Tryz.ntmps88
       go_wp2
       go_ret
       exact ⟨ret_i hR.out.symm, Below.refl _ _⟩
     · have hR : Hid (E = 3) := HE3.out (by
         rw [HCb.out, hc]
         cases r0 with
         | nil => exact absurd rfl hr
         | cons a b => simp)
       have hl1 : (1 : Int) < (D.size : Int) := by
         have := List.length_pos_iff.2 hr
         omega
       have t9 : (D.toList == [48]) = false := by rw [HDl.out, beq_eq_false_iff_ne]; intro h; simp only [List.cons.injEq] at h; exact hr h.2
       clear hDs hget hz hc hr
       go_enter Tryz.func88, Tryz.ntmps88
       go_wp2
       go_ret
       exact ⟨ret_i hR.out.symm, Below.refl _ _⟩
   · have t0 : ((c0.toNat : Int) == 48) = false := by
       rw [beq_eq_false_iff_ne]
       intro h
       exact hc (UInt8.toNat_inj.1 (by show c0.toNat = 48; omega))
     have HC1 : Hid (((c0 :: r0).all isDg = true) -> E = if 1024 < (c0 :: r0).length then 11 else 0) := fun h => HE1.out (by rw [HCb.out, h]; simp [hc])
     have HC3 : Hid (((c0 :: r0).all isDg = false) -> E = 3) := fun h => HE3.out (by rw [HCb.out, h]; simp)
     have t9 : (D.toList == [48]) = false := by rw [HDl.out, beq_eq_false_iff_ne]; intro h; simp only [List.cons.injEq] at h; exact hc h.1
     clear hz hc
     generalize c0 :: r0 = d at *
     have HDs : Hid (D.size = d.length) := hDs
     have HGet := Hd hget
     have hszb : D.size <= 1000000 := by omega
     clear hDs hget
     go_enter Tryz.func88, Tryz.ntmps88
     go_wp2_with fail
     go_loopw [4] (fun i wr => ∃ k : Nat, k <= D.size /\ i = .int .i64 (k : Int) /\ Hid ((d.take k).all isDg = true) /\ wr = w) (fun i _ => D.size - (intOf i).toNat)
     case atStart => exact ⟨0, Nat.zero_le _, rfl, rfl, rfl⟩
     case round =>
       obtain ⟨k, hk, rfl, ha, rfl⟩ := hrel
       by_cases hlt : k < D.size
       · obtain ⟨x, hx⟩ : ∃ x, d[k]? = some x := ⟨d[k]'(by have := HDs.out; omega), List.getElem?_eq_getElem _⟩
         have hbk := HGet.out k hlt x hx
         have HX : Hid (d[k]? = some x) := hx
         have HF : Hid (isDg x = false -> E = 3) := fun h => HC3.out (all_not HX.out h)
         have HT : Hid (isDg x = true -> (d.take (k + 1)).all isDg = true) := fun h => all_take HX.out ha.out h
         clear hx ha
         by_cases h1 : x.toNat < 48
         · have hR : Hid (E = 3) := HF.out (by unfold isDg; rw [decide_eq_false (by omega)]; rfl)
           have t1 : (x.toNat : Int) < 48 := by omega
           clear h1
           go_wp2
           go_ret
           exact ⟨ret_i hR.out.symm, Below.refl _ _⟩
         · by_cases h2 : 57 < x.toNat
           · have hR : Hid (E = 3) := HF.out (by unfold isDg; rw [decide_eq_false (show ¬ x.toNat <= 57 by omega)]; simp)
             have t1 : ¬ (x.toNat : Int) < 48 := by omega
             have t2 : (57 : Int) < (x.toNat : Int) := by omega
             clear h1 h2
             go_wp2
             go_ret
             exact ⟨ret_i hR.out.symm, Below.refl _ _⟩
           · have HT2 := Hd (HT.out (by unfold isDg; rw [decide_eq_true (by omega), decide_eq_true (by omega)]; rfl))
             have t1 : ¬ (x.toNat : Int) < 48 := by omega
             have t2 : ¬ (57 : Int) < (x.toNat : Int) := by omega
             clear h1 h2
             go_wp2
             go_roundw
             case rel => exact ⟨k + 1, by omega, by go_num, HT2.out, trivial⟩
             case measure => simp [intOf]; omega
       · have hall : d.all isDg = true := by
           have h := ha.out
           rwa [List.take_of_length_le (by have := HDs.out; omega)] at h
         have hR := HC1.out hall
         rw [<- HDs.out] at hR
         clear hall ha
         by_cases hL : 1024 < D.size
         · rw [if_pos hL] at hR
           have HR := Hd hR
           have t1 : (1024 : Int) < (D.size : Int) := by omega
           clear hR hL
           go_wp2
           go_ret
           exact ⟨ret_i HR.out.symm, Below.refl _ _⟩
         · rw [if_neg hL] at hR
           have HR := Hd hR
           have t1 : ¬ (1024 : Int) < (D.size : Int) := by omega
           clear hR hL
           go_wp2
           go_ret
           exact ⟨ret_i HR.out.symm, Below.refl _ _⟩
theorem rChk_any (s : List UInt8) (w : World) (hs : s.length <= 1000000) :
   Calls Tryz.prog 88 #[strV s] w fun e w' => e = .returned (.int .i64 (chkE s)) /\ Below w.heap.size w w' := by
 cases s with
 | nil => exact chk_plain [] w (by simp) (by simp)
 | cons c d =>
   by_cases hc : c = 45
   · subst hc
     exact chk_minus d w (by simp at hs; omega)
   · exact chk_plain (c :: d) w hs (by simpa using hc)
end Go.Proofs.YteamhbohgoclgaaGreatDoor
