/- Contract of the reference's Reached. -/
import Derived.Test.YteamhbohgoclgaaGreatDoorR15
import Derived.Handy
import Derived.Lib.AppendIntMem
import Derived.Lib.AtoiErrMem
import Derived.Shelf.Pu.ParseUintPublic10
import Derived.Shelf.Strconv.Itoa3
import Derived.Shelf.Strings.Builder1
set_option maxRecDepth 100000
set_option maxHeartbeats 16000000
namespace Go.Proofs.YteamhbohgoclgaaGreatDoor
open Go.RowKit Go.Shelf

theorem bl_bool {w : World} {b : Nat} {bs : List Bool} (h : BL w b 4 (bs.map .bool)) {a : Nat} (ha : a < bs.length) : w.cell? ⟨b, a, none⟩ = some (.bool (bAt bs a)) := by
 rw [h.cell a, List.getElem?_map, List.getElem?_eq_getElem ha]
 unfold bAt
 rw [List.getD_eq_getElem?_getD, List.getElem?_eq_getElem ha]; rfl
theorem bl_boolset {w : World} {b : Nat} {bs : List Bool} (h : BL w b 4 (bs.map .bool)) (a : Nat) (x : Bool) : BL (w.setCell ⟨b, a, none⟩ (.bool x)) b 4 ((bs.set a x).map .bool) := by
 have := h.set a (.bool x)
 rwa [<- List.map_set] at this
theorem made_list (n : Nat) : (madeCells #[Value.bool false] n).toList = (List.replicate n false).map .bool := by
 refine List.ext_getElem (by simp [size_madeCells]) fun k h1 h2 => ?_
 simp [madeCells, Nat.mod_one]
theorem made_bool (w : World) (n : Nat) : BL (w.alloc (.cells (madeCells #[Value.bool false] n) 4)) w.heap.size 4 ((List.replicate n false).map .bool) := by
 have := BL.new' w (madeCells #[Value.bool false] n) 4
 rwa [made_list] at this
theorem reached_any (g : Value) (n v : Nat) (es : List Tri) (w : World) (hg : GV w g n es) (hE : Edges n es) (hn : n <= 12) (hv : v < n) :
   Calls Tryz.prog 143 #[g, .int .i64 (v : Int)] w fun e w' => ∃ bs, e = .returned (.slice (some ⟨w.heap.size + 1, 0, none⟩) n n) /\ BL w' (w.heap.size + 1) 4 (bs.map .bool) /\ Rch n es v n bs /\ Below w.heap.size w w' := by
 obtain ⟨A, c, rfl, hlc, hc, hcell⟩ := hg.open_
 have hmk := run_make_row' (P := Tryz.prog) 206 4 (.bool false) 1 Tryz.underlying206 bool_info rfl .i64 .i64 n (by omega) (by omega)
 obtain ⟨W0, hW0⟩ : ∃ W0, W0 = w.alloc (.cells #[.int .i64 (n : Int), .slice A es.length c] 25) := ⟨_, rfl⟩
 have hb0 : Below w.heap.size w W0 := by rw [hW0]; exact below_alloc w _
 have hz0 : W0.heap.size = w.heap.size + 1 := by rw [hW0]; simp
 have hx0 : BL W0 w.heap.size 25 [.int .i64 (n : Int), .slice A es.length c] := by rw [hW0]; exact BL.new' w _ _
 obtain ⟨W1, hW1⟩ : ∃ W1, W1 = W0.alloc (.cells (madeCells #[Value.bool false] n) 4) := ⟨_, rfl⟩
 have hb1 : Below W0.heap.size W0 W1 := by rw [hW1]; exact below_alloc W0 _
 have hm1 : BL W1 (w.heap.size + 1) 4 ((List.replicate n false).map .bool) := by rw [hW1, <- hz0]; exact made_bool W0 n
 obtain ⟨W2, hW2⟩ : ∃ W2, W2 = W0.alloc (.cells ((madeCells #[Value.bool false] n).setIfInBounds v (.bool true)) 4) := ⟨_, rfl⟩
 have hm2 : BL W2 (w.heap.size + 1) 4 (((List.replicate n false).set v true).map .bool) := by
   have h := BL.new' W0 ((madeCells #[Value.bool false] n).setIfInBounds v (.bool true)) 4
   rw [Array.toList_setIfInBounds, made_list, <- List.map_set] at h
   rw [hW2, <- hz0]; exact h
 have hx2 : BL W2 w.heap.size 25 [.int .i64 (n : Int), .slice A es.length c] := by rw [hW2]; exact hx0.alloc _
 have hbb : Below w.heap.size w W2 := by rw [hW2]; exact hb0.alloc (by omega) _
 have c0 := hx0.cell 0
 have e0 := bl_bool hm1 (a := v) (by simpa using hv)
 have e1 := hm1.frozen v
 rw [hW0] at c0
 rw [hW1, hW0] at e0 e1
 have HG := Hd hg
 have HE := Hd hE
 have HW0 := Hd hW0
 have HW2 := Hd hW2
 have HM2 := Hd hm2
 have HX2 := Hd hx2
 have HB2 := Hd hbb
 have hv1 : (v : Int) < n := by omega
 clear hg hE hcell hb0 hz0 hx0 hb1 hm1 hm2 hx2 hbb hW0 hW1 hW2
 go_enter Tryz.func143, Tryz.ntmps143
 go_wp2_with fail
 rw [<- HW0.out, <- HW2.out]
 clear c0 e0 e1 hmk
 go_loopw [6] (fun i wr => ∃ (r : Nat) (bs : List Bool), r <= n /\ i = .int .i64 (r : Int) /\ Hid (Rch n es v r bs) /\ Hid (BL wr (w.heap.size + 1) 4 (bs.map .bool)) /\ Hid (BL wr w.heap.size 25 [.int .i64 (n : Int), .slice A es.length c]) /\ Hid (Below w.heap.size w wr)) (fun i _ => n - (intOf i).toNat)
 case atStart => exact ⟨0, _, Nat.zero_le _, rfl, Rch.start hv, HM2.out, HX2.out, HB2.out⟩
 case round =>
   obtain ⟨r, bs0, hr, rfl, hR, hm, hx, hb⟩ := hrel
   have y0 := hx.out.cell 0
   by_cases hrn : r < n
   · have HR0 := hR
     go_wp2_with fail
     go_loopw [7] (fun i wr => ∃ (a : Nat) (bs : List Bool), a <= n /\ i = .int .i64 (a : Int) /\ Hid (Mid8 n es v bs0 a 0 bs) /\ Hid (BL wr (w.heap.size + 1) 4 (bs.map .bool)) /\ Hid (BL wr w.heap.size 25 [.int .i64 (n : Int), .slice A es.length c]) /\ Hid (Below w.heap.size w wr)) (fun i _ => n - (intOf i).toNat)
     case atStart => exact ⟨0, _, Nat.zero_le _, rfl, hR.out.begin, hm.out, hx.out, hb.out⟩
     case round =>
       clear hm hx hb y0
       obtain ⟨a, bs1, ha, rfl, hA, hm, hx, hb⟩ := hrel
       have y0 := hx.out.cell 0
       by_cases han : a < n
       · have han1 : (a : Int) < n := by omega
         go_wp2_with fail
         go_loopw [8] (fun i wr => ∃ (b : Nat) (bs : List Bool), b <= n /\ i = .int .i64 (b : Int) /\ Hid (Mid8 n es v bs0 a b bs) /\ Hid (BL wr (w.heap.size + 1) 4 (bs.map .bool)) /\ Hid (BL wr w.heap.size 25 [.int .i64 (n : Int), .slice A es.length c]) /\ Hid (Below w.heap.size w wr)) (fun i _ => n - (intOf i).toNat)
         case atStart => exact ⟨0, _, Nat.zero_le _, rfl, hA.out, hm.out, hx.out, hb.out⟩
         case round =>
           clear hm hx hb y0 hA
           obtain ⟨b, bs, hbn, rfl, hA, hm, hx, hb⟩ := hrel
           have y0 := hx.out.cell 0
           have y1 := hx.out.cell 1
           by_cases hbl : b < n
           · have hbl1 : (b : Int) < n := by omega
             have hlen := hA.out.1
             have z0 := bl_bool hm.out (a := a) (by omega)
             cases hba : bAt bs a
             · rw [hba] at z0
               have HA2 := Hd (hA.out.skip (fun h => by rw [hba] at h; cases h))
               clear hlen hba
               go_wp2
               go_roundw
               case rel => exact ⟨b + 1, bs, by omega, by go_num, HA2.out, hm.out, hx.out, hb.out⟩
               case measure => simp [intOf]; omega
             · rw [hba] at z0
               have HBt := Hd (between_any _ n es a b wr (HG.out.below hb.out))
               have hwg : a ≠ b -> btwE es (a : Int) (b : Int) = wgt es a b := fun h => btw_wgt HE.out h
               have hbz := btw_le HE.out (a : Int) (b : Int)
               obtain ⟨t, htt⟩ : ∃ t, t = btwE es (a : Int) (b : Int) := ⟨_, rfl⟩
               rw [<- htt] at HBt hwg hbz
               by_cases ht : 0 < t
               · have HA2 := Hd (hA.out.mark han hbl hba (fun h => by rw [<- hwg h]; exact ht))
                 go_wp2_with fail
                 refine HBt.out.mono ?_
                 rintro e w1 ⟨rfl, hb1⟩
                 have hm1 := hm.out.bel hb1
                 have f0 := bl_bool hm1 (a := b) (by omega)
                 have f1 := hm1.frozen b
                 have HM1 := Hd (bl_boolset hm1 b true)
                 have HX1 := Hd ((hx.out.bel hb1).set_other (a := ⟨w.heap.size + 1, b, none⟩) (by simp) (.bool true))
                 have HB1 := Hd ((hb.out.trans (hb1.mono hb.out.size)).setCell (p := ⟨w.heap.size + 1, b, none⟩) (by simp) (.bool true))
                 clear hb1 hm1 hlen hba hwg htt hbz y0 y1 z0
                 go_wp2
                 go_roundw
                 case rel => exact ⟨b + 1, _, by omega, by go_num, HA2.out, HM1.out, HX1.out, HB1.out⟩
                 case measure => simp [intOf]; omega
               · have HA2 := Hd (hA.out.skip (fun _ h => by
                   by_cases e : a = b
                   · subst e; rw [wgt_self] at h; omega
                   · rw [<- hwg e] at h; exact ht h))
                 go_wp2_with fail
                 refine HBt.out.mono ?_
                 rintro e w1 ⟨rfl, hb1⟩
                 have HM1 := Hd (hm.out.bel hb1)
                 have HX1 := Hd (hx.out.bel hb1)
                 have HB1 := Hd (hb.out.trans (hb1.mono hb.out.size))
                 clear hb1 hlen hba hwg htt hbz y0 y1 z0
                 go_wp2
                 go_roundw
                 case rel => exact ⟨b + 1, _, by omega, by go_num, HA2.out, HM1.out, HX1.out, HB1.out⟩
                 case measure => simp [intOf]; omega
           · obtain rfl : b = n := by omega
             go_wp2
             go_roundw
             case rel => exact ⟨a + 1, bs, by omega, by go_num, hA.out.next, hm.out, hx.out, hb.out⟩
             case measure => simp [intOf]; omega
       · obtain rfl : a = n := by omega
         go_wp2
         go_roundw
         case rel => exact ⟨r + 1, bs1, by omega, by go_num, Mid8.end_ HR0.out hA.out hv, hm.out, hx.out, hb.out⟩
         case measure => simp [intOf]; omega
   · obtain rfl : r = n := by omega
     go_wp2
     go_ret
     exact ⟨bs0, rfl, hm.out, hR.out, hb.out⟩

def PtI (n : Nat) (es : List Tri) (v : Nat) (k : Nat) (sn : List Bool) : Prop :=
 sn.length = n /\ k <= v /\ ((v = 0 /\ k = 0 /\ ∀ u, bAt sn u = false) \/ (1 <= v /\ ∃ bs0, Rch n es 0 n bs0 /\ ((k = 1 /\ (∀ u, u < n -> bAt sn u = bAt bs0 u) /\ ∀ u, u < v -> bAt bs0 u = true) \/ (2 <= k /\ ∃ u, u < n /\ bAt bs0 u = false))))
theorem PtI.seen {n : Nat} {es : List Tri} {v k : Nat} {sn : List Bool} (h : PtI n es v k sn) (hv : v < n) (hs : bAt sn v = true) : PtI n es (v + 1) k sn := by
 obtain ⟨h1, h2, h3⟩ := h
 refine ⟨h1, by omega, ?_⟩
 rcases h3 with ⟨_, _, h⟩ | ⟨h, bs0, hb, h3⟩
 · rw [h v] at hs; cases hs
 · refine .inr ⟨by omega, bs0, hb, ?_⟩
   rcases h3 with ⟨e, h4, h5⟩ | h3
   · refine .inl ⟨e, h4, fun u hu => ?_⟩
     by_cases euv : u = v
     · subst euv; rw [<- h4 u hv]; exact hs
     · exact h5 u (by omega)
   · exact .inr h3
theorem PtI.new {n : Nat} {es : List Tri} {v k : Nat} {sn sn' rs : List Bool} (h : PtI n es v k sn) (hv : v < n) (hs : bAt sn v = false) (hr : Rch n es v n rs) (hl : sn'.length = n) (hu : ∀ u, u < n -> bAt sn' u = (bAt sn u || bAt rs u)) : PtI n es (v + 1) (k + 1) sn' := by
 obtain ⟨h1, h2, h3⟩ := h
 refine ⟨hl, by omega, .inr ⟨by omega, ?_⟩⟩
 rcases h3 with ⟨rfl, rfl, h⟩ | ⟨h, bs0, hb, h3⟩
 · refine ⟨rs, hr, .inl ⟨rfl, fun u hun => by rw [hu u hun, h u]; rfl, fun u hu' => ?_⟩⟩
   obtain rfl : u = 0 := by omega
   exact hr.2.1.1
 · refine ⟨bs0, hb, .inr ?_⟩
   rcases h3 with ⟨e, h4, h5⟩ | ⟨e, h4⟩
   · exact ⟨by omega, v, hv, by rw [<- h4 v hv]; exact hs⟩
   · exact ⟨by omega, h4⟩
theorem PtI.end_ {n : Nat} {es : List Tri} {k : Nat} {sn : List Bool} (h : PtI n es n k sn) (hn : 1 <= n) : k = 1 ↔ Conn n (wgt es) := by
 obtain ⟨h1, h2, ⟨e, _⟩ | ⟨_, bs0, hb, h3⟩⟩ := h
 · omega
 · rw [<- rch_conn hb]
   rcases h3 with ⟨e, h4, h5⟩ | ⟨e, u, hu, h4⟩
   · exact ⟨fun _ => h5, fun _ => e⟩
   · exact ⟨fun e' => by omega, fun h => by rw [h u hu] at h4; cases h4⟩
theorem PtI.start (n : Nat) (es : List Tri) : PtI n es 0 0 (List.replicate n false) := ⟨by simp, Nat.le_refl _, .inl ⟨rfl, rfl, fun u => by
 unfold bAt
 rw [List.getD_eq_getElem?_getD, List.getElem?_replicate]; split <;> rfl⟩⟩
def Orr (n : Nat) (sn rs : List Bool) (j : Nat) (s : List Bool) : Prop := s.length = n /\ (∀ u, u < j -> bAt s u = (bAt sn u || bAt rs u)) /\ ∀ u, j <= u -> bAt s u = bAt sn u
theorem bAt_setx (bs : List Bool) (b u : Nat) (x : Bool) (hb : b < bs.length) : bAt (bs.set b x) u = if u = b then x else bAt bs u := by
 unfold bAt
 rw [List.getD_eq_getElem?_getD, List.getElem?_set]
 by_cases h : b = u
 · subst h; simp [hb]
 · rw [if_neg h, if_neg (fun e => h e.symm), <- List.getD_eq_getElem?_getD]
theorem Orr.step {n : Nat} {sn rs s : List Bool} {j : Nat} (h : Orr n sn rs j s) (hj : j < n) : Orr n sn rs (j + 1) (s.set j (bAt sn j || bAt rs j)) := by
 obtain ⟨h1, h2, h3⟩ := h
 refine ⟨by simpa using h1, fun u hu => ?_, fun u hu => ?_⟩
 · rw [bAt_setx _ _ _ _ (by omega)]
   by_cases e : u = j
   · rw [if_pos e, e]
   · rw [if_neg e]; exact h2 u (by omega)
 · rw [bAt_setx _ _ _ _ (by omega), if_neg (by omega)]; exact h3 u (by omega)
theorem rParts_any (g : Value) (n : Nat) (es : List Tri) (w : World) (hg : GV w g n es) (hE : Edges n es) (hn : n <= 12) (hn1 : 1 <= n) :
   Calls Tryz.prog 100 #[g] w fun e w' => ∃ k : Nat, e = .returned (.int .i64 (k : Int)) /\ (k = 1 ↔ Conn n (wgt es)) /\ Below w.heap.size w w' := by
 obtain ⟨A, c, rfl, hlc, hc, hcell⟩ := hg.open_
 have hmk := run_make_row' (P := Tryz.prog) 206 4 (.bool false) 1 Tryz.underlying206 bool_info rfl .i64 .i64 n (by omega) (by omega)
 obtain ⟨W0, hW0⟩ : ∃ W0, W0 = w.alloc (.cells #[.int .i64 (n : Int), .slice A es.length c] 25) := ⟨_, rfl⟩
 have hb0 : Below w.heap.size w W0 := by rw [hW0]; exact below_alloc w _
 have hz0 : W0.heap.size = w.heap.size + 1 := by rw [hW0]; simp
 have hx0 : BL W0 w.heap.size 25 [.int .i64 (n : Int), .slice A es.length c] := by rw [hW0]; exact BL.new' w _ _
 obtain ⟨W1, hW1⟩ : ∃ W1, W1 = W0.alloc (.cells (madeCells #[Value.bool false] n) 4) := ⟨_, rfl⟩
 have hb1 : Below W0.heap.size W0 W1 := by rw [hW1]; exact below_alloc W0 _
 have hm1 : BL W1 (w.heap.size + 1) 4 ((List.replicate n false).map .bool) := by rw [hW1, <- hz0]; exact made_bool W0 n
 have c0 := hx0.cell 0
 rw [hW0] at c0
 have HX1 := Hd (hx0.bel hb1)
 have HM1 := Hd hm1
 have HB1 := Hd (hb0.trans (hb1.mono hb0.size))
 have HG := Hd hg
 have HE := Hd hE
 have HW0 := Hd hW0
 have HW1 := Hd hW1
 clear hg hE hcell hb0 hz0 hx0 hb1 hm1 hW0 hW1
 go_enter Tryz.func100, Tryz.ntmps100
 go_wp2_with fail
 rw [<- HW0.out, <- HW1.out]
 clear c0 hmk
 go_loopw [3, 5] (fun cnt i wr => ∃ (v k : Nat) (sn : List Bool), v <= n /\ cnt = .int .i64 (k : Int) /\ i = .int .i64 (v : Int) /\ Hid (PtI n es v k sn) /\ Hid (BL wr (w.heap.size + 1) 4 (sn.map .bool)) /\ Hid (BL wr w.heap.size 25 [.int .i64 (n : Int), .slice A es.length c]) /\ Hid (Below w.heap.size w wr)) (fun _ i _ => n - (intOf i).toNat)
 case atStart => exact ⟨0, 0, _, Nat.zero_le _, rfl, rfl, PtI.start n es, HM1.out, HX1.out, HB1.out⟩
 case round =>
   obtain ⟨v, k, sn, hv, rfl, rfl, hP, hm, hx, hb⟩ := hrel
   have y0 := hx.out.cell 0
   have y1 := hx.out.cell 1
   by_cases hvn : v < n
   · have hvn1 : (v : Int) < n := by omega
     have hl := hP.out.1
     have hkv := hP.out.2.1
     have z0 := bl_bool hm.out (a := v) (by omega)
     cases hsv : bAt sn v
     · rw [hsv] at z0
       have HRe := Hd (reached_any _ n v es wr (HG.out.below hb.out) HE.out hn hvn)
       have HP := hP
       have HSv := Hd hsv
       have hkb : (k : Int) <= 12 := by omega
       obtain ⟨WO, hWO⟩ : ∃ WO, WO = wr := ⟨_, rfl⟩
       rw [<- hWO] at HRe
       have hsz := hb.out.size
       have hsm := hm.out.lt
       rw [<- hWO] at hsz hsm
       have HWO := Hd hWO
       clear hWO
       go_wp2_with fail
       rw [<- HWO.out]
       refine HRe.out.mono ?_
       rintro e w1 ⟨rs, rfl, hbl, hrch, hb1⟩
       have hb1' : Below wr.heap.size wr w1 := by rw [<- HWO.out]; exact hb1
       have HM2 := Hd (hm.out.bel hb1')
       have HX2 := Hd (hx.out.bel hb1')
       have HB2 := Hd (hb.out.trans (hb1'.mono hb.out.size))
       have HBl := Hd hbl
       have HRc := Hd hrch
       have u0 := HX2.out.cell 0
       clear hb1 hb1' hbl hrch y0 y1 z0 hm hx hb
       go_wp2_with fail
       clear u0
       go_loopw [7] (fun i wr => ∃ (j : Nat) (s : List Bool), j <= n /\ i = .int .i64 (j : Int) /\ Hid (Orr n sn rs j s) /\ Hid (BL wr (w.heap.size + 1) 4 (s.map .bool)) /\ Hid (BL wr (WO.heap.size + 1) 4 (rs.map .bool)) /\ Hid (BL wr w.heap.size 25 [.int .i64 (n : Int), .slice A es.length c]) /\ Hid (Below w.heap.size w wr)) (fun i _ => n - (intOf i).toNat)
       case atStart => exact ⟨0, sn, Nat.zero_le _, rfl, ⟨hl, fun u h => by omega, fun _ _ => rfl⟩, HM2.out, HBl.out, HX2.out, HB2.out⟩
       case round =>
         clear HM2 HBl HX2 HB2 HWO
         obtain ⟨j, s, hj, rfl, hO, hm, hr, hx, hb⟩ := hrel
         have y0 := hx.out.cell 0
         by_cases hjn : j < n
         · have hjn1 : (j : Int) < n := by omega
           have hsl := hO.out.1
           have q0 := bl_bool hm.out (a := j) (by omega)
           have q1 := hm.out.frozen j
           have q2 := bl_bool hr.out (a := j) (by have := HRc.out.1; omega)
           rw [hO.out.2.2 j (Nat.le_refl _)] at q0
           have HO2 := Hd (hO.out.step hjn)
           have hfin : Hid (∀ x, BL (wr.setCell ⟨w.heap.size + 1, j, none⟩ (.bool x)) (w.heap.size + 1) 4 ((s.set j x).map .bool) /\ BL (wr.setCell ⟨w.heap.size + 1, j, none⟩ (.bool x)) (WO.heap.size + 1) 4 (rs.map .bool) /\ BL (wr.setCell ⟨w.heap.size + 1, j, none⟩ (.bool x)) w.heap.size 25 [.int .i64 (n : Int), .slice A es.length c] /\ Below w.heap.size w (wr.setCell ⟨w.heap.size + 1, j, none⟩ (.bool x))) :=
             fun x => ⟨bl_boolset hm.out j x, hr.out.set_other (by simp; omega) _, hx.out.set_other (by simp) _, hb.out.setCell (p := ⟨w.heap.size + 1, j, none⟩) (by simp) _⟩
           cases hA : bAt sn j
           · rw [hA] at q0 HO2
             cases hB : bAt rs j
             all_goals
               rw [hB] at q2 HO2
               simp only [Bool.false_or] at HO2
               clear hm hr hx hb hO hsl hA hB
               go_wp2
               go_roundw
               case rel => exact ⟨j + 1, _, by omega, by go_num, HO2.out, (hfin.out _).1, (hfin.out _).2.1, (hfin.out _).2.2.1, (hfin.out _).2.2.2⟩
               case measure => simp [intOf]; omega
           · rw [hA] at q0 HO2
             simp only [Bool.true_or] at HO2
             clear hm hr hx hb hO hsl hA
             go_wp2
             go_roundw
             case rel => exact ⟨j + 1, _, by omega, by go_num, HO2.out, (hfin.out _).1, (hfin.out _).2.1, (hfin.out _).2.2.1, (hfin.out _).2.2.2⟩
             case measure => simp [intOf]; omega
         · obtain rfl : j = n := by omega
           have HP2 := Hd (HP.out.new hvn HSv.out HRc.out hO.out.1 fun u hu => hO.out.2.1 u hu)
           go_wp2
           go_roundw
           case rel => exact ⟨v + 1, k + 1, s, by omega, by go_num, by go_num, HP2.out, hm.out, hx.out, hb.out⟩
           case measure => simp [intOf]; omega
     · rw [hsv] at z0
       have HP2 := Hd (hP.out.seen hvn hsv)
       clear hsv
       go_wp2
       go_roundw
       case rel => exact ⟨v + 1, k, sn, by omega, rfl, by go_num, HP2.out, hm.out, hx.out, hb.out⟩
       case measure => simp [intOf]; omega
   · obtain rfl : v = n := by omega
     go_wp2
     go_ret
     exact ⟨k, rfl, hP.out.end_ hn1, hb.out⟩

theorem rConn_any (g : Value) (n : Nat) (es : List Tri) (w : World) (hg : GV w g n es) (hE : Edges n es) (hn : n <= 12) (hn1 : 1 <= n) :
   Calls Tryz.prog 67 #[g] w fun e w' => e = .returned (.bool (connB n es)) /\ Below w.heap.size w w' := by
 obtain ⟨A, c, rfl, -⟩ := hg.open_
 obtain ⟨W0, hW0⟩ : ∃ W0, W0 = w.alloc (.cells #[.int .i64 (n : Int), .slice A es.length c] 25) := ⟨_, rfl⟩
 have hb0 : Below w.heap.size w W0 := by rw [hW0]; exact below_alloc w _
 have hx0 : BL W0 w.heap.size 25 [.int .i64 (n : Int), .slice A es.length c] := by rw [hW0]; exact BL.new' w _ _
 have HC := Hd (rParts_any _ n es W0 (hg.below hb0) hE hn hn1)
 have HI := Hd (connB_iff hn1 hn hE)
 have c0 := hx0.cell 0
 have c1 := hx0.cell 1
 have HB0 := Hd hb0
 have HW0 := Hd hW0
 rw [hW0] at c0 c1
 clear hg hb0 hx0 hW0 hE
 go_enter Tryz.func67, Tryz.ntmps67
 go_wp2_with fail
 rw [<- HW0.out]
 refine HC.out.mono ?_
 rintro e w1 ⟨k, rfl, hk, hb1⟩
 have HB1 := Hd (HB0.out.trans (hb1.mono HB0.out.size))
 clear hb1 c0 c1
 by_cases h1 : k = 1
 · have hcb : connB n es = true := HI.out.2 (hk.1 h1)
   have t : ((k : Int) == 1) = true := by simp; omega
   clear hk h1
   go_wp2
   go_ret
   exact ⟨ret_b hcb.symm, HB1.out⟩
 · have hcb : connB n es = false := by
     cases e : connB n es
     · rfl
     · exact absurd (hk.2 (HI.out.1 e)) h1
   have t : ((k : Int) == 1) = false := by simp; omega
   clear hk h1
   go_wp2
   go_ret
   exact ⟨ret_b hcb.symm, HB1.out⟩
theorem rJoined_any (g : Value) (n : Int) (es : List Tri) (w : World) (hg : GV w g n es) :
   Calls Tryz.prog 36 #[g] w fun e w' => e = .returned (.int .i64 (eGiven n es [])) /\ Below w.heap.size w w' := by
 obtain ⟨A, c, rfl, hlc, hc, -⟩ := hg.open_
 obtain ⟨W0, hW0⟩ : ∃ W0, W0 = w.alloc (.cells #[.int .i64 n, .slice A es.length c] 25) := ⟨_, rfl⟩
 have hb0 : Below w.heap.size w W0 := by rw [hW0]; exact below_alloc w _
 have hx0 : BL W0 w.heap.size 25 [.int .i64 n, .slice A es.length c] := by rw [hW0]; exact BL.new' w _ _
 have hgc := rgCheck_any _ n es W0 (hg.below hb0)
 have c0 := hx0.cell 0
 have c1 := hx0.cell 1
 have HX0 := Hd hx0
 have HG0 := Hd (hg.below hb0)
 have HB0 := Hd hb0
 have HW0 := Hd hW0
 rw [hW0] at c0 c1
 clear hg hb0 hx0 hW0
 by_cases h2 : gcheckE n es = 0
 · rw [h2] at hgc
   have HGc := Hd hgc
   obtain ⟨m, rfl, h1, h12, hE⟩ := gcheckE_zero h2
   have HR : Hid (eGiven m es [] = if connB m es = false then 13 else 0) := by show _ = _; unfold eGiven; rw [if_neg (by simpa using h2)]; rfl
   have HE := Hd hE
   have hh1 : Hid (1 <= m /\ m <= 12) := ⟨by omega, by omega⟩
   clear h2 hE hgc h1 h12
   go_enter Tryz.func36, Tryz.ntmps36
   go_wp2_with fail
   rw [<- HW0.out]
   refine HGc.out.mono ?_
   rintro e w1 ⟨rfl, hb1⟩
   have hx1 := HX0.out.bel hb1
   have d0 := hx1.cell 0
   have d1 := hx1.cell 1
   have hcn := rConn_any _ m es w1 (HG0.out.below hb1) HE.out hh1.out.2 hh1.out.1
   have HB1 := Hd (HB0.out.trans (hb1.mono HB0.out.size))
   clear hb1 hx1 c0 c1
   cases hcb : connB m es
   · rw [hcb] at hcn
     have HCn := Hd hcn
     have HR2 : Hid (eGiven m es [] = 13) := by show _ = _; rw [HR.out, hcb]; rfl
     clear hcn hcb
     go_wp2_with fail
     refine HCn.out.mono ?_
     rintro e w2 ⟨rfl, hb2⟩
     have HB2 := Hd (HB1.out.trans (hb2.mono HB1.out.size))
     clear hb2
     go_wp2
     go_ret
     exact ⟨ret_i HR2.out.symm, HB2.out⟩
   · rw [hcb] at hcn
     have HCn := Hd hcn
     have HR2 : Hid (eGiven m es [] = 0) := by show _ = _; rw [HR.out, hcb]; rfl
     clear hcn hcb
     go_wp2_with fail
     refine HCn.out.mono ?_
     rintro e w2 ⟨rfl, hb2⟩
     have HB2 := Hd (HB1.out.trans (hb2.mono HB1.out.size))
     clear hb2
     go_wp2
     go_ret
     exact ⟨ret_i HR2.out.symm, HB2.out⟩
 · obtain ⟨r, hr⟩ : ∃ r, r = gcheckE n es := ⟨_, rfl⟩
   have HR : Hid (eGiven n es [] = r) := by show _ = _; unfold eGiven; rw [if_pos h2, hr]
   rw [<- hr] at hgc h2
   have HGc := Hd hgc
   have t : (r != 0) = true := by simpa using h2
   clear hgc hr h2
   go_enter Tryz.func36, Tryz.ntmps36
   go_wp2_with fail
   rw [<- HW0.out]
   refine HGc.out.mono ?_
   rintro e w1 ⟨rfl, hb1⟩
   have HB1 := Hd (HB0.out.trans (hb1.mono HB0.out.size))
   clear hb1 c0 c1
   go_wp2
   go_ret
   exact ⟨ret_i HR.out.symm, HB1.out⟩

theorem getD_of' {a : List Int} {j : Nat} {x : Int} (h : a[j]? = some x) : a.getD j 0 = x := by rw [List.getD_eq_getElem?_getD, h]; rfl

theorem add_add' (a : Addr) (i j : Nat) : (a.add i).add j = a.add (i + j) := add_of_add a i j
theorem RI.sub {w : World} {a : Addr} {n c : Nat} {l : List Int} (h : RI w (.slice (some a) n c) l) {i j : Nat} (hi : i <= j) (hj : j <= l.length) : RI w (.slice (some (a.add i)) (j - i) (c - i)) ((l.take j).drop i) := by
 obtain ⟨A, c', he, h2, h3, h4⟩ := RI.open_ h
 simp only [Value.slice.injEq] at he
 obtain ⟨rfl, rfl, rfl⟩ := he
 have e : ((l.take j).drop i).length = j - i := by simp; omega
 have key := RI.mk_ (w := w) (A := some (a.add i)) (c := c - i) (zs := (l.take j).drop i) (by omega) (by omega) fun k z hk => by
   have hk1 : k < j - i := by have := (List.getElem?_eq_some_iff.1 hk).1; omega
   obtain ⟨ad, y, hA, hadb, hy, hcl⟩ := h4 (i + k) (by omega)
   cases hA
   refine ⟨_, rfl, by rw [block_of_add]; exact hadb, ?_⟩
   rw [List.getElem?_drop, List.getElem?_take_of_lt (by omega), hy.out] at hk
   cases hk
   rw [add_add']; exact hcl
 rwa [e] at key
theorem RI.emp {W : World} {A : Option Addr} {k c m : Nat} {l : List Int} (h : l.length = m) (hm : m = 0) (hk : k = 0) : RI W (.slice A k c) l := by
 have : l = [] := List.eq_nil_of_length_eq_zero (by omega)
 subst this hk
 exact ⟨A, c, rfl, by simp, by simp, fun j hj => by simp at hj⟩
theorem Bd.sub {B : Int} {l : List Int} (h : Bd B l) (h0 : 0 <= B) (i j : Nat) : Bd B ((l.take j).drop i) := fun k => by
 rw [List.getD_eq_getElem?_getD, List.getElem?_drop]
 by_cases c : i + k < j
 · rw [List.getElem?_take_of_lt c, <- List.getD_eq_getElem?_getD]; exact h _
 · rw [List.getElem?_eq_none (by simp; omega)]; simp; omega

theorem OV.blk {w : World} {B : Nat} {e : TypeId} {v : Value} {us : List Value} (h : OV w B e v us) {k : Nat} (hk : v.ownBlock = some k) : ∃ cur, w.heap[k]? = some (.cells cur e (0, 0)) := by
 rcases h.1.2 with ⟨rfl, _⟩ | ⟨g, cap, cur, rfl, _, hh, _⟩
 · cases hk
 · simp only [Value.ownBlock, Option.some.injEq] at hk; subst hk; exact ⟨cur, hh⟩
theorem OV.keptBox {w w' : World} {B k : Nat} {e e' : TypeId} {v : Value} {us : List Value} {cs : Array Value} {fr : Nat × Nat} (h : OV w B e v us) (hb : w.heap[k]? = some (.cells cs e' fr)) (hne : e ≠ e') (hg : w.grownBy w' (some k)) : OV w' B e v us := by
 refine ⟨h.1.kept hg ?_, h.2⟩
 cases hv : v.ownBlock with
 | none => exact .inl rfl
 | some j =>
   right; intro ej
   obtain ⟨cur, hc⟩ := h.blk hv
   injection ej with ej
   subst ej
   rw [hb] at hc
   injection hc with hc
   injection hc with _ hc
   exact hne hc.symm

theorem add_zero' (a : Addr) : a.add 0 = a := by cases a; simp [Addr.add]
theorem RI.pre {w : World} {a : Addr} {n c : Nat} {l : List Int} (h : RI w (.slice (some a) n c) l) {j : Nat} (hj : j <= l.length) : RI w (.slice (some a) j c) (l.take j) := by
 have := RI.sub h (i := 0) (j := j) (Nat.zero_le _) hj
 rw [add_zero', Nat.sub_zero, Nat.sub_zero, List.drop_zero] at this
 exact this
theorem RI.suf {w : World} {a : Addr} {n c : Nat} {l : List Int} (h : RI w (.slice (some a) n c) l) {i : Nat} (hi : i <= l.length) : RI w (.slice (some (a.add i)) (l.length - i) (c - i)) (l.drop i) := by
 have := RI.sub h (i := i) (j := l.length) hi (Nat.le_refl _)
 rw [List.take_of_length_le (Nat.le_refl _)] at this
 exact this

def l1L (q : Bool) (l : List Int) : List Int := if q then l.drop 1 else l
def l2L (q n : Bool) (l : List Int) : List Int := l1L n (l1L q l)
def fillE (m : Nat) (q n b f : Bool) (l : List Int) : Int :=
 if q = true /\ l = [] then 8 else if n = true /\ l1L q l = [] then 8
 else if f = true then (if l2L q n l = [] \/ (l2L q n l).getD 0 0 ≠ ((l2L q n l).length : Int) - 1 then 8 else 0)
 else if b = true then (if ((l2L q n l).length : Int) ≠ 2 * m then 8 else 0)
 else if ((l2L q n l).length : Int) ≠ m then 8 else 0
def fQ (q : Bool) (l : List Int) : Int := if q then l.getD 0 0 else 0
def fA (m : Nat) (b f : Bool) (l2 : List Int) : List Int := if f then [] else if b then l2.take m else l2
def fB (m : Nat) (b f : Bool) (l2 : List Int) : List Int := if f then [] else if b then l2.drop m else []
def fF (f : Bool) (l2 : List Int) : List Int := if f then l2.drop 1 else []
theorem RI.suf' {w : World} {A : Option Addr} {n c : Nat} {l : List Int} (h : RI w (.slice A n c) l) (hl : 1 <= l.length) (i : Nat) (hi : i <= l.length) : ∃ ad, A = some ad /\ n = l.length /\ l.length <= c /\ RI w (.slice (if c = i then some ad else some (ad.add i)) (l.length - i) (c - i)) (l.drop i) := by
 obtain ⟨A', c', he, hlc, hmx, hcell⟩ := h.open_
 simp only [Value.slice.injEq] at he
 obtain ⟨rfl, rfl, rfl⟩ := he
 obtain ⟨ad, -, rfl, -⟩ := hcell 0 (by omega)
 refine ⟨ad, rfl, rfl, hlc, ?_⟩
 split
 · exact RI.emp List.length_drop (by omega) (by omega)
 · exact RI.suf h hi
theorem results_row_tmp {P : Program} {fn : Func} {p u : Tmp} {ty : TypeId} (h : fn.results = #[.cell p ty, .tmp u]) (tmps : Array Value) (w : World) (g : Nat) (t : TypeId) (cs : Array Value) (fr : Nat × Nat) (d : TypeDesc)
   (hp : tmps.getD p undef = .pointer (some ⟨g, 0, none⟩)) (hg : w.heap[g]? = some (.cells cs t fr))
   (hu : P.underlying ty = some d) (hd : (match d with | .struct _ | .array _ _ => true | _ => false) = true) (hi : (P.info? ty).map (·.size) = some cs.size) :
   (results fn tmps).run P w = .ok (.tuple #[.agg cs, tmps.getD u undef]) w := by
 have hp' : tmps[p]?.getD undef = .pointer (some ⟨g, 0, none⟩) := by simpa using hp
 simp [results, h, hp', asAddr, run_loadVar_row w g t ty cs fr d hg hu hd hi]
theorem BL.set6 {w : World} {b : Nat} {T : TypeId} {u0 u1 u2 u3 u4 u5 : Value} (h : BL w b T [u0, u1, u2, u3, u4, u5]) (v0 v1 v2 v3 v4 v5 : Value) :
   BL ((((((w.setCell ⟨b, 0, none⟩ v0).setCell ⟨b, 1, none⟩ v1).setCell ⟨b, 2, none⟩ v2).setCell ⟨b, 3, none⟩ v3).setCell ⟨b, 4, none⟩ v4).setCell ⟨b, 5, none⟩ v5) b T [v0, v1, v2, v3, v4, v5] :=
 (((((h.set 0 v0).set 1 v1).set 2 v2).set 3 v3).set 4 v4).set 5 v5
theorem below6 {w W : World} {B b : Nat} (h : Below B w W) (hb : B <= b) (v0 v1 v2 v3 v4 v5 : Value) :
   Below B w ((((((W.setCell ⟨b, 0, none⟩ v0).setCell ⟨b, 1, none⟩ v1).setCell ⟨b, 2, none⟩ v2).setCell ⟨b, 3, none⟩ v3).setCell ⟨b, 4, none⟩ v4).setCell ⟨b, 5, none⟩ v5) :=
 (((((h.setCell (p := ⟨b, 0, none⟩) hb v0).setCell (p := ⟨b, 1, none⟩) hb v1).setCell (p := ⟨b, 2, none⟩) hb v2).setCell (p := ⟨b, 3, none⟩) hb v3).setCell (p := ⟨b, 4, none⟩) hb v4).setCell (p := ⟨b, 5, none⟩) hb v5
theorem heap6 (W : World) (b g : Nat) (hg : g ≠ b) (v0 v1 v2 v3 v4 v5 : Value) :
   ((((((W.setCell ⟨b, 0, none⟩ v0).setCell ⟨b, 1, none⟩ v1).setCell ⟨b, 2, none⟩ v2).setCell ⟨b, 3, none⟩ v3).setCell ⟨b, 4, none⟩ v4).setCell ⟨b, 5, none⟩ v5).heap[g]? = W.heap[g]? := by
 rw [heap_setCell_other _ _ g _ hg, heap_setCell_other _ _ g _ hg, heap_setCell_other _ _ g _ hg, heap_setCell_other _ _ g _ hg, heap_setCell_other _ _ g _ hg, heap_setCell_other _ _ g _ hg]

def ofE (n : Int) (es : List Tri) : Int := if gcheckE n es ≠ 0 then gcheckE n es else if connB n es = false then 13 else 0

def facE : Int -> List Int -> Int
 | _, [] => 0
 | p, f :: r => if f < 2 then 2 else if p ≠ 0 /\ f % p ≠ 0 then 9 else facE f r
def rightE (m : Nat) (q n : Bool) (least Q N : Int) (fs : List Int) : Int :=
 if (q = true /\ ¬ (0 <= Q /\ Q < m)) \/ (n = true /\ (N < least \/ 12 < N)) then 2 else if (fs.length : Int) > m - 1 then 5 else facE 0 fs
def lastF (fs : List Int) : Nat -> Int
 | 0 => 0
 | k + 1 => fs.getD k 0

def layItoa_ren : Go.Shelf.Ren := ⟨fun | 171 => 94 | 243 => 138 | 246 => 190 | 283 => 246 | 284 => 247 | 285 => 248 | 286 => 249 | 129 => 303 | 317 => 302 | 318 => 304 | 319 => 305 | 320 => 306 | 337 => 338 | 338 => 339 | n => n, fun | 3 => 3 | 9 => 9 | 2 => 2 | 4 => 4 | 171 => 324 | 0 => 0 | 53 => 325 | 37 => 130 | 5 => 5 | 173 => 328 | 212 => 378 | 51 => 279 | 20 => 20 | 213 => 379 | 46 => 208 | 232 => 437 | 233 => 438 | n => n, fun | 17 => 3 | 18 => 6 | 19 => 7 | n => n⟩
theorem layItoa : Go.Proofs.LaysM.n171 Tryz.prog layItoa_ren := {
 mixed := by kernel_rfl
 f129 := Tryz.func303.trans (congrArg some (by kernel_rfl))
 f171 := Tryz.func94.trans (congrArg some (by kernel_rfl))
 f243 := Tryz.func138.trans (congrArg some (by kernel_rfl))
 f246 := Tryz.func190.trans (congrArg some (by kernel_rfl))
 f283 := Tryz.func246.trans (congrArg some (by kernel_rfl))
 f284 := Tryz.func247.trans (congrArg some (by kernel_rfl))
 f285 := Tryz.func248.trans (congrArg some (by kernel_rfl))
 f286 := Tryz.func249.trans (congrArg some (by kernel_rfl))
 f317 := Tryz.func302.trans (congrArg some (by kernel_rfl))
 f318 := Tryz.func304.trans (congrArg some (by kernel_rfl))
 f319 := Tryz.func305.trans (congrArg some (by kernel_rfl))
 f320 := Tryz.func306.trans (congrArg some (by kernel_rfl))
 f337 := Tryz.func338.trans (congrArg some (by kernel_rfl))
 f338 := Tryz.func339.trans (congrArg some (by kernel_rfl))
 t0 := Tryz.underlying0
 a0 := Tryz.isAgg0
 z0 := Tryz.sizeOf0
 v0 := Tryz.zeroValue0
 t2 := Tryz.underlying2
 a2 := Tryz.isAgg2
 z2 := Tryz.sizeOf2
 v2 := Tryz.zeroValue2
 t3 := Tryz.underlying3
 a3 := Tryz.isAgg3
 z3 := Tryz.sizeOf3
 v3 := Tryz.zeroValue3
 t4 := Tryz.underlying4
 a4 := Tryz.isAgg4
 z4 := Tryz.sizeOf4
 v4 := Tryz.zeroValue4
 t5 := Tryz.underlying5
 a5 := Tryz.isAgg5
 z5 := Tryz.sizeOf5
 v5 := Tryz.zeroValue5
 t9 := Tryz.underlying9
 a9 := Tryz.isAgg9
 z9 := Tryz.sizeOf9
 v9 := Tryz.zeroValue9
 t20 := Tryz.underlying20
 a20 := Tryz.isAgg20
 z20 := Tryz.sizeOf20
 v20 := Tryz.zeroValue20
 t37 := Tryz.underlying130
 a37 := Tryz.isAgg130
 z37 := Tryz.sizeOf130
 v37 := Tryz.zeroValue130
 t46 := Tryz.underlying208
 a46 := Tryz.isAgg208
 z46 := Tryz.sizeOf208
 v46 := Tryz.zeroValue208
 t51 := Tryz.underlying279
 a51 := Tryz.isAgg279
 z51 := Tryz.sizeOf279
 v51 := Tryz.zeroValue279
 t53 := Tryz.underlying325
 a53 := Tryz.isAgg325
 z53 := Tryz.sizeOf325
 v53 := Tryz.zeroValue325
 t171 := Tryz.underlying324
 a171 := Tryz.isAgg324
 z171 := Tryz.sizeOf324
 v171 := Tryz.zeroValue324
 t173 := Tryz.underlying328
 a173 := Tryz.isAgg328
 z173 := Tryz.sizeOf328
 v173 := Tryz.zeroValue328
 t212 := Tryz.underlying378
 a212 := Tryz.isAgg378
 z212 := Tryz.sizeOf378
 v212 := Tryz.zeroValue378
 t213 := Tryz.underlying379
 a213 := Tryz.isAgg379
 z213 := Tryz.sizeOf379
 t232 := Tryz.underlying437
 a232 := Tryz.isAgg437
 z232 := Tryz.sizeOf437
 v232 := Tryz.zeroValue437
 t233 := Tryz.underlying438
 a233 := Tryz.isAgg438
 z233 := Tryz.sizeOf438
 v233 := Tryz.zeroValue438
 g17 := by kernel_rfl
 g18 := by kernel_rfl
 g19 := by kernel_rfl
 i0 := by kernel_rfl
 i2 := by kernel_rfl
 i3 := by kernel_rfl
 i4 := by kernel_rfl
 i5 := by kernel_rfl
 i9 := by kernel_rfl
 i20 := by kernel_rfl
 i37 := by kernel_rfl
 i46 := by kernel_rfl
 i51 := by kernel_rfl
 i53 := by kernel_rfl
 i171 := by kernel_rfl
 i173 := by kernel_rfl
 i212 := by kernel_rfl
 i232 := by kernel_rfl
 i233 := by kernel_rfl
 m17 := by kernel_rfl
 m18 := by kernel_rfl
 m19 := by kernel_rfl }
def layWrite_ren : Go.Shelf.Ren := ⟨fun | 166 => 93 | 240 => 137 | 276 => 189 | n => n, fun | 70 => 140 | 9 => 9 | 3 => 3 | 75 => 144 | 0 => 0 | 72 => 142 | 37 => 130 | 4 => 4 | 164 => 265 | 80 => 72 | 5 => 5 | 20 => 20 | n => n, fun | n => n⟩
theorem layWrite : Go.Proofs.Lays.n166 Tryz.prog layWrite_ren := {
 mixed := by kernel_rfl
 f166 := Tryz.func93.trans (congrArg some (by kernel_rfl))
 f240 := Tryz.func137.trans (congrArg some (by kernel_rfl))
 f276 := Tryz.func189.trans (congrArg some (by kernel_rfl))
 t0 := Tryz.underlying0
 a0 := Tryz.isAgg0
 z0 := Tryz.sizeOf0
 v0 := Tryz.zeroValue0
 t3 := Tryz.underlying3
 a3 := Tryz.isAgg3
 z3 := Tryz.sizeOf3
 v3 := Tryz.zeroValue3
 t4 := Tryz.underlying4
 a4 := Tryz.isAgg4
 z4 := Tryz.sizeOf4
 v4 := Tryz.zeroValue4
 t9 := Tryz.underlying9
 a9 := Tryz.isAgg9
 z9 := Tryz.sizeOf9
 v9 := Tryz.zeroValue9
 t20 := Tryz.underlying20
 a20 := Tryz.isAgg20
 z20 := Tryz.sizeOf20
 v20 := Tryz.zeroValue20
 t37 := Tryz.underlying130
 a37 := Tryz.isAgg130
 z37 := Tryz.sizeOf130
 v37 := Tryz.zeroValue130
 t70 := Tryz.underlying140
 a70 := Tryz.isAgg140
 z70 := Tryz.sizeOf140
 v70 := Tryz.zeroValue140
 t72 := Tryz.underlying142
 a72 := Tryz.isAgg142
 z72 := Tryz.sizeOf142
 v72 := Tryz.zeroValue142
 t75 := Tryz.underlying144
 a75 := Tryz.isAgg144
 z75 := Tryz.sizeOf144
 v75 := Tryz.zeroValue144
 t164 := Tryz.underlying265
 a164 := Tryz.isAgg265
 z164 := Tryz.sizeOf265
 v164 := Tryz.zeroValue265 }
def layString_ren : Go.Shelf.Ren := ⟨fun | 169 => 95 | n => n, fun | 70 => 140 | 9 => 9 | 0 => 0 | 72 => 142 | 37 => 130 | 127 => 200 | 3 => 3 | 5 => 5 | n => n, fun | n => n⟩
theorem layString : Go.Proofs.Lays.n169 Tryz.prog layString_ren := {
 mixed := by kernel_rfl
 f169 := Tryz.func95.trans (congrArg some (by kernel_rfl))
 t0 := Tryz.underlying0
 a0 := Tryz.isAgg0
 z0 := Tryz.sizeOf0
 v0 := Tryz.zeroValue0
 t3 := Tryz.underlying3
 a3 := Tryz.isAgg3
 z3 := Tryz.sizeOf3
 v3 := Tryz.zeroValue3
 t9 := Tryz.underlying9
 a9 := Tryz.isAgg9
 z9 := Tryz.sizeOf9
 v9 := Tryz.zeroValue9
 t37 := Tryz.underlying130
 a37 := Tryz.isAgg130
 z37 := Tryz.sizeOf130
 v37 := Tryz.zeroValue130
 t70 := Tryz.underlying140
 a70 := Tryz.isAgg140
 z70 := Tryz.sizeOf140
 v70 := Tryz.zeroValue140
 t72 := Tryz.underlying142
 a72 := Tryz.isAgg142
 z72 := Tryz.sizeOf142
 v72 := Tryz.zeroValue142
 t127 := Tryz.underlying200
 a127 := Tryz.isAgg200
 z127 := Tryz.sizeOf200
 v127 := Tryz.zeroValue200 }
def TB (w : World) : Prop := Go.Lib.TabIs Tryz.prog w "internal/strconv.uint64pow10" .u64 Go.Lib.pow10Tab
theorem TB.below {w w' : World} (h : TB w) (hb : Below w.heap.size w w') : TB w' := Go.Lib.tabBelow_of_tabIs h w' hb
theorem itoa_any (z : Int) (w : World) (h0 : -9223372036854775808 <= z) (h1 : z <= 9223372036854775807) (ht : TB w) :
   Calls Tryz.prog 94 #[.int .i64 z] w fun e w' => e = .returned (zV z) /\ Below w.heap.size w w' :=
 (Go.Proofs.Any.strconv_Itoa layItoa z h0 h1 w ht).mono fun _ _ h => by
   obtain ⟨e, k, os, hw⟩ := h
   exact ⟨e, by rw [hw]; exact Go.Lib.below_grow _ _ (Nat.le_refl _) _ _⟩
theorem extraW : Go.Proofs.Builder.Extra Tryz.prog layWrite_ren := {
 sizeBuilder := by kernel_rfl
 liesBuilder := by kernel_rfl
 t5 := Tryz.underlying5
 a5 := Tryz.isAgg5
 z5 := Tryz.sizeOf5
 v5 := Tryz.zeroValue5
 infoByte := by kernel_rfl
 cellsByte := by kernel_rfl
 sizeByte := by kernel_rfl
 neB5 := by decide }
theorem extraS : Go.Proofs.Builder.Extra Tryz.prog layString_ren := {
 sizeBuilder := by kernel_rfl
 liesBuilder := by kernel_rfl
 t5 := Tryz.underlying5
 a5 := Tryz.isAgg5
 z5 := Tryz.sizeOf5
 v5 := Tryz.zeroValue5
 infoByte := by kernel_rfl
 cellsByte := by kernel_rfl
 sizeByte := by kernel_rfl
 neB5 := by decide }
end Go.Proofs.YteamhbohgoclgaaGreatDoor
