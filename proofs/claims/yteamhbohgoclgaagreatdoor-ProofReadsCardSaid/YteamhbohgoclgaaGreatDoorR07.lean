/- Contracts of reduced's closures on bools. -/
import Derived.Test.YteamhbohgoclgaaGreatDoorR06
import Derived.Deep.RegionHeld3
set_option maxRecDepth 100000
set_option maxHeartbeats 16000000
namespace Go.Proofs.YteamhbohgoclgaaGreatDoor
open Go.RowKit Go.Shelf

theorem bools_at {w : World} {B g n cap : Nat} {bs : List Bool} (h : OV w B 4 (.slice (some ⟨g, 0, none⟩) n cap) (bs.map Value.bool)) (hl : bs.length = n) {k : Nat} (hk : k < n) :
   w.cell? ⟨g, k, none⟩ = some (.bool (bs.getD k false)) /\ w.frozen? ⟨g, k, none⟩ = false /\ ∀ x : Bool, OV (w.setCell ⟨g, k, none⟩ (.bool x)) B 4 (.slice (some ⟨g, 0, none⟩) n cap) ((bs.set k x).map Value.bool) /\ w.grownBy (w.setCell ⟨g, k, none⟩ (.bool x)) (some g) := by
 have hb : (bs.map Value.bool)[k]? = some (.bool (bs.getD k false)) := by
   rw [List.getElem?_map, List.getD_eq_getElem?_getD, List.getElem?_eq_getElem (by omega)]; rfl
 obtain ⟨g', cap', hv, -, -, h1, h2, h3⟩ := h.at_ hb
 simp only [Value.slice.injEq, Option.some.injEq, Addr.mk.injEq, and_true] at hv
 obtain ⟨rfl, hn, rfl⟩ := hv
 refine ⟨h1, h2, fun x => ?_⟩
 have := h3 (.bool x)
 rw [<- hn, <- List.map_set] at this
 exact this
theorem isB_clo (w : World) (hb B g n cap : Nat) (bs : List Bool) (h1 : BL w hb 206 [.slice (some ⟨g, 0, none⟩) n cap]) (h2 : OV w B 4 (.slice (some ⟨g, 0, none⟩) n cap) (bs.map Value.bool)) (hl : bs.length = n) :
   CloB Tryz.prog w (.func (.func 314) #[] #[.pointer (some ⟨hb, 0, none⟩)]) (fun u => 0 <= u /\ u < n) (fun u => bs.getD u.toNat false) :=
 ⟨_, _, rfl, enters_of Tryz.func314 (by kernel_rfl) rfl, fun W hW x hx => by
   obtain ⟨k, rfl⟩ := Int.eq_ofNat_of_zero_le hx.1
   have hk : k < n := by omega
   have c0 := (h1.bel hW).cell 0
   have c1 := (bools_at (h2.below hW) hl hk).1
   obtain ⟨y, hy⟩ : ∃ y, y = bs.getD k false := ⟨_, rfl⟩
   rw [<- hy] at c1
   have HY := Hd hy
   clear hy
   show Calls _ _ #[.int .i64 (k : Int), .pointer (some ⟨hb, 0, none⟩)] _ _
   go_enter Tryz.func314, Tryz.ntmps314
   go_wp2
   go_ret
   exact ⟨ret_b (by rw [HY.out]; simp only [Int.toNat_natCast]), rfl⟩⟩
theorem near_clo (w : World) (hb B g n cap : Nat) (bs : List Bool) (h1 : BL w hb 206 [.slice (some ⟨g, 0, none⟩) n cap]) (h2 : OV w B 4 (.slice (some ⟨g, 0, none⟩) n cap) (bs.map Value.bool)) (hl : bs.length = n) :
   CloB Tryz.prog w (.func (.func 262) #[] #[.pointer (some ⟨hb, 0, none⟩)]) (fun u => 0 <= u /\ u < n) (fun u => bs.getD u.toNat false) :=
 ⟨_, _, rfl, enters_of Tryz.func262 (by kernel_rfl) rfl, fun W hW x hx => by
   obtain ⟨k, rfl⟩ := Int.eq_ofNat_of_zero_le hx.1
   have hk : k < n := by omega
   have c0 := (h1.bel hW).cell 0
   have c1 := (bools_at (h2.below hW) hl hk).1
   obtain ⟨y, hy⟩ : ∃ y, y = bs.getD k false := ⟨_, rfl⟩
   rw [<- hy] at c1
   have HY := Hd hy
   clear hy
   show Calls _ _ #[.int .i64 (k : Int), .pointer (some ⟨hb, 0, none⟩)] _ _
   go_enter Tryz.func262, Tryz.ntmps262
   go_wp2
   go_ret
   exact ⟨ret_b (by rw [HY.out]; simp only [Int.toNat_natCast]), rfl⟩⟩
theorem left_clo (w : World) (hb B g n cap : Nat) (bs : List Bool) (h1 : BL w hb 206 [.slice (some ⟨g, 0, none⟩) n cap]) (h2 : OV w B 4 (.slice (some ⟨g, 0, none⟩) n cap) (bs.map Value.bool)) (hl : bs.length = n) :
   CloB Tryz.prog w (.func (.func 264) #[] #[.pointer (some ⟨hb, 0, none⟩)]) (fun u => 0 <= u /\ u < n) (fun u => !bs.getD u.toNat false) :=
 ⟨_, _, rfl, enters_of Tryz.func264 (by kernel_rfl) rfl, fun W hW x hx => by
   obtain ⟨k, rfl⟩ := Int.eq_ofNat_of_zero_le hx.1
   have hk : k < n := by omega
   have c0 := (h1.bel hW).cell 0
   have c1 := (bools_at (h2.below hW) hl hk).1
   obtain ⟨y, hy⟩ : ∃ y, y = bs.getD k false := ⟨_, rfl⟩
   rw [<- hy] at c1
   have HY := Hd hy
   clear hy
   show Calls _ _ #[.int .i64 (k : Int), .pointer (some ⟨hb, 0, none⟩)] _ _
   go_enter Tryz.func264, Tryz.ntmps264
   go_wp2
   go_ret
   exact ⟨ret_b (by rw [HY.out]; simp only [Int.toNat_natCast]), rfl⟩⟩

theorem bool_info : (Tryz.prog.info? 4).map (fun i => (i.zero, i.size, i.bytes)) = some (some (.bool false), 1, 1) := by kernel_rfl
theorem own_falses (W : World) (n : Nat) (hn : n <= 1000) : OV (W.alloc (.cells (madeCells #[Value.bool false] n) 4)) W.heap.size 4 (.slice (some ⟨W.heap.size, 0, none⟩) n n) ((List.replicate n false).map Value.bool) := by
 have hs : (madeCells #[Value.bool false] n).toList = List.replicate n (.bool false) := by simpa using toList_madeCells_one (.bool false) n
 refine ⟨⟨by simp, .inr ⟨W.heap.size, n, madeCells #[Value.bool false] n, by simp, Nat.le_refl _, heap_alloc_new W _, by simp, by unfold maxLen; omega, ?_, ?_⟩⟩, by simp; omega⟩
 · have := congrArg List.length hs
   simpa using this
 · rw [hs]; simp
theorem grownBy_cell (w : World) (p : Addr) (v : Value) : w.grownBy (w.setCell p v) (some p.block) := ⟨rfl, rfl, rfl, by simp, fun k _ hk => heap_setCell_other w p k v (by simpa using hk)⟩
def fnD (d : List Int) (v : Nat) : Int := d.getD v 0
def fnB (b : List Bool) (v : Nat) : Bool := b.getD v false
def Burn (n q : Nat) (es : List Tri) (d : List Int) (bt : List Bool) : Prop :=
 bt.length = n /\ fnB bt q = true /\ ∀ A : Nat -> Bool, A q = false -> Legal n (wgt es) (fnD d) A -> ∀ v, v < n -> fnB bt v = true -> A v = false
def nb (n : Nat) (bt : List Bool) : Nat := countN n fun v => !fnB bt v
theorem fnB_set {bt : List Bool} {k : Nat} (hk : k < bt.length) (x : Bool) (v : Nat) : fnB (bt.set k x) v = if k = v then x else fnB bt v := by
 unfold fnB
 rw [List.getD_eq_getElem?_getD, List.getElem?_set]
 by_cases e : k = v
 · subst e; rw [if_pos rfl, if_pos rfl, if_pos hk]; rfl
 · rw [if_neg e, if_neg e, List.getD_eq_getElem?_getD]
theorem Burn.step {n q : Nat} {es : List Tri} {d : List Int} {bt : List Bool} (h : Burn n q es d bt) (hE : Edges n es) {k : Nat} (hk : k < n) (hlt : fnD d k < joinE es (fnB bt) k) : Burn n q es d (bt.set k true) := by
 obtain ⟨h1, h2, h3⟩ := h
 refine ⟨by simpa using h1, ?_, fun A hA hl v hv hb => ?_⟩
 · rw [fnB_set (by omega)]; split <;> simp [h2]
 · rw [fnB_set (by omega)] at hb
   by_cases e : k = v
   · subst e
     rw [<- join_edges hE.ends] at hlt
     exact burn_step (wgt_nonneg hE.pos) hl (fun u hu hbu => h3 A hA hl u hu hbu) hv hlt
   · rw [if_neg e] at hb
     exact h3 A hA hl v hv hb
theorem nb_set {n : Nat} {bt : List Bool} {k : Nat} (hl : bt.length = n) (hk : k < n) (hf : fnB bt k = false) : nb n (bt.set k true) < nb n bt := by
 refine countN_lt (fun v hv => ?_) hk ?_ ?_
 · rw [fnB_set (by omega)]; split <;> simp
 · rw [fnB_set (by omega), if_pos rfl]; rfl
 · rw [hf]; rfl
def leftL (n k : Nat) (bt : List Bool) : List Bool := (bt.take k).map (fun x => !x) ++ List.replicate (n - k) false
theorem leftL_set {n k : Nat} {bt : List Bool} (hl : bt.length = n) (hk : k < n) : (leftL n k bt).set k (!fnB bt k) = leftL n (k + 1) bt := by
 unfold leftL fnB
 rw [List.take_succ_eq_append_getElem (by omega), List.getD_eq_getElem?_getD, List.getElem?_eq_getElem (by omega)]
 rw [List.set_append_right _ _ (by simp; omega)]
 simp only [List.length_map, List.length_take, Nat.min_eq_left (show k <= bt.length by omega), Nat.sub_self, Option.getD_some, List.map_append, List.map_cons, List.map_nil, List.append_assoc]
 congr 1
 rw [show n - k = (n - (k + 1)) + 1 by omega, List.replicate_succ]
 rfl
theorem leftL_len {n k : Nat} {bt : List Bool} (hl : bt.length = n) (hk : k <= n) : (leftL n k bt).length = n := by simp [leftL]; omega
theorem leftL_all {n : Nat} {bt : List Bool} (hl : bt.length = n) : leftL n n bt = bt.map fun x => !x := by
 unfold leftL; rw [List.take_of_length_le (by omega)]; simp
theorem someL_step {k : Nat} {bt : List Bool} (hk : k < bt.length) : ((bt.take (k + 1)).map (fun x => !x)).any id = (((bt.take k).map (fun x => !x)).any id || !fnB bt k) := by
 unfold fnB
 rw [List.take_succ_eq_append_getElem hk, List.getD_eq_getElem?_getD, List.getElem?_eq_getElem hk, List.map_append, List.any_append]
 congr 1
 simp
def Calm (k : Nat) (es : List Tri) (d : List Int) (bt : List Bool) : Prop := ∀ v, v < k -> fnB bt v = false -> joinE es (fnB bt) v <= fnD d v
def UbR (w : World) (h n q : Nat) (es : List Tri) (d : List Int) (bt : List Bool) (wr : World) : Prop :=
 BL wr (h + 1) 206 [.slice (some ⟨h, 0, none⟩) n n] /\ OV wr h 4 (.slice (some ⟨h, 0, none⟩) n n) (bt.map Value.bool) /\ Below w.heap.size w wr /\ Burn n q es d bt
theorem UbR.below {w : World} {h n q : Nat} {es : List Tri} {d : List Int} {bt : List Bool} {wr W : World} (hu : UbR w h n q es d bt wr) (hb : Below wr.heap.size wr W) : UbR w h n q es d bt W :=
 ⟨hu.1.bel hb, hu.2.1.below hb, hu.2.2.1.trans (hb.mono hu.2.2.1.size), hu.2.2.2⟩
theorem unburnt_any (b eb n q gd capd B : Nat) (ve vs : Value) (es : List Tri) (d : List Int) (w : World) (hE : Edges n es) (hn : n <= 12) (hq : q < n)
   (hST : ST w b n ve q (.slice (some ⟨gd, 0, none⟩) n capd) vs 0) (hEB : EB w ve es eb) (heb : eb < w.heap.size) (hd : OI w B (.slice (some ⟨gd, 0, none⟩) n capd) d) (hdl : d.length = n) :
   Calls Tryz.prog 263 #[.pointer (some ⟨b, 0, none⟩)] w fun e w' => ∃ g cap bt, e = .returned (.tuple #[.slice (some ⟨g, 0, none⟩) n cap, .bool ((bt.map (fun x => !x)).any id)]) /\ OV w' w.heap.size 4 (.slice (some ⟨g, 0, none⟩) n cap) ((bt.map fun x => !x).map Value.bool) /\ Burn n q es d bt /\ Calm n es d bt /\ Below w.heap.size w w' := by
 have hmk := run_make_row' (P := Tryz.prog) 206 4 (.bool false) 1 Tryz.underlying206 bool_info rfl .i64 .i64 n (by omega) (by omega)
 have hbz : b < w.heap.size := BL.lt hST
 have n0 : w.cell? ⟨b, 0, none⟩ = some (.int .i64 (n : Int)) := BL.cell hST 0
 have HST := Hd hST
 have HEB := Hd hEB
 have HE := Hd hE
 have HD := Hd hd
 have HDL := Hd hdl
 obtain ⟨W1, hW1⟩ : ∃ W1, W1 = (w.alloc (.cells (madeCells #[Value.bool false] n) 4)).alloc (.cells #[.slice (some ⟨w.heap.size, 0, none⟩) n n] 206) := ⟨_, rfl⟩
 have hb1 : Below w.heap.size w W1 := by rw [hW1]; exact (below_alloc w _).alloc (by simp) _
 have o1 : OV W1 w.heap.size 4 (.slice (some ⟨w.heap.size, 0, none⟩) n n) ((List.replicate n false).map Value.bool) := by
   rw [hW1]; exact OV.below (own_falses w n (by omega)) (below_alloc _ _)
 have x1 : BL W1 (w.heap.size + 1) 206 [.slice (some ⟨w.heap.size, 0, none⟩) n n] := by
   rw [hW1]
   have := BL.new' (w.alloc (.cells (madeCells #[Value.bool false] n) 4)) #[.slice (some ⟨w.heap.size, 0, none⟩) n n] 206
   rwa [World.size_alloc] at this
 obtain ⟨q1, q2, q3⟩ := bools_at o1 (by simp) hq
 have c1 := x1.cell 0
 have s1 : W1.cell? ⟨b, 2, none⟩ = some (.int .i64 (q : Int)) := BL.cell (BL.bel hST hb1) 2
 have hst := (q3 true).1
 have hB1 : Burn n q es d ((List.replicate n false).set q true) := by
   refine ⟨by simp, by rw [fnB_set (by simpa using hq), if_pos rfl], fun A hA hl v hv hb => ?_⟩
   rw [fnB_set (by simpa using hq)] at hb
   by_cases e : q = v
   · subst e; exact hA
   · rw [if_neg e] at hb
     unfold fnB at hb
     rw [List.getD_eq_getElem?_getD, List.getElem?_replicate] at hb
     split at hb <;> cases hb
 have HU1 : Hid (UbR w w.heap.size n q es d ((List.replicate n false).set q true) (W1.setCell ⟨w.heap.size, q, none⟩ (.bool true))) :=
   ⟨x1.set_other (by simp) _, hst, hb1.setCell (p := ⟨w.heap.size, q, none⟩) (by simp) _, hB1⟩
 have HW1 : Hid (W1 = (w.alloc (.cells (madeCells #[Value.bool false] n) 4)).alloc (.cells #[.slice (some ⟨w.heap.size, 0, none⟩) n n] 206)) := hW1
 clear hW1 hb1 o1 x1 q3 hst hB1 hST hEB hE hd hdl
 go_enter Tryz.func263, Tryz.ntmps263
 go_wp2_with fail
 rw [<- HW1.out]
 refine wp_region_still_tail 6 (by kernel_rfl) (by kernel_rfl) ?_
 change wpStill _ _ W1.drew _ _ _
 simp only [List.take_succ_cons, List.take_zero, List.drop_succ_cons, List.drop_zero]
 repeat still_step
 refine wpStill_nil ?_
 change wpList _ _ _ _ _ W1.drew
 clear hmk
 go_wp2_with fail
 have HU2 : Hid (UbR w w.heap.size n q es d ((List.replicate n false).set q true) (W1.setCell ⟨w.heap.size, q, none⟩ (.bool true)).drew) := ⟨HU1.out.1, HU1.out.2.1, HU1.out.2.2.1.drew, HU1.out.2.2.2⟩
 clear q1 q2 c1 s1 HW1 HU1
 go_loopg [6] (2 * nb n ((List.replicate n false).set q true) + 1) (fun m a wr => ∃ (bt : List Bool) (ag : Bool), a = .bool ag /\ Hid (UbR w w.heap.size n q es d bt wr) /\ Hid (ag = false -> Calm n es d bt) /\ Hid (m = 2 * nb n bt + ag.toNat))
 case atStart => exact ⟨_, true, rfl, HU2.out, (fun h => by cases h), rfl⟩
 case round =>
   obtain ⟨bt, ag, rfl, hu, hcm, hm⟩ := hrel
   obtain ⟨wo, rfl⟩ : ∃ wo : World, wo = wr := ⟨_, rfl⟩
   have hbo : b < wo.heap.size := by have := hu.out.2.2.1.size; omega
   have n1 : wo.cell? ⟨b, 0, none⟩ = some (.int .i64 (n : Int)) := BL.cell (BL.bel HST.out hu.out.2.2.1) 0
   cases ag
   · have hmk2 := run_make_row' (P := Tryz.prog) 206 4 (.bool false) 1 Tryz.underlying206 bool_info rfl .i64 .i64 n (by omega) (by omega)
     have x1 := hu.out.1.cell 0
     have HL0 : Hid (OV (wo.alloc (.cells (madeCells #[Value.bool false] n) 4)) wo.heap.size 4 (.slice (some ⟨wo.heap.size, 0, none⟩) n n) ((leftL n 0 bt).map Value.bool)) := by
       have := own_falses wo n (by omega)
       show OV _ _ _ _ _
       unfold leftL; simpa using this
     have HU0 := Hd (hu.out.below (below_alloc wo (.cells (madeCells #[Value.bool false] n) 4)))
     have x2 : (wo.alloc (.cells (madeCells #[Value.bool false] n) 4)).cell? ⟨w.heap.size + 1, 0, none⟩ = some (.slice (some ⟨w.heap.size, 0, none⟩) n n) := HU0.out.1.cell 0
     have hwo : w.heap.size + 1 < wo.heap.size := hu.out.1.lt
     have HBL := Hd hu.out.2.2.2.1
     go_wp2_with fail
     clear hmk2 x1 x2
     go_loopw [9, 64] (fun sm i wr => ∃ k : Nat, k <= n /\ i = .int .i64 (k : Int) /\ sm = .bool (((bt.take k).map (fun x => !x)).any id) /\ Hid (UbR w w.heap.size n q es d bt wr) /\ Hid (OV wr wo.heap.size 4 (.slice (some ⟨wo.heap.size, 0, none⟩) n n) ((leftL n k bt).map Value.bool))) (fun _ i _ => n - (intOf i).toNat)
     case atStart => exact ⟨0, Nat.zero_le _, rfl, by simp, HU0.out, HL0.out⟩
     case round =>
       obtain ⟨k, hk, rfl, rfl, hu2, hl2⟩ := hrel
       by_cases hlt : k < n
       · have x3 := hu2.out.1.cell 0
         obtain ⟨p1, -, -⟩ := bools_at hu2.out.2.1 hu2.out.2.2.2.1 hlt
         obtain ⟨q1, q2, q3⟩ := bools_at hl2.out (leftL_len HBL.out hk) hlt
         have HS := Hd (someL_step (bt := bt) (k := k) (by rw [HBL.out]; exact hlt))
         have hset := (q3 (!fnB bt k)).1
         rw [leftL_set HBL.out hlt] at hset
         have HSet := Hd hset
         rw [show bt.getD k false = fnB bt k from rfl] at p1
         have HU3 : Hid (UbR w w.heap.size n q es d bt (wr.setCell ⟨wo.heap.size, k, none⟩ (.bool (!fnB bt k)))) := ⟨hu2.out.1.set_other (by simp; omega) _, hu2.out.2.1.kept' (grownBy_cell wr ⟨wo.heap.size, k, none⟩ _) (.inr (by intro e'; have e' : some w.heap.size = some wo.heap.size := e'; simp at e'; omega)), hu2.out.2.2.1.setCell (p := ⟨wo.heap.size, k, none⟩) (by show w.heap.size <= wo.heap.size; omega) _, hu2.out.2.2.2⟩
         clear hset q3
         generalize fnB bt k = y at *
         generalize ((bt.take k).map (fun x => !x)).any id = sm at *
         cases sm
         all_goals
           go_wp2
           go_roundw
           case rel => exact ⟨k + 1, by omega, by go_num, by rw [HS.out]; simp, HU3.out, HSet.out⟩
           case measure => simp [intOf]; omega
       · obtain rfl : k = n := by omega
         have hl3 := hl2.out
         rw [leftL_all HBL.out] at hl3
         have HL3 := Hd hl3
         have HT : Hid (bt.take k = bt) := List.take_of_length_le (by rw [HBL.out]; exact Nat.le_refl _)
         clear hl3
         go_wp2
         go_ret2
         exact ⟨wo.heap.size, k, bt, (by rw [HT.out]; rfl), OV.mono HL3.out (by omega), hu2.out.2.2.2, (by have h := hcm.out; simpa using h), hu2.out.2.2.1⟩
   · go_wp2
     go_loopw [6, 30] (fun a i wr => ∃ (k : Nat) (bt2 : List Bool) (ag2 : Bool), k <= n /\ a = .bool ag2 /\ i = .int .i64 (k : Int) /\ Hid (UbR w w.heap.size n q es d bt2 wr) /\ Hid ((ag2 = false /\ bt2 = bt /\ Calm k es d bt) \/ (ag2 = true /\ nb n bt2 < nb n bt))) (fun _ i _ => n - (intOf i).toNat)
     case atStart => exact ⟨0, bt, false, Nat.zero_le _, rfl, rfl, hu.out, .inl ⟨rfl, rfl, fun v hv => by omega⟩⟩
     case round =>
       obtain ⟨k, bt2, ag2, hk, rfl, rfl, hu2, hc2⟩ := hrel
       by_cases hlt : k < n
       · have hbb := hu2.out.2.2.1.size
         have hst2 := BL.bel HST.out hu2.out.2.2.1
         have d3 : wr.cell? ⟨b, 3, none⟩ = some (.slice (some ⟨gd, 0, none⟩) n capd) := BL.cell hst2 3
         have x2 := hu2.out.1.cell 0
         obtain ⟨p1, p2, p3⟩ := bools_at hu2.out.2.1 hu2.out.2.2.2.1 hlt
         obtain ⟨-, -, e1, -, -⟩ := OI.at' (HD.out.below hu2.out.2.2.1) (k := k) (by have := HDL.out; omega)
         have hfb : Hid (bt2.getD k false = fnB bt2 k) := rfl
         have hfd : Hid (d.getD k 0 = fnD d k) := rfl
         rw [hfb.out] at p1
         rw [hfd.out] at e1
         have HP3 := Hd p3
         have HST2 := Hd hst2
         clear p3 hst2
         cases hbk : fnB bt2 k
         · rw [hbk] at p1
           have hud : UbR w w.heap.size n q es d bt2 wr.drew := ⟨hu2.out.1, hu2.out.2.1, hu2.out.2.2.1.drew, hu2.out.2.2.2⟩
           have HJ := Hd (joins_any b k eb n ve q (.slice (some ⟨gd, 0, none⟩) n capd) vs 0 es _ (fnB bt2) wr.drew HE.out hlt hn HST2.out (HEB.out.below hud.2.2.1) (isB_clo wr.drew (w.heap.size + 1) w.heap.size w.heap.size n n bt2 hud.1 hud.2.1 hud.2.2.2.1) (by simp; omega) (by simp; omega))
           have HUD := Hd hud
           have HBK := Hd hbk
           have hlow := joinE_le HE.out.pos (fnB bt2) k
           obtain ⟨jn, hjn⟩ : ∃ jn, jn = joinE es (fnB bt2) k := ⟨_, rfl⟩
           rw [<- hjn] at HJ
           have HJN := Hd hjn
           clear hbk hud hjn hlow
           go_wp2_with fail
           have HK0 : Hid (wr.drew.cell? ⟨b, 3, none⟩ = some (.slice (some ⟨gd, 0, none⟩) n capd) /\ wr.drew.cell? ⟨gd, k, none⟩ = some (.int .i64 (fnD d k)) /\ wr.drew.cell? ⟨w.heap.size + 1, 0, none⟩ = some (.slice (some ⟨w.heap.size, 0, none⟩) n n) /\ wr.drew.cell? ⟨w.heap.size, k, none⟩ = some (.bool false) /\ Below wr.heap.size wr wr.drew) := ⟨d3, e1, x2, p1, (Below.refl _ _).drew⟩
           have HK1 : Hid (∀ w1 : World, Below wr.drew.heap.size wr.drew w1 -> (w1.cell? ⟨b, 3, none⟩ = some (.slice (some ⟨gd, 0, none⟩) n capd) /\ w1.cell? ⟨gd, k, none⟩ = some (.int .i64 (fnD d k)) /\ w1.cell? ⟨w.heap.size + 1, 0, none⟩ = some (.slice (some ⟨w.heap.size, 0, none⟩) n n) /\ w1.cell? ⟨w.heap.size, k, none⟩ = some (.bool false) /\ Below wr.heap.size wr w1)) := fun w1 hb => ⟨(hb.cell (p := ⟨b, 3, none⟩) (by simp; omega)).trans d3, (hb.cell (p := ⟨gd, k, none⟩) (block_lt_of_cell e1)).trans e1, (hb.cell (p := ⟨w.heap.size + 1, 0, none⟩) (block_lt_of_cell x2)).trans x2, (hb.cell (p := ⟨w.heap.size, k, none⟩) (block_lt_of_cell p1)).trans p1, (Below.refl _ _).drew.trans hb⟩
           go_region_held3 (fun W' : World => W'.cell? ⟨b, 3, none⟩ = some (.slice (some ⟨gd, 0, none⟩) n capd) /\ W'.cell? ⟨gd, k, none⟩ = some (.int .i64 (fnD d k)) /\ W'.cell? ⟨w.heap.size + 1, 0, none⟩ = some (.slice (some ⟨w.heap.size, 0, none⟩) n n) /\ W'.cell? ⟨w.heap.size, k, none⟩ = some (.bool false) /\ Below wr.heap.size wr W') (first | exact HK0.out | exact HKw.out) (first | (go_at_call 261; refine HJ.out.mono ?_; rintro e w1 ⟨rfl, hb⟩; have HKw := Hd (HK1.out w1 hb); have HB := Hd hb; clear hb))
           have hu3 := HUD.out.below HB.out
           obtain ⟨r1, r2, r3⟩ := bools_at hu3.2.1 hu3.2.2.2.1 hlt
           have y2 := hu3.1.cell 0
           have HR3 := Hd (r3 true).1
           have HU3 := Hd hu3
           clear hu3 r3 d3 e1 x2
           rw [show bt2.getD k false = fnB bt2 k from rfl, HBK.out] at r1
           go_wp2
           · have hlt2 : fnD d k < jn := by assumption
             have HBn := Hd (HU3.out.2.2.2.step HE.out hlt (by rw [<- HJN.out]; exact hlt2))
             have HNb := Hd (nb_set HU3.out.2.2.2.1 hlt HBK.out)
             have HNc : Hid (nb n (bt2.set k true) < nb n bt) := by
               have := HNb.out
               rcases hc2.out with ⟨_, h2, _⟩ | ⟨_, h2⟩
               · rw [<- h2]; exact this
               · exact Nat.lt_trans this h2
             go_roundw
             case rel => exact ⟨k + 1, bt2.set k true, true, by omega, rfl, by go_num, ⟨HU3.out.1.set_other (by simp) _, HR3.out, HU3.out.2.2.1.setCell (p := ⟨w.heap.size, k, none⟩) (by simp) _, HBn.out⟩, .inr ⟨rfl, HNc.out⟩⟩
             case measure => simp [intOf]; omega
           · have hge : ¬ fnD d k < jn := by omega
             go_roundw
             case rel => exact ⟨k + 1, bt2, ag2, by omega, rfl, by go_num, HU3.out, hc2.out.imp (fun h => ⟨h.1, h.2.1, fun v hv hf => (by
               rcases Nat.lt_or_ge v k with c | c
               · exact h.2.2 v c hf
               · have : v = k := by omega
                 subst this; rw [<- h.2.1, <- HJN.out]; omega)⟩) id⟩
             case measure => simp [intOf]; omega
         · rw [hbk] at p1
           have HBK := Hd hbk
           clear hbk
           go_wp2_with fail
           go_quiet (fail)
           go_wp2
           go_roundw
           case rel => exact ⟨k + 1, bt2, ag2, by omega, rfl, by go_num, hu2.out.below (below_drewN (Below.refl _ _) nq), hc2.out.imp (fun h => ⟨h.1, h.2.1, fun v hv hf => (by
             rcases Nat.lt_or_ge v k with c | c
             · exact h.2.2 v c hf
             · have : v = k := by omega
               subst this; rw [h.2.1] at HBK; rw [HBK.out] at hf; cases hf)⟩) id⟩
           case measure => simp [intOf]; omega
       · obtain rfl : k = n := by omega
         go_wp2
         go_roundg (2 * nb k bt2 + ag2.toNat)
         case measure =>
           rw [hm.out]
           rcases hc2.out with ⟨rfl, rfl, _⟩ | ⟨rfl, h⟩
           · simp
           · simp; omega
         case rel => exact ⟨bt2, ag2, rfl, hu2.out, (fun h => by
           rcases hc2.out with ⟨_, h2, h3⟩ | ⟨h2, _⟩
           · rw [h2]; exact h3
           · rw [h] at h2; cases h2), rfl⟩

theorem script_le2 {n : Nat} {w : Nat -> Nat -> Int} (hw : ∀ v u, 0 <= w v u) (hs : ∀ v u, w v u = w u v) (hc : Conn n w) {q : Nat} (hq : q < n) {s : Nat -> Int} (h0 : s q <= 0) {K : Int} (hK : 0 <= K)
   (h : ∀ c : Int, 0 <= c -> (sumN n fun v => (if s v <= c then 0 else 1) * lap n w s v) <= K) : ∀ v, v < n -> s v <= n * K := by
 have step : ∀ k : Nat, k + 1 <= countN n (fun v => decide (s v <= (k : Int) * K)) \/ n <= countN n (fun v => decide (s v <= (k : Int) * K)) := by
   intro k
   induction k with
   | zero =>
     left
     have : countN n (fun _ => false) < countN n (fun v => decide (s v <= ((0 : Nat) : Int) * K)) := countN_lt (fun v _ e => by cases e) hq rfl (by simp; omega)
     omega
   | succ k ih =>
     have hup : ((k + 1 : Nat) : Int) * K = (k : Int) * K + K := by push_cast; rw [Int.add_mul, Int.one_mul]
     rw [hup]
     have hsub : ∀ v, v < n -> decide (s v <= (k : Int) * K) = true -> decide (s v <= (k : Int) * K + K) = true := fun v _ hv => by simp at hv ⊢; omega
     rcases ih with ih | ih
     · by_cases hall : n <= countN n (fun v => decide (s v <= (k : Int) * K))
       · right; exact Nat.le_trans hall (countN_mono hsub)
       · left
         have hex : ∃ v, v < n /\ ¬ s v <= (k : Int) * K := by
           apply Classical.byContradiction
           intro hne
           have hle : countN n (fun _ => true) <= countN n (fun v => decide (s v <= (k : Int) * K)) := countN_mono fun v hv _ => by
             simp only [decide_eq_true_eq]
             apply Classical.byContradiction
             intro hv2
             exact hne ⟨v, hv, hv2⟩
           have hn : ∀ m, countN m (fun _ => true) = m := fun m => by induction m with | zero => rfl | succ m ih => simp [countN, ih]
           rw [hn] at hle
           exact hall hle
         obtain ⟨x, hx, hx2⟩ := hex
         have hk0 : 0 <= (k : Int) * K := Int.mul_nonneg (by omega) hK
         obtain ⟨v, u, hv, hu, ha, hb, hwu⟩ := hc (fun v => decide (¬ s v <= (k : Int) * K)) ⟨x, hx, by simpa using hx2⟩ ⟨q, hq, by simp; omega⟩
         simp only [decide_eq_true_eq] at ha
         have hb' : s u <= (k : Int) * K := by simpa using hb
         have hcut := cut_sum hs s (n := n) fun v => if s v <= (k : Int) * K then 0 else 1
         have hup2 := h ((k : Int) * K) hk0
         rw [hcut] at hup2
         have hnn : ∀ v, v < n -> 0 <= sumN n fun u => (if s v <= (k : Int) * K then 0 else 1) * (1 - if s u <= (k : Int) * K then 0 else 1) * (w v u * (s v - s u)) := fun v hv => sumN_nonneg fun u hu => by
           by_cases c1 : s v <= (k : Int) * K
           · rw [if_pos c1]; simp
           · by_cases c2 : s u <= (k : Int) * K
             · rw [if_neg c1, if_pos c2]
               have := Int.mul_nonneg (hw v u) (show 0 <= s v - s u by omega)
               omega
             · rw [if_neg c1, if_neg c2]; simp
         have t1 := sumN_ge hnn hv
         have t2 := sumN_ge (n := n) (c := u) (f := fun u => (if s v <= (k : Int) * K then 0 else 1) * (1 - if s u <= (k : Int) * K then 0 else 1) * (w v u * (s v - s u))) (fun u hu => by
           by_cases c2 : s u <= (k : Int) * K
           · rw [if_neg ha, if_pos c2]
             have := Int.mul_nonneg (hw v u) (show 0 <= s v - s u by omega)
             omega
           · rw [if_neg ha, if_neg c2]; simp) hu
         simp only [if_neg ha, if_pos hb'] at t1 t2
         have t3 := Int.mul_le_mul_of_nonneg_right (show (1 : Int) <= w v u by omega) (show 0 <= s v - s u by omega)
         have hlast : s v <= (k : Int) * K + K := by omega
         have := countN_lt hsub hv (by simpa using ha) (by simpa using hlast)
         omega
     · right; exact Nat.le_trans ih (countN_mono hsub)
 intro v hv
 have hfin := step n
 have hl := countN_le n (fun v => decide (s v <= (n : Int) * K))
 have := countN_all (n := n) (p := fun v => decide (s v <= (n : Int) * K)) (by omega) v hv
 simpa using this

structure Stl (n q : Nat) (es : List Tri) (d0 s0 d s : List Int) : Prop where
 dl : d.length = n
 sl : s.length = n
 eq : ∀ v, v < n -> d.getD v 0 = d0.getD v 0 - lap n (wgt es) (fun u => s.getD u 0 - s0.getD u 0) v
 up : ∀ v, v < n -> s0.getD v 0 <= s.getD v 0
 own : s.getD q 0 = s0.getD q 0
 pos : ∀ v, v < n -> v ≠ q -> 0 <= d.getD v 0
 low : d0.getD q 0 <= d.getD q 0
theorem stl_start {n q : Nat} {es : List Tri} {d0 s0 : List Int} (hd : d0.length = n) (hs : s0.length = n) (hp : ∀ v, v < n -> v ≠ q -> 0 <= d0.getD v 0) : Stl n q es d0 s0 d0 s0 :=
 ⟨hd, hs, fun v hv => by
   have : lap n (wgt es) (fun u => s0.getD u 0 - s0.getD u 0) v = 0 := sumN_zero fun u _ => by simp
   rw [this]; omega, fun _ _ => Int.le_refl _, rfl, hp, Int.le_refl _⟩
theorem stl_total {n q : Nat} {es : List Tri} {d0 s0 d s : List Int} (h : Stl n q es d0 s0 d s) : (sumN n fun v => d.getD v 0) = sumN n fun v => d0.getD v 0 := by
 have e : (sumN n fun v => d.getD v 0) = (sumN n fun v => d0.getD v 0) + -(sumN n fun v => lap n (wgt es) (fun u => s.getD u 0 - s0.getD u 0) v) := by
   rw [<- sumN_neg, <- sumN_add]
   exact sumN_congr fun v hv => by rw [h.eq v hv]; omega
 rw [e, lap_sum (wgt_sym es)]; omega
theorem sumN_but {n q : Nat} (hq : q < n) (f : Nat -> Int) (hp : ∀ v, v < n -> v ≠ q -> 0 <= f v) {v : Nat} (hv : v < n) (hne : v ≠ q) : f v <= sumN n f - f q := by
 have h := sumN_ge (n := n) (c := v) (f := fun u => if u = q then 0 else f u) (fun i hi => by
   split
   · exact Int.le_refl _
   · next c => exact hp i hi c) hv
 have e : sumN n f = (sumN n fun u => if u = q then 0 else f u) + sumN n fun u => if u = q then f u else 0 := by
   rw [<- sumN_add]; exact sumN_congr fun u _ => by split <;> omega
 have e2 : (sumN n fun u => if u = q then f u else 0) = f q := by
   rw [sumN_one (c := q) hq (fun i _ hi => by rw [if_neg hi]), if_pos rfl]
 simp only [if_neg hne] at h
 omega
theorem stl_bd {n q : Nat} {es : List Tri} {d0 s0 d s : List Int} (hE : Edges n es) (hc : Conn n (wgt es)) (hq : q < n) (h : Stl n q es d0 s0 d s) (h0 : ∀ v, v < n -> v ≠ q -> 0 <= d0.getD v 0) {T : Int} (hT : (sumN n fun v => d0.getD v 0) - d0.getD q 0 <= T) (hT0 : 0 <= T) :
   (∀ v, v < n -> v ≠ q -> d.getD v 0 <= T) /\ d.getD q 0 <= d0.getD q 0 + T /\ ∀ v, v < n -> s.getD v 0 - s0.getD v 0 <= n * T := by
 have htot := stl_total h
 have hlow := h.low
 refine ⟨fun v hv hne => ?_, ?_, ?_⟩
 · have := sumN_but hq (fun v => d.getD v 0) h.pos hv hne
   have this : d.getD v 0 <= (sumN n fun v => d.getD v 0) - d.getD q 0 := this
   omega
 · have hs := sumN_ge (n := n) (c := q) (f := fun u => if u = q then 0 else d.getD u 0) (fun i hi => by
     split
     · exact Int.le_refl _
     · next c => exact h.pos i hi c) hq
   have e : (sumN n fun v => d.getD v 0) = (sumN n fun u => if u = q then 0 else d.getD u 0) + sumN n fun u => if u = q then d.getD u 0 else 0 := by
     rw [<- sumN_add]; exact sumN_congr fun u _ => by split <;> omega
   have e2 : (sumN n fun u => if u = q then d.getD u 0 else 0) = d.getD q 0 := by
     rw [sumN_one (c := q) hq (fun i _ hi => by rw [if_neg hi]), if_pos rfl]
   have hs : (if q = q then (0 : Int) else d.getD q 0) <= _ := hs
   rw [if_pos rfl] at hs
   omega
 · refine script_le2 (wgt_nonneg hE.pos) (wgt_sym es) hc hq (by rw [h.own]; omega) hT0 fun c hcc => ?_
   have hterm : ∀ v, v < n -> (if s.getD v 0 - s0.getD v 0 <= c then 0 else 1) * lap n (wgt es) (fun u => s.getD u 0 - s0.getD u 0) v <= if v = q then 0 else d0.getD v 0 := fun v hv => by
     have e := h.eq v hv
     by_cases hvq : v = q
     · subst hvq
       rw [if_pos (by rw [h.own]; omega), if_pos rfl]; omega
     · rw [if_neg hvq]
       have p1 := h.pos v hv hvq
       have p2 := h0 v hv hvq
       split <;> omega
   refine Int.le_trans (sumN_mono hterm) ?_
   have e : (sumN n fun v => d0.getD v 0) = (sumN n fun u => if u = q then 0 else d0.getD u 0) + sumN n fun u => if u = q then d0.getD u 0 else 0 := by
     rw [<- sumN_add]; exact sumN_congr fun u _ => by split <;> omega
   have e2 : (sumN n fun u => if u = q then d0.getD u 0 else 0) = d0.getD q 0 := by
     rw [sumN_one (c := q) hq (fun i _ hi => by rw [if_neg hi]), if_pos rfl]
   omega
theorem stl_step {n q : Nat} {es : List Tri} {d0 s0 d s d' s' : List Int} (hE : Edges n es) (h : Stl n q es d0 s0 d s) (A : Nat -> Bool) (hq : q < n) (hA : A q = false) {k : Int} (hk : 0 <= k) (hdl : d'.length = n) (hsl : s'.length = n)
   (hd : ∀ v, v < n -> d'.getD v 0 = d.getD v 0 - lap n (wgt es) (fun u => if A u then k else 0) v) (hs : ∀ v, v < n -> s'.getD v 0 = s.getD v 0 + if A v then k else 0)
   (hmay : ∀ v, v < n -> A v = true -> k * outw n (wgt es) A v <= d.getD v 0) : Stl n q es d0 s0 d' s' := by
 have hw := wgt_nonneg hE.pos
 have hj : ∀ v, 0 <= k * joinw n (wgt es) A v := fun v => Int.mul_nonneg hk (sumN_nonneg fun u _ => by split; exact hw v u; exact Int.le_refl _)
 refine ⟨hdl, hsl, fun v hv => ?_, fun v hv => ?_, ?_, fun v hv hne => ?_, ?_⟩
 · rw [hd v hv, h.eq v hv, Int.sub_sub, <- lap_add]
   congr 1
   refine lap_congr hv fun u hu => ?_
   rw [hs u hu]; omega
 · rw [hs v hv]; have := h.up v hv; split <;> omega
 · rw [hs q hq, hA]; simpa using h.own
 · rw [hd v hv, lap_ind]
   have := h.pos v hv hne
   have := hj v
   cases ha : A v
   · simp only [Bool.false_eq_true, if_false]; omega
   · simp only [if_true]; have := hmay v hv ha; omega
 · rw [hd q hq, lap_ind, hA]
   have := h.low
   have := hj q
   simp only [Bool.false_eq_true, if_false]; omega

def TimesR (k : Nat) (es : List Tri) (d : List Int) (bt : List Bool) (tm : Int) : Prop :=
 (tm = 0 /\ ∀ v, v < k -> fnB bt v = false -> joinE es (fnB bt) v = 0) \/ (1 <= tm /\ ∀ v, v < k -> fnB bt v = false -> tm * joinE es (fnB bt) v <= fnD d v)
theorem fnB_not (bt : List Bool) {v : Nat} (hv : v < bt.length) : fnB (bt.map fun x => !x) v = !fnB bt v := by
 unfold fnB
 rw [List.getD_eq_getElem?_getD, List.getD_eq_getElem?_getD, List.getElem?_map, List.getElem?_eq_getElem hv]; rfl
theorem joinE_congr {es : List Tri} {n : Nat} (hE : Edges n es) {p p' : Nat -> Bool} {v : Nat} (h : ∀ u, u < n -> p u = p' u) : joinE es p v = joinE es p' v := by
 rw [<- join_edges hE.ends, <- join_edges hE.ends]
 unfold joinw
 exact sumN_congr fun u hu => by rw [h u hu]
theorem times_step {n k : Nat} {es : List Tri} {d : List Int} {bt : List Bool} {tm most : Int} (hE : Edges n es) (hc : Calm n es d bt) (hk : k < n) (h : TimesR k es d bt tm) (hj : 0 < joinE es (fnB bt) k) (hd : joinE es (fnB bt) k <= fnD d k) (hm : most = fnD d k / joinE es (fnB bt) k) :
   TimesR (k + 1) es d bt (if tm = 0 \/ most < tm then most else tm) := by
 have h1 : 1 <= most := by rw [hm]; exact (Int.le_ediv_iff_mul_le hj).2 (by omega)
 have h2 : most * joinE es (fnB bt) k <= fnD d k := by rw [hm]; exact Int.ediv_mul_le _ (by omega)
 have key : ∀ x, 1 <= x -> x <= most -> (∀ v, v < k -> fnB bt v = false -> x * joinE es (fnB bt) v <= fnD d v) -> TimesR (k + 1) es d bt x := fun x hx1 hx hall => .inr ⟨hx1, fun v hv hf => by
   rcases Nat.lt_or_ge v k with c | c
   · exact hall v c hf
   · have : v = k := by omega
     subst this
     exact Int.le_trans (Int.mul_le_mul_of_nonneg_right hx (by omega)) h2⟩
 rcases h with ⟨h0, hz⟩ | ⟨h3, h4⟩
 · rw [if_pos (.inl h0)]
   refine key most h1 (Int.le_refl _) fun v hv hf => ?_
   have := hc v (by omega) hf
   rw [hz v hv hf] at this ⊢
   omega
 · by_cases c : tm = 0 \/ most < tm
   · rw [if_pos c]
     have hlt : most < tm := by omega
     refine key most h1 (Int.le_refl _) fun v hv hf => ?_
     exact Int.le_trans (Int.mul_le_mul_of_nonneg_right (Int.le_of_lt hlt) (joinE_le hE.pos _ v).1) (h4 v hv hf)
   · rw [if_neg c]
     exact key tm h3 (by omega) h4
theorem times_skip {k : Nat} {es : List Tri} {d : List Int} {bt : List Bool} {tm : Int} (h : TimesR k es d bt tm) (hs : fnB bt k = true \/ (joinE es (fnB bt) k = 0 /\ 0 <= fnD d k)) : TimesR (k + 1) es d bt tm := by
 have key : ∀ v, v < k + 1 -> v < k \/ v = k := fun v hv => by omega
 rcases h with ⟨h0, hz⟩ | ⟨h3, h4⟩
 · refine .inl ⟨h0, fun v hv hf => ?_⟩
   rcases key v hv with c | rfl
   · exact hz v c hf
   · rcases hs with hs | hs
     · rw [hs] at hf; cases hf
     · exact hs.1
 · refine .inr ⟨h3, fun v hv hf => ?_⟩
   rcases key v hv with c | rfl
   · exact h4 v c hf
   · rcases hs with hs | hs
     · rw [hs] at hf; cases hf
     · rw [hs.1, Int.mul_zero]; exact hs.2
theorem settle_round {n q : Nat} {es : List Tri} {d0 s0 d s : List Int} {bt : List Bool} {tm : Int} (hE : Edges n es) (hc : Conn n (wgt es)) (hq : q < n) (h : Stl n q es d0 s0 d s) (hb : Burn n q es d bt) (hany : ∃ v, v < n /\ fnB bt v = false) (ht : TimesR n es d bt tm) :
   1 <= tm /\ (∃ v, v < n /\ fnB bt v = false /\ tm <= fnD d v) /\ Stl n q es d0 s0 (fireS (bt.map fun x => !x) tm es n d) (addS (bt.map fun x => !x) tm n s) := by
 have hout : ∀ v, outw n (wgt es) (fun u => !fnB bt u) v = joinE es (fnB bt) v := fun v => by rw [outw_not, join_edges hE.ends]
 obtain ⟨v, hv, hvA, hvo⟩ := some_out (wgt_nonneg hE.pos) hc (A := fun u => !fnB bt u) hq (by simp [hb.2.1]) (by obtain ⟨v, hv, hf⟩ := hany; exact ⟨v, hv, by simp [hf]⟩)
 rw [hout] at hvo
 have hvf : fnB bt v = false := by simpa using hvA
 rcases ht with ⟨h0, hz⟩ | ⟨h1, hle⟩
 · have := hz v hv hvf; omega
 · refine ⟨h1, ⟨v, hv, hvf, ?_⟩, stl_step hE h (fun u => !fnB bt u) hq (by simp [hb.2.1]) (k := tm) (by omega) (by rw [fireS_len]; exact h.dl) (by rw [addS_len]; exact h.sl) (fun x hx => ?_) (fun x hx => ?_) (fun x hx hxA => ?_)⟩
   · have h2 := hle v hv hvf
     have h3 := Int.mul_le_mul_of_nonneg_left (show (1 : Int) <= joinE es (fnB bt) v by omega) (show 0 <= tm by omega)
     omega
   · rw [fireS_get hE.ends h.dl _ _ (Nat.le_refl _) hx, <- lap_edges hE.ends]
     congr 1
     refine lap_congr hx fun u hu => ?_
     have := fnB_not bt (v := u) (by rw [hb.1]; exact hu)
     unfold fnB at this ⊢
     rw [this]
     by_cases c : (!bt.getD u false) = true
     · rw [if_pos ⟨hu, c⟩, if_pos c]
     · rw [if_neg fun hh => c hh.2, if_neg c]
   · rw [addS_get (by rw [h.sl]; exact Nat.le_refl _)]
     congr 1
     have := fnB_not bt (v := x) (by rw [hb.1]; exact hx)
     unfold fnB at this ⊢
     rw [this]
     by_cases c : (!bt.getD x false) = true
     · rw [if_pos ⟨hx, c⟩, if_pos c]
     · rw [if_neg fun hh => c hh.2, if_neg c]
   · rw [hout]
     exact hle x hx (by simpa using hxA)
theorem settle_end {n q : Nat} {es : List Tri} {d : List Int} {bt : List Bool} (hb : Burn n q es d bt) (hall : ∀ v, v < n -> fnB bt v = true) : Tight n (wgt es) q (fnD d) :=
 tight_of_burnt fun A hA hl v hv => hb.2.2 A hA hl v hv (hall v hv)
theorem any_false {bt : List Bool} {n : Nat} (hl : bt.length = n) (h : (bt.map fun x => !x).any id = false) : ∀ v, v < n -> fnB bt v = true := by
 intro v hv
 unfold fnB
 rw [List.getD_eq_getElem?_getD, List.getElem?_eq_getElem (by omega)]
 have := List.any_eq_false.1 h (!bt[v]'(by omega)) (List.mem_map.2 ⟨_, List.getElem_mem (by omega), rfl⟩)
 simpa using this
theorem any_true {bt : List Bool} {n : Nat} (hl : bt.length = n) (h : (bt.map fun x => !x).any id = true) : ∃ v, v < n /\ fnB bt v = false := by
 obtain ⟨x, hx, hx2⟩ := List.any_eq_true.1 h
 obtain ⟨y, hy, rfl⟩ := List.mem_map.1 hx
 obtain ⟨i, hi, rfl⟩ := List.getElem_of_mem hy
 refine ⟨i, by omega, ?_⟩
 unfold fnB
 rw [List.getD_eq_getElem?_getD, List.getElem?_eq_getElem hi]
 simpa using hx2
def roomN (n : Nat) (T : Int) (s0 s : List Int) : Nat := (sumN n fun v => (n : Int) * T - (s.getD v 0 - s0.getD v 0)).toNat
end Go.Proofs.YteamhbohgoclgaaGreatDoor
