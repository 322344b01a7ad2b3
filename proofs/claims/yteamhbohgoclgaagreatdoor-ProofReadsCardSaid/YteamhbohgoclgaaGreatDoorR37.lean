/- Contract of package proof's headed. (printed by gen/headed57.py) -/
import Derived.Test.YteamhbohgoclgaaGreatDoorR36
import Derived.Test.YteamhbohgoclgaaGreatDoorR18
import Derived.Test.YteamhbohgoclgaaGreatDoorR00
set_option maxRecDepth 100000
set_option maxHeartbeats 16000000
namespace Go.Proofs.YteamhbohgoclgaaGreatDoor
open Go.RowKit Go.Shelf
attribute [local go_sem] Oper.semAt_some
theorem add_one_3 (al : Addr) (x : Nat) : (al.add 1).add (3 * x) = al.add (3 * x + 1) := by
 unfold Addr.add
 rw [if_neg (by omega : ¬ (1 : Nat) = 0), if_neg (by omega : ¬ (3 * x + 1 = 0))]
 by_cases h : 3 * x = 0
 · rw [if_pos h, h]
 · rw [if_neg h]
   simp; omega
theorem add_three (al : Addr) (x j : Nat) : (⟨((al.add 1).add (3 * x)).block, ((al.add 1).add (3 * x)).off + j, none⟩ : Addr) = al.add (3 * x + 1 + j) := by
 rw [add_one_3]
 unfold Addr.add
 rw [if_neg (by omega : ¬ (3 * x + 1 = 0)), if_neg (by omega : ¬ (3 * x + 1 + j = 0))]
 simp; omega
theorem oeLoopP {w : World} {B : Nat} {v : Value} {ps : List Tri} (h : OE w B v ps) {l : Nat} {r : Loop} (hl : w.heap[l]? = some (.loop r)) (o : Obj) : OE (w.putObj l o) B v ps :=
 h.keepG fun g hg => World.putObj_heap_other (by
   obtain ⟨cur, hc, -⟩ := h.block_ hg
   rintro rfl
   rw [hc] at hl; cases hl)
theorem oeShut {w w' : World} {B C : Nat} {v : Value} {ps : List Tri} (h : OE w C v ps) (hs : Shut B w w') : OE w' C v ps :=
 h.keepG fun g hg => (hs.block g).resolve_right fun ⟨_, e⟩ => by
   obtain ⟨cur, hc, -⟩ := h.block_ hg
   rw [hc] at e; cases e
theorem pChunk_any (v : Value) (w : World) (hv : ∃ A n c, v = .slice A n c) : Calls Tryz.prog 44 #[v, .int .i64 3] w fun e w' =>
   e = .returned (.func (.func 76) #[] #[.pointer (some ⟨w.heap.size, 0, none⟩), .pointer (some ⟨w.heap.size + 1, 0, none⟩)]) /\ (w.alloc (.cells #[v] 37)).alloc (.cells #[.int .i64 3] 3) = w' := by
 obtain ⟨A, n, c, rfl⟩ := hv
 go_enter Tryz.func44, Tryz.ntmps44
 go_wp2
 go_ret
 exact ⟨rfl, rfl⟩
def HeI (w w2 : World) (sv : Value) (z0 : Int) (l : List Int) (pre : List Nat) (W : World) : Prop :=
 BL W w.heap.size 25 [.int .i64 0, .slice none 0 0] /\ (∃ vo, BL W w2.heap.size 25 [.int .i64 z0, vo] /\ OE W (w2.heap.size + 3) vo (triL ((l.drop 1).take (3 * pre.length)))) /\ CkPre w2 (w2.heap.size + 1) (w2.heap.size + 1 + 1) sv W /\ Below w.heap.size w W
theorem pHead_any (s : List UInt8) (w : World) (hlv : LV w) (hs : s.length <= 90000) :
   Calls Tryz.prog 24 #[strV s] w fun e w' => ∃ v, e = .returned (.tuple #[v, .int .i64 (hdE s)]) /\ (hdE s = 0 -> GV w' v (hdN s) (hdT s)) /\ (∃ (z : Int) (A : Option Addr) (l c : Nat), v = .agg #[.int .i64 z, .slice A l c]) /\ Below w.heap.size w w' := by
 obtain ⟨Wr, hWr⟩ : ∃ Wr, Wr = w.alloc (.cells #[.int .i64 0, .slice none 0 0] 25) := ⟨_, rfl⟩
 have hbr : Below w.heap.size w Wr := by rw [hWr]; exact below_alloc w _
 have hxr : BL Wr w.heap.size 25 [.int .i64 0, .slice none 0 0] := by rw [hWr]; exact BL.new' w _ _
 have HBr := Hd hbr
 have HXr := Hd hxr
 have HWr := Hd hWr
 have HLVr := Hd (hlv.below hbr)
 have HSp := Hd (split_any s 32 Wr HLVr.out (by omega))
 clear hWr hbr hxr hlv
 have hwp := splitL_part 32 s
 have hsl := splitL_length 32 s
 have hwn := splitL_ne 32 s
 have HN0 : Hid (hdN s = (numsV ((splitL 32 s).drop 1)).getD 0 0) := rfl
 have HT0 : Hid (hdT s = triL ((numsV ((splitL 32 s).drop 1)).drop 1)) := rfl
 have HE0 : Hid (hdE s = if (splitL 32 s).getD 0 [] ≠ [103, 114, 97, 112, 104] \/ (splitL 32 s).length % 3 ≠ 2 then 4
   else if numsE ((splitL 32 s).drop 1) ≠ 0 then numsE ((splitL 32 s).drop 1) else ofE (hdN s) (hdT s)) := rfl
 generalize hdN s = n at *
 generalize hdT s = es at *
 generalize hdE s = E at *
 generalize splitL 32 s = ws at *
 have hw0 : 0 < ws.length := List.length_pos_iff.2 hwn
 have HWp : Hid (∀ x ∈ ws, x.length <= 1000000) := fun x hx => by have := hwp x hx; omega
 have HWl : Hid (ws.length <= 90001) := by show _ <= _; omega
 clear hwp hwn hsl hs
 refine (callsIn_wide (n := 3)).1 ?_
 refine callsIn_of_wp_marks Tryz.func24 rfl trivial ?_ rfl
 refine wpIn_wide.2 ?_
 simp only [Tryz.ntmps24, List.size_toArray, List.length_cons, List.length_nil, Nat.reduceAdd, Nat.reduceSub, Array.replicate_succ, Array.replicate_zero, List.push_toArray, List.append_toArray, List.nil_append, List.cons_append]
 go_wp2_with fail
 rw [<- HWr.out]
 refine HSp.out.mono ?_
 rintro e w1 ⟨v1, rfl, hr1, hb1⟩
 have HX1 := Hd (HXr.out.bel hb1)
 obtain ⟨A1, c1, rfl, hlc1, hcl1⟩ := hr1.open_
 obtain ⟨ad1, rfl, had1, hc01⟩ := hcl1 0 hw0
 rw [add_zero'] at hc01
 have HR1 := Hd hr1
 have HL1 := Hd (HLVr.out.below hb1)
 have HB1 := Hd (HBr.out.trans (hb1.mono HBr.out.size))
 have hZ : (ByteArray.mk (ws.getD 0 []).toArray).toList = ws.getD 0 [] := ByteArray.toList_mk _
 rw [show strV (ws.getD 0 []) = .string ⟨(ws.getD 0 []).toArray⟩ from rfl] at hc01
 generalize (⟨(ws.getD 0 []).toArray⟩ : ByteArray) = Z at *
 have HZ := Hd hZ
 clear hr1 hb1 hcl1 HSp hZ
 have hwb : (ws.length : Int) <= 90001 := by have := HWl.out; omega
 have hwl0 : (0 : Int) < (ws.length : Int) := by omega
 by_cases hw : ws.getD 0 [] ≠ [103, 114, 97, 112, 104]
 · skip
   have hR : Hid (E = 4) := by show _ = _; rw [HE0.out, if_pos (.inl hw)]
   have t1 : (Z.toList == [103, 114, 97, 112, 104]) = false := by rw [HZ.out]; simpa using hw
   clear HN0 HT0 HE0 hw
   have x0 := HX1.out.cell 0
   have x1 := HX1.out.cell 1
   have z0 := HX1.out.frozen 0
   have z1 := HX1.out.frozen 1
   have HX9 := Hd ((HX1.out.set 0 (.int .i64 0)).set 1 (.slice none 0 0))
   have HB9 := Hd ((HB1.out.setCell (p := ⟨w.heap.size, 0, none⟩) (Nat.le_refl _) (.int .i64 0)).setCell (p := ⟨w.heap.size, 1, none⟩) (Nat.le_refl _) (.slice none 0 0))
   go_wp2
   refine leaves_marks (B := w.heap.size) [] _ trivial fun w' hs => ⟨_, results_row_tmp rfl _ _ w.heap.size 25 #[.int .i64 0, .slice none 0 0] (0, 0) _ rfl (HX9.out.shut hs) Tryz.underlying25 rfl graph_size, ?_⟩
   exact ⟨_, by rw [hR.out]; rfl, fun h => absurd (hR.out.symm.trans h) (by decide), ⟨0, none, 0, 0, rfl⟩, Below.shut HB9.out hs⟩
 have t1 : (Z.toList == [103, 114, 97, 112, 104]) = true := by rw [HZ.out]; simpa using hw
 by_cases hm : ws.length % 3 ≠ 2
 · skip
   have hR : Hid (E = 4) := by show _ = _; rw [HE0.out, if_pos (.inr hm)]
   have t2 : ((ws.length : Int) % 3 != 2) = true := by simp; omega
   clear HN0 HT0 HE0 hw hm
   have x0 := HX1.out.cell 0
   have x1 := HX1.out.cell 1
   have z0 := HX1.out.frozen 0
   have z1 := HX1.out.frozen 1
   have HX9 := Hd ((HX1.out.set 0 (.int .i64 0)).set 1 (.slice none 0 0))
   have HB9 := Hd ((HB1.out.setCell (p := ⟨w.heap.size, 0, none⟩) (Nat.le_refl _) (.int .i64 0)).setCell (p := ⟨w.heap.size, 1, none⟩) (Nat.le_refl _) (.slice none 0 0))
   go_wp2
   refine leaves_marks (B := w.heap.size) [] _ trivial fun w' hs => ⟨_, results_row_tmp rfl _ _ w.heap.size 25 #[.int .i64 0, .slice none 0 0] (0, 0) _ rfl (HX9.out.shut hs) Tryz.underlying25 rfl graph_size, ?_⟩
   exact ⟨_, by rw [hR.out]; rfl, fun h => absurd (hR.out.symm.trans h) (by decide), ⟨0, none, 0, 0, rfl⟩, Below.shut HB9.out hs⟩
 have HE1 : Hid (E = if numsE (ws.drop 1) ≠ 0 then numsE (ws.drop 1) else ofE n es) := by show _ = _; rw [HE0.out, if_neg (by rintro (h | h); exact hw h; exact hm h)]
 have t2 : ((ws.length : Int) % 3 != 2) = false := by simp; omega
 have hc1 : c1 ≠ 1 := by omega
 have hs1 := RS.sub (i := 1) (j := ws.length) HR1.out (by omega) (by omega)
 rw [List.take_of_length_le (Nat.le_refl _), if_neg hc1, show ad1.add 1 = ⟨ad1.block, ad1.off + 1, none⟩ by simp [Addr.add]] at hs1
 have HNu := Hd (pParsed_any _ (ws.drop 1) w1 hs1 HL1.out (by have := HWl.out; rw [List.length_drop]; omega) fun x hx => HWp.out x (List.mem_of_mem_drop hx))
 have hw2 : 2 <= ws.length := by omega
 have HLn : Hid ((numsV (ws.drop 1)).length = ws.length - 1) := by show _ = _; rw [numsV_len, List.length_drop]
 have HM3 : Hid (ws.length % 3 = 2) := by show _ = _; omega
 clear HE0 hw hm hs1
 generalize numsE (ws.drop 1) = ne at *
 generalize numsV (ws.drop 1) = l at *
 have f1 : 2 <= c1 := by omega
 go_wp2_with fail
 refine HNu.out.mono ?_
 rintro e w2 ⟨vl, rfl, hl2, hb2⟩
 have HB2 := Hd (HB1.out.trans (hb2.mono HB1.out.size))
 have HX2 := Hd (HX1.out.bel hb2)
 by_cases hne : ne ≠ 0
 · skip
   have hR : Hid (E = ne) := by show _ = _; rw [HE1.out, if_pos hne]
   have t3 : (ne != 0) = true := by simpa using hne
   have hEne : Hid (ne ≠ 0) := hne
   clear HN0 HT0 HE1 HNu hl2 hb2 hne
   have x0 := HX2.out.cell 0
   have x1 := HX2.out.cell 1
   have z0 := HX2.out.frozen 0
   have z1 := HX2.out.frozen 1
   have HX9 := Hd ((HX2.out.set 0 (.int .i64 0)).set 1 (.slice none 0 0))
   have HB9 := Hd ((HB2.out.setCell (p := ⟨w.heap.size, 0, none⟩) (Nat.le_refl _) (.int .i64 0)).setCell (p := ⟨w.heap.size, 1, none⟩) (Nat.le_refl _) (.slice none 0 0))
   go_wp2
   refine leaves_marks (B := w.heap.size) [] _ trivial fun w' hs => ⟨_, results_row_tmp rfl _ _ w.heap.size 25 #[.int .i64 0, .slice none 0 0] (0, 0) _ rfl (HX9.out.shut hs) Tryz.underlying25 rfl graph_size, ?_⟩
   exact ⟨_, by rw [hR.out]; rfl, fun h => absurd (hR.out.symm.trans h) (hEne.out), ⟨0, none, 0, 0, rfl⟩, Below.shut HB9.out hs⟩
 have h00 : ne = 0 := by omega
 subst h00
 have HE2 : Hid (E = ofE n es) := by show _ = _; rw [HE1.out, if_neg hne]
 have HLs := Hd (hl2 rfl).ri
 obtain ⟨k, hk⟩ : ∃ k, ws.length = 3 * k + 2 := ⟨ws.length / 3, by have := HM3.out; omega⟩
 clear hl2 hb2 hne HE1 HNu HR1 HWp hc01 HZ
 have hlen : l.length = 3 * k + 1 := by have := HLn.out; omega
 obtain ⟨Al, cl, rfl, hlcl, -, hcell⟩ := HLs.out.open_
 obtain ⟨al, z0, rfl, hal, hz0, hcl0⟩ := hcell 0 (by omega)
 rw [add_zero'] at hcl0
 have hz : z0 = n := by
   have h := hz0.out
   rw [HN0.out, List.getD_eq_getElem?_getD, h]; rfl
 subst hz
 have HCe := Hd hcell
 rw [hlen] at hlcl HLs ⊢
 have HLen := Hd hlen
 have hal0 : (0 : Int) < ((3 * k + 1 : Nat) : Int) := by omega
 have hpos : 0 < 3 * k + 1 := by omega
 have hkl : k < 100000 := by have := HWl.out; omega
 have hH2 := HB2.out.size
 have HH2' := Hd HX2.out.lt
 clear HN0 HLn hlen hcell hz0 had1 hlc1 hc1 t1 t2 hw2 f1 hw0 hk hwl0
 obtain ⟨len, hle⟩ : ∃ len, len = 3 * k + 1 := ⟨_, rfl⟩
 rw [<- hle] at hlcl HLs hal0 hpos ⊢
 obtain ⟨W3, hW3⟩ : ∃ W3, W3 = w2.alloc (.cells #[.int .i64 z0, .slice none 0 0] 25) := ⟨_, rfl⟩
 obtain ⟨ad3, hA3⟩ : ∃ ad3, ad3 = if cl = 1 then al else al.add 1 := ⟨_, rfl⟩
 have hslice : ∀ W : World, (Instr.slice 37 (.slice (some al) len cl) (some (.int .i64 1)) none none).run Tryz.prog W = .ok (.slice (some ad3) (3 * k) (cl - 1)) W := fun W => by
   rw [run_slice_l W 37 (some al) len cl Tryz.underlying37 .i64 1 (by omega) (by omega), hA3]
   by_cases h1 : cl = 1
   · simp [go_sem, h1]; omega
   · simp [go_sem, h1]; omega
 have HCk := Hd (fun W : World => pChunk_any (.slice (some ad3) (3 * k) (cl - 1)) W ⟨_, _, _, rfl⟩)
 have HA3 := Hd hA3
 have HW3 := Hd hW3
 have HLe := Hd hle
 have hz3 : W3.heap.size = w2.heap.size + 1 := by rw [hW3]; simp
 have HZ3 := Hd hz3
 have hx3 : BL W3 w2.heap.size 25 [.int .i64 z0, .slice none 0 0] := by rw [hW3]; exact BL.new' w2 _ _
 have HX3 := Hd hx3
 have HB3 : Hid (Below w2.heap.size w2 W3) := by show Below _ _ _; rw [hW3]; exact below_alloc w2 _
 clear hW3 hA3 hz3 hx3 hle
 go_upto_region 8 with fail
 rw [<- HW3.out]
 go_wp2_with fail
 refine (HCk.out _).mono ?_
 rintro e W4 ⟨rfl, hW4⟩
 rw [HZ3.out]
 go_wp2_with fail
 have HP0 : Hid (CkPre w2 (w2.heap.size + 1) (w2.heap.size + 1 + 1) (.slice (some ad3) (3 * k) (cl - 1)) W4) := by
   have hA := BL.new' W3 #[.slice (some ad3) (3 * k) (cl - 1)] 37
   have hB := BL.new' (W3.alloc (.cells #[.slice (some ad3) (3 * k) (cl - 1)] 37)) #[.int .i64 3] 3
   rw [World.size_alloc] at hB
   rw [HZ3.out] at hA hB
   refine ⟨by rw [<- hW4]; exact hA.alloc _, by rw [<- hW4]; exact hB, ?_⟩
   rw [<- hW4]
   exact (HB3.out.alloc HB3.out.size _).alloc (by have := HB3.out.size; simp; omega) _
 have hb34 : Below W3.heap.size W3 W4 := by rw [<- hW4]; exact (below_alloc W3 _).alloc (by simp) _
 have hz4 : W4.heap.size = w2.heap.size + 3 := by rw [<- hW4]; simp [HZ3.out]
 have HI4 : Hid (HeI w w2 (.slice (some ad3) (3 * k) (cl - 1)) z0 l [] W4) := by
   have h23 := HB3.out.trans (hb34.mono HB3.out.size)
   refine ⟨HX2.out.bel h23, ⟨_, HX3.out.bel hb34, OE.nil_ _ _⟩, HP0.out, HB2.out.trans (h23.mono HB2.out.size)⟩
 have HZ4 := Hd hz4
 have HCp := Hd (hal : al.block < w2.heap.size)
 have HIt := Hd (pChunk1_iter w2 (w2.heap.size + 1) (w2.heap.size + 1 + 1) ad3 k (cl - 1) (by have := HLe.out; omega) (by omega))
 have HKl : Hid (k < 100000) := hkl
 have HLc := Hd hlcl
 clear hb34 hz4 hW4 hcl0
 obtain ⟨i1, hi1, hz01, hz11, hz21⟩ := info_parts' edge_info
 have HSz := HZ4.out
 refine (wpIn_wide (n := 3)).1 ?_
 refine wpIn_rangeFunc_iter (gf := 76) (lb := #[.pointer (some ⟨w2.heap.size + 1, 0, none⟩), .pointer (some ⟨w2.heap.size + 1 + 1, 0, none⟩)]) rfl (enters_of Tryz.func76 (by kernel_rfl) rfl)
   HIt.out (fun _ => rfl) ?hR ?hKt ?hKp (fun _ _ _ _ _ h _ => h) (HeI w w2 (.slice (some ad3) (3 * k) (cl - 1)) z0 l) (fun _ _ _ => False) ?hI ?hIx ?hIR ?hIxR ?hpre ?h0
   (fun x => { tmps := #[strV s, undef, .pointer (some ⟨w.heap.size, 0, none⟩), .int .i64 0, .slice (some ad1) ws.length c1, .slice (some al) len cl, .int .i64 0, .pointer (some ⟨w2.heap.size, 0, none⟩), .slice (some (ad3.add (3 * x))) 3 3, undef, strV s, .slice (some ad1) ws.length c1, .slice (some ad1) ws.length c1, .pointer (some ad1), .string Z, .bool false, .bool false, .slice (some ad1) ws.length c1, .int .i64 (ws.length : Int), .int .i64 ((ws.length : Int) % 3), .bool false, .bool false, undef, .tuple #[.slice (some al) len cl, .int .i64 0], .slice (some ad1) ws.length c1, .slice (some ⟨ad1.block, ad1.off + 1, none⟩) (ws.length - 1) (c1 - 1), .tuple #[.slice (some al) len cl, .int .i64 0], .slice (some al) len cl, .int .i64 0, .int .i64 0, .bool false, undef, undef, .slice (some al) len cl, .pointer (some al), .int .i64 z0, .agg #[.int .i64 z0, .slice none 0 0], .slice (some al) len cl, .slice (some ad3) (3 * k) (cl - 1), .func (.func 76) #[] #[.pointer (some ⟨w2.heap.size + 1, 0, none⟩), .pointer (some ⟨w2.heap.size + 1 + 1, 0, none⟩)], .slice (some (ad3.add (3 * x))) 3 3, undef, undef, undef, undef, undef, undef, undef, undef, undef, undef, undef, undef, undef, undef, undef, undef, undef, undef, undef, undef, undef, undef], defers := [] }) ?assign ?body ?done ?stop
 case hR => intro A B h hs; exact ⟨h.block _ (by omega), h.block _ (by omega)⟩
 case hKt => rintro A B C ⟨h1, h2, h5⟩ ⟨h3, h4, h6⟩; exact ⟨h1.trans h3, h4.trans h2, h6.trans h5⟩
 case hKp =>
   intro W r o hl
   exact ⟨below_putLoop (Below.refl _ _) (by omega) o, World.putObj_heap_other (by omega), World.putObj_heap_other (by omega)⟩
 case hI =>
   rintro pre W r o ⟨h1, ⟨vo, h2, h3⟩, ⟨h4, h5, h6⟩, h7⟩ hl
   exact ⟨h1.putLoop hl o, ⟨vo, h2.putLoop hl o, oeLoopP h3 hl o⟩, ⟨h4.putLoop hl o, h5.putLoop hl o, below_putLoop h6 (by omega) o⟩, below_putLoop h7 (by omega) o⟩
 case hIx => rintro c pre W r o h; exact h.elim
 case hIR =>
   rintro pre A B ⟨h1, ⟨vo, h2, h3⟩, h4, h7⟩ hr
   exact ⟨h1.bel hr, ⟨vo, h2.bel hr, h3.below hr⟩, h4.below hr, h7.trans (hr.mono h7.size)⟩
 case hIxR => rintro c pre A B h; exact h.elim
 case hpre =>
   intro r
   have hb := (below_alloc W4 (.deferred (some []))).alloc (by simp) (.loop r)
   exact HI4.out.2.2.1.below hb
 case h0 =>
   intro r
   obtain ⟨h1, ⟨vo, h2, h3⟩, h4, h7⟩ := HI4.out
   have hr := (below_alloc W4 (.deferred (some []))).alloc (by simp) (.loop r)
   exact ⟨h1.bel hr, ⟨vo, h2.bel hr, h3.below hr⟩, h4.below hr, h7.trans (hr.mono h7.size)⟩
 case assign =>
   intro lb x W K hK
   gi_wp2
   exact hK
 case body =>
   rintro lb pre x W r ⟨h1, ⟨vo, h2, h3⟩, h4, h7⟩ ⟨hpre, hxk⟩ hl hd
   dsimp only
   clear HSz
   have hpl : pre.length = x := by rw [hpre]; simp
   have hx' : 3 * x + 3 < l.length := by have := HLen.out; omega
   obtain ⟨_, a, e0, -, ha, d1⟩ := HCe.out (3 * x + 1) (by omega)
   cases e0
   obtain ⟨_, b, e0, -, hbb, d2⟩ := HCe.out (3 * x + 1 + 1) (by omega)
   cases e0
   obtain ⟨_, c, e0, -, hc, d3⟩ := HCe.out (3 * x + 1 + 2) (by omega)
   cases e0
   have HTr : Hid (triL ((l.drop 1).take (3 * (x + 1))) = triL ((l.drop 1).take (3 * x)) ++ [(a, b, c)]) := by
     refine triL_snoc (l.drop 1) x a b c ?_
     rw [List.drop_drop, List.drop_drop]
     rw [show 1 + 3 * x = 3 * x + 1 by omega, show 1 + 3 * (x + 1) = 3 * x + 1 + 1 + 1 + 1 by omega, drop_at ha, drop_at hbb, drop_at hc]
   have hll : (triL ((l.drop 1).take (3 * x))).length = x := triL_len _ x (by rw [List.length_take, List.length_drop]; omega)
   rw [hpl] at h3
   obtain ⟨A1, c1', rfl⟩ := h3.shape
   have h3e : ad3 = al.add 1 := by have := HA3.out; rw [if_neg (by have := HLe.out; have := HLc.out; omega)] at this; exact this
   have hgt : ∀ j z, w2.cell? (al.add (3 * x + 1 + j)) = some (.int .i64 z) -> W.cell? ⟨(ad3.add (3 * x)).block, (ad3.add (3 * x)).off + j, none⟩ = some (.int .i64 z) := fun j z h => by
     rw [h3e, add_three]
     exact (h4.2.2.cell (by rw [block_of_add]; exact HCp.out)).trans h
   have g0 := hgt 0 a d1
   have g1 := hgt 1 b d2
   have g2 := hgt 2 c d3
   rw [h3e, add_three, Nat.add_zero, <- add_one_3, <- h3e] at g0
   generalize triL ((l.drop 1).take (3 * x)) = ts at *
   rw [hll] at h2 h3
   have y1 := h2.cell 1
   have hk2 := HKl.out
   have hhn := h4.2.1.lt
   have hhl := HH2'.out
   have hH := hH2
   have hod := OE.below (w' := W.drew) h3 (Below.refl _ _).drew
   obtain ⟨g9, cap2, w', hrun, hown, hgr, hat⟩ := run_append_tri (P := Tryz.prog) W.drew 23 23 i1 _ 24 Tryz.underlying23 hi1 hz01 hz11 hz21 (by omega) rfl (w2.heap.size + 3) _ _ hod a b c (by omega) (by show _ <= W.heap.size; omega)
   rw [hll] at hrun hown
   obtain ⟨WF, hWF⟩ : ∃ WF, WF = w'.setCell ⟨w2.heap.size, 1, none⟩ (.slice (some ⟨g9, 0, none⟩) (x + 1) cap2) := ⟨_, rfl⟩
   have hX3 : BL w' w2.heap.size 25 [.int .i64 z0, .slice A1 x c1'] := BL.grown (w := W.drew.alloc (.cells #[.int .i64 a, .int .i64 b, .int .i64 c] 68)) (BL.alloc (BL.drew h2) _) hgr (fun e => by have := (hod.block_ e).choose_spec.2.1; omega)
   have bl : ∀ (bb : Nat) (T : TypeId) (us : List Value), BL W bb T us -> bb < w2.heap.size + 3 -> bb ≠ w2.heap.size -> BL WF bb T us := fun bb T us h hb hn => by
     rw [hWF]
     exact (BL.grown (w := W.drew.alloc (.cells #[.int .i64 a, .int .i64 b, .int .i64 c] 68)) (BL.alloc (BL.drew h) _) hgr (fun e => by have := (hod.block_ e).choose_spec.2.1; omega)).set_other (a := ⟨w2.heap.size, 1, none⟩) (by simpa using fun e => hn e) _
   have hbW : Below w2.heap.size W WF := by
     rw [hWF]
     have q1 : Below w2.heap.size W W.drew := (Below.refl _ _).drew
     exact ((q1.alloc (by show _ <= W.heap.size; omega) _).grown hgr (by simp; omega) (fun k hk => by have := (hod.block_ hk).choose_spec.2.1; omega)).setCell (p := ⟨w2.heap.size, 1, none⟩) (Nat.le_refl _) _
   have hoF : OE WF (w2.heap.size + 3) (.slice (some ⟨g9, 0, none⟩) (x + 1) cap2) (triL ((l.drop 1).take (3 * (x + 1)))) := by
     rw [HTr.out, hWF]; exact hown.set hX3 (by decide) 1 _
   have hgF : BL WF w2.heap.size 25 [.int .i64 z0, .slice (some ⟨g9, 0, none⟩) (x + 1) cap2] := by rw [hWF]; exact hX3.set 1 _
   have kept : ∀ (j : Nat) (o : Obj), W.heap[j]? = some o -> o.isCells = false -> WF.heap[j]? = W.heap[j]? := fun j o ho hn => by
     have hj := lt_of_block ho
     have hne : j ≠ w2.heap.size := by
       rintro rfl
       have h := h2
       unfold BL at h
       rw [h] at ho; cases ho; cases hn
     rw [hWF, heap_setCell_other _ _ _ _ hne]
     have hal : (W.drew.alloc (.cells #[.int .i64 a, .int .i64 b, .int .i64 c] 68)).heap[j]? = W.heap[j]? := Below.heap_alloc _ _ _ hj
     refine (hgr.block j (by simp; omega) ?_).trans hal
     intro hv
     obtain ⟨cur, hc, -⟩ := h3.block_ hv.symm
     rw [ho] at hc
     injection hc with hc
     subst hc
     cases hn
   have HFin : Hid ((∀ (lb' : Nat) (o' : Obj), W.heap[lb']? = some o' -> o'.isCells = false -> WF.heap[lb']? = W.heap[lb']?) /\ CkK w2 (w2.heap.size + 1) (w2.heap.size + 1 + 1) W WF /\ HeI w w2 (.slice (some ad3) (3 * k) (cl - 1)) z0 l (pre ++ [x]) WF) := by
     have q1 := bl _ _ _ h4.1 (by omega) (by omega)
     have q2 := bl _ _ _ h4.2.1 (by omega) (by omega)
     refine ⟨kept, ⟨hbW, q1.trans h4.1.symm, q2.trans h4.2.1.symm⟩, bl _ _ _ h1 (by omega) (by omega), ⟨_, hgF, ?_⟩, ⟨q1, q2, h4.2.2.trans hbW⟩, h7.trans (hbW.mono hH)⟩
     rw [List.length_append, hpl]; exact hoF
   have s4 := hX3.cell 1
   have hba : Below w2.heap.size W (W.alloc (.cells #[.int .i64 a, .int .i64 b, .int .i64 c] 68)).drew := ((Below.refl w2.heap.size W).alloc (by omega) _).drew
   have r4 := (h2.bel ((below_alloc W (.cells #[.int .i64 a, .int .i64 b, .int .i64 c] 68)).drew)).cell 1
   have hb4 : Below w2.heap.size W w' := by
     have q1 : Below w2.heap.size W W.drew := (Below.refl _ _).drew
     exact (q1.alloc (by show _ <= W.heap.size; omega) _).grown hgr (by simp; omega) (fun k hk => by have := (hod.block_ hk).choose_spec.2.1; omega)
   have hHK : Hid (∀ V : World, Below w2.heap.size W V -> V.cell? (ad3.add (3 * x)) = some (.int .i64 a) /\ V.cell? ⟨(ad3.add (3 * x)).block, (ad3.add (3 * x)).off + 1, none⟩ = some (.int .i64 b) /\ V.cell? ⟨(ad3.add (3 * x)).block, (ad3.add (3 * x)).off + 2, none⟩ = some (.int .i64 c)) := fun V hV => by
     have q : (ad3.add (3 * x)).block < w2.heap.size := by rw [block_of_add, h3e, block_of_add]; exact HCp.out
     exact ⟨(hV.cell q).trans g0, (hV.cell (p := ⟨(ad3.add (3 * x)).block, (ad3.add (3 * x)).off + 1, none⟩) q).trans g1, (hV.cell (p := ⟨(ad3.add (3 * x)).block, (ad3.add (3 * x)).off + 2, none⟩) q).trans g2⟩
   have HS0 := Hd (hHK.out W.drew (Below.refl _ _).drew)
   have HS1 := Hd (hHK.out _ hba)
   have HS2 := Hd (hHK.out _ hb4)
   have HS3 := Hd (hHK.out _ hbW)
   rw [hWF] at HS3
   have s5 := hX3.frozen 1
   have HWF := Hd hWF
   have HLo := Hd hl
   have HDe := Hd hd
   clear kept bl hbW hoF hgF hX3 hown hgr hat h1 h2 h3 h4 h7 hod hWF hl hd hhn hhl hH hk2 d1 d2 d3 ha hbb hc hgt hx' hpl hpre
   clear hba hb4 hHK g0 g1 g2
   have hrunB := hrun
   change (Builtin.append_ #[23, 23] 23 #[_, .slice (some ⟨W.heap.size, 0, none⟩) 1 1]).run Tryz.prog (W.drew.alloc (.cells #[.int .i64 a, .int .i64 b, .int .i64 c] 68)) = _ at hrunB
   change (Builtin.append_ #[23, 23] 23 _).run Tryz.prog (W.alloc (.cells #[.int .i64 a, .int .i64 b, .int .i64 c] 68)).drew = _ at hrun
   change (Builtin.append_ #[23, 23] 23 #[_, .slice (some ⟨W.heap.size, 0, none⟩) 1 1]).run Tryz.prog _ = _ at hrun
   clear h3e
   generalize ad3.add (3 * x) = AD at *
   gi_wp2_with fail
   refine wide_held_round (fun W : World => W.cell? AD = some (.int .i64 a) /\ W.cell? ⟨AD.block, AD.off + 1, none⟩ = some (.int .i64 b) /\ W.cell? ⟨AD.block, AD.off + 2, none⟩ = some (.int .i64 c)) (by kernel_rfl) (by kernel_rfl) (fun ⟨a, w, h⟩ => h) HS0.out (fun hHeld => ?_)
   refine tkY (v := ?_) 0 (some 41) rfl (.inl ⟨by rfl, ?_⟩) ?_
   rotate_left
   · (intro w hSw; (try dsimp only at hSw); go_simp; try with_reducible rfl)
   try simp only [Act.put, tk1, tk2, tk3]
   refine tkY (v := ?_) 2 (some 43) rfl (.inl ⟨by rfl, ?_⟩) ?_
   rotate_left
   · (intro w hSw; (try dsimp only at hSw); go_simp; try with_reducible rfl)
   try simp only [Act.put, tk1, tk2, tk3]
   refine tkY (v := ?_) 3 (some 44) rfl (.inl ⟨by rfl, ?_⟩) ?_
   rotate_left
   · (intro w hSw; (try dsimp only at hSw); go_simp; try with_reducible rfl)
   try simp only [Act.put, tk1, tk2, tk3]
   refine tkY (v := ?_) 4 (some 45) rfl (.inl ⟨by rfl, ?_⟩) ?_
   rotate_left
   · (intro w hSw; (try dsimp only at hSw); go_simp; try with_reducible rfl)
   try simp only [Act.put, tk1, tk2, tk3]
   refine tkY (v := ?_) 5 (some 46) rfl (.inl ⟨by rfl, ?_⟩) ?_
   rotate_left
   · (intro w hSw; (try dsimp only at hSw); go_simp; try with_reducible rfl)
   try simp only [Act.put, tk1, tk2, tk3]
   refine tkY (v := ?_) 6 (some 47) rfl (.inl ⟨by rfl, ?_⟩) ?_
   rotate_left
   · (intro w hSw; (try dsimp only at hSw); go_simp; try with_reducible rfl)
   try simp only [Act.put, tk1, tk2, tk3]
   refine tkY (v := ?_) 7 (some 48) rfl (.inl ⟨by rfl, ?_⟩) ?_
   rotate_left
   · (intro w hSw; (try dsimp only at hSw); go_simp; try with_reducible rfl)
   try simp only [Act.put, tk1, tk2, tk3]
   refine tkY (v := ?_) 8 (some 49) rfl (.inl ⟨by rfl, ?_⟩) ?_
   rotate_left
   · (intro w hSw; (try dsimp only at hSw); go_simp; try with_reducible rfl)
   try simp only [Act.put, tk1, tk2, tk3]
   refine tkY (v := ?_) 9 (some 50) rfl (.inl ⟨by rfl, ?_⟩) ?_
   rotate_left
   · (intro w hSw; (try dsimp only at hSw); go_simp; try with_reducible rfl)
   try simp only [Act.put, tk1, tk2, tk3]
   refine tkY (v := ?_) 10 (some 51) rfl (.inl ⟨by rfl, ?_⟩) ?_
   rotate_left
   · (intro w hSw; (try dsimp only at hSw); go_simp; try with_reducible rfl)
   try simp only [Act.put, tk1, tk2, tk3]
   refine tkY (v := ?_) 11 (some 52) rfl (.inl ⟨by rfl, ?_⟩) ?_
   rotate_left
   · (intro w hSw; (try dsimp only at hSw); go_simp; try with_reducible rfl)
   try simp only [Act.put, tk1, tk2, tk3]
   refine wpAnyH_ready (rs := [1, 12]) (by kernel_rfl) (by simp) ?_
   refine AllReadyH.cons (o := { dst := some 42, op := _, type := _, pos := _, after := _, guard := _ }) rfl (fun K hK => ?_) (AllReadyH.cons (o := { dst := some 53, op := _, type := _, pos := _, after := _, guard := _ }) rfl (fun K hK => ?_) AllReadyH.nil)
   · go_simp
     clear hHeld
     refine hK.out _ _ (by first | exact HS0.out | exact HS1.out | exact HS2.out | exact HS3.out) (fun hHeld => ?_)
     clear hK K
     try simp only [Act.put, tk1, tk2, tk3]
     refine wpAnyH_ready (rs := [12]) (by kernel_rfl) (by simp) ?_
     refine AllReadyH.cons (o := { dst := some 53, op := _, type := _, pos := _, after := _, guard := _ }) rfl (fun K hK => ?_) AllReadyH.nil
     go_simp
     clear hHeld
     refine hK.out _ _ (by first | exact HS0.out | exact HS1.out | exact HS2.out | exact HS3.out) (fun hHeld => ?_)
     clear hK K
     try simp only [Act.put, tk1, tk2, tk3]
     refine wpAnyH_ready (rs := [13]) (by kernel_rfl) (by simp) ?_
     refine AllReadyH.cons (o := { dst := some 54, op := _, type := _, pos := _, after := _, guard := _ }) rfl (fun K hK => ?_) AllReadyH.nil
     (refine step_append' rfl (.tmp 42) (.tmp 53) 23 rfl (.slice A1 x c1') (.slice (some ⟨W.heap.size, 0, none⟩) 1 1) (by simp [Act.eval]) (by simp [Act.eval]) _ _ (by first | exact hrun | exact hrunB) ?_)
     clear hHeld
     refine hK.out _ _ (by first | exact HS0.out | exact HS1.out | exact HS2.out | exact HS3.out) (fun hHeld => ?_)
     clear hK K
     try simp only [Act.put, tk1, tk2, tk3]
     refine tkY (v := ?_) 14 (some 55) rfl (.inl ⟨by rfl, ?_⟩) ?_
     rotate_left
     · (intro w hSw; (try dsimp only at hSw); go_simp; try with_reducible rfl)
     try simp only [Act.put, tk1, tk2, tk3]
     refine wpAnyH_ready (rs := [15]) (by kernel_rfl) (by simp) ?_
     refine AllReadyH.cons (o := { dst := none, op := _, type := _, pos := _, after := _, guard := _ }) rfl (fun K hK => ?_) AllReadyH.nil
     go_simp
     clear hHeld
     refine hK.out _ _ (by first | exact HS0.out | exact HS1.out | exact HS2.out | exact HS3.out) (fun hHeld => ?_)
     clear hK K
     try simp only [Act.put, tk1, tk2, tk3]
     refine wpAnyH_done (by kernel_rfl) ?_ _
     refine NoPanic.normal ?_
     rw [<- HWF.out]
     gi_wp2
     exact ⟨⟨HFin.out.1 _ _ HDe.out rfl, HFin.out.1 _ _ HLo.out rfl⟩, HFin.out.2.1, HFin.out.2.2⟩
   · go_simp
     clear hHeld
     refine hK.out _ _ (by first | exact HS0.out | exact HS1.out | exact HS2.out | exact HS3.out) (fun hHeld => ?_)
     clear hK K
     try simp only [Act.put, tk1, tk2, tk3]
     refine wpAnyH_ready (rs := [1]) (by kernel_rfl) (by simp) ?_
     refine AllReadyH.cons (o := { dst := some 42, op := _, type := _, pos := _, after := _, guard := _ }) rfl (fun K hK => ?_) AllReadyH.nil
     go_simp
     clear hHeld
     refine hK.out _ _ (by first | exact HS0.out | exact HS1.out | exact HS2.out | exact HS3.out) (fun hHeld => ?_)
     clear hK K
     try simp only [Act.put, tk1, tk2, tk3]
     refine wpAnyH_ready (rs := [13]) (by kernel_rfl) (by simp) ?_
     refine AllReadyH.cons (o := { dst := some 54, op := _, type := _, pos := _, after := _, guard := _ }) rfl (fun K hK => ?_) AllReadyH.nil
     (refine step_append' rfl (.tmp 42) (.tmp 53) 23 rfl (.slice A1 x c1') (.slice (some ⟨W.heap.size, 0, none⟩) 1 1) (by simp [Act.eval]) (by simp [Act.eval]) _ _ (by first | exact hrun | exact hrunB) ?_)
     clear hHeld
     refine hK.out _ _ (by first | exact HS0.out | exact HS1.out | exact HS2.out | exact HS3.out) (fun hHeld => ?_)
     clear hK K
     try simp only [Act.put, tk1, tk2, tk3]
     refine tkY (v := ?_) 14 (some 55) rfl (.inl ⟨by rfl, ?_⟩) ?_
     rotate_left
     · (intro w hSw; (try dsimp only at hSw); go_simp; try with_reducible rfl)
     try simp only [Act.put, tk1, tk2, tk3]
     refine wpAnyH_ready (rs := [15]) (by kernel_rfl) (by simp) ?_
     refine AllReadyH.cons (o := { dst := none, op := _, type := _, pos := _, after := _, guard := _ }) rfl (fun K hK => ?_) AllReadyH.nil
     go_simp
     clear hHeld
     refine hK.out _ _ (by first | exact HS0.out | exact HS1.out | exact HS2.out | exact HS3.out) (fun hHeld => ?_)
     clear hK K
     try simp only [Act.put, tk1, tk2, tk3]
     refine wpAnyH_done (by kernel_rfl) ?_ _
     refine NoPanic.normal ?_
     rw [<- HWF.out]
     gi_wp2
     exact ⟨⟨HFin.out.1 _ _ HDe.out rfl, HFin.out.1 _ _ HLo.out rfl⟩, HFin.out.2.1, HFin.out.2.2⟩
 case done =>
   rintro xs W rfl ⟨h1, ⟨vo, h2, h3⟩, h4, h7⟩ hD
   rw [List.length_range] at h3
   have hoe : OE W (w2.heap.size + 3) vo es := by
     rw [HT0.out]
     rwa [List.take_of_length_le (by have := HLen.out; rw [List.length_drop]; omega)] at h3
   clear h3
   have HG1 : Hid (GV W (.agg #[.int .i64 z0, vo]) z0 es) := ⟨vo, rfl, hoe.ev⟩
   obtain ⟨Av, cv, rfl⟩ := hoe.shape
   have HCo := Hd (pConn_any _ z0 es W HG1.out)
   have hEE : Hid (eGiven z0 es [] = E) := by show _ = _; rw [HE2.out]; rfl
   rw [hEE.out] at HCo
   have y0 := h2.cell 0
   have y1 := h2.cell 1
   have H1 := Hd h1
   have H2 := Hd h2
   have H7 := Hd h7
   have HOe := Hd hoe
   have HD := Hd hD
   clear h1 h2 h4 h7 hoe hD HSz
   go_wp2_with fail
   refine HCo.out.mono ?_
   rintro e w9 ⟨rfl, hb9⟩
   have HB9a := Hd (H7.out.trans (hb9.mono H7.out.size))
   have HX3a := Hd (H1.out.bel hb9)
   have HO3 := Hd (HOe.out.below hb9)
   have HXg9 := Hd (H2.out.bel hb9)
   have HD9 := Hd (show w9.heap[w2.heap.size + 3]? = some (.deferred (some [])) by have h := (hb9.block _ (lt_of_block HD.out)).trans HD.out; rwa [HZ4.out] at h)
   clear hb9 y0 y1 HCo
   have x0 := HX3a.out.cell 0
   have x1 := HX3a.out.cell 1
   have q0 := HX3a.out.frozen 0
   have q1 := HX3a.out.frozen 1
   have hhl := HH2'.out
   have hzz := HZ4.out
   by_cases hE0 : E ≠ 0
   · have hne : Hid (E ≠ 0) := hE0
     have t3 : (E != 0) = true := by simpa using hE0
     have HX9 := Hd ((HX3a.out.set 0 (.int .i64 0)).set 1 (.slice none 0 0))
     have HB9 := Hd ((HB9a.out.setCell (p := ⟨w.heap.size, 0, none⟩) (Nat.le_refl _) (.int .i64 0)).setCell (p := ⟨w.heap.size, 1, none⟩) (Nat.le_refl _) (.slice none 0 0))
     clear hE0 HE2 hEE
     go_wp2
     refine leaves_marks (B := w.heap.size) [_] _ ⟨⟨_, rfl, by omega, ((heap_setCell_other _ _ _ _ (by simp; omega)).trans (heap_setCell_other _ _ _ _ (by simp; omega))).trans HD9.out, by simp⟩, trivial⟩ fun w' hs => ⟨_, results_row_tmp rfl _ _ w.heap.size 25 #[.int .i64 0, .slice none 0 0] (0, 0) _ rfl (HX9.out.shut hs) Tryz.underlying25 rfl graph_size, ?_⟩
     exact ⟨_, rfl, fun h => absurd h hne.out, ⟨0, none, 0, 0, rfl⟩, Below.shut HB9.out hs⟩
   · obtain rfl : E = 0 := by omega
     have HX9 := Hd ((HX3a.out.set 0 (.int .i64 z0)).set 1 (.slice Av es.length cv))
     have HB9 := Hd ((HB9a.out.setCell (p := ⟨w.heap.size, 0, none⟩) (Nat.le_refl _) (.int .i64 z0)).setCell (p := ⟨w.heap.size, 1, none⟩) (Nat.le_refl _) (.slice Av es.length cv))
     have HO9 := Hd ((HO3.out.set HX3a.out (by decide) 0 (.int .i64 z0)).set (HX3a.out.set 0 (.int .i64 z0)) (by decide) 1 (.slice Av es.length cv))
     have y0 := HXg9.out.cell 0
     have y1 := HXg9.out.cell 1
     clear hE0 HE2 hEE
     go_wp2
     refine leaves_marks (B := w.heap.size) [_] _ ⟨⟨_, rfl, by omega, ((heap_setCell_other _ _ _ _ (by simp; omega)).trans (heap_setCell_other _ _ _ _ (by simp; omega))).trans HD9.out, by simp⟩, trivial⟩ fun w' hs => ⟨_, results_row_tmp rfl _ _ w.heap.size 25 #[.int .i64 z0, .slice Av es.length cv] (0, 0) _ rfl (HX9.out.shut hs) Tryz.underlying25 rfl graph_size, ?_⟩
     exact ⟨_, rfl, ⟨_, rfl, (oeShut HO9.out hs).ev⟩, ⟨z0, Av, es.length, cv, rfl⟩, Below.shut HB9.out hs⟩
 case stop => rintro c pre W - h; exact h.elim
end Go.Proofs.YteamhbohgoclgaaGreatDoor
