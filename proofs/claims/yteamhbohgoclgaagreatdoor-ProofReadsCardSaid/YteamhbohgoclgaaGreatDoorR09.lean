/- Contract of reduced's distances. -/
import Derived.Test.YteamhbohgoclgaaGreatDoorR08
set_option maxRecDepth 100000
set_option maxHeartbeats 16000000
namespace Go.Proofs.YteamhbohgoclgaaGreatDoor
open Go.RowKit Go.Shelf
attribute [local go_sem] Oper.semAt_some

def disF (b bo bq : Nat) (u : Nat -> Value) (ds : List Deferred) : Act := { tmps := #[.pointer (some ⟨b, 0, none⟩), u 1, .slice none 0 0, .pointer (some ⟨bo, 0, none⟩), .pointer (some ⟨bq, 0, none⟩), u 5, u 6, u 7, u 8, u 9, u 10, u 11, u 12, u 13, u 14, u 15, u 16, u 17, u 18, u 19, u 20, u 21, u 22, u 23, u 24, u 25, u 26, u 27, u 28, u 29, u 30, u 31, u 32, u 33, u 34, u 35, u 36, u 37, u 38, u 39, u 40, u 41, u 42, u 43, u 44, u 45, u 46, u 47, u 48, u 49, u 50, u 51, u 52, u 53, u 54, u 55], defers := ds }
def DisR (w : World) (bo bq g n q : Nat) (es : List Tri) (o : List Int) (Q : List Nat) (gq : Nat) (vq : Value) (ds : List Deferred) (wr : World) : Prop :=
 BL wr bo 37 [.slice (some ⟨g, 0, none⟩) n n] /\ BL wr bq 37 [vq] /\ QI wr gq vq Q /\ (g < gq /\ w.heap.size <= g) /\ OI wr w.heap.size (.slice (some ⟨g, 0, none⟩) n n) o /\ Below w.heap.size w wr /\ Bf n q es o Q none [] /\ Marks w.heap.size ds wr
theorem Below.shut {B : Nat} {w W W' : World} (h : Below B w W) (hs : Shut B W W') : Below B w W' :=
 h.trans ⟨hs.os, hs.tape, hs.output, by rw [hs.size]; exact Nat.le_refl _, fun k hk => (hs.block k).resolve_right fun c => by omega⟩
theorem repL_all (n : Nat) : repL n n = (List.replicate n (-1 : Int)).map (Value.int .i64) := by simp [repL]
theorem distances_any (b eb n q : Nat) (ve vd vs : Value) (es : List Tri) (w : World) (hE : Edges n es) (hn : n <= 12) (hq : q < n) (hc : Conn n (wgt es))
   (hST : ST w b n ve q vd vs 0) (hEB : EB w ve es eb) (heb : eb < w.heap.size) :
   Calls Tryz.prog 258 #[.pointer (some ⟨b, 0, none⟩)] w fun e w' => ∃ g o, e = .returned (.slice (some ⟨g, 0, none⟩) n n) /\ w.heap.size <= g /\ OI w' w.heap.size (.slice (some ⟨g, 0, none⟩) n n) o /\ Dist n q es o /\ Below w.heap.size w w' := by
 have hbz : b < w.heap.size := BL.lt hST
 have n0 : w.cell? ⟨b, 0, none⟩ = some (.int .i64 (n : Int)) := BL.cell hST 0
 have HST := Hd hST
 have HEB := Hd hEB
 have HE := Hd hE
 have HC := Hd hc
 obtain ⟨W1, hW1⟩ : ∃ W1, W1 = w.alloc (.cells #[.int .i64 (-1)] 3) := ⟨_, rfl⟩
 have hb1 : Below w.heap.size w W1 := by rw [hW1]; exact below_alloc w _
 have n1 : W1.cell? ⟨b, 0, none⟩ = some (.int .i64 (n : Int)) := BL.cell (BL.bel hST hb1) 0
 have hri : RI W1 (.slice (some ⟨w.heap.size, 0, none⟩) 1 1) [-1] := by rw [hW1]; exact RV.lit w #[.int .i64 (-1)] 3 1 rfl (by omega)
 have HRep := Hd (Repeat_any _ n (by omega) hn W1 hri)
 have HB1 := Hd hb1
 have HW1 := Hd hW1
 rw [hW1] at n1
 clear hST hEB hE hc hW1 hb1 hri
 refine (callsIn_wide (n := 3)).1 ?_
 refine callsIn_of_wp_marks Tryz.func258 rfl trivial ?_ rfl
 refine wpIn_wide.2 ?_
 simp only [Tryz.ntmps258, List.size_toArray, List.length_cons, List.length_nil, Nat.reduceAdd, Nat.reduceSub, Array.replicate_succ, Array.replicate_zero, List.push_toArray, List.append_toArray, List.nil_append, List.cons_append]
 go_wp2_with fail
 rw [<- HW1.out]
 refine HRep.out.mono ?_
 rintro e w2 ⟨rfl, hlt2, hbl2, hb2⟩
 have hz1 : W1.heap.size = w.heap.size + 1 := by rw [HW1.out]; simp
 rw [hz1] at hbl2 hlt2 hb2 ⊢
 obtain ⟨W3, hW3⟩ : ∃ W3, W3 = w2.alloc (.cells #[.slice (some ⟨w.heap.size + 1, 0, none⟩) n n] 37) := ⟨_, rfl⟩
 have hb3 : Below w2.heap.size w2 W3 := by rw [hW3]; exact below_alloc w2 _
 have hbw3 : Below w.heap.size w W3 := HB1.out.trans ((hb2.mono (by omega)).trans (hb3.mono (by omega)))
 have o3 : OI W3 w.heap.size (.slice (some ⟨w.heap.size + 1, 0, none⟩) n n) (List.replicate n (-1)) := by
   have h := BL.bel hbl2 hb3
   unfold BL at h
   rw [repL_all] at h
   exact ⟨⟨by simp, .inr ⟨w.heap.size + 1, n, _, by simp, by omega, h, by simp, by unfold maxLen; omega, by simp, by simp⟩⟩, by simp; omega⟩
 have x3 : BL W3 w2.heap.size 37 [.slice (some ⟨w.heap.size + 1, 0, none⟩) n n] := by rw [hW3]; exact BL.new' w2 _ _
 have q3 : W3.cell? ⟨b, 2, none⟩ = some (.int .i64 (q : Int)) := BL.cell (BL.bel HST.out hbw3) 2
 have c3 := x3.cell 0
 obtain ⟨-, -, e1, f1, est⟩ := OI.at' o3 (k := q) (by simpa using hq)
 have HSet := Hd (est 0).1
 have HW3 := Hd hW3
 have HX3 := Hd x3
 have HB3 := Hd hbw3
 have HZ3 : Hid (W3.heap.size = w2.heap.size + 1) := by show _ = _; rw [hW3]; simp
 obtain ⟨W4, hW4⟩ : ∃ W4, W4 = (W3.setCell ⟨w.heap.size + 1, q, none⟩ (.int .i64 0)).drew := ⟨_, rfl⟩
 have q4 : W4.cell? ⟨b, 2, none⟩ = some (.int .i64 (q : Int)) := by rw [hW4]; exact BL.cell (BL.set_other (BL.bel HST.out hbw3) (by simp; omega) _) 2
 have HO4 : Hid (OI W4 w.heap.size (.slice (some ⟨w.heap.size + 1, 0, none⟩) n n) ((List.replicate n (-1)).set q 0)) := by rw [hW4]; exact HSet.out
 have HX4 : Hid (BL W4 w2.heap.size 37 [.slice (some ⟨w.heap.size + 1, 0, none⟩) n n]) := by rw [hW4]; exact HX3.out.set_other (by simp; omega) _
 have HB4 : Hid (Below w.heap.size w W4) := by rw [hW4]; exact (hbw3.setCell (p := ⟨w.heap.size + 1, q, none⟩) (by simp) _).drew
 have HZ4 : Hid (W4.heap.size = w2.heap.size + 1) := by show _ = _; rw [hW4, hW3]; simp
 have HW4 := Hd hW4
 rw [hW4] at q4
 clear hbl2 hb2 hW3 hb3 hbw3 o3 x3 est n1 n0 hW4
 go_wp2_with fail
 rw [<- HW3.out]
 refine wp_region_still_tail 6 (by kernel_rfl) (by kernel_rfl) ?_
 change wpStill _ _ W3.drew _ _ _
 simp only [List.take_succ_cons, List.take_zero, List.drop_succ_cons, List.drop_zero]
 repeat still_step
 refine wpStill_nil ?_
 change wpList _ _ _ _ _ W3.drew
 go_wp2_with fail
 refine wp_loop_ghost (fun m a wr => ∃ k u ds, (∃ o Q gq vq, DisR w w2.heap.size (W3.heap.size + 1) (w.heap.size + 1) n q es o Q gq vq ds wr /\ m = 2 * un n o + Q.length + 0 * k) /\ a = disF b w2.heap.size (W3.heap.size + 1) u ds) (2 * un n ((List.replicate n (-1)).set q 0) + 1) ?start ?round
 case start =>
   refine ex_act (P := fun k u ds => ∃ o Q gq vq, DisR w w2.heap.size (W3.heap.size + 1) (w.heap.size + 1) n q es o Q gq vq ds _ /\ 2 * un n ((List.replicate n (-1)).set q 0) + 1 = 2 * un n o + Q.length + 0 * k) (F := fun _ => disF b w2.heap.size (W3.heap.size + 1)) 0 ⟨(List.replicate n (-1)).set q 0, [q], W3.heap.size, .slice (some ⟨W3.heap.size, 0, none⟩) 1 1, ⟨?_, ?_, ?_, ?_, ?_, ?_, ?_, ?_⟩, ?_⟩ ?_
   · exact ((HX3.out.set_other (by simp; omega) _).alloc _).alloc _
   · have h := BL.new' ((W3.setCell ⟨w.heap.size + 1, q, none⟩ (.int .i64 0)).alloc (.cells #[.int .i64 (q : Int)] 3)) #[.slice (some ⟨W3.heap.size, 0, none⟩) 1 1] 37
     rw [World.size_alloc, World.size_setCell] at h
     exact h
   · have h := BL.new' (W3.setCell ⟨w.heap.size + 1, q, none⟩ (.int .i64 0)) #[.int .i64 (q : Int)] 3
     rw [World.size_setCell] at h
     exact ⟨0, 1, _, rfl, (h.alloc _), by simp, by simp, fun j x hj => by simpa [natV] using hj⟩
   · have := HZ3.out; omega
   · exact OI.below HSet.out ((below_alloc _ _).alloc (by simp) _).drew
   · exact (((HB3.out.setCell (p := ⟨w.heap.size + 1, q, none⟩) (by simp) _).alloc (by have := HZ3.out; simp; omega) _).alloc (by have := HZ3.out; simp; omega) _).drew
   · exact bf_start hq
   · trivial
   · simp
   · rfl
 case round =>
   rintro m _ wr ⟨_, u, ds, ⟨o, Q, gq, vq, ⟨hbo, hbq, hqi, hgq, hoi, hbw, hbf, hmk⟩, hm⟩, rfl⟩
   unfold disF
   have HBo := Hd hbo
   have HBq := Hd hbq
   have HQi := Hd hqi
   have HOi := Hd hoi
   have HBw := Hd hbw
   have HBf := Hd hbf
   have HMk := Hd hmk
   have HM := Hd hm
   have c1 := hbo.cell 0
   have c2 := hbq.cell 0
   have f2 := hbq.frozen 0
   have hbol := hbo.lt
   have hbql := hbq.lt
   clear hbo hbq hqi hoi hbw hbf hmk hm
   cases Q with
   | nil =>
     obtain ⟨off, cap, cur, hvq, -⟩ := HQi.out
     have HVq := Hd hvq
     rw [hvq] at c2
     clear hvq
     go_wp2
     refine leaves_marks (B := w.heap.size) ds _ (HMk.out.keep fun _ _ _ => rfl) fun w' hs => ⟨_, results_tmp rfl _ _ _, w.heap.size + 1, o, rfl, by omega, OV.shut HOi.out hs, bf_end HE.out hq HC.out HBf.out, Below.shut HBw.out hs⟩
   | cons v Q =>
     obtain ⟨off, cap, hvq, hcap, hcell, htail⟩ := HQi.out.head
     have hgql := HQi.out.lt
     obtain ⟨hvn, hv0⟩ := HBf.out.inQ v (by simp)
     have HVq := Hd hvq
     have HTl := Hd htail
     have hgqb : gq ≠ W3.heap.size + 1 := by
       rintro rfl
       obtain ⟨_, _, cur', _, hh, _⟩ := HQi.out
       have := HBq.out
       unfold BL at this
       rw [this] at hh
       simp at hh
     rw [hvq] at c2
     have hql : Q.length <= 24 := by have := HBf.out.hi q hq; have := HBf.out.q0; simp at *; omega
     obtain ⟨vq2, hvq2, hQ2⟩ : ∃ vq2, vq2 = (if cap = 1 then Value.slice (some ⟨gq, off, none⟩) Q.length 0 else .slice (some ⟨gq, off + 1, none⟩) Q.length (cap - 1)) /\ QI wr gq vq2 Q := ⟨_, rfl, by
       by_cases c : cap = 1
       · subst c; simpa using htail
       · simpa [c] using htail⟩
     obtain ⟨W5, hW5⟩ : ∃ W5, W5 = (wr.setCell ⟨W3.heap.size + 1, 0, none⟩ vq2).alloc (.cells #[.int .i64 (v : Int)] 3) := ⟨_, rfl⟩
     have HZ5 : Hid (W5.heap.size = wr.heap.size + 1) := by show _ = _; rw [hW5]; simp
     have HBo5 : Hid (BL W5 w2.heap.size 37 [.slice (some ⟨w.heap.size + 1, 0, none⟩) n n]) := by rw [hW5]; exact (HBo.out.set_other (by have := HZ3.out; simp; omega) _).alloc _
     have HBq5 : Hid (BL W5 (W3.heap.size + 1) 37 [vq2]) := by rw [hW5]; exact (HBq.out.set 0 vq2).alloc _
     have HV5 : Hid (BL W5 wr.heap.size 3 [.int .i64 (v : Int)]) := by
       have h := BL.new' (wr.setCell ⟨W3.heap.size + 1, 0, none⟩ vq2) #[.int .i64 (v : Int)] 3
       rw [World.size_setCell] at h
       rw [hW5]; exact h
     have HQ5 : Hid (QI W5 gq vq2 Q) := by rw [hW5]; exact QI.below (hQ2.keep (heap_setCell_other wr _ gq _ (by simpa using hgqb))) (below_alloc _ _)
     have HB5 : Hid (Below w.heap.size w W5) := by rw [hW5]; exact (HBw.out.setCell (p := ⟨W3.heap.size + 1, 0, none⟩) (by have := HZ3.out; have := HB3.out.size; simp; omega) _).alloc (by have := HBw.out.size; simp; omega) _
     have HO5 : Hid (OI W5 w.heap.size (.slice (some ⟨w.heap.size + 1, 0, none⟩) n n) o) := by rw [hW5]; exact OI.below (HOi.out.setOther (by simp; have := HZ3.out; omega) _) (below_alloc _ _)
     have HMk5 : Hid (Marks w.heap.size ds W5) := by
       rw [hW5]
       refine HMk.out.keep fun b' hb' h => ?_
       rw [Below.heap_alloc _ _ b' (by rw [World.size_setCell]; exact lt_of_block h)]
       exact heap_setCell_other wr _ b' _ (by rintro rfl; have h1 := HBq.out; unfold BL at h1; rw [h1] at h; cases h)
     have HW5 := Hd hW5
     have HVq2 := Hd hvq2
     clear hvq htail hvq2 hW5 hQ2
     by_cases hc1 : cap = 1
     · go_wp2_with fail
       have hvq3 := HVq2.out
       first
       | rw [if_pos hc1] at hvq3
       | rw [if_neg hc1] at hvq3
       rw [<- hvq3, <- HW5.out]
       clear hvq3
       refine (links_any b v _).mono ?_
       rintro e' w6 ⟨rfl, rfl⟩
       go_wp2
       obtain ⟨W6, hW6⟩ : ∃ W6, W6 = (W5.alloc (.cells #[.pointer (some ⟨b, 0, none⟩)] 285)).alloc (.cells #[.int .i64 (v : Int)] 3) := ⟨_, rfl⟩
       have hb6 : Below W5.heap.size W5 W6 := by rw [hW6]; exact (below_alloc W5 _).alloc (by simp) _
       have HI6 : Hid (DiI w W5.heap.size (W5.heap.size + 1) wr.heap.size w2.heap.size (W3.heap.size + 1) (w.heap.size + 1) b v eb n ve q vd vs es o Q ds [] W6) := by
         have hz5 := HZ5.out
         refine ⟨⟨?_, ?_, BL.bel HST.out (HB5.out.trans (hb6.mono HB5.out.size)), HEB.out.below (HB5.out.trans (hb6.mono HB5.out.size))⟩, HV5.out.bel hb6, HBo5.out.bel hb6, ⟨gq, vq2, HBq5.out.bel hb6, HQ5.out.below hb6, hgq.1, by omega, by omega⟩, HO5.out.below hb6, (Fr.ofBelow HB5.out).below hb6, bf_pop HBf.out, HMk5.out.keep fun b' _ h => hb6.block b' (lt_of_block h)⟩
         · rw [hW6]; exact (BL.new' W5 _ _).alloc _
         · rw [hW6]
           have := BL.new' (W5.alloc (.cells #[.pointer (some ⟨b, 0, none⟩)] 285)) #[.int .i64 (v : Int)] 3
           rwa [World.size_alloc] at this
       have HZ6 : Hid (W6.heap.size = W5.heap.size + 2) := by show _ = _; rw [hW6]; simp
       rw [<- hW6]
       clear hW6 hb6
       have HPop := Hd hvn
       have HPre6 := Hd HI6.out.1
       have HMk6 := Hd HI6.out.2.2.2.2.2.2.2
       have HB6 := Hd HI6.out.2.2.2.2.2.1.below_
       have hw5 := HB5.out.size
       refine (wpIn_wide (n := 3)).1 ?_
       refine wpIn_rangeFunc_iter (gf := 343) (lb := #[.pointer (some ⟨W5.heap.size, 0, none⟩), .pointer (some ⟨W5.heap.size + 1, 0, none⟩)]) rfl (enters_of Tryz.func343 (by kernel_rfl) rfl)
         (links1_iter W5.heap.size (W5.heap.size + 1) b v eb n ve q vd vs 0 es HE.out hvn hn) (fun _ => rfl) ?hR LkK_trans ?hKp (fun _ _ _ _ _ h _ => h) (DiI w W5.heap.size (W5.heap.size + 1) wr.heap.size w2.heap.size (W3.heap.size + 1) (w.heap.size + 1) b v eb n ve q vd vs es o Q ds) (fun _ _ _ => False) ?hI (fun _ _ _ _ _ h _ => h) ?hIR (fun _ _ _ _ h _ => h) ?hpre ?h0
         ?a1 ?assign ?body ?done ?stop
       case assign =>
         intro l x W K' hK'
         gi_wp2
         exact hK'
       case hR => intro A C h hs; have hz6 := HZ6.out; exact ⟨h.block _ (by omega), h.block _ (by omega)⟩
       case hKp => intro W r o _; have hz6 := HZ6.out; exact LkK_put W _ (by simp; omega)
       case hI =>
         intro pre W r o h hl
         have hz6 := HZ6.out
         have hz5 := HZ5.out
         obtain ⟨h1, h2, h3, ⟨gq', vq', h4, h5, h6⟩, h7, h8, h9, h10⟩ := h
         exact ⟨h1.keep (LkK_put W o (by simp; omega)), h2.putLoop hl o, h3.putLoop hl o, ⟨gq', vq', h4.putLoop hl o, h5.putLoop hl o, h6⟩, OV.putLoop' h7 hl o, h8.putLoop (by omega) o, h9, h10.keep fun b' _ h => World.putObj_heap_other (by rintro rfl; rw [hl] at h; cases h)⟩
       case hIR => intro pre A C h hr; exact h.below hr
       case hpre => intro r; exact HPre6.out.below ((below_alloc W6 _).alloc (by simp) _)
       case h0 => intro r; exact HI6.out.below ((below_alloc W6 (.deferred (some []))).alloc (by simp) (.loop r))
       case stop => rintro c pre W _ h _; exact h.elim
       case done =>
         rintro xs W hS ⟨h1, h2, h3, ⟨gq', vq', h4, h5, h6⟩, h7, h8, h9, h10⟩ hD
         subst hS
         have HD' := Hd hD
         have H3 := Hd h3
         have H4 := Hd h4
         have H5 := Hd h5
         have H6 := Hd h6
         have H7 := Hd h7
         have H8 := Hd h8
         have H9 := Hd h9
         have H10 := Hd h10
         have hmeas := bfsI_meas (n := n) (v := v) (l := linksL es v) (fun x hx => by have := links_mem HE.out hvn hx; omega) (o := o) (Q := Q) HBf.out.len hv0
         have HMeas := Hd hmeas
         clear hD h1 h2 h3 h4 h5 h6 h7 h8 h9 h10 hmeas
         go_wp2
         refine ⟨2 * un n (bfsI v (linksL es v) (o, Q)).1 + (bfsI v (linksL es v) (o, Q)).2.length, ?_, ex_act (P := fun k u ds => ∃ o' Q' gq vq, DisR w w2.heap.size (W3.heap.size + 1) (w.heap.size + 1) n q es o' Q' gq vq ds _ /\ 2 * un n (bfsI v (linksL es v) (o, Q)).1 + (bfsI v (linksL es v) (o, Q)).2.length = 2 * un n o' + Q'.length + 0 * k) (F := fun _ => disF b w2.heap.size (W3.heap.size + 1)) 0 ⟨_, _, gq', vq', ⟨H3.out, H4.out, H5.out, ⟨H6.out.1, hgq.2⟩, H7.out, H8.out.below_, bf_done H9.out, H10.out.push HMk6.out (Nat.le_refl _) (by have := HB6.out.size; omega) HD'.out⟩, by omega⟩ rfl⟩
         have := HM.out
         have := HMeas.out
         simp only [List.length_cons] at *
         omega
       case body =>
         rintro l pre ⟨u0, m0⟩ W r ⟨h1, h2, h3, ⟨gq', vq', h4, h5, h6⟩, h7, h8, h9, h10⟩ ⟨rest, hrest⟩ hl hd
         have hmem : (u0, m0) ∈ linksL es v := by rw [<- hrest]; simp
         obtain ⟨hu0, hu1, hu2, -, -⟩ := links_mem HE.out hvn hmem
         simp only at hu0 hu1 hu2
         obtain ⟨y, rfl⟩ := Int.eq_ofNat_of_zero_le hu0
         have hyv : y ≠ v := by omega
         have hyn : y < n := by omega
         have hBf' := bf_step HE.out h9 hmem hq
         have HSt : Hid (bfsI v (pre ++ [((y : Int), m0)]) (o, Q) = bfsT v (bfsI v pre (o, Q)) ((y : Int), m0)) := bfsI_snoc _ _ _ _
         have hpair : ((bfsI v pre (o, Q)).1, (bfsI v pre (o, Q)).2) = bfsI v pre (o, Q) := rfl
         rw [hpair, <- HSt.out] at hBf'
         have HBf' := Hd hBf'
         have hol := h9.len
         obtain ⟨hv1, hv2, -, hhi, -, hlen⟩ := h9.seen v rfl
         have hQl : (bfsI v pre (o, Q)).2.length <= 24 := by omega
         generalize hst : bfsI v pre (o, Q) = st at *
         obtain ⟨o2, Q2⟩ := st
         dsimp only at *
         have b1 := h2.cell 0
         have c1' := h3.cell 0
         obtain ⟨-, -, eu, fu, estu⟩ := OI.at' h7 (k := y) (by omega)
         obtain ⟨-, -, ev, fv, -⟩ := OI.at' h7 (k := v) (by omega)
         obtain ⟨oy, hoy⟩ : ∃ oy, oy = o2.getD y 0 := ⟨_, rfl⟩
         obtain ⟨ov, hov⟩ : ∃ ov, ov = o2.getD v 0 := ⟨_, rfl⟩
         rw [<- hoy] at eu
         rw [<- hov] at ev hv2 hhi hlen
         have hst2 := HSt.out
         unfold bfsT at hst2
         dsimp only at hst2
         rw [Int.toNat_natCast, <- hoy, <- hov] at hst2
         by_cases hneg : oy < 0
         · rw [if_pos hneg] at hst2
           have hwp : IntKind.i64.wrap (ov + 1) = ov + 1 := IntWalk.i64_in _ (by omega)
           obtain ⟨V, hV⟩ : ∃ V, V = (W.setCell ⟨w.heap.size + 1, y, none⟩ (.int .i64 (ov + 1))).drew := ⟨_, rfl⟩
           have hvz : V.heap.size = W.heap.size := by rw [hV]; simp
           have hoth : ∀ j, j ≠ w.heap.size + 1 -> V.heap[j]? = W.heap[j]? := fun j hj => by rw [hV]; exact heap_setCell_other W _ j _ hj
           have hz3 := HZ3.out
           have hz5 := HZ5.out
           have hz6 := HZ6.out
           have hwv := h8.size
           have hq4 : BL V (W3.heap.size + 1) 37 [vq'] := (hoth _ (by omega)).trans h4
           have hq5 : QI V gq' vq' Q2 := h5.keep (hoth _ (by omega))
           have hq6 : QI (V.alloc (.cells #[.int .i64 (y : Int)] 3)) gq' vq' Q2 := hq5.below (below_alloc _ _)
           obtain ⟨v', w', g', hrun, hq7, hg', hgr⟩ := QI.append hq6 (by omega) 37 ⟨V.heap.size, 0, none⟩ y ((BL.new' V #[.int .i64 (y : Int)] 3).cell 0)
           have hgq2 := hq5.lt
           have hq8 : QI w' g' v' (Q2 ++ [y]) := hq7
           obtain ⟨off2, cap2, cur2, hvv, -⟩ := hq8
           rw [show (Q2 ++ [y]).length = Q2.length + 1 by simp] at hvv
           subst hvv
           have hnb : ∀ (j : Nat) (T : TypeId) (us : List Value), BL W j T us -> T ≠ 3 -> j ≠ gq' := fun j T us hb hT => h5.ne_bl hb hT
           have hfz : w'.frozen? ⟨W3.heap.size + 1, 0, none⟩ = false := BL.frozen (BL.grown (hq4.alloc _) hgr (by have := hnb _ _ _ h4 (by decide); simp; omega)) 0
           have hbq := h4.lt
           have cq4 := hq4.cell 0
           have cw4 := BL.cell (BL.grown (hq4.alloc _) hgr (by have := hnb _ _ _ h4 (by decide); simp; omega)) 0
           have hfin : ∀ j, j < W.heap.size -> j ≠ w.heap.size + 1 -> j ≠ gq' -> j ≠ W3.heap.size + 1 -> (w'.setCell ⟨W3.heap.size + 1, 0, none⟩ (.slice (some ⟨g', off2, none⟩) (Q2.length + 1) cap2)).heap[j]? = W.heap[j]? := fun j hj h1 h2 h3 =>
             (heap_setCell_other w' _ j _ h3).trans ((hgr.block j (by rw [World.size_alloc]; omega) (fun e => by simp at e; omega)).trans ((Below.heap_alloc V _ j (by omega)).trans (hoth j h1)))
           have hszf : W.heap.size <= (w'.setCell ⟨W3.heap.size + 1, 0, none⟩ (.slice (some ⟨g', off2, none⟩) (Q2.length + 1) cap2)).heap.size := by have := hgr.size; simp at this ⊢; omega
           have hlb := lt_of_block hl
           have hdb := lt_of_block hd
           have hlg : W6.heap.size + 1 ≠ gq' := by rintro rfl; obtain ⟨_, _, _, _, hh, _⟩ := h5; rw [hl] at hh; cases hh
           have hdg : W6.heap.size ≠ gq' := by rintro rfl; obtain ⟨_, _, _, _, hh, _⟩ := h5; rw [hd] at hh; cases hh
           have hxg : W5.heap.size ≠ gq' := hnb _ _ _ h1.1 (by decide)
           have hbog : w2.heap.size ≠ gq' := hnb _ _ _ h3 (by decide)
           have hoo : OI (w'.setCell ⟨W3.heap.size + 1, 0, none⟩ (.slice (some ⟨g', off2, none⟩) (Q2.length + 1) cap2)) w.heap.size (.slice (some ⟨w.heap.size + 1, 0, none⟩) n n) (o2.set y (ov + 1)) := by
             refine OV.heapEq (estu (ov + 1)).1 ((heap_setCell_other w' _ _ _ (by simp; omega)).trans ((hgr.block _ (by rw [World.size_alloc]; omega) (fun e => by simp at e; omega)).trans ((Below.heap_alloc V _ _ (by omega)).trans (by rw [hV]; rfl))))
           have HFin : Hid (KeepLD W6.heap.size W (w'.setCell ⟨W3.heap.size + 1, 0, none⟩ (.slice (some ⟨g', off2, none⟩) (Q2.length + 1) cap2)) /\ LkK [W5.heap.size, W5.heap.size + 1, b, eb] W (w'.setCell ⟨W3.heap.size + 1, 0, none⟩ (.slice (some ⟨g', off2, none⟩) (Q2.length + 1) cap2)) /\
               DiI w W5.heap.size (W5.heap.size + 1) wr.heap.size w2.heap.size (W3.heap.size + 1) (w.heap.size + 1) b v eb n ve q vd vs es o Q ds (pre ++ [((y : Int), m0)]) (w'.setCell ⟨W3.heap.size + 1, 0, none⟩ (.slice (some ⟨g', off2, none⟩) (Q2.length + 1) cap2))) := by
             have hLk : LkK [W5.heap.size, W5.heap.size + 1, b, eb] W (w'.setCell ⟨W3.heap.size + 1, 0, none⟩ (.slice (some ⟨g', off2, none⟩) (Q2.length + 1) cap2)) := ⟨hszf, fun j hj => by
               simp only [List.mem_cons, List.not_mem_nil, or_false] at hj
               exact hfin j (by omega) (by omega) (by omega) (by omega)⟩
             refine ⟨⟨hfin _ hdb (by omega) hdg (by omega), hfin _ hlb (by omega) hlg (by omega)⟩, hLk, h1.keep hLk, (hfin _ h2.lt (by omega) (by omega) (by omega)).trans h2, (hfin _ h3.lt (by omega) (by omega) (by omega)).trans h3, ⟨g', .slice (some ⟨g', off2, none⟩) (Q2.length + 1) cap2, ?_, ?_, ?_⟩, ?_, ?_, HBf'.out, ?_⟩
             · exact (BL.grown (hq4.alloc _) hgr (by have := hnb _ _ _ h4 (by decide); simp; omega)).set 0 _
             · rw [hst2]
               exact hq7.keep (heap_setCell_other w' _ _ _ (by
                 have := hnb _ _ _ h4 (by decide)
                 rcases hg' with rfl | hg'
                 · exact fun e => this e.symm
                 · rw [World.size_alloc] at hg'; simp; omega))
             · rcases hg' with rfl | hg'
               · exact h6
               · rw [World.size_alloc] at hg'; omega
             · rw [hst2]; exact hoo
             · exact ((Fr.grownQ (h8.setCell (p := ⟨w.heap.size + 1, y, none⟩) (.inr (by simp)) (.int .i64 (ov + 1))) (by rw [hV] at hgr; exact hgr) (by omega)).setCell (p := ⟨W3.heap.size + 1, 0, none⟩) (.inr (by simp; omega)) _)
             · exact h10.keep fun j hj hm => hfin j (lt_of_block hm) (by rintro rfl; have h3 := h7.block_ (g := w.heap.size + 1) rfl; obtain ⟨_, h3, _⟩ := h3; rw [h3] at hm; cases hm) (by rintro rfl; obtain ⟨_, _, _, _, hh, _⟩ := h5; rw [hm] at hh; cases hh) (by rintro rfl; unfold BL at h4; rw [h4] at hm; cases hm)
           have HV := Hd hV
           clear hnb hfin hoth hq4 hq5 hq6 hq7 hgr hoo h1 h2 h3 h4 h5 h6 h7 h8 h9 h10 hrest hl hd estu hV hoy hov hst2 hz3 hz5 hz6
           gi_wp2_with fail
           refine still_tail_round 8 (by kernel_rfl) (by kernel_rfl) (by kernel_rfl) (fun ⟨a, w, h⟩ => h) ?_
           change wpStill _ _ W.drew _ _ _
           simp only [List.take_succ_cons, List.take_zero, List.drop_succ_cons, List.drop_zero]
           repeat still_step
           refine wpStill_nil ?_
           change wpList _ _ _ _ _ W.drew
           go_wp2_with fail
           rw [<- HV.out]
           repeat (first | (refine wpListIn_append rfl _ _ _ rfl _ _ (by simp [Act.eval, Act.put]; done) (by simp [Act.eval, Act.put]; done) _ _ hrun ?_) | gi_step)
           gi_wp2
           exact HFin.out
         · rw [if_neg hneg] at hst2
           have HFin : Hid (KeepLD W6.heap.size W W /\ LkK [W5.heap.size, W5.heap.size + 1, b, eb] W W /\
               DiI w W5.heap.size (W5.heap.size + 1) wr.heap.size w2.heap.size (W3.heap.size + 1) (w.heap.size + 1) b v eb n ve q vd vs es o Q ds (pre ++ [((y : Int), m0)]) W) :=
             ⟨⟨rfl, rfl⟩, ⟨Nat.le_refl _, fun _ _ => rfl⟩, h1, h2, h3, ⟨gq', vq', h4, by rw [hst2]; exact h5, h6⟩, by rw [hst2]; exact h7, h8, HBf'.out, h10⟩
           clear h1 h2 h3 h4 h5 h6 h7 h8 h9 h10 hrest hl hd estu hoy hov hst2
           gi_wp2
           exact HFin.out
     · go_wp2_with fail
       have hvq3 := HVq2.out
       first
       | rw [if_pos hc1] at hvq3
       | rw [if_neg hc1] at hvq3
       rw [<- hvq3, <- HW5.out]
       clear hvq3
       refine (links_any b v _).mono ?_
       rintro e' w6 ⟨rfl, rfl⟩
       go_wp2
       obtain ⟨W6, hW6⟩ : ∃ W6, W6 = (W5.alloc (.cells #[.pointer (some ⟨b, 0, none⟩)] 285)).alloc (.cells #[.int .i64 (v : Int)] 3) := ⟨_, rfl⟩
       have hb6 : Below W5.heap.size W5 W6 := by rw [hW6]; exact (below_alloc W5 _).alloc (by simp) _
       have HI6 : Hid (DiI w W5.heap.size (W5.heap.size + 1) wr.heap.size w2.heap.size (W3.heap.size + 1) (w.heap.size + 1) b v eb n ve q vd vs es o Q ds [] W6) := by
         have hz5 := HZ5.out
         refine ⟨⟨?_, ?_, BL.bel HST.out (HB5.out.trans (hb6.mono HB5.out.size)), HEB.out.below (HB5.out.trans (hb6.mono HB5.out.size))⟩, HV5.out.bel hb6, HBo5.out.bel hb6, ⟨gq, vq2, HBq5.out.bel hb6, HQ5.out.below hb6, hgq.1, by omega, by omega⟩, HO5.out.below hb6, (Fr.ofBelow HB5.out).below hb6, bf_pop HBf.out, HMk5.out.keep fun b' _ h => hb6.block b' (lt_of_block h)⟩
         · rw [hW6]; exact (BL.new' W5 _ _).alloc _
         · rw [hW6]
           have := BL.new' (W5.alloc (.cells #[.pointer (some ⟨b, 0, none⟩)] 285)) #[.int .i64 (v : Int)] 3
           rwa [World.size_alloc] at this
       have HZ6 : Hid (W6.heap.size = W5.heap.size + 2) := by show _ = _; rw [hW6]; simp
       rw [<- hW6]
       clear hW6 hb6
       have HPop := Hd hvn
       have HPre6 := Hd HI6.out.1
       have HMk6 := Hd HI6.out.2.2.2.2.2.2.2
       have HB6 := Hd HI6.out.2.2.2.2.2.1.below_
       have hw5 := HB5.out.size
       refine (wpIn_wide (n := 3)).1 ?_
       refine wpIn_rangeFunc_iter (gf := 343) (lb := #[.pointer (some ⟨W5.heap.size, 0, none⟩), .pointer (some ⟨W5.heap.size + 1, 0, none⟩)]) rfl (enters_of Tryz.func343 (by kernel_rfl) rfl)
         (links1_iter W5.heap.size (W5.heap.size + 1) b v eb n ve q vd vs 0 es HE.out hvn hn) (fun _ => rfl) ?hR LkK_trans ?hKp (fun _ _ _ _ _ h _ => h) (DiI w W5.heap.size (W5.heap.size + 1) wr.heap.size w2.heap.size (W3.heap.size + 1) (w.heap.size + 1) b v eb n ve q vd vs es o Q ds) (fun _ _ _ => False) ?hI (fun _ _ _ _ _ h _ => h) ?hIR (fun _ _ _ _ h _ => h) ?hpre ?h0
         ?a2 ?assign ?body ?done ?stop
       case assign =>
         intro l x W K' hK'
         gi_wp2
         exact hK'
       case hR => intro A C h hs; have hz6 := HZ6.out; exact ⟨h.block _ (by omega), h.block _ (by omega)⟩
       case hKp => intro W r o _; have hz6 := HZ6.out; exact LkK_put W _ (by simp; omega)
       case hI =>
         intro pre W r o h hl
         have hz6 := HZ6.out
         have hz5 := HZ5.out
         obtain ⟨h1, h2, h3, ⟨gq', vq', h4, h5, h6⟩, h7, h8, h9, h10⟩ := h
         exact ⟨h1.keep (LkK_put W o (by simp; omega)), h2.putLoop hl o, h3.putLoop hl o, ⟨gq', vq', h4.putLoop hl o, h5.putLoop hl o, h6⟩, OV.putLoop' h7 hl o, h8.putLoop (by omega) o, h9, h10.keep fun b' _ h => World.putObj_heap_other (by rintro rfl; rw [hl] at h; cases h)⟩
       case hIR => intro pre A C h hr; exact h.below hr
       case hpre => intro r; exact HPre6.out.below ((below_alloc W6 _).alloc (by simp) _)
       case h0 => intro r; exact HI6.out.below ((below_alloc W6 (.deferred (some []))).alloc (by simp) (.loop r))
       case stop => rintro c pre W _ h _; exact h.elim
       case done =>
         rintro xs W hS ⟨h1, h2, h3, ⟨gq', vq', h4, h5, h6⟩, h7, h8, h9, h10⟩ hD
         subst hS
         have HD' := Hd hD
         have H3 := Hd h3
         have H4 := Hd h4
         have H5 := Hd h5
         have H6 := Hd h6
         have H7 := Hd h7
         have H8 := Hd h8
         have H9 := Hd h9
         have H10 := Hd h10
         have hmeas := bfsI_meas (n := n) (v := v) (l := linksL es v) (fun x hx => by have := links_mem HE.out hvn hx; omega) (o := o) (Q := Q) HBf.out.len hv0
         have HMeas := Hd hmeas
         clear hD h1 h2 h3 h4 h5 h6 h7 h8 h9 h10 hmeas
         go_wp2
         refine ⟨2 * un n (bfsI v (linksL es v) (o, Q)).1 + (bfsI v (linksL es v) (o, Q)).2.length, ?_, ex_act (P := fun k u ds => ∃ o' Q' gq vq, DisR w w2.heap.size (W3.heap.size + 1) (w.heap.size + 1) n q es o' Q' gq vq ds _ /\ 2 * un n (bfsI v (linksL es v) (o, Q)).1 + (bfsI v (linksL es v) (o, Q)).2.length = 2 * un n o' + Q'.length + 0 * k) (F := fun _ => disF b w2.heap.size (W3.heap.size + 1)) 0 ⟨_, _, gq', vq', ⟨H3.out, H4.out, H5.out, ⟨H6.out.1, hgq.2⟩, H7.out, H8.out.below_, bf_done H9.out, H10.out.push HMk6.out (Nat.le_refl _) (by have := HB6.out.size; omega) HD'.out⟩, by omega⟩ rfl⟩
         have := HM.out
         have := HMeas.out
         simp only [List.length_cons] at *
         omega
       case body =>
         rintro l pre ⟨u0, m0⟩ W r ⟨h1, h2, h3, ⟨gq', vq', h4, h5, h6⟩, h7, h8, h9, h10⟩ ⟨rest, hrest⟩ hl hd
         have hmem : (u0, m0) ∈ linksL es v := by rw [<- hrest]; simp
         obtain ⟨hu0, hu1, hu2, -, -⟩ := links_mem HE.out hvn hmem
         simp only at hu0 hu1 hu2
         obtain ⟨y, rfl⟩ := Int.eq_ofNat_of_zero_le hu0
         have hyv : y ≠ v := by omega
         have hyn : y < n := by omega
         have hBf' := bf_step HE.out h9 hmem hq
         have HSt : Hid (bfsI v (pre ++ [((y : Int), m0)]) (o, Q) = bfsT v (bfsI v pre (o, Q)) ((y : Int), m0)) := bfsI_snoc _ _ _ _
         have hpair : ((bfsI v pre (o, Q)).1, (bfsI v pre (o, Q)).2) = bfsI v pre (o, Q) := rfl
         rw [hpair, <- HSt.out] at hBf'
         have HBf' := Hd hBf'
         have hol := h9.len
         obtain ⟨hv1, hv2, -, hhi, -, hlen⟩ := h9.seen v rfl
         have hQl : (bfsI v pre (o, Q)).2.length <= 24 := by omega
         generalize hst : bfsI v pre (o, Q) = st at *
         obtain ⟨o2, Q2⟩ := st
         dsimp only at *
         have b1 := h2.cell 0
         have c1' := h3.cell 0
         obtain ⟨-, -, eu, fu, estu⟩ := OI.at' h7 (k := y) (by omega)
         obtain ⟨-, -, ev, fv, -⟩ := OI.at' h7 (k := v) (by omega)
         obtain ⟨oy, hoy⟩ : ∃ oy, oy = o2.getD y 0 := ⟨_, rfl⟩
         obtain ⟨ov, hov⟩ : ∃ ov, ov = o2.getD v 0 := ⟨_, rfl⟩
         rw [<- hoy] at eu
         rw [<- hov] at ev hv2 hhi hlen
         have hst2 := HSt.out
         unfold bfsT at hst2
         dsimp only at hst2
         rw [Int.toNat_natCast, <- hoy, <- hov] at hst2
         by_cases hneg : oy < 0
         · rw [if_pos hneg] at hst2
           have hwp : IntKind.i64.wrap (ov + 1) = ov + 1 := IntWalk.i64_in _ (by omega)
           obtain ⟨V, hV⟩ : ∃ V, V = (W.setCell ⟨w.heap.size + 1, y, none⟩ (.int .i64 (ov + 1))).drew := ⟨_, rfl⟩
           have hvz : V.heap.size = W.heap.size := by rw [hV]; simp
           have hoth : ∀ j, j ≠ w.heap.size + 1 -> V.heap[j]? = W.heap[j]? := fun j hj => by rw [hV]; exact heap_setCell_other W _ j _ hj
           have hz3 := HZ3.out
           have hz5 := HZ5.out
           have hz6 := HZ6.out
           have hwv := h8.size
           have hq4 : BL V (W3.heap.size + 1) 37 [vq'] := (hoth _ (by omega)).trans h4
           have hq5 : QI V gq' vq' Q2 := h5.keep (hoth _ (by omega))
           have hq6 : QI (V.alloc (.cells #[.int .i64 (y : Int)] 3)) gq' vq' Q2 := hq5.below (below_alloc _ _)
           obtain ⟨v', w', g', hrun, hq7, hg', hgr⟩ := QI.append hq6 (by omega) 37 ⟨V.heap.size, 0, none⟩ y ((BL.new' V #[.int .i64 (y : Int)] 3).cell 0)
           have hgq2 := hq5.lt
           have hq8 : QI w' g' v' (Q2 ++ [y]) := hq7
           obtain ⟨off2, cap2, cur2, hvv, -⟩ := hq8
           rw [show (Q2 ++ [y]).length = Q2.length + 1 by simp] at hvv
           subst hvv
           have hnb : ∀ (j : Nat) (T : TypeId) (us : List Value), BL W j T us -> T ≠ 3 -> j ≠ gq' := fun j T us hb hT => h5.ne_bl hb hT
           have hfz : w'.frozen? ⟨W3.heap.size + 1, 0, none⟩ = false := BL.frozen (BL.grown (hq4.alloc _) hgr (by have := hnb _ _ _ h4 (by decide); simp; omega)) 0
           have hbq := h4.lt
           have cq4 := hq4.cell 0
           have cw4 := BL.cell (BL.grown (hq4.alloc _) hgr (by have := hnb _ _ _ h4 (by decide); simp; omega)) 0
           have hfin : ∀ j, j < W.heap.size -> j ≠ w.heap.size + 1 -> j ≠ gq' -> j ≠ W3.heap.size + 1 -> (w'.setCell ⟨W3.heap.size + 1, 0, none⟩ (.slice (some ⟨g', off2, none⟩) (Q2.length + 1) cap2)).heap[j]? = W.heap[j]? := fun j hj h1 h2 h3 =>
             (heap_setCell_other w' _ j _ h3).trans ((hgr.block j (by rw [World.size_alloc]; omega) (fun e => by simp at e; omega)).trans ((Below.heap_alloc V _ j (by omega)).trans (hoth j h1)))
           have hszf : W.heap.size <= (w'.setCell ⟨W3.heap.size + 1, 0, none⟩ (.slice (some ⟨g', off2, none⟩) (Q2.length + 1) cap2)).heap.size := by have := hgr.size; simp at this ⊢; omega
           have hlb := lt_of_block hl
           have hdb := lt_of_block hd
           have hlg : W6.heap.size + 1 ≠ gq' := by rintro rfl; obtain ⟨_, _, _, _, hh, _⟩ := h5; rw [hl] at hh; cases hh
           have hdg : W6.heap.size ≠ gq' := by rintro rfl; obtain ⟨_, _, _, _, hh, _⟩ := h5; rw [hd] at hh; cases hh
           have hxg : W5.heap.size ≠ gq' := hnb _ _ _ h1.1 (by decide)
           have hbog : w2.heap.size ≠ gq' := hnb _ _ _ h3 (by decide)
           have hoo : OI (w'.setCell ⟨W3.heap.size + 1, 0, none⟩ (.slice (some ⟨g', off2, none⟩) (Q2.length + 1) cap2)) w.heap.size (.slice (some ⟨w.heap.size + 1, 0, none⟩) n n) (o2.set y (ov + 1)) := by
             refine OV.heapEq (estu (ov + 1)).1 ((heap_setCell_other w' _ _ _ (by simp; omega)).trans ((hgr.block _ (by rw [World.size_alloc]; omega) (fun e => by simp at e; omega)).trans ((Below.heap_alloc V _ _ (by omega)).trans (by rw [hV]; rfl))))
           have HFin : Hid (KeepLD W6.heap.size W (w'.setCell ⟨W3.heap.size + 1, 0, none⟩ (.slice (some ⟨g', off2, none⟩) (Q2.length + 1) cap2)) /\ LkK [W5.heap.size, W5.heap.size + 1, b, eb] W (w'.setCell ⟨W3.heap.size + 1, 0, none⟩ (.slice (some ⟨g', off2, none⟩) (Q2.length + 1) cap2)) /\
               DiI w W5.heap.size (W5.heap.size + 1) wr.heap.size w2.heap.size (W3.heap.size + 1) (w.heap.size + 1) b v eb n ve q vd vs es o Q ds (pre ++ [((y : Int), m0)]) (w'.setCell ⟨W3.heap.size + 1, 0, none⟩ (.slice (some ⟨g', off2, none⟩) (Q2.length + 1) cap2))) := by
             have hLk : LkK [W5.heap.size, W5.heap.size + 1, b, eb] W (w'.setCell ⟨W3.heap.size + 1, 0, none⟩ (.slice (some ⟨g', off2, none⟩) (Q2.length + 1) cap2)) := ⟨hszf, fun j hj => by
               simp only [List.mem_cons, List.not_mem_nil, or_false] at hj
               exact hfin j (by omega) (by omega) (by omega) (by omega)⟩
             refine ⟨⟨hfin _ hdb (by omega) hdg (by omega), hfin _ hlb (by omega) hlg (by omega)⟩, hLk, h1.keep hLk, (hfin _ h2.lt (by omega) (by omega) (by omega)).trans h2, (hfin _ h3.lt (by omega) (by omega) (by omega)).trans h3, ⟨g', .slice (some ⟨g', off2, none⟩) (Q2.length + 1) cap2, ?_, ?_, ?_⟩, ?_, ?_, HBf'.out, ?_⟩
             · exact (BL.grown (hq4.alloc _) hgr (by have := hnb _ _ _ h4 (by decide); simp; omega)).set 0 _
             · rw [hst2]
               exact hq7.keep (heap_setCell_other w' _ _ _ (by
                 have := hnb _ _ _ h4 (by decide)
                 rcases hg' with rfl | hg'
                 · exact fun e => this e.symm
                 · rw [World.size_alloc] at hg'; simp; omega))
             · rcases hg' with rfl | hg'
               · exact h6
               · rw [World.size_alloc] at hg'; omega
             · rw [hst2]; exact hoo
             · exact ((Fr.grownQ (h8.setCell (p := ⟨w.heap.size + 1, y, none⟩) (.inr (by simp)) (.int .i64 (ov + 1))) (by rw [hV] at hgr; exact hgr) (by omega)).setCell (p := ⟨W3.heap.size + 1, 0, none⟩) (.inr (by simp; omega)) _)
             · exact h10.keep fun j hj hm => hfin j (lt_of_block hm) (by rintro rfl; have h3 := h7.block_ (g := w.heap.size + 1) rfl; obtain ⟨_, h3, _⟩ := h3; rw [h3] at hm; cases hm) (by rintro rfl; obtain ⟨_, _, _, _, hh, _⟩ := h5; rw [hm] at hh; cases hh) (by rintro rfl; unfold BL at h4; rw [h4] at hm; cases hm)
           have HV := Hd hV
           clear hnb hfin hoth hq4 hq5 hq6 hq7 hgr hoo h1 h2 h3 h4 h5 h6 h7 h8 h9 h10 hrest hl hd estu hV hoy hov hst2 hz3 hz5 hz6
           gi_wp2_with fail
           refine still_tail_round 8 (by kernel_rfl) (by kernel_rfl) (by kernel_rfl) (fun ⟨a, w, h⟩ => h) ?_
           change wpStill _ _ W.drew _ _ _
           simp only [List.take_succ_cons, List.take_zero, List.drop_succ_cons, List.drop_zero]
           repeat still_step
           refine wpStill_nil ?_
           change wpList _ _ _ _ _ W.drew
           go_wp2_with fail
           rw [<- HV.out]
           repeat (first | (refine wpListIn_append rfl _ _ _ rfl _ _ (by simp [Act.eval, Act.put]; done) (by simp [Act.eval, Act.put]; done) _ _ hrun ?_) | gi_step)
           gi_wp2
           exact HFin.out
         · rw [if_neg hneg] at hst2
           have HFin : Hid (KeepLD W6.heap.size W W /\ LkK [W5.heap.size, W5.heap.size + 1, b, eb] W W /\
               DiI w W5.heap.size (W5.heap.size + 1) wr.heap.size w2.heap.size (W3.heap.size + 1) (w.heap.size + 1) b v eb n ve q vd vs es o Q ds (pre ++ [((y : Int), m0)]) W) :=
             ⟨⟨rfl, rfl⟩, ⟨Nat.le_refl _, fun _ _ => rfl⟩, h1, h2, h3, ⟨gq', vq', h4, by rw [hst2]; exact h5, h6⟩, by rw [hst2]; exact h7, h8, HBf'.out, h10⟩
           clear h1 h2 h3 h4 h5 h6 h7 h8 h9 h10 hrest hl hd estu hoy hov hst2
           gi_wp2
           exact HFin.out
end Go.Proofs.YteamhbohgoclgaaGreatDoor
