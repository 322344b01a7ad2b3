/- Contracts of package reduced: the iterator links. -/
import Derived.Test.YteamhbohgoclgaaGreatDoorR04
import Derived.Sort.LoopGhostIn
set_option maxRecDepth 100000
set_option maxHeartbeats 16000000
namespace Go.Proofs.YteamhbohgoclgaaGreatDoor
open Go.RowKit Go.Shelf
attribute [local go_sem] Oper.semAt_some

def ST (w : World) (b : Nat) (n : Int) (ve : Value) (q : Int) (vd vs : Value) (e : Int) : Prop := BL w b 338 [.int .i64 n, ve, .int .i64 q, vd, vs, .int .i64 e]
def EB (w : World) (ve : Value) (es : List Tri) (eb : Nat) : Prop := EV w ve es /\ (0 < es.length -> ∀ ad l c, ve = .slice (some ad) l c -> ad.block = eb)
theorem EB.keep {w w' : World} {ve : Value} {es : List Tri} {eb : Nat} (h : EB w ve es eb) (hs : w.heap.size <= w'.heap.size) (hk : w'.heap[eb]? = w.heap[eb]?) : EB w' ve es eb := by
 obtain ⟨⟨A, c, rfl, h2, h3, h4⟩, h5⟩ := h
 refine ⟨⟨A, c, rfl, h2, h3, fun k hkl => ?_⟩, h5⟩
 obtain ⟨ad, a, b, m, rfl, hl, ht, c1, c2, c3⟩ := h4 k hkl
 have hb := h5 (by omega) ad _ _ rfl
 have e : ∀ p : Addr, p.block = eb -> w'.cell? p = w.cell? p := fun p hp => World.cell?_of_block (w := w) (by rw [hp]; exact hk)
 exact ⟨ad, a, b, m, rfl, by omega, ht, (e _ (by rw [block_of_add]; exact hb)).trans c1, (e _ (by rw [block_of_add]; exact hb)).trans c2, (e _ (by rw [block_of_add]; exact hb)).trans c3⟩
theorem EB.below {w w' : World} {ve : Value} {es : List Tri} {eb : Nat} (h : EB w ve es eb) (hb : Below w.heap.size w w') : EB w' ve es eb := ⟨h.1.below hb, h.2⟩
theorem EV.toB {w : World} {ve : Value} {es : List Tri} (h : EV w ve es) (hs : 0 < w.heap.size) : ∃ eb, EB w ve es eb /\ eb < w.heap.size := by
 by_cases h0 : 0 < es.length
 · obtain ⟨A, c, rfl, h2, h3, h4⟩ := h
   obtain ⟨ad, _, _, _, rfl, hl, _⟩ := h4 0 h0
   exact ⟨ad.block, ⟨⟨some ad, c, rfl, h2, h3, h4⟩, fun _ ad' l c h => by cases h; rfl⟩, hl⟩
 · exact ⟨0, ⟨h, fun hh => absurd hh h0⟩, hs⟩
def LkPre (hx hv b v eb : Nat) (n : Int) (ve : Value) (q : Int) (vd vs : Value) (e : Int) (es : List Tri) (W : World) : Prop :=
 BL W hx 285 [.pointer (some ⟨b, 0, none⟩)] /\ BL W hv 3 [.int .i64 (v : Nat)] /\ ST W b n ve q vd vs e /\ EB W ve es eb
def LkK (Bs : List Nat) (A C : World) : Prop := A.heap.size <= C.heap.size /\ ∀ k ∈ Bs, C.heap[k]? = A.heap[k]?
theorem LkPre.keep {hx hv b v eb : Nat} {n : Int} {ve : Value} {q : Int} {vd vs : Value} {e : Int} {es : List Tri} {W W' : World} (h : LkPre hx hv b v eb n ve q vd vs e es W) (hk : LkK [hx, hv, b, eb] W W') : LkPre hx hv b v eb n ve q vd vs e es W' :=
 ⟨(hk.2 hx (by simp)).trans h.1, (hk.2 hv (by simp)).trans h.2.1, (hk.2 b (by simp)).trans h.2.2.1, h.2.2.2.keep hk.1 (hk.2 eb (by simp))⟩
theorem LkPre.below {hx hv b v eb : Nat} {n : Int} {ve : Value} {q : Int} {vd vs : Value} {e : Int} {es : List Tri} {W W' : World} (h : LkPre hx hv b v eb n ve q vd vs e es W) (hb : Below W.heap.size W W') : LkPre hx hv b v eb n ve q vd vs e es W' :=
 ⟨h.1.bel hb, h.2.1.bel hb, BL.bel h.2.2.1 hb, h.2.2.2.below hb⟩
theorem links_take {es : List Tri} {k : Nat} {t : Tri} (h : Hid (es[k]? = some t)) (v : Nat) : linksL (es.take (k + 1)) v = linksL (es.take k) v ++ linksL [t] v := by
 rw [take_tri h]; simp [linksL]
theorem links_split {es : List Tri} {k : Nat} {t : Tri} (h : Hid (es[k]? = some t)) (v : Nat) : linksL es v = linksL (es.take k) v ++ (linksL [t] v ++ linksL (es.drop (k + 1)) v) := by
 have e : es = es.take k ++ t :: es.drop (k + 1) := by rw [<- drop_at h, List.take_append_drop]
 conv => lhs; rw [e]
 rw [show es.take k ++ t :: es.drop (k + 1) = es.take k ++ ([t] ++ es.drop (k + 1)) from rfl]
 unfold linksL
 rw [List.filterMap_append, List.filterMap_append]

theorem links1_iter (hx hv b v eb n : Nat) (ve : Value) (q : Int) (vd vs : Value) (e : Int) (es : List Tri) (hE : Edges n es) (hvn : v < n) (hn : n <= 12) :
   IterC Tryz.prog 343 #[.pointer (some ⟨hx, 0, none⟩), .pointer (some ⟨hv, 0, none⟩)] (fun x : Int × Int => #[.int .i64 x.1, .int .i64 x.2]) (fun pre x _ => ∃ rest, pre ++ x :: rest = linksL es v)
     (fun A B => Below A.heap.size A B) (LkK [hx, hv, b, eb]) (fun xs => xs = linksL es v) (fun _ => True) (LkPre hx hv b v eb n ve q vd vs e es) := by
 intro N l J Jx W hpre hJ hJx hY h0
 have HJ := Hd hJ
 have HY := Hd hY
 have HP := Hd hpre
 have HE := Hd hE
 obtain ⟨A, c, rfl, hlc, hc, -⟩ := hpre.2.2.2.1
 have x0 : W.cell? ⟨hx, 0, none⟩ = some (.pointer (some ⟨b, 0, none⟩)) := hpre.1.cell 0
 have s1 : W.cell? ⟨b, 1, none⟩ = some (.slice A es.length c) := BL.cell hpre.2.2.1 1
 clear hJ hY hpre hJx hE
 refine callsIn_of_wp Tryz.func343 rfl trivial ?_ rfl
 simp only [Tryz.ntmps343, List.size_toArray, List.length_cons, List.length_nil, Nat.reduceAdd, Nat.reduceSub, Array.replicate_succ, Array.replicate_zero, List.push_toArray, List.append_toArray, List.nil_append, List.cons_append]
 gi_wp2
 clear x0 s1
 gi_loopg [13] es.length (fun k i wr => ∃ (j : Nat) (pre : List (Int × Int)), j + k = es.length /\ i = .int .i64 j /\ Hid (J pre wr) /\ Hid (pre = linksL (es.take j) v) /\ Hid (LkPre hx hv b v eb n (.slice A es.length c) q vd vs e es wr))
 case atStart => exact ⟨0, [], by omega, rfl, h0, rfl, HP.out⟩
 case round =>
   obtain ⟨j, pre, hjk, rfl, hj, hp, hpr⟩ := hrel
   by_cases hlt : j < es.length
   · obtain ⟨A', c', he, -, -, hcell⟩ := hpr.out.2.2.2.1
     simp only [Value.slice.injEq, true_and] at he
     obtain ⟨rfl, rfl⟩ := he
     obtain ⟨ad, a, a2, m, rfl, hab, ht, c1, c2, c3⟩ := hcell j hlt
     have hbe := HE.out.lo _ (getD_tri ht)
     have hme := HE.out.mult _ (getD_tri ht)
     simp only at hbe hme
     have v0 : wr.cell? ⟨hv, 0, none⟩ = some (.int .i64 (v : Nat)) := hpr.out.2.1.cell 0
     have hvl : hv < wr.heap.size := hpr.out.2.1.lt
     obtain ⟨x, rfl⟩ := Int.eq_ofNat_of_zero_le hbe.1
     obtain ⟨y, rfl⟩ := Int.eq_ofNat_of_zero_le (show 0 <= a2 by omega)
     have HT1 := Hd (links_take ht v)
     have HT2 := Hd (links_split ht v)
     clear hcell ht
     by_cases hxy : x = y
     · subst hxy
       have t1 : ((x : Int) != x) = false := by simp
       have H1 : Hid (linksL (es.take (j + 1)) v = linksL (es.take j) v) := by
         show _ = _; rw [HT1.out, linksL_cons, if_neg (by simp only; omega)]; simp [linksL]
       have HJ1 := Hd (HJ.out pre wr _ hj.out (below_alloc wr (.cells #[.int .i64 x, .int .i64 x, .int .i64 m] 68)))
       have HP1 := Hd (hpr.out.below (below_alloc wr (.cells #[.int .i64 x, .int .i64 x, .int .i64 m] 68)))
       gi_wp2
       refine ⟨fun f h => (by cases h), ?_⟩
       gi_wp2
       gi_roundg (gk - 1)
       case measure => omega
       case rel => exact ⟨j + 1, pre, by omega, by go_num, HJ1.out, by show _ = _; rw [hp.out, H1.out], HP1.out⟩
     have t1 : ((x : Int) != y) = true := by simp; omega
     by_cases hxv : x = v
     · subst hxv
       have hu : (x : Int) + y - x = y := by omega
       have H1 : Hid (linksL (es.take (j + 1)) x = linksL (es.take j) x ++ [((y : Int), m)]) := by
         show _ = _; rw [HT1.out, linksL_cons, if_pos ⟨(by simp only; omega), .inl rfl⟩]
         simp only [linksL, List.filterMap_nil, List.append_cancel_left_eq, List.cons.injEq, Prod.mk.injEq, and_true]; omega
       have H2 : Hid (∃ rest, linksL (es.take j) x ++ (((y : Int) : Int), m) :: rest = linksL es x) := by
         refine ⟨linksL (es.drop (j + 1)) x, ?_⟩
         have := HT2.out; rw [linksL_cons, if_pos ⟨(by simp only; omega), .inl rfl⟩] at this
         rw [this]; simp only [linksL, List.filterMap_nil, List.cons_append, List.nil_append, List.append_cancel_left_eq, List.cons.injEq, Prod.mk.injEq, and_true]; omega
       have hJ1 := HJ.out pre wr _ hj.out (below_alloc wr (.cells #[.int .i64 x, .int .i64 y, .int .i64 m] 68))
       obtain ⟨fn, tmps, assign, body, hy, hRd⟩ := HY.out pre (((y : Int) : Int), m) _ hJ1 (by rw [hp.out]; exact H2.out)
       dsimp only at hy hRd
       have HR := Hd hRd
       have HP1 := Hd (hpr.out.below (below_alloc wr (.cells #[.int .i64 x, .int .i64 y, .int .i64 m] 68)))
       clear hRd hJ1 H2
       gi_wp2_with fail
       refine ⟨fun h => (by simp [Fence.wide] at h), HR.out.mono ?_⟩
       rintro e W2 (⟨rfl, hJ2, hk2⟩ | ⟨rfl, hJx2⟩)
       · have HJ2 := Hd hJ2
         have HK2 := Hd hk2
         clear hJ2 hk2 hy
         gi_wp2
         gi_roundg (gk - 1)
         case measure => omega
         case rel => exact ⟨j + 1, pre ++ [(((y : Int) : Int), m)], by omega, by go_num, HJ2.out, by show _ = _; rw [hp.out, H1.out], HP1.out.keep HK2.out⟩
       · clear hy
         gi_wp2
         refine bodyPost_ret (results_none rfl _ _ _) rfl ?_
         exact ⟨⟨_, rfl⟩, .inr ⟨pre ++ [(((y : Int) : Int), m)], trivial, hJx2⟩⟩
     have t2 : ((x : Int) == v) = false := by simp; omega
     by_cases hyv : y = v
     · subst hyv
       have hu : (x : Int) + y - y = x := by omega
       have H1 : Hid (linksL (es.take (j + 1)) y = linksL (es.take j) y ++ [((x : Int), m)]) := by
         show _ = _; rw [HT1.out, linksL_cons, if_pos ⟨(by simp only; omega), .inr rfl⟩]
         simp only [linksL, List.filterMap_nil, List.append_cancel_left_eq, List.cons.injEq, Prod.mk.injEq, and_true]; omega
       have H2 : Hid (∃ rest, linksL (es.take j) y ++ (((x : Int) : Int), m) :: rest = linksL es y) := by
         refine ⟨linksL (es.drop (j + 1)) y, ?_⟩
         have := HT2.out; rw [linksL_cons, if_pos ⟨(by simp only; omega), .inr rfl⟩] at this
         rw [this]; simp only [linksL, List.filterMap_nil, List.cons_append, List.nil_append, List.append_cancel_left_eq, List.cons.injEq, Prod.mk.injEq, and_true]; omega
       have hJ1 := HJ.out pre wr _ hj.out (below_alloc wr (.cells #[.int .i64 x, .int .i64 y, .int .i64 m] 68))
       obtain ⟨fn, tmps, assign, body, hy, hRd⟩ := HY.out pre (((x : Int) : Int), m) _ hJ1 (by rw [hp.out]; exact H2.out)
       dsimp only at hy hRd
       have HR := Hd hRd
       have HP1 := Hd (hpr.out.below (below_alloc wr (.cells #[.int .i64 x, .int .i64 y, .int .i64 m] 68)))
       clear hRd hJ1 H2
       gi_wp2_with fail
       refine ⟨fun h => (by simp [Fence.wide] at h), HR.out.mono ?_⟩
       rintro e W2 (⟨rfl, hJ2, hk2⟩ | ⟨rfl, hJx2⟩)
       · have HJ2 := Hd hJ2
         have HK2 := Hd hk2
         clear hJ2 hk2 hy
         gi_wp2
         gi_roundg (gk - 1)
         case measure => omega
         case rel => exact ⟨j + 1, pre ++ [(((x : Int) : Int), m)], by omega, by go_num, HJ2.out, by show _ = _; rw [hp.out, H1.out], HP1.out.keep HK2.out⟩
       · clear hy
         gi_wp2
         refine bodyPost_ret (results_none rfl _ _ _) rfl ?_
         exact ⟨⟨_, rfl⟩, .inr ⟨pre ++ [(((x : Int) : Int), m)], trivial, hJx2⟩⟩
     · have t3 : ((y : Int) == v) = false := by simp; omega
       have H1 : Hid (linksL (es.take (j + 1)) v = linksL (es.take j) v) := by
         show _ = _; rw [HT1.out, linksL_cons, if_neg (by simp only; omega)]; simp [linksL]
       have HJ1 := Hd (HJ.out pre wr _ hj.out (below_alloc wr (.cells #[.int .i64 x, .int .i64 y, .int .i64 m] 68)))
       have HP1 := Hd (hpr.out.below (below_alloc wr (.cells #[.int .i64 x, .int .i64 y, .int .i64 m] 68)))
       gi_wp2
       refine ⟨fun f h => (by cases h), ?_⟩
       gi_wp2
       gi_roundg (gk - 1)
       case measure => omega
       case rel => exact ⟨j + 1, pre, by omega, by go_num, HJ1.out, by show _ = _; rw [hp.out, H1.out], HP1.out⟩
   · have hje : es.take j = es := List.take_of_length_le (by omega)
     rw [hje] at hp
     have HPE := hp
     clear hje
     gi_wp2
     go_end0
     exact ⟨⟨_, rfl⟩, .inl ⟨pre, HPE.out, hj.out⟩⟩
end Go.Proofs.YteamhbohgoclgaaGreatDoor

namespace Go.Proofs.YteamhbohgoclgaaGreatDoor
open Go.RowKit Go.Shelf
attribute [local go_sem] Oper.semAt_some

theorem links_any (b v : Nat) (w : World) : Calls Tryz.prog 313 #[.pointer (some ⟨b, 0, none⟩), .int .i64 (v : Nat)] w fun e w' =>
   e = .returned (.func (.func 343) #[] #[.pointer (some ⟨w.heap.size, 0, none⟩), .pointer (some ⟨w.heap.size + 1, 0, none⟩)]) /\ (w.alloc (.cells #[.pointer (some ⟨b, 0, none⟩)] 285)).alloc (.cells #[.int .i64 (v : Nat)] 3) = w' := by
 go_enter Tryz.func313, Tryz.ntmps313
 go_wp2
 go_ret
 exact ⟨rfl, rfl⟩
theorem BL.putLoop {w : World} {b : Nat} {T : TypeId} {us : List Value} (h : BL w b T us) {l : Nat} {r : Loop} (hl : w.heap[l]? = some (.loop r)) (o : Obj) : BL (w.putObj l o) b T us := by
 refine (World.putObj_heap_other ?_).trans h
 intro e; subst e
 unfold BL at h; rw [h] at hl; cases hl
theorem below_putLoop {B : Nat} {w W : World} (h : Below B w W) {l : Nat} (hl : B <= l) (o : Obj) : Below B w (W.putObj l o) :=
 h.trans ⟨rfl, rfl, rfl, by simp [World.putObj], fun k hk => World.putObj_heap_other (by omega)⟩
theorem LkK_trans {Bs : List Nat} (A B C : World) (h : LkK Bs A B) (k : LkK Bs B C) : LkK Bs A C := ⟨Nat.le_trans h.1 k.1, fun x hx => (k.2 x hx).trans (h.2 x hx)⟩
theorem LkK_put {Bs : List Nat} (W : World) {l : Nat} (o : Obj) (h : l ∉ Bs) : LkK Bs W (W.putObj l o) :=
 ⟨by simp [World.putObj], fun k hk => World.putObj_heap_other (fun e => h (e ▸ hk))⟩
theorem sumP_bd {p : Nat -> Bool} {l : List (Int × Int)} (h : ∀ x ∈ l, 1 <= x.2 /\ x.2 <= 50) : 0 <= sumP p l /\ sumP p l <= 50 * l.length := by
 induction l with
 | nil => simp [sumP]
 | cons x r ih =>
   have h1 := h x (List.mem_cons_self ..)
   have h2 := ih fun y hy => h y (List.mem_cons_of_mem _ hy)
   simp only [sumP, List.length_cons]
   push_cast
   split <;> omega

def JnI (w : World) (b v eb : Nat) (n : Int) (ve : Value) (q : Int) (vd vs : Value) (e : Int) (es : List Tri) (fv : Value) (p : Nat -> Bool) (pre : List (Int × Int)) (W : World) : Prop :=
 BL W w.heap.size 102 [fv] /\ BL W (w.heap.size + 1) 3 [.int .i64 (sumP p pre)] /\ LkPre (w.heap.size + 1 + 1) (w.heap.size + 1 + 1 + 1) b v eb n ve q vd vs e es W /\ Below w.heap.size w W

theorem joins_any (b v eb n : Nat) (ve : Value) (q : Int) (vd vs : Value) (e : Int) (es : List Tri) (fv : Value) (p : Nat -> Bool) (w : World) (hE : Edges n es) (hvn : v < n) (hn : n <= 12) (hST : ST w b n ve q vd vs e) (hEB : EB w ve es eb)
   (hf : CloB Tryz.prog w fv (fun u => 0 <= u /\ u < n) (fun u => p u.toNat)) (hbb : b < w.heap.size) (hebb : eb < w.heap.size) :
   Calls Tryz.prog 261 #[.pointer (some ⟨b, 0, none⟩), .int .i64 (v : Nat), fv] w fun e w' => e = .returned (.int .i64 (joinE es p v)) /\ Below w.heap.size w w' := by
 obtain ⟨fn, caps, rfl, hen, hcall⟩ := hf
 have HF := Hd hcall
 have HE := Hd hE
 have HST := Hd hST
 have HEB := Hd hEB
 have HSum := Hd (sumP_links p es v)
 clear hcall hE hST hEB
 refine (callsIn_wide (n := 3)).1 ?_
 refine callsIn_of_wp_marks Tryz.func261 rfl trivial ?_ rfl
 simp only [Tryz.ntmps261, List.size_toArray, List.length_cons, List.length_nil, Nat.reduceAdd, Nat.reduceSub, Array.replicate_succ, Array.replicate_zero, List.push_toArray, List.append_toArray, List.nil_append, List.cons_append]
 gi_wp2_with fail
 refine ⟨trivial, (callsIn_wide.2 (links_any b v _)).mono ?_⟩
 rintro e w1 ⟨rfl, rfl⟩
 gi_wp2
 obtain ⟨W4, hW4⟩ : ∃ W4, W4 = (((w.alloc (.cells #[.func (.func fn) #[] caps] 102)).alloc (.cells #[.int .i64 0] 3)).alloc (.cells #[.pointer (some ⟨b, 0, none⟩)] 285)).alloc (.cells #[.int .i64 (v : Nat)] 3) := ⟨_, rfl⟩
 have hs4 : W4.heap.size = w.heap.size + 1 + 1 + 1 + 1 := by rw [hW4]; simp
 have hb4 : Below w.heap.size w W4 := by rw [hW4]; exact ((((Below.refl _ w).alloc (Nat.le_refl _) _).alloc (by simp) _).alloc (by simp; omega) _).alloc (by simp; omega) _
 have hJ4 : JnI w b v eb n ve q vd vs e es (.func (.func fn) #[] caps) p [] W4 := by
   refine ⟨?_, ?_, ⟨?_, ?_, ?_, ?_⟩, hb4⟩
   · rw [hW4]; exact (((BL.new' w _ _).alloc _).alloc _).alloc _
   · rw [hW4]
     have := BL.new' (w.alloc (.cells #[.func (.func fn) #[] caps] 102)) #[.int .i64 0] 3
     rw [World.size_alloc] at this
     exact (this.alloc _).alloc _
   · rw [hW4]
     have := BL.new' ((w.alloc (.cells #[.func (.func fn) #[] caps] 102)).alloc (.cells #[.int .i64 0] 3)) #[.pointer (some ⟨b, 0, none⟩)] 285
     rw [World.size_alloc, World.size_alloc] at this
     exact this.alloc _
   · rw [hW4]
     have := BL.new' (((w.alloc (.cells #[.func (.func fn) #[] caps] 102)).alloc (.cells #[.int .i64 0] 3)).alloc (.cells #[.pointer (some ⟨b, 0, none⟩)] 285)) #[.int .i64 (v : Nat)] 3
     rw [World.size_alloc, World.size_alloc, World.size_alloc] at this
     exact this
   · exact BL.bel HST.out hb4
   · exact HEB.out.below hb4
 rw [<- hW4]
 have HS4 := Hd hs4
 have HJ4 := Hd hJ4
 clear hW4 hb4 hJ4
 refine wpIn_rangeFunc_iter (gf := 343) (lb := #[.pointer (some ⟨w.heap.size + 1 + 1, 0, none⟩), .pointer (some ⟨w.heap.size + 1 + 1 + 1, 0, none⟩)]) rfl (enters_of Tryz.func343 (by kernel_rfl) rfl)
   (links1_iter (w.heap.size + 1 + 1) (w.heap.size + 1 + 1 + 1) b v eb n ve q vd vs e es HE.out hvn hn) (fun _ => rfl) ?hR LkK_trans ?hKp (fun _ _ _ _ _ h _ => h) (JnI w b v eb n ve q vd vs e es (.func (.func fn) #[] caps) p) (fun _ _ _ => False) ?hI (fun _ _ _ _ _ h _ => h) ?hIR (fun _ _ _ _ h _ => h) ?hpre ?h0
   (fun x => { tmps := #[.pointer (some ⟨b, 0, none⟩), .int .i64 (v : Nat), .func (.func fn) #[] caps, undef, undef, .pointer (some ⟨w.heap.size, 0, none⟩), .int .i64 0, .pointer (some ⟨w.heap.size + 1, 0, none⟩), .int .i64 x.1, .int .i64 x.2, .pointer (some ⟨b, 0, none⟩), .int .i64 (v : Nat), .func (.func 343) #[] #[.pointer (some ⟨w.heap.size + 1 + 1, 0, none⟩), .pointer (some ⟨w.heap.size + 1 + 1 + 1, 0, none⟩)], .int .i64 x.1, .int .i64 x.2, undef, undef, undef, undef, undef, undef, undef], defers := [] }) ?assign ?body ?done ?stop
 case hR => intro A B h hs; exact ⟨h.block _ (by omega), h.block _ (by omega)⟩
 case hKp => intro W r o _; exact LkK_put W _ (by have := HS4.out; simp; omega)
 case hI =>
   intro pre W r o h hl
   obtain ⟨h1, h2, h3, h4⟩ := h
   exact ⟨h1.putLoop hl o, h2.putLoop hl o, h3.keep (LkK_put W o (by have := HS4.out; simp; omega)), below_putLoop h4 (by have := HS4.out; omega) o⟩
 case hIR =>
   intro pre A B h hr
   obtain ⟨h1, h2, h3, h4⟩ := h
   exact ⟨h1.bel hr, h2.bel hr, h3.below hr, h4.trans (hr.mono h4.size)⟩
 case hpre => intro r; exact HJ4.out.2.2.1.below ((below_alloc W4 _).alloc (by simp) _)
 case h0 =>
   intro r
   obtain ⟨h1, h2, h3, h4⟩ := HJ4.out
   have hb := (below_alloc W4 (.deferred (some []))).alloc (by simp) (.loop r)
   exact ⟨h1.bel hb, h2.bel hb, h3.below hb, h4.trans (hb.mono h4.size)⟩
 case assign =>
   intro l x W K hK
   gi_wp2
   exact hK
 case body =>
   rintro l pre x W r ⟨h1, h2, h3, h4⟩ ⟨rest, hrest⟩ hl hd
   have hx : x ∈ linksL es v := by rw [<- hrest]; simp
   have hxb := links_mem HE.out hvn hx
   have hpb : ∀ y ∈ pre, 1 <= y.2 /\ y.2 <= 50 := fun y hy => by have := links_mem HE.out hvn (x := y) (by rw [<- hrest]; simp [hy]); omega
   have hsb := sumP_bd (p := p) hpb
   have hpl : pre.length <= 144 := by
     have h1 := links_len es v
     have h2 := edges_len HE.out hn
     have h3 := congrArg List.length hrest
     simp at h3; omega
   have HSn := Hd (sumP_snoc p pre x)
   have c1 := h1.cell 0
   have c2 := h2.cell 0
   have f2 := h2.frozen 0
   have HC := Hd (HF.out W h4 x.1 (by omega))
   have H1 := Hd h1
   have H2 := Hd h2
   have H3 := Hd h3
   have H4 := Hd h4
   have HL := Hd hl
   have HD := Hd hd
   clear h1 h2 h3 h4 hl hd hrest hx hpb
   have hs0 : sumP p pre + x.2 <= 9000000000000000000 := by omega
   cases hp : p x.1.toNat
   · simp only [hp] at HC HSn
     gi_wp2_with fail
     refine ⟨trivial, (CallsIn.inRound l (callsIn_wide.2 HC.out)).mono ?_⟩
     rintro e' w' ⟨rfl, rfl⟩
     gi_wp2
     refine ⟨⟨rfl, rfl⟩, ⟨Nat.le_refl _, fun _ _ => rfl⟩, H1.out, ?_, H3.out, H4.out⟩
     rw [HSn.out]; simpa using H2.out
   · simp only [hp] at HC HSn
     gi_wp2_with fail
     refine ⟨trivial, (CallsIn.inRound l (callsIn_wide.2 HC.out)).mono ?_⟩
     rintro e' w' ⟨rfl, rfl⟩
     gi_wp2
     have hse := H2.out.set 0 (.int .i64 (sumP p pre + x.2))
     have hother : ∀ k, k ≠ w.heap.size + 1 -> (W.setCell ⟨w.heap.size + 1, 0, none⟩ (.int .i64 (sumP p pre + x.2))).heap[k]? = W.heap[k]? := fun k hk => heap_setCell_other W _ k _ hk
     refine ⟨⟨hother _ (by have := HS4.out; omega), hother _ (by have := HS4.out; omega)⟩, ⟨by simp, fun k hk => hother k (by simp at hk; omega)⟩, H1.out.set_other (by simp) _, ?_, H3.out.keep ⟨by simp, fun k hk => hother k (by simp at hk; omega)⟩, H4.out.setCell (p := ⟨w.heap.size + 1, 0, none⟩) (by simp) _⟩
     rw [HSn.out]; simpa using hse
 case done =>
   rintro xs W hS ⟨h1, h2, h3, h4⟩ hD
   have c2 := h2.cell 0
   have HS := Hd hS
   have HD := Hd hD
   have H4 := Hd h4
   clear h1 h2 h3 h4 hD hS
   gi_wp2
   refine ⟨by simp, .inl ⟨_, _, rfl, run_takeDeferred HD.out, ?_⟩⟩
   refine ⟨_, results_tmp rfl _ _ _, ?_, below_putLoop H4.out (by have := HS4.out; omega) _⟩
   rw [<- HSum.out, HS.out]
   rfl
 case stop => rintro c pre W _ h _; exact h.elim
end Go.Proofs.YteamhbohgoclgaaGreatDoor

namespace Go.Proofs.YteamhbohgoclgaaGreatDoor
open Go.RowKit Go.Shelf

def Marks (B : Nat) : List Deferred -> World -> Prop
 | [], _ => True
 | d :: r, w => (∃ b, d.target = .collected b /\ B <= b /\ w.heap[b]? = some (.deferred (some [])) /\ ∀ d' ∈ r, ∀ b', d'.target = .collected b' -> b' < b) /\ Marks B r w
theorem Marks.keep {B : Nat} {ds : List Deferred} {w w' : World} (h : Marks B ds w) (hk : ∀ b, B <= b -> w.heap[b]? = some (.deferred (some [])) -> w'.heap[b]? = w.heap[b]?) : Marks B ds w' := by
 induction ds with
 | nil => trivial
 | cons d r ih =>
   obtain ⟨⟨b, h1, h2, h3, h4⟩, h5⟩ := h
   exact ⟨⟨b, h1, h2, (hk b h2 h3).trans h3, h4⟩, ih h5⟩
theorem Marks.lt {B : Nat} {ds : List Deferred} {w : World} (h : Marks B ds w) : ∀ d ∈ ds, ∀ b, d.target = .collected b -> b < w.heap.size := by
 induction ds with
 | nil => intro d hd; cases hd
 | cons d r ih =>
   obtain ⟨⟨b, h1, h2, h3, h4⟩, h5⟩ := h
   intro d' hd' b' hb'
   rcases List.mem_cons.1 hd' with rfl | hd'
   · rw [h1] at hb'; cases hb'; exact lt_of_block h3
   · exact ih h5 d' hd' b' hb'
theorem Marks.push {B b : Nat} {ds : List Deferred} {w0 w : World} (h : Marks B ds w) (h0 : Marks B ds w0) (hb : w0.heap.size <= b) (hB : B <= b) (hh : w.heap[b]? = some (.deferred (some []))) : Marks B ({ target := .collected b, args := #[] } :: ds) w :=
 ⟨⟨b, rfl, hB, hh, fun d hd b' hb' => by have := h0.lt d hd b' hb'; omega⟩, h⟩
structure Shut (B : Nat) (w w' : World) : Prop where
 os : w'.os = w.os
 tape : w'.tape = w.tape
 output : w'.output = w.output
 size : w'.heap.size = w.heap.size
 block : ∀ k, w'.heap[k]? = w.heap[k]? \/ (B <= k /\ w.heap[k]? = some (.deferred (some [])))
theorem Shut.refl (B : Nat) (w : World) : Shut B w w := ⟨rfl, rfl, rfl, rfl, fun _ => .inl rfl⟩
theorem leaves_marks {F : Fence} {n : Nat} {P : Program} {fn : Func} {tmps : Array Value} {R : Ending -> World -> Prop} {B : Nat} (ds : List Deferred) (w : World) (hm : Marks B ds w)
   (h : ∀ w', Shut B w w' -> ∃ v, (results fn tmps).run P w' = .ok v w' /\ R (.returned v) w') : LeavesInM F n P fn tmps R ds .returning w := by
 induction ds generalizing w with
 | nil => exact h w (Shut.refl _ _)
 | cons d r ih =>
   obtain ⟨⟨b, h1, h2, h3, h4⟩, h5⟩ := hm
   have hbl := lt_of_block h3
   refine ⟨by simp, .inl ⟨b, w.putObj b (.deferred none), h1, run_takeDeferred h3, ih _ ?_ ?_⟩⟩
   · have : ∀ (r : List Deferred), (∀ d' ∈ r, ∀ b', d'.target = .collected b' -> b' < b) -> Marks B r w -> Marks B r (w.putObj b (.deferred none)) := fun r => by
       induction r with
       | nil => intros; trivial
       | cons d' r' ih' =>
         intro hlt hm'
         obtain ⟨⟨b', g1, g2, g3, g4⟩, g5⟩ := hm'
         have := hlt d' (List.mem_cons_self ..) b' g1
         exact ⟨⟨b', g1, g2, (World.putObj_heap_other (by omega)).trans g3, g4⟩, ih' (fun d hd => hlt d (List.mem_cons_of_mem _ hd)) g5⟩
     exact this r h4 h5
   · intro w' hs
     refine h w' ⟨hs.os, hs.tape, hs.output, hs.size.trans (by simp [World.putObj]), fun k => ?_⟩
     by_cases e : k = b
     · subst e; exact .inr ⟨h2, h3⟩
     · rw [show w.heap[k]? = (w.putObj b (.deferred none)).heap[k]? from (World.putObj_heap_other e).symm]
       exact hs.block k
theorem BL.shut {w w' : World} {b B : Nat} {T : TypeId} {us : List Value} (h : BL w b T us) (hs : Shut B w w') : BL w' b T us := by
 rcases hs.block b with e | ⟨_, e⟩
 · exact e.trans h
 · unfold BL at h; rw [h] at e; cases e
theorem OV.shut {w w' : World} {B C : Nat} {e : TypeId} {v : Value} {us : List Value} (h : OV w C e v us) (hs : Shut B w w') : OV w' C e v us := by
 refine ⟨⟨h.1.1, ?_⟩, h.2⟩
 rcases h.1.2 with h2 | ⟨g, cap, cur, hv, hg, hh, r⟩
 · exact .inl h2
 · refine .inr ⟨g, cap, cur, hv, hg, ?_, r⟩
   rcases hs.block g with e | ⟨_, e⟩
   · exact e.trans hh
   · rw [hh] at e; cases e
structure Fr (Bs : List Nat) (w w' : World) : Prop where
 os : w'.os = w.os
 tape : w'.tape = w.tape
 output : w'.output = w.output
 size : w.heap.size <= w'.heap.size
 block : ∀ k, k < w.heap.size -> k ∉ Bs -> w'.heap[k]? = w.heap[k]?
theorem Fr.refl (Bs : List Nat) (w : World) : Fr Bs w w := ⟨rfl, rfl, rfl, Nat.le_refl _, fun _ _ _ => rfl⟩
theorem Fr.below {Bs : List Nat} {w W W' : World} (h : Fr Bs w W) (hb : Below W.heap.size W W') : Fr Bs w W' :=
 ⟨hb.os.trans h.os, hb.tape.trans h.tape, hb.output.trans h.output, Nat.le_trans h.size hb.size, fun k hk hn => (hb.block k (by have := h.size; omega)).trans (h.block k hk hn)⟩
theorem Fr.setCell {Bs : List Nat} {w W : World} (h : Fr Bs w W) {p : Addr} (hp : p.block ∈ Bs \/ w.heap.size <= p.block) (v : Value) : Fr Bs w (W.setCell p v) :=
 ⟨h.os, h.tape, h.output, by simpa using h.size, fun k hk hn => (heap_setCell_other W p k v (by rintro rfl; rcases hp with hp | hp; exact hn hp; omega)).trans (h.block k hk hn)⟩
theorem Fr.drewN {Bs : List Nat} {w W : World} (h : Fr Bs w W) (n : Nat) : Fr Bs w (W.drewN n) := ⟨h.os, h.tape, h.output, h.size, h.block⟩
theorem Fr.putLoop {Bs : List Nat} {w W : World} (h : Fr Bs w W) {l : Nat} (hl : w.heap.size <= l) (o : Obj) : Fr Bs w (W.putObj l o) :=
 ⟨h.os, h.tape, h.output, by simpa [World.putObj] using h.size, fun k hk hn => (World.putObj_heap_other (by omega)).trans (h.block k hk hn)⟩
theorem Fr.shut {Bs : List Nat} {w W W' : World} (h : Fr Bs w W) {B : Nat} (hs : Shut B W W') (hB : w.heap.size <= B) : Fr Bs w W' :=
 ⟨hs.os.trans h.os, hs.tape.trans h.tape, hs.output.trans h.output, by rw [hs.size]; exact h.size, fun k hk hn => by
   rcases hs.block k with e | ⟨e, _⟩
   · exact e.trans (h.block k hk hn)
   · omega⟩
theorem Fr.trans {Bs : List Nat} {a b c : World} (h : Fr Bs a b) (k : Fr Bs b c) : Fr Bs a c :=
 ⟨k.os.trans h.os, k.tape.trans h.tape, k.output.trans h.output, Nat.le_trans h.size k.size, fun i hi hn => (k.block i (by have := h.size; omega) hn).trans (h.block i hi hn)⟩
theorem Fr.toBelow {Bs : List Nat} {w W W' : World} (h : Below w.heap.size w W) (k : Fr Bs W W') (hB : ∀ b ∈ Bs, w.heap.size <= b) : Below w.heap.size w W' :=
 h.trans ⟨k.os, k.tape, k.output, k.size, fun i hi => k.block i (by have := h.size; omega) (fun hm => by have := hB i hm; omega)⟩
theorem BL.fr {Bs : List Nat} {w w' : World} {b : Nat} {T : TypeId} {us : List Value} (h : BL w b T us) (hf : Fr Bs w w') (hn : b ∉ Bs) : BL w' b T us := (hf.block b h.lt hn).trans h
theorem EB.fr {Bs : List Nat} {w w' : World} {ve : Value} {es : List Tri} {eb : Nat} (h : EB w ve es eb) (hf : Fr Bs w w') (hn : eb ∉ Bs) (hl : eb < w.heap.size) : EB w' ve es eb := h.keep hf.size (hf.block eb hl hn)
theorem ex_act {P : Nat -> (Nat -> Value) -> List Deferred -> Prop} {F : Nat -> (Nat -> Value) -> List Deferred -> Act} {A : Array Value} {D : List Deferred} (k : Nat) (h : P k (fun i => A.getD i undef) D) (he : (Act.mk A D) = F k (fun i => A.getD i undef) D) :
   ∃ k u ds, P k u ds /\ (Act.mk A D) = F k u ds := ⟨k, _, _, h, he⟩

def simpleOp : Op -> Bool
 | .move _ | .assign _ | .load .. | .store .. | .fieldAddr .. | .indexAddr .. | .binOp .. | .nilCheck _ | .buildSlice .. => true
 | _ => false
def Flat : Result Next -> Prop
 | .ok (.value _) _ | .ok .skip _ | .halt _ _ => True
 | _ => False
theorem flat_v {P : Program} {w : World} (s : Sem Value) : Flat ((do pure (.value (<- s)) : Sem Next).run P w) := by
 rw [Sem.run_bind]
 cases s.run P w <;> trivial
theorem flat_u {P : Program} {w : World} (s : Sem Unit) : Flat ((do s; pure .skip : Sem Next).run P w) := by
 rw [Sem.run_bind]
 cases s.run P w <;> trivial
theorem flat_then {α : Type} (r : Result α) (f : α -> World -> Result Next) (h : ∀ a w, Flat (f a w)) : Flat (r.andThen f) := by
 cases r with
 | ok a w => exact h a w
 | halt _ _ => trivial
theorem flat_of {P : Program} {w : World} {ρ : Operand -> Value} {o : Oper} (h : simpleOp o.op = true) : Flat ((execOp ρ o).run P w) := by
 unfold execOp
 cases ho : o.op <;> rw [ho] at h <;> first | (simp [simpleOp] at h; done) | exact flat_v _ | exact flat_u _ | exact trivial | skip
 dsimp only
 have hp : Flat ((runtimePanic .nilDeref : Sem Next).run P w) := by
   unfold runtimePanic
   simp only [Sem.run_bind]
   refine flat_then _ _ fun a w' => ?_
   simp [goPanic, go_sem, Flat]
 split
 · exact hp
 · exact hp
 · exact hp
 · split
   · exact hp
   · rw [Sem.run_bind]
     refine flat_then _ _ fun a w' => ?_
     rw [Sem.run_bind]
     refine flat_then _ _ fun b w'' => ?_
     split
     · rw [Sem.run_bind]
       exact flat_then _ _ fun _ _ => trivial
     · trivial
   · trivial
 · trivial

variable {P : Program}
theorem about_simple {w : World} {ρ : Operand -> Value} {o : Oper} (h : simpleOp o.op = true) : o.about P w ρ = none := by
 unfold Oper.about
 cases ho : o.op <;> first | rfl | (rw [ho] at h; cases h)
theorem opIn_of_op {l N : Nat} {o : Oper} {a : Act} {w : World} {K : Act -> World -> Prop} {Q : Exit -> Act -> World -> Prop} (hs : simpleOp o.op = true) (h : o.wp P a w K Q) : o.wpIn (Fence.wide.inRound l) N P a w K Q := by
 refine ⟨fun _ _ => trivial, ?_⟩
 rw [Oper.semAt_plain (Fence.wide.inRound l) _ _ (by intro c hc; rw [hc] at hs; cases hs)]
 have hf := flat_of (P := P) (w := w) (ρ := a.eval) hs
 unfold Oper.wp at h
 generalize (execOp a.eval o).run P w = r at h hf
 match r, hf, h with
 | .ok (.value v) w', _, h => exact h
 | .ok .skip w', _, h => exact h
 | .halt (.panic v) w', _, h => exact h
theorem anyIn_of_any {l N : Nat} {md : Region.Mode} {ops : Array Oper} {Q : Exit -> Act -> World -> Prop} (hs : ∀ o ∈ ops, simpleOp o.op = true) (hQ : ¬ LetsOut Q) (fuel : Nat) (listed : Array Bool) (a : Act) (w : World)
   (h : wpAny P md ops Q fuel listed a w) : wpAnyIn (Fence.wide.inRound l) N P md ops Q fuel listed a w := by
 induction fuel generalizing listed a w with
 | zero => exact h
 | succ fuel ih =>
   refine ⟨h.1, fun i hi => ?_⟩
   have hi' := h.2 i hi
   unfold wpOp at hi'
   unfold wpOpIn
   cases ho : ops[i]? with
   | none => rw [ho] at hi'; exact ih _ _ _ hi'
   | some o =>
     rw [ho] at hi'
     have hm : o ∈ ops := Array.mem_of_getElem? ho
     dsimp only at hi' ⊢
     split at hi'
     · next c =>
       rw [if_pos c]
       rcases hi' with hi' | hi'
       · have := opIn_of_op (l := l) (N := N) (hs o hm) hi'
         exact Oper.wpIn_mono (fun a w h => ih _ _ _ h) this
       · exact absurd hi'.2 hQ
     · next c =>
       rw [if_neg c]
       exact ⟨fun f hf => (by rw [about_simple (hs o hm)] at hf; cases hf), ih _ _ _ hi'⟩
theorem still_tail_round {l N id : Nat} {Q : Exit -> Act -> World -> Prop} {a : Act} {w : World} {ops : List Oper} (n : Nat) (hm : P.follows .mixedOrders = true) (hs : ops.all (fun o => simpleOp o.op) = true) (hB : Region.lexTailB .any ops.toArray n = true) (hQ : ¬ LetsOut Q)
   (h : wpStill P ops.toArray { w with drawn := w.drawn + 1 } (fun a' => wpList P ops.toArray Q (ops.drop n) a' { w with drawn := w.drawn + 1 }) (ops.take n) a) : (Code.region id ops.toArray true).wpIn (Fence.wide.inRound l) N P Q a w := by
 simp only [Region.lexTailB, Bool.and_eq_true, decide_eq_true_eq] at hB
 obtain ⟨⟨⟨⟨hsel, hn⟩, hsi⟩, hc⟩, hlex⟩ := hB
 have hlen : (ops.take n).length = n := by simp at hn ⊢; omega
 have hdl : (ops.drop n).length = ops.toArray.size - n := by simp
 have hd0 : HeadInv .any ops.toArray n (Array.replicate ops.toArray.size false) :=
   ⟨by simp, fun j oj _ hl => (by rw [getD_replicate_false] at hl; cases hl), fun t _ ht => getD_in (by simpa using ht) (getD_replicate_false _ _)⟩
 have H := wpAnyL_lex (md := .any) (g := ops.toArray.size - n) hsel hsi hc hn (ops.take n) 0 _ a (fun j hj => by rw [hlen] at hj; simp [hj]) (by simpa using hlen) hd0 (by rw [hlen]; exact hlex) h
 have K := wpAny_of_head (Q' := Q) (g := ops.toArray.size - n) (fun listed a' hL => by
   have q := wpAny_of_seq (md := .any) (Q' := Q) (ops.drop n) n listed a' { w with drawn := w.drawn + 1 } (fun j => by simp [List.getElem?_drop]) (by rw [hdl]; exact hL.1) hL.2
   rwa [hdl] at q) _ _ _ H
 have hsum : n + (ops.toArray.size - n) = ops.toArray.size := by omega
 rw [hlen, hsum] at K
 refine wpIn_region_any hm (anyIn_of_any (fun o ho => ?_) hQ _ _ _ _ K)
 exact List.all_eq_true.1 hs o (by simpa using ho)
end Go.Proofs.YteamhbohgoclgaaGreatDoor
