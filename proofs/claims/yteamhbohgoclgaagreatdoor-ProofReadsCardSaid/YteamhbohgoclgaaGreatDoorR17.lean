/- Contract of package proof's numbers: the text of numbers. -/
import Derived.Test.YteamhbohgoclgaaGreatDoorR16
import Derived.Lib.AppendZerosOnto
set_option maxRecDepth 100000
set_option maxHeartbeats 16000000
namespace Go.Proofs.YteamhbohgoclgaaGreatDoor
open Go.RowKit Go.Shelf

def numT (l : List Int) : List UInt8 := l.flatMap (fun z => 32 :: Go.Lib.itoa z)
theorem numT_snoc (l : List Int) (z : Int) : numT (l ++ [z]) = numT l ++ 32 :: Go.Lib.itoa z := by
 unfold numT; rw [List.flatMap_append]; simp
def BU (w : World) (b : Nat) (s : List UInt8) : Prop := Go.Lib.IsBuilder 142 5 b b (Go.Lib.byteCells s) w
theorem BU.below {w w' : World} {b : Nat} {s : List UInt8} (h : BU w b s) (hb : Below w.heap.size w w') : BU w' b s := by
 have hx : ∀ p : Value, Go.Lib.BuilderAt 142 5 b b p (Go.Lib.byteCells s) w -> Go.Lib.BuilderAt 142 5 b b p (Go.Lib.byteCells s) w' := fun p hp => by
   obtain ⟨h1, v, hv, ho, hn⟩ := hp
   have hlt : b < w.heap.size := by
     rcases Nat.lt_or_ge b w.heap.size with h' | h'
     · exact h'
     · simp [Array.getElem?_eq_none h'] at hv
   refine ⟨h1, v, (hb.block b hlt).trans hv, ?_, hn⟩
   exact ho.kept (row := none) ⟨hb.os, hb.tape, hb.output, hb.size, fun k hk _ => hb.block k hk⟩ (by cases v.ownBlock <;> simp)
 exact h.elim (fun h => .inl (hx _ h)) (fun h => .inr (hx _ h))
theorem BU.fresh (w : World) : BU (w.alloc (.cells #[.pointer none, .slice none 0 0] 142)) w.heap.size [] := Go.Lib.fresh_isBuilder _ _ _
theorem bwrite_any (b : Nat) (s t : List UInt8) (w : World) (h : BU w b s) (hs : s.length <= 1000000) (ht : t.length <= 1000000) (hbw : b <= w.heap.size) :
   Calls Tryz.prog 93 #[.pointer (some ⟨b, 0, none⟩), .string ⟨t.toArray⟩] w fun e w' => e = .returned (.tuple #[.int .i64 (t.length : Int), .nilIface]) /\ BU w' b (s ++ t) /\ Below b w w' := by
 have hsz : (⟨t.toArray⟩ : ByteArray).size = t.length := by simp [ByteArray.size]
 refine (Go.Proofs.Any.Builder_WriteString layWrite extraW b b (Go.Lib.byteCells s) ⟨t.toArray⟩ w h (by rw [hsz]; simp [Go.Lib.byteCells]; omega) hbw).mono fun _ _ h => ?_
 obtain ⟨e, hb, hw⟩ := h
 refine ⟨by rw [e, hsz], .inr ?_, hw⟩
 have : Go.Lib.byteCells (s ++ t) = Go.Lib.byteCells s ++ Go.Lib.strCells ⟨t.toArray⟩ := by
   simp [Go.Lib.byteCells, Go.Lib.strCells]
 rw [this]; exact hb
theorem bstring_any (b : Nat) (s : List UInt8) (w : World) (h : BU w b s) (hbw : b <= w.heap.size) :
   Calls Tryz.prog 95 #[.pointer (some ⟨b, 0, none⟩)] w fun e w' => e = .returned (.string ⟨s.toArray⟩) /\ Below b w w' :=
 Go.Proofs.Any.Builder_String_any layString extraS b b s w h hbw
theorem ndig_lo : ∀ k v : Nat, k + 1 <= Go.Lib.nDigits v -> 1 <= k -> 10 ^ k <= v := by
 intro k
 induction k with
 | zero => intro v _ h0; omega
 | succ k ih =>
   intro v hv _
   by_cases hs : v < 10
   · rw [Go.Lib.nDigits_small hs] at hv; omega
   · rw [Go.Lib.nDigits_big hs] at hv
     by_cases hk : k = 0
     · subst hk; simp; omega
     · have := ih (v / 10) (by omega) (by omega)
       rw [Nat.pow_succ]
       have h2 := Nat.div_mul_le_self v 10
       have h3 := Nat.mul_le_mul_right 10 this
       omega
theorem dec_len19 (u : Nat) (h : u < 10000000000000000000) : (Go.Lib.decDigits u).length <= 19 := by
 rw [Go.Lib.decDigits_length]
 apply Classical.byContradiction
 intro hn
 have := ndig_lo 19 u (by omega) (by omega)
 omega
theorem itoa_len (z : Int) (h0 : -9223372036854775808 <= z) (h1 : z <= 9223372036854775807) : (Go.Lib.itoa z).length <= 20 := by
 have h := dec_len19 z.natAbs (by omega)
 rw [itoa_parts]
 split
 · rw [List.length_cons]; omega
 · omega
theorem pNumbers_any (v : Value) (l : List Int) (w : World) (hv : RI w v l) (hl : l.length <= 10000) (hr : ∀ z ∈ l, -9223372036854775808 <= z /\ z <= 9223372036854775807) (ht : TB w) :
   Calls Tryz.prog 60 #[v] w fun e w' => e = .returned (.string ⟨(numT l).toArray⟩) /\ Below w.heap.size w w' := by
 obtain ⟨A, c, rfl, hlc, -, hcell⟩ := hv.open_
 have HC := Hd hcell
 have HRn := Hd hr
 have HT := Hd ht
 obtain ⟨W0, hW0⟩ : ∃ W0, W0 = w.alloc (.cells #[.pointer none, .slice none 0 0] 142) := ⟨_, rfl⟩
 have hb0 : Below w.heap.size w W0 := by rw [hW0]; exact below_alloc w _
 have hu0 : BU W0 w.heap.size [] := by rw [hW0]; exact BU.fresh w
 have HB0 := Hd hb0
 have HU0 := Hd hu0
 have HW0 := Hd hW0
 have HNl : Hid (∀ k, k <= l.length -> (numT (l.take k)).length <= 21 * k) := fun k => by
   induction k with
   | zero => intro _; simp [numT]
   | succ k ih =>
     intro hk
     have h1 := ih (by omega)
     rw [List.take_succ_eq_append_getElem (by omega), numT_snoc]
     have hz := hr _ (List.getElem_mem (show k < l.length by omega))
     have := itoa_len _ hz.1 hz.2
     simp only [List.length_append, List.length_cons]
     omega
 clear hv hcell hr ht hb0 hu0 hW0
 go_enter Tryz.func60, Tryz.ntmps60
 go_wp2_with fail
 rw [<- HW0.out]
 go_loopw [8] (fun i wr => ∃ k : Nat, k <= l.length /\ i = .int .i64 (k : Int) /\ Hid (BU wr w.heap.size (numT (l.take k))) /\ Hid (Below w.heap.size w wr)) (fun i _ => l.length - (intOf i).toNat)
 case atStart => exact ⟨0, Nat.zero_le _, rfl, HU0.out, HB0.out⟩
 case round =>
   obtain ⟨k, hk, rfl, hu, hb⟩ := hrel
   by_cases hlt : k < l.length
   · obtain ⟨ad, z, rfl, hab, hx, hcl⟩ := HC.out k hlt
     have hcw := (hb.out.cell (p := ad.add k) (by rw [block_of_add]; exact hab)).trans hcl
     have hzm : z ∈ l := List.mem_of_getElem? hx.out
     have hzr := HRn.out z hzm
     have HI := Hd (itoa_any z wr hzr.1 hzr.2 (HT.out.below hb.out))
     have hzl := itoa_len z hzr.1 hzr.2
     have hadd := fun W => run_string_add_lists (P := Tryz.prog) W [32] (Go.Lib.itoa z) (by simp) (by omega)
     have HSn : Hid (numT (l.take (k + 1)) = numT (l.take k) ++ 32 :: Go.Lib.itoa z) := by
       show _ = _
       rw [<- numT_snoc]
       obtain ⟨h1, h2⟩ := List.getElem?_eq_some_iff.1 hx.out
       rw [List.take_succ_eq_append_getElem h1, h2]
     have HNk := Hd (HNl.out k hk)
     have HZl := Hd hzl
     unfold zV at HI
     rw [show [32] ++ Go.Lib.itoa z = 32 :: Go.Lib.itoa z from rfl] at hadd
     have HWr : Hid (∀ W, Below wr.heap.size wr W -> Calls Tryz.prog 93 #[.pointer (some ⟨w.heap.size, 0, none⟩), .string ⟨(32 :: Go.Lib.itoa z).toArray⟩] W fun e w' => ∃ n, e = .returned (.tuple #[.int .i64 n, .nilIface]) /\ BU w' w.heap.size (numT (l.take (k + 1))) /\ Below w.heap.size W w') := fun W hW => by
       have h1 := bwrite_any w.heap.size (numT (l.take k)) (32 :: Go.Lib.itoa z) W (hu.out.below hW) (by have := HNk.out; omega) (by simp; have := HZl.out; omega) (by have := hb.out.size; have := hW.size; omega)
       rw [<- HSn.out] at h1
       exact h1.mono fun _ _ h => ⟨_, h⟩
     generalize (ByteArray.mk (32 :: Go.Lib.itoa z).toArray) = P2 at *
     generalize (ByteArray.mk (Go.Lib.itoa z).toArray) = P1 at *
     clear hcl hx hzm hzr hzl hu HSn HNk HZl
     go_wp2_with fail
     refine HI.out.mono ?_
     rintro e w2 ⟨rfl, hb2⟩
     have HB2 := Hd (hb.out.trans (hb2.mono hb.out.size))
     have HWr2 := Hd (HWr.out w2 hb2)
     clear hb2 HWr HI
     go_wp2_with fail
     refine HWr2.out.mono ?_
     rintro e w3 ⟨n, rfl, hu3, hb3⟩
     have HB3 := Hd (HB2.out.trans hb3)
     have HU3 := Hd hu3
     clear hb3 hu3 HWr2
     go_wp2
     go_roundw
     case rel => exact ⟨k + 1, by omega, by go_num, HU3.out, HB3.out⟩
     case measure => simp [intOf]; omega
   · have HS := Hd (bstring_any w.heap.size (numT l) wr (by have h := hu.out; rwa [List.take_of_length_le (by omega)] at h) hb.out.size)
     obtain ⟨P2, hP2⟩ : ∃ P2, P2 = ByteArray.mk (numT l).toArray := ⟨_, rfl⟩
     rw [<- hP2] at HS
     have HP2 := Hd hP2
     clear hu hP2
     go_wp2_with fail
     refine HS.out.mono ?_
     rintro e w3 ⟨rfl, hb3⟩
     have HB3 := Hd (hb.out.trans hb3)
     clear hb3
     go_wp2
     go_ret
     exact ⟨by rw [<- HP2.out]; rfl, HB3.out⟩

theorem GrowD_any (n : Nat) (hn : n <= 1000000) (w : World) :
   Calls Tryz.prog 92 #[.slice none 0 0, .int .i64 (n : Int)] w fun e w' => ∃ v, e = .returned v /\ OI w' w.heap.size v [] /\ Below w.heap.size w w' := by
 obtain ⟨i0, hi, hz0, hz1, hz2⟩ := info_parts int_info
 rcases Nat.eq_zero_or_pos n with rfl | hp
 · go_enter Tryz.func92, Tryz.ntmps92
   go_wp2
   go_ret
   exact ⟨_, rfl, OI.nil_ _ _, Below.refl _ _⟩
 · have hold : (Builtin.firstCells i0.size 0 (.slice none 0 0)).run Tryz.prog w.drew = .ok (([] : List Value).toArray) w.drew := run_firstCells_none w.drew i0.size 0 0 0
   have hrz := fun ty => Go.Lib.run_append_grow_zeros (P := Tryz.prog) w 38 3 ty 3 i0 (.int .i64 0) .i64 .i64 Tryz.underlying38 Tryz.underlying3 hi hz0 none 0 0 [] hold n hp (by omega) (by omega) (by omega) (by rw [hz2]; omega)
     (by rw [Nat.zero_add]; exact growslice_fits (by omega) (by rw [hz2]; omega))
   have hGn : n <= grownCap w (0 + n) 0 3 := by have := grownCap_ge w (0 + n) 0 3; omega
   have hGm : grownCap w (0 + n) 0 3 <= maxLen := grownCap_le_maxLen w (0 + n) 0 3 (by unfold maxLen; omega)
   obtain ⟨G, hG⟩ : ∃ G, G = grownCap w (0 + n) 0 3 := ⟨_, rfl⟩
   rw [<- hG] at hrz hGn hGm
   have HOi : Hid (OI ((w.alloc (.cells (Builtin.zeroCells #[.int .i64 0] n ++ Builtin.zeroCells #[.int .i64 0] (G - n)) 3)).drew) w.heap.size (.slice (some ⟨w.heap.size, 0, none⟩) 0 G) []) := by
     refine ⟨⟨by simp, .inr ⟨w.heap.size, G, _, rfl, Nat.le_refl _, heap_alloc_new w _, Nat.zero_le _, hGm, ?_, by simp⟩⟩, by simp⟩
     simp [Builtin.zeroCells]
     omega
   have HBl : Hid (Below w.heap.size w ((w.alloc (.cells (Builtin.zeroCells #[.int .i64 0] n ++ Builtin.zeroCells #[.int .i64 0] (G - n)) 3)).drew)) := (below_alloc w _).drew
   have hg63 : G <= 9223372036854775807 := by unfold maxLen at hGm; omega
   rw [Nat.zero_add] at hrz
   clear hold hG
   go_enter Tryz.func92, Tryz.ntmps92
   go_wp2_with (at_builtin; refine Go.Lib.wpList_append_run _ rfl _ _ _ _ rfl _ _ rfl rfl _ _ (hrz _) ?_)
   all_goals
     go_wp2
     go_ret
     exact ⟨_, rfl, HOi.out, HBl.out⟩
theorem flat_take (ll : List (List Int)) (k : Nat) (l : List Int) (h : ll[k]? = some l) : (ll.take (k + 1)).flatten = (ll.take k).flatten ++ l := by
 obtain ⟨h1, rfl⟩ := List.getElem?_eq_some_iff.1 h
 rw [List.take_succ_eq_append_getElem h1, List.flatten_append]; simp
theorem flat_len (ll : List (List Int)) (hs : ∀ l ∈ ll, l.length <= 10000) : ll.flatten.length <= 10000 * ll.length := by
 induction ll with
 | nil => simp
 | cons a r ih =>
   have h1 := hs a (by simp)
   have h2 := ih (fun l h => hs l (by simp [h]))
   simp only [List.flatten_cons, List.length_append, List.length_cons]; omega
theorem ConcatD_any (v : Value) (ll : List (List Int)) (w : World) (h : RR w v ll) (hl : ll.length <= 100) (hs : ∀ l ∈ ll, l.length <= 10000) :
   Calls Tryz.prog 59 #[v] w fun e w' => ∃ vo, e = .returned vo /\ OI w' w.heap.size vo ll.flatten /\ Below w.heap.size w w' := by
 obtain ⟨i0, hi, hz0, hz1, hz2⟩ := info_parts int_info
 obtain ⟨A, c, rfl, -, -, hcell⟩ := h.open_
 have HC := Hd hcell
 have HSt : Hid (∀ k l, ll[k]? = some l -> (ll.take (k + 1)).flatten = (ll.take k).flatten ++ l) := fun k l => flat_take ll k l
 have HLe : Hid (∀ k, (ll.take k).flatten.length <= 1000000) := fun k => by
   have h1 := flat_len (ll.take k) (fun l h => hs l (List.mem_of_mem_take h))
   rw [List.length_take] at h1
   omega
 have HAl : Hid (ll.take ll.length = ll) := List.take_of_length_le (Nat.le_refl _)
 clear hcell h hs
 go_enter Tryz.func59, Tryz.ntmps59
 go_wp2_with fail
 go_loopw [3, 11] (fun n i wr => ∃ k : Nat, k <= ll.length /\ i = .int .i64 (k : Int) /\ n = .int .i64 ((ll.take k).flatten.length : Nat) /\ wr = w) (fun _ i _ => ll.length - (intOf i).toNat)
 case atStart => exact ⟨0, Nat.zero_le _, rfl, rfl, rfl⟩
 case round =>
   obtain ⟨k, hk, rfl, rfl, rfl⟩ := hrel
   have hn1 := HLe.out k
   by_cases hlt : k < ll.length
   · obtain ⟨ad, zs, A1, c1, rfl, hab, hx, hcl, hri⟩ := HC.out k hlt
     have HS1 := Hd (HSt.out k zs hx.out)
     have hn2 := HLe.out (k + 1)
     rw [HS1.out, List.length_append] at hn2
     obtain ⟨s, hs⟩ : ∃ s, s = (ll.take k).flatten.length := ⟨_, rfl⟩
     rw [<- hs] at hn1 hn2 ⊢
     have HSs := Hd hs
     have h3 : wrap64 ((s : Int) + (zs.length : Int)) = (s : Int) + (zs.length : Int) := by rw [IntWalk.wrap64_in] <;> omega
     have h4 : ¬ ((s : Int) + (zs.length : Int) < 0) := by omega
     clear hx hri hs
     go_wp2
     go_roundw
     case rel => exact ⟨k + 1, by omega, by go_num, by rw [HS1.out, List.length_append, <- HSs.out]; go_num, trivial⟩
     case measure => simp [intOf]; omega
   · have hke : Hid ((ll.take k).flatten.length = ll.flatten.length) := by show _ = _; rw [List.take_of_length_le (by omega)]
     have HGr := Hd (GrowD_any ll.flatten.length (by rw [<- hke.out]; exact hn1) wr)
     rw [hke.out] at hn1 ⊢
     obtain ⟨s, hs⟩ : ∃ s, s = ll.flatten.length := ⟨_, rfl⟩
     rw [<- hs] at HGr hn1 ⊢
     clear hke hs
     go_wp2_with fail
     refine HGr.out.mono ?_
     rintro e w2 ⟨vg, rfl, hog, hb2⟩
     have HOg := Hd hog
     have HB2 := Hd hb2
     clear hog hb2 HGr
     obtain ⟨w0, rfl⟩ : ∃ w0, w0 = wr := ⟨_, rfl⟩
     go_wp2_with fail
     go_loopw [6, 27] (fun o i wr => ∃ (k : Nat) (vo : Value), vo = o /\ k <= ll.length /\ i = .int .i64 (k : Int) /\ Hid (OI wr w0.heap.size o (ll.take k).flatten) /\ Hid (Below w0.heap.size w0 wr)) (fun _ i _ => ll.length - (intOf i).toNat)
     case atStart => exact ⟨0, _, rfl, Nat.zero_le _, rfl, HOg.out, HB2.out⟩
     case round =>
       obtain ⟨k, vo, rfl, hk, rfl, ho, hb⟩ := hrel
       by_cases hlt : k < ll.length
       · obtain ⟨ad, zs, A1, c1, rfl, hab, hx, hcl, hri⟩ := HC.out k hlt
         have hcw := (hb.out.cell (p := ad.add k) (by rw [block_of_add]; exact hab)).trans hcl
         have HS1 := Hd (HSt.out k zs hx.out)
         have HOv : Hid (OV wr w0.heap.size 3 vo ((ll.take k).flatten.map (.int .i64))) := ho.out
         have HRv : Hid (RV wr (.slice A1 zs.length c1) (zs.map (.int .i64))) := RI.below hri hb.out
         have HX := Hd (ints_one zs)
         have hn1 := HLe.out k
         have hn2 := HLe.out (k + 1)
         rw [HS1.out, List.length_append] at hn2
         have HO0 := ho
         generalize (ll.take k).flatten = os at *
         clear hx hri hcl ho
         go_wp2_with (at_builtin; refine wpList_appendV _ rfl _ _ _ rfl 3 i0 _ 8 Tryz.underlying37 hi hz0 hz1 hz2 rfl w0.heap.size _ _ rfl HOv.out _ _ rfl HRv.out HX.out (by first | omega | (simp; omega)) (by first | omega | (simp; omega)) (by first | omega | (simp; omega) | (have := hb.out.size; omega)) ?_; intro v1 w3 hown hg hat)
         have HF1 : Hid (OI w3 w0.heap.size v1 (os ++ zs)) := by show OV _ _ _ _ _; rw [List.map_append]; exact hown
         have HF2 : Hid (Below w0.heap.size w0 w3) := below_own hb.out hb.out.size HO0.out hg
         clear hown hg hat
         go_wp2
         go_roundw
         case rel => exact ⟨k + 1, _, rfl, by omega, by go_num, by rw [HS1.out]; exact HF1.out, HF2.out⟩
         case measure => simp [intOf]; omega
       · have hF : Hid (OI wr w0.heap.size vo ll.flatten) := by have h := ho.out; rwa [List.take_of_length_le (by omega)] at h
         clear ho
         go_wp2
         go_ret
         exact ⟨_, rfl, hF.out, hb.out⟩
attribute [local go_sem] Oper.semAt_some

def catS (n q : Nat) (es : List Tri) (cs : List Int) (xs : List Nat) : Prop := ∀ i, i < xs.length -> xs.getD i 0 < n /\ catchB n es cs (blOf q (xs.take i)) (xs.getD i 0) = true
theorem catS_snoc {n q : Nat} {es : List Tri} {cs : List Int} {xs : List Nat} {x : Nat} (h : catS n q es cs xs) (hx : x < n) (hc : catchB n es cs (blOf q xs) x = true) : catS n q es cs (xs ++ [x]) := fun i hi => by
 by_cases h1 : i < xs.length
 · have h2 := h i h1
   rw [List.take_append_of_le_length (by omega), List.getD_eq_getElem?_getD, List.getElem?_append_left h1, <- List.getD_eq_getElem?_getD]
   exact h2
 · have h2 : i = xs.length := by rw [List.length_append, List.length_singleton] at hi; omega
   subst h2
   rw [List.take_append_of_le_length (Nat.le_refl _), List.take_of_length_le (Nat.le_refl _), List.getD_eq_getElem?_getD, List.getElem?_append_right (Nat.le_refl _), Nat.sub_self]
   exact ⟨hx, hc⟩
def catF (n q : Nat) (es : List Tri) (cs : List Int) (xs : List Nat) : Prop := catS n q es cs xs /\ ∀ u, u < n -> catchB n es cs (blOf q xs) u = false
def BnS (n : Nat) (es : List Tri) (cs : List Int) (w0 : World) (B ob b hb gd q : Nat) (pre : List Nat) (W : World) : Prop := catS n q es cs pre /\ BnI w0 B ob b hb gd q pre W
theorem BnS.fr {n : Nat} {es : List Tri} {cs : List Int} {w0 : World} {B ob b hb gd q : Nat} {pre : List Nat} {A C : World} (h : BnS n es cs w0 B ob b hb gd q pre A) (hob : ob ≠ b) (hr : Fr [b] A C) : BnS n es cs w0 B ob b hb gd q pre C := ⟨h.1, h.2.fr hob hr⟩
theorem fire1S_iter (hb b gd cap n q : Nat) (tl cs : List Int) (es : List Tri) (hr : Rt n es) (hT : TT n es tl) (hq : q < n) (hcl : cs.length = n) (hgb : gd ≠ b) :
   IterW Tryz.prog 215 #[.pointer (some ⟨hb, 0, none⟩)] (fun x : Nat => #[.int .i64 (x : Int)]) (fun pre x _ => (x < n /\ pre.length <= 12) /\ catchB n es cs (blOf q pre) x = true) (fun A B => Fr [b] A B) (LkK [hb, b, gd])
     (fun xs W => WS hb b gd cap n tl cs (blOf q xs) W /\ BurnW n q es cs (blOf q xs) /\ ∀ u, u < n -> catchB n es cs (blOf q xs) u = false) (fun _ _ => True) (fun W => WS hb b gd cap n tl cs (blOf q []) W) := by
 intro N l J Jx W hpre hJ hJx hY h0
 have HJ := Hd hJ
 have HY := Hd hY
 have HP := Hd hpre
 have HR := Hd hr
 have HT := Hd hT
 have h6 := hr.n6
 have H0 := Hd h0
 clear hJ hY hpre hJx hr hT h0
 refine callsIn_of_wp Tryz.func215 rfl trivial ?_ rfl
 simp only [Tryz.ntmps215, List.size_toArray, List.length_cons, List.length_nil, Nat.reduceAdd, Nat.reduceSub, Array.replicate_succ, Array.replicate_zero, List.push_toArray, List.append_toArray, List.nil_append, List.cons_append]
 gi_wp2_with fail
 gi_loopg [3] (unb n (blOf q []) * (n + 1) + n) (fun k i wr => ∃ (v : Nat) (pre : List Nat), v <= n /\ i = .int .i64 (v : Int) /\ Hid (k = unb n (blOf q pre) * (n + 1) + (n - v)) /\ Hid (J pre wr) /\ Hid (WS hb b gd cap n tl cs (blOf q pre) wr) /\ Hid (BurnW n q es cs (blOf q pre)) /\ Hid (∀ u, u < v -> catchB n es cs (blOf q pre) u = false) /\ Hid (pre.length + unb n (blOf q pre) <= n))
 case atStart => exact ⟨0, [], Nat.zero_le _, rfl, by show _ = _; omega, H0.out, HP.out, burnw_start (by omega), fun u hu => by omega, by have := countN_le n fun u => !fnB (blOf q []) u; show _ <= _; unfold unb; simp; omega⟩
 case round =>
   obtain ⟨v, pre, hv, rfl, hk, hj, hw, hbu, hno, hpl⟩ := hrel
   obtain ⟨wo, rfl⟩ : ∃ wo : World, wo = wr := ⟨_, rfl⟩
   have a0 := hw.out.1.cell 0
   have a1 := hw.out.2.1.n
   by_cases hlt : v < n
   · have HC := Hd (catches_any b n v es tl _ cs (blOf q pre) wo HR.out hw.out.2.1 HT.out hlt hw.out.2.2 hcl)
     obtain ⟨cb, hcb⟩ : ∃ cb, cb = catchB n es cs (blOf q pre) v := ⟨_, rfl⟩
     rw [<- hcb] at HC
     have HCB := Hd hcb
     clear hcb
     gi_wp2_with fail
     refine ⟨trivial, fun h => (by simp [Fence.wide] at h), (callsIn_wide.2 HC.out).mono ?_⟩
     rintro e w1 ⟨rfl, j, rfl⟩
     have hj1 := HJ.out pre wo _ hj.out ((Fr.refl [b] wo).drewN j)
     have hw1 : WS hb b gd cap n tl cs (blOf q pre) (wo.drewN j) := hw.out.below (below_drewN (Below.refl _ _) j)
     clear a0 a1 HC
     generalize wo.drewN j = wa at *
     have b0 := hw1.1.cell 0
     cases cb
     · have HJ1 := Hd hj1
       have HW1 := Hd hw1
       clear hj1 hw1
       gi_wp2
       gi_roundg (unb n (blOf q pre) * (n + 1) + (n - (v + 1)))
       case measure => rw [hk.out]; omega
       case rel => exact ⟨v + 1, pre, by omega, by go_num, rfl, HJ1.out, HW1.out, hbu.out, fun u hu => by
         by_cases e : u = v
         · subst e; exact HCB.out.symm
         · exact hno.out u (by omega), hpl.out⟩
     · have q1 := hw1.2.1.burnt (j := v) (by omega)
       have p1 : wa.frozen? ⟨b, 146 + v, none⟩ = false := hw1.2.1.1.frozen _
       have hw2 := hw1.set hgb (j := v) (by omega) true
       rw [<- blOf_snoc] at hw2
       have hj2 := HJ.out pre wa _ hj1 ((Fr.refl [b] wa).setCell (p := ⟨b, 146 + v, none⟩) (.inl (by simp)) (.bool true))
       obtain ⟨W2, hW2⟩ : ∃ W2, W2 = wa.setCell ⟨b, 146 + v, none⟩ (.bool true) := ⟨_, rfl⟩
       rw [<- hW2] at hw2 hj2
       have hbu2 := burnw_step HR.out hbu.out hlt HCB.out.symm
       rw [<- blOf_snoc] at hbu2
       have hun : unb n (blOf q (pre ++ [v])) + 1 = unb n (blOf q pre) := by
         rw [blOf_snoc]
         refine unb_set hbu.out.1 hlt (by omega) ?_
         have := HCB.out.symm
         unfold catchB at this
         simp only [Bool.and_eq_true, Bool.not_eq_true'] at this
         exact this.1
       obtain ⟨fn, tmps, assign, body, hy, hRd⟩ := HY.out pre v W2 hj2 ⟨⟨hlt, by have := hpl.out; omega⟩, HCB.out.symm⟩
       (try dsimp only at hy hRd)
       have HRd := Hd hRd
       have HW2 := Hd hw2
       have HEq := Hd hW2
       have HBu2 := Hd hbu2
       have HUn := Hd hun
       clear hRd hj2 hw2 hW2 hbu2 hj1 hw1 hun
       rw [HEq.out] at hy
       gi_wp2_with fail
       rw [<- HEq.out]
       refine ⟨fun h => (by simp [Fence.wide] at h), HRd.out.mono ?_⟩
       rintro e W3 (⟨rfl, hJ3, hk3⟩ | ⟨rfl, hJx3⟩)
       · have HJ3 := Hd hJ3
         have HW3 := Hd (HW2.out.keep hk3)
         clear hJ3 hk3 hy
         gi_wp2
         gi_roundg (unb n (blOf q (pre ++ [v])) * (n + 1) + n)
         case measure =>
           have h1 := HUn.out
           have h2 := hk.out
           have h3 : unb n (blOf q pre) * (n + 1) = unb n (blOf q (pre ++ [v])) * (n + 1) + (n + 1) := by rw [<- h1, Nat.add_mul, Nat.one_mul]
           omega
         case rel => exact ⟨0, pre ++ [v], by omega, rfl, by show _ = _; omega, HJ3.out, HW3.out, HBu2.out, fun u hu => by omega, by have := hpl.out; have := HUn.out; show _ <= _; rw [List.length_append, List.length_singleton]; omega⟩
       · clear hy
         gi_wp2
         refine bodyPost_ret (results_none rfl _ _ _) rfl ?_
         exact ⟨⟨_, rfl⟩, .inr ⟨pre ++ [v], trivial, hJx3⟩⟩
   · obtain rfl : v = n := by omega
     gi_wp2
     refine bodyPost_end (results_none rfl _ _ _) rfl ?_
     exact ⟨⟨_, rfl⟩, .inl ⟨pre, ⟨hw.out, hbu.out, hno.out⟩, hj.out⟩⟩
theorem BurnS_any (g d : Value) (n q : Nat) (es : List Tri) (cs : List Int) (w : World) (hg : GV w g n es) (hr : Rt n es) (hq : q < n) (hd : RI w d cs) (hc : Cf n q cs) :
   Calls Tryz.prog 118 #[g, .int .i64 (q : Int), d] w fun e w' => ∃ vo vl left, e = .returned (.tuple #[vo, vl, .int .i64 0]) /\ RI w' vl left /\ Below w.heap.size w w' /\ (left = [] ↔ Tight n (wgt es) q (fnD cs)) /\ ∃ xs : List Nat, RI w' vo ((q : Int) :: xs.map fun x : Nat => (x : Int)) /\ catF n q es cs xs := by
 obtain ⟨A, c, rfl, -, -, -⟩ := hg.open_
 obtain ⟨A2, c2, rfl, -, hlb, -⟩ := hd.open_
 obtain ⟨i0, hi, hz0, hz1, hz2⟩ := info_parts int_info
 obtain ⟨W0, hW0⟩ : ∃ W0, W0 = w.alloc (.cells #[.int .i64 (n : Int), .slice A es.length c] 25) := ⟨_, rfl⟩
 have hb0 : Below w.heap.size w W0 := by rw [hW0]; exact below_alloc w _
 have hbx : BL W0 w.heap.size 25 [.int .i64 (n : Int), .slice A es.length c] := by rw [hW0]; exact BL.new' w _ _
 have c0 := hbx.cell 0
 have c1 := hbx.cell 1
 rw [hW0] at c0 c1
 have HCk := Hd (bCheck_ok _ _ n q es cs W0 (hg.below hb0) hr hq (RI.below hd hb0) hc)
 have HG0 := Hd (hg.below hb0)
 have HD0 := Hd (RI.below hd hb0)
 have HX0 := Hd hbx
 have HB0 := Hd hb0
 have HW0 := Hd hW0
 have HR := Hd hr
 have HCf := Hd hc
 clear hg hd hb0 hW0 hbx hr hc
 refine (callsIn_wide (n := 3)).1 ?_
 refine callsIn_of_wp_marks Tryz.func118 rfl trivial ?_ rfl
 refine wpIn_wide.2 ?_
 simp only [Tryz.ntmps118, List.size_toArray, List.length_cons, List.length_nil, Nat.reduceAdd, Nat.reduceSub, Array.replicate_succ, Array.replicate_zero, List.push_toArray, List.append_toArray, List.nil_append, List.cons_append]
 go_wp2_with fail
 rw [<- HW0.out]
 refine HCk.out.mono ?_
 rintro e w1 ⟨rfl, hb1⟩
 have d0 := (HX0.out.bel hb1).cell 0
 have d1 := (HX0.out.bel hb1).cell 1
 have HKi := Hd (kindled_any _ _ n q es cs w1 (HG0.out.below hb1) HR.out hq (RI.below HD0.out hb1) HCf.out.len)
 have HB1 := Hd (HB0.out.trans (hb1.mono HB0.out.size))
 clear hb1 c0 c1
 go_wp2_with fail
 refine HKi.out.mono ?_
 rintro e w2 ⟨b, tl, gd, cap, rfl, hbB, hgb, hwd, htt, hri, hb2⟩
 have HWD := Hd hwd
 have HTT := Hd htt
 have HRI := Hd hri
 have HB2 := Hd (HB1.out.trans (hb2.mono HB1.out.size))
 have hbl := hwd.1.lt
 have hz1w := HB1.out.size
 clear hwd htt hri hb2 d0 d1 HKi HCk
 go_wp2_with fail
 obtain ⟨W4, hW4⟩ : ∃ W4, W4 = (w2.alloc (.cells #[.int .i64 (q : Int)] 3)).alloc (.cells #[.slice (some ⟨w2.heap.size, 0, none⟩) 1 1] 37) := ⟨_, rfl⟩
 have hb4 : Below w2.heap.size w2 W4 := by rw [hW4]; exact (below_alloc w2 _).alloc (by simp) _
 have hz4 : W4.heap.size = w2.heap.size + 2 := by rw [hW4]; simp
 have ho4 : OI W4 w2.heap.size (.slice (some ⟨w2.heap.size, 0, none⟩) 1 1) [(q : Int)] := by
   rw [hW4]
   exact OI.below (own_lit w2 (q : Int)) (below_alloc _ _)
 have hx4 : BL W4 (w2.heap.size + 1) 37 [.slice (some ⟨w2.heap.size, 0, none⟩) 1 1] := by
   rw [hW4]
   have := BL.new' (w2.alloc (.cells #[.int .i64 (q : Int)] 3)) #[.slice (some ⟨w2.heap.size, 0, none⟩) 1 1] 37
   rwa [World.size_alloc] at this
 have HW4 := Hd hW4
 have HB4 := Hd hb4
 have HO4 := Hd ho4
 have HX4 := Hd hx4
 clear hW4 hb4 ho4 hx4
 rw [<- HW4.out]
 refine (fireF_any b _).mono ?_
 rintro e w5 ⟨rfl, rfl⟩
 go_wp2
 obtain ⟨W5, hW5⟩ : ∃ W5, W5 = W4.alloc (.cells #[.pointer (some ⟨b, 0, none⟩)] 225) := ⟨_, rfl⟩
 have hb5 : Below W4.heap.size W4 W5 := by rw [hW5]; exact below_alloc W4 _
 have hz5 : W5.heap.size = W4.heap.size + 1 := by rw [hW5]; simp
 have HWS : Hid (WS (w2.heap.size + 2) b gd cap n tl cs (blOf q []) W5) := by
   refine ⟨?_, (HWD.out.bel HB4.out).bel hb5, RI.below (RI.below HRI.out HB4.out) hb5⟩
   rw [hW5, <- hz4]; exact BL.new' W4 _ _
 have HI5 : Hid (BnS n es cs w2 w2.heap.size (w2.heap.size + 1) b (w2.heap.size + 2) gd q [] W5) :=
   ⟨fun i hi => by simp at hi, w2.heap.size, 1, HX4.out.bel hb5, OI.below HO4.out hb5, ⟨by omega, by omega, by omega⟩, ((Fr.refl _ w2).below HB4.out).below hb5⟩
 have HB5 := Hd (HB2.out.trans ((HB4.out.trans (hb5.mono HB4.out.size)).mono HB2.out.size))
 have HZ4 := Hd hz4
 have HZ5 := Hd hz5
 rw [<- hW5]
 clear hW5 hb5 hz4 hz5
 refine (wpIn_wide (n := 3)).1 ?_
 refine wpIn_rangeFunc_iterW (gf := 215) (lb := #[.pointer (some ⟨w2.heap.size + 2, 0, none⟩)]) rfl (enters_of Tryz.func215 (by kernel_rfl) rfl)
   (fire1S_iter (w2.heap.size + 2) b gd cap n q tl cs es HR.out HTT.out hq HCf.out.len (by omega)) (fun _ => rfl) ?hR LkK_trans ?hKp (fun _ _ _ _ _ h _ => h) ?hSk (fun _ _ _ _ _ _ => trivial) (BnS n es cs w2 w2.heap.size (w2.heap.size + 1) b (w2.heap.size + 2) gd q) (fun _ _ _ => False) ?hI (fun _ _ _ _ _ h _ => h) ?hIR (fun _ _ _ _ h _ => h) ?hpre ?h0
   ?a1 ?assign ?body ?done ?stop
 case assign =>
   intro l x W K' hK'
   gi_wp2
   exact hK'
 case hR => intro A C h hs; have := HZ5.out; have := HZ4.out; exact ⟨h.block _ (by omega) (by simp; omega), h.block _ (by omega) (by simp; omega)⟩
 case hKp => intro W r o _; have := HZ5.out; have := HZ4.out; exact LkK_put W _ (by simp; omega)
 case hSk =>
   rintro xs W r o ⟨k1, k2, k3⟩ hl
   have := HZ5.out; have := HZ4.out
   exact ⟨k1.keep (LkK_put W o (by simp; omega)), k2, k3⟩
 case hI =>
   rintro pre W r o ⟨kc, g, cap', k1, k2, k3, k5⟩ hl
   exact ⟨kc, g, cap', k1.putLoop hl o, OV.putLoop' k2 hl o, k3, k5.putLoop (by have := HZ5.out; have := HZ4.out; omega) o⟩
 case hIR => intro pre A C h hr; exact h.fr (by omega) hr
 case hpre => intro r; exact HWS.out.below ((below_alloc W5 _).alloc (by simp) _)
 case h0 => intro r; exact HI5.out.fr (by omega) ((Fr.refl _ W5).below ((below_alloc W5 (.deferred (some []))).alloc (by simp) (.loop r)))
 case stop => rintro c pre W _ h _; exact h.elim
 case done =>
   rintro xs W ⟨hws, hbw, hno⟩ ⟨kc, g, cap', k1, k2, k3, k5⟩ hD
   have HKc := Hd kc
   have HNo := Hd hno
   have HO2 := Hd (OI.below (w' := W.drew) k2 (Below.refl _ _).drew)
   have HUn := Hd (unburntW_any b n tl _ (blOf q xs) W.drew (by have := HR.out.n6; omega) (hws.2.1.drewN 1))
   have c0 := k1.cell 0
   have hol := k1.lt
   have HK : Hid (∀ w1 : World, Below W.drew.heap.size W.drew w1 -> w1.cell? ⟨w2.heap.size + 1, 0, none⟩ = some (.slice (some ⟨g, 0, none⟩) (xs.length + 1) cap')) := fun w1 hb => (hb.cell (p := ⟨w2.heap.size + 1, 0, none⟩) hol).trans c0
   have HTi := Hd (burnw_tight hbw hno)
   have HD := Hd hD
   have HK5 := Hd k5
   clear hws hbw hno k1 k2 k3 k5 hD kc
   go_wp2_with fail
   have HK0 : Hid (W.drew.cell? ⟨w2.heap.size + 1, 0, none⟩ = some (.slice (some ⟨g, 0, none⟩) (xs.length + 1) cap')) := c0
   go_region_held3 (fun W' : World => W'.cell? ⟨w2.heap.size + 1, 0, none⟩ = some (.slice (some ⟨g, 0, none⟩) (xs.length + 1) cap')) (first | exact HK0.out | exact HKw.out) (first | (go_at_call 168; refine HUn.out.mono ?_; rintro e w6 ⟨vl, rfl, ho6, hb6⟩; have HKw := Hd (HK.out w6 hb6)))
   all_goals
     have HO6 := Hd ho6
     have HB6 := Hd hb6
     clear ho6 hb6
     go_wp2_with fail
     refine leaves_marks (B := w.heap.size) [_] _ ⟨⟨_, rfl, ?_, ?_, by simp⟩, trivial⟩ fun w' hs => ⟨_, results_tmp3 rfl _ _ _, _, vl, _, rfl, (OV.shut HO6.out hs).rv, ?_, HTi.out, xs, (OV.shut (OI.below HO2.out HB6.out) hs).rv, HKc.out, HNo.out⟩
     · have := HZ5.out; have := HZ4.out; have := HB2.out.size; omega
     · exact (HB6.out.block _ (by have := lt_of_block HD.out; simpa using this)).trans HD.out
     · refine Below.shut ?_ hs
       have h6 : Fr [b] w2 w6 := (HK5.out.drewN 1).below HB6.out
       exact h6.toBelow HB2.out (by intro b' hb'; simp only [List.mem_cons, List.not_mem_nil, or_false] at hb'; omega)
 case body =>
   rintro l pre x W r ⟨kc, g, cap', k1, k2, k3, k5⟩ ⟨⟨hx, hpl⟩, hxc⟩ hl hd
   have hz4 := HZ4.out
   have hz5 := HZ5.out
   obtain ⟨g2, cap2, w', hrun, hown, hgr, hat⟩ := run_append_one (P := Tryz.prog) W 37 37 3 i0 _ Tryz.underlying37 hi hz0 hz1 hz2 rfl w2.heap.size _ _ k2 (.int .i64 (x : Int)) rfl (by simp; omega) (by have := k5.size; omega)
   rw [show ((((q : Int) :: pre.map fun x : Nat => (x : Int)).map (Value.int .i64)).length + 1) = pre.length + 2 by simp] at hrun hown
   have hog : w2.heap.size + 1 ≠ g := BL.ne_own k1 k2 (by decide)
   have ho2 : w2.heap.size + 1 ≠ g2 := by
     rcases hat with h | h
     · simp only [Value.ownBlock, Option.some.injEq] at h; omega
     · have := k1.lt; omega
   have hgW := (k2.1.lt g rfl).2
   have hk1 : BL w' (w2.heap.size + 1) 37 [.slice (some ⟨g, 0, none⟩) (pre.length + 1) cap'] := BL.grown (k1.alloc _) hgr (by simp only [Value.ownBlock, ne_eq, Option.some.injEq]; omega)
   have c4 := k1.cell 0
   have c5 := hk1.cell 0
   have f5 := hk1.frozen 0
   have hfin : ∀ j, j < W.heap.size -> j ≠ g -> j ≠ w2.heap.size + 1 -> (w'.setCell ⟨w2.heap.size + 1, 0, none⟩ (.slice (some ⟨g2, 0, none⟩) (pre.length + 2) cap2)).heap[j]? = W.heap[j]? := fun j hj h1 h2 =>
     (heap_setCell_other w' _ j _ h2).trans ((hgr.block j (by rw [World.size_alloc]; omega) (by simp only [Value.ownBlock, ne_eq, Option.some.injEq]; omega)).trans (Below.heap_alloc W _ j hj))
   have hszf : W.heap.size <= (w'.setCell ⟨w2.heap.size + 1, 0, none⟩ (.slice (some ⟨g2, 0, none⟩) (pre.length + 2) cap2)).heap.size := by have := hgr.size; simp at this ⊢; omega
   have hlb := lt_of_block hl
   have hdb := lt_of_block hd
   have hlg : W5.heap.size + 1 ≠ g := by rintro rfl; obtain ⟨_, hh, _⟩ := k2.block_ (g := W5.heap.size + 1) rfl; rw [hl] at hh; cases hh
   have hdg : W5.heap.size ≠ g := by rintro rfl; obtain ⟨_, hh, _⟩ := k2.block_ (g := W5.heap.size) rfl; rw [hd] at hh; cases hh
   have hk5s := k5.size
   have HFin : Hid (KeepLD W5.heap.size W (w'.setCell ⟨w2.heap.size + 1, 0, none⟩ (.slice (some ⟨g2, 0, none⟩) (pre.length + 2) cap2)) /\ LkK [w2.heap.size + 2, b, gd] W (w'.setCell ⟨w2.heap.size + 1, 0, none⟩ (.slice (some ⟨g2, 0, none⟩) (pre.length + 2) cap2)) /\
       BnS n es cs w2 w2.heap.size (w2.heap.size + 1) b (w2.heap.size + 2) gd q (pre ++ [x]) (w'.setCell ⟨w2.heap.size + 1, 0, none⟩ (.slice (some ⟨g2, 0, none⟩) (pre.length + 2) cap2))) := by
     refine ⟨⟨hfin _ hdb hdg (by omega), hfin _ hlb hlg (by omega)⟩, ⟨hszf, fun j hj => ?_⟩, ⟨catS_snoc kc hx hxc, g2, cap2, ?_, ?_, ?_, ?_⟩⟩
     · simp only [List.mem_cons, List.not_mem_nil, or_false] at hj
       exact hfin j (by omega) (by omega) (by omega)
     · have h := hk1.set 0 (.slice (some ⟨g2, 0, none⟩) (pre.length + 2) cap2)
       simpa using h
     · have h := OI.setOther (p := ⟨w2.heap.size + 1, 0, none⟩) (zs := (q : Int) :: (pre ++ [x]).map fun x : Nat => (x : Int)) (by simpa [OI] using hown) (by simp; omega) (.slice (some ⟨g2, 0, none⟩) (pre.length + 2) cap2)
       simpa using h
     · rcases hat with h | h
       · simp only [Value.ownBlock, Option.some.injEq] at h
         omega
       · omega
     · exact (Fr.grownG (k5.below (below_alloc W _)) hgr (fun k hk => by simp only [Value.ownBlock, Option.some.injEq] at hk; have := (k2.1.lt g rfl).1; omega)).setCell (p := ⟨w2.heap.size + 1, 0, none⟩) (.inr (by simp)) _
   clear hfin hk1 k1 k2 k5 hl hd hown hgr hat
   repeat (first | (refine wpListIn_append rfl _ _ _ rfl _ _ (by simp [Act.eval, Act.put]; done) (by simp [Act.eval, Act.put]; done) _ _ hrun ?_) | gi_step)
   gi_wp2
   exact HFin.out
end Go.Proofs.YteamhbohgoclgaaGreatDoor

namespace Go.Proofs.YteamhbohgoclgaaGreatDoor
open Go.RowKit Go.Shelf

def minL (zs : List Int) : Int := zs.tail.foldl min (zs.headD 0)
theorem foldl_min_le (l : List Int) (a : Int) : l.foldl min a <= a /\ ∀ z ∈ l, l.foldl min a <= z := by
 induction l generalizing a with
 | nil => simp
 | cons x r ih =>
   have := ih (min a x)
   simp only [List.foldl_cons, List.mem_cons]
   refine ⟨by omega, fun z hz => ?_⟩
   rcases hz with rfl | hz
   · omega
   · exact this.2 z hz
theorem foldl_min_mem (l : List Int) (a : Int) : l.foldl min a = a \/ l.foldl min a ∈ l := by
 induction l generalizing a with
 | nil => simp
 | cons x r ih =>
   simp only [List.foldl_cons, List.mem_cons]
   rcases ih (min a x) with h | h
   · rw [h]
     by_cases hx : a <= x
     · left; omega
     · right; left; omega
   · exact .inr (.inr h)
theorem minL_ge (zs : List Int) (h : 1 <= zs.length) (b : Int) : b <= minL zs ↔ ∀ z ∈ zs, b <= z := by
 match zs, h with
 | x :: r, _ =>
   simp only [minL, List.tail_cons, List.headD_cons, List.mem_cons]
   have h1 := foldl_min_le r x
   constructor
   · intro hb z hz
     rcases hz with rfl | hz
     · exact Int.le_trans hb h1.1
     · exact Int.le_trans hb (h1.2 z hz)
   · intro hb
     rcases foldl_min_mem r x with h | h
     · rw [h]; exact hb x (.inl rfl)
     · exact hb _ (.inr h)
theorem take_tail_succ {zs : List Int} {k : Nat} {z : Int} (hk1 : 1 <= k) (hz : zs[k]? = some z) : (zs.take (k + 1)).tail = (zs.take k).tail ++ [z] := by
 obtain ⟨hk, rfl⟩ := List.getElem?_eq_some_iff.1 hz
 rw [List.take_succ_eq_append_getElem hk, List.tail_append_of_ne_nil]
 intro e
 have := congrArg List.length e
 rw [List.length_take, List.length_nil] at this
 omega

theorem MinD_any (va : Value) (xs : List Int) (w : World) (ha : RI w va xs) (hl : 1 <= xs.length) :
   Calls Tryz.prog 117 #[va] w fun e w' => e = .returned (.int .i64 (minL xs)) /\ w = w' := by
 obtain ⟨A, c, rfl, hlc, hc, hcell⟩ := ha.open_
 obtain ⟨ad, z0, rfl, _, hz0, hcl0⟩ := hcell 0 hl
 have hcl1 : w.cell? ad = some (.int .i64 z0) := hcl0
 have HA := Hd hcell
 clear hcell ha hcl0
 go_enter Tryz.func117, Tryz.ntmps117
 go_wp2
 go_loop [3, 4] (fun m i => ∃ k : Nat, 1 <= k /\ k <= xs.length /\ i = .int .i64 k /\ ∃ t : Int, m = .int .i64 t /\ Hid (t = (xs.take k).tail.foldl min (xs.headD 0))) (fun _ i => xs.length - (intOf i).toNat)
 case atStart => exact ⟨1, Nat.le_refl _, hl, rfl, z0, rfl, by have := hz0.out; cases xs <;> simp_all [Hid]⟩
 case round =>
   obtain ⟨k, hk1, hk, rfl, t, rfl, ht⟩ := hrel
   by_cases hlt : k < xs.length
   · obtain ⟨ad', z, hA, hadb, hz, hcl⟩ := HA.out k hlt
     obtain rfl := Option.some.inj hA
     have HS := Hd (take_tail_succ hk1 hz.out)
     clear HA hA
     go_wp2
     all_goals
       go_round
       case rel => exact ⟨k + 1, by omega, by omega, by go_num, _, rfl, by show _ = _; rw [HS.out, List.foldl_append, <- ht.out]; simp only [List.foldl_cons, List.foldl_nil] <;> omega⟩
       case measure => simp [intOf]; omega
   · go_wp2
     go_ret
     refine ⟨ret_i ?_, rfl⟩
     rw [ht.out, List.take_of_length_le (by omega)]; rfl

theorem burns_any (g d : Value) (n q : Nat) (es : List Tri) (cs : List Int) (w : World) (hg : GV w g n es) (hr : Rt n es) (hq : q < n) (hd : RI w d cs) (hl : cs.length = n) (hb : ∀ v, v < n -> cs.getD v 0 <= 1048576) :
   Calls Tryz.prog 84 #[g, .int .i64 (q : Int), d] w fun e w' => ∃ (A0 : Option Addr) (l0 c0 : Nat) (er : Int), e = .returned (.tuple #[.slice A0 l0 c0, .int .i64 er]) /\
     ((er = 0 /\ Cf n q cs /\ Tight n (wgt es) q (fnD cs) /\ ∃ xs : List Nat, RI w' (.slice A0 l0 c0) (xs.map fun x : Nat => (x : Int)) /\ catF n q es cs xs) \/ (er = 16 /\ ¬ (Cf n q cs /\ Tight n (wgt es) q (fnD cs)))) /\ Below w.heap.size w w' := by
 obtain ⟨A, c, rfl, -⟩ := hg.open_
 obtain ⟨W0, hW0⟩ : ∃ W0, W0 = w.alloc (.cells #[.int .i64 n, .slice A es.length c] 25) := ⟨_, rfl⟩
 have hb0 : Below w.heap.size w W0 := by rw [hW0]; exact below_alloc w _
 have hx0 : BL W0 w.heap.size 25 [.int .i64 n, .slice A es.length c] := by rw [hW0]; exact BL.new' w _ _
 have c0 := hx0.cell 0
 have c1 := hx0.cell 1
 have HX0 := Hd hx0
 have HG0 := Hd (hg.below hb0)
 have HB0 := Hd hb0
 have HW0 := Hd hW0
 rw [hW0] at c0 c1
 clear hg hx0 hW0
 have HD0 := Hd (hd.below HB0.out)
 have hq1 : 1 <= n := by omega
 have HMi := Hd (MinD_any d cs W0 HD0.out (by omega))
 have HCf : Hid (Cf n q cs ↔ cs.getD q 0 = 0 /\ 0 <= minL cs) := by
   show _ ↔ _
   rw [minL_ge cs (by omega) 0]
   constructor
   · intro h
     refine ⟨h.own, fun z hz => ?_⟩
     obtain ⟨v, hv, rfl⟩ := List.getElem_of_mem hz
     have := h.lo v (by omega)
     rwa [List.getD_eq_getElem?_getD, List.getElem?_eq_getElem hv] at this
   · rintro ⟨h1, h2⟩
     refine ⟨hl, fun v hv => ?_, hb, h1⟩
     rw [List.getD_eq_getElem?_getD, List.getElem?_eq_getElem (by omega)]
     exact h2 _ (List.getElem_mem _)
 have HBu : Hid (Cf n q cs -> Calls Tryz.prog 118 #[.agg #[.int .i64 (n : Int), .slice A es.length c], .int .i64 (q : Int), d] W0 fun e w' => ∃ vo vl left, e = .returned (.tuple #[vo, vl, .int .i64 0]) /\ RI w' vl left /\ Below W0.heap.size W0 w' /\ (left = [] ↔ Tight n (wgt es) q (fnD cs)) /\ ∃ xs : List Nat, RI w' vo ((q : Int) :: xs.map fun x : Nat => (x : Int)) /\ catF n q es cs xs) := fun h => BurnS_any _ d n q es cs W0 HG0.out hr hq HD0.out h
 obtain ⟨A2, c2, rfl, hlc, hlb, hcell⟩ := HD0.out.open_
 obtain ⟨ad, z, rfl, had, hz, hcz⟩ := hcell q (by omega)
 have hzq : cs.getD q 0 = z := by rw [List.getD_eq_getElem?_getD, hz.out]; rfl
 rw [hzq] at HCf
 have hqc : (q : Int) < (cs.length : Int) := by omega
 generalize minL cs = mn at *
 clear hd hl hb hcell hz hzq hr HD0
 have x0 := HX0.out.cell 0
 have x1 := HX0.out.cell 1
 clear c0 c1
 go_enter Tryz.func84, Tryz.ntmps84
 go_upto_region 1 with fail
 rw [<- HW0.out]
 by_cases h0 : z = 0
 rotate_left
 · have t1 : (z != 0) = true := by simpa using h0
   have hno : Hid (¬ (Cf n q cs /\ Tight n (wgt es) q (fnD cs))) := fun h => h0 (HCf.out.1 h.1).1
   clear h0 HBu HCf
   go_wp2
   go_ret2
   exact ⟨_, _, _, 16, rfl, .inr ⟨rfl, hno.out⟩, HB0.out⟩
 have t1 : (z != 0) = false := by simpa using h0
 have HZ0 := Hd h0
 clear h0
 by_cases hm : mn < 0
 · have hno : Hid (¬ (Cf n q cs /\ Tight n (wgt es) q (fnD cs))) := fun h => by have := (HCf.out.1 h.1).2; omega
   clear HBu HCf
   go_wp2_with fail
   refine HMi.out.mono ?_
   rintro e w1 ⟨rfl, rfl⟩
   go_wp2
   go_ret2
   exact ⟨_, _, _, 16, rfl, .inr ⟨rfl, hno.out⟩, HB0.out⟩
 have HCf' := Hd (HCf.out.2 ⟨HZ0.out, by omega⟩)
 have HBu' := Hd (HBu.out HCf'.out)
 clear HBu HCf
 go_wp2_with fail
 refine HMi.out.mono ?_
 rintro e w1 ⟨rfl, rfl⟩
 go_wp2_with fail
 refine HBu'.out.mono ?_
 rintro e w2 ⟨vo, vl, left, rfl, hle, hb2, hti, xs, hor, hcs⟩
 have HB2 := Hd (HB0.out.trans (hb2.mono HB0.out.size))
 obtain ⟨Al, cl, rfl, -⟩ := hle.open_
 obtain ⟨Ao, co, rfl, hoc, -⟩ := hor.open_
 obtain ⟨ado, rfl, -, -, hcut⟩ := RI.suf' hor (by simp) 1 (by simp)
 simp only [List.length_cons, List.length_map, Nat.add_sub_cancel, List.drop_succ_cons, List.drop_zero] at hcut hoc
 have HCt := Hd hcut
 have HCs := Hd hcs
 have HTi := Hd hti
 simp only [List.length_cons, List.length_map]
 clear hb2 hle hor hcs hti hcut HBu' HMi
 by_cases hlf : left = []
 · subst hlf
   have HT := Hd (HTi.out.1 rfl)
   clear HTi
   by_cases hco : co = 1
   · subst hco
     have hx0 : xs.length = 0 := by omega
     have hct := HCt.out
     rw [hx0] at hct
     have HCt' : Hid (RI w2 (.slice (some ado) 0 0) (xs.map fun x : Nat => (x : Int))) := hct
     clear hct
     go_wp2
     go_ret2
     exact ⟨_, _, _, 0, rfl, .inl ⟨rfl, HCf'.out, HT.out, xs, HCt'.out, HCs.out⟩, HB2.out⟩
   · have hct := HCt.out
     rw [if_neg hco, show ado.add 1 = ⟨ado.block, ado.off + 1, none⟩ by simp [Addr.add]] at hct
     have HCt' := Hd hct
     clear hct
     go_wp2
     go_ret2
     exact ⟨_, _, _, 0, rfl, .inl ⟨rfl, HCf'.out, HT.out, xs, HCt'.out, HCs.out⟩, HB2.out⟩
 · have hno : Hid (¬ (Cf n q cs /\ Tight n (wgt es) q (fnD cs))) := fun h => hlf (HTi.out.2 h.2)
   have hl1 : (0 : Int) < (left.length : Int) := by have := List.length_pos_iff.2 hlf; omega
   clear hlf HTi
   go_wp2
   go_ret2
   exact ⟨_, _, _, 16, rfl, .inr ⟨rfl, hno.out⟩, HB2.out⟩
end Go.Proofs.YteamhbohgoclgaaGreatDoor
