/- Contract of reduced's fire. Printed by gen/fire35.py. -/
import Derived.Test.YteamhbohgoclgaaGreatDoorR05
import Derived.Deep.OwnRows
set_option maxRecDepth 100000
set_option maxHeartbeats 16000000
namespace Go.Proofs.YteamhbohgoclgaaGreatDoor
open Go.RowKit Go.Shelf
attribute [local go_sem] Oper.semAt_some

theorem BL.ne_own {w : World} {b B g n cap : Nat} {T e : TypeId} {us us' : List Value} (h : BL w b T us) (h' : OV w B e (.slice (some ⟨g, 0, none⟩) n cap) us') (hne : T ≠ e) : b ≠ g := by
 rintro rfl
 obtain ⟨c, hc, _⟩ := h'.block_ (g := b) rfl
 unfold BL at h
 rw [h] at hc
 simp only [Option.some.injEq, Obj.cells.injEq] at hc
 exact hne hc.2.1
theorem OV.ne_own {w : World} {B B' g g' n n' cap cap' : Nat} {e e' : TypeId} {us us' : List Value} (h : OV w B e (.slice (some ⟨g, 0, none⟩) n cap) us) (h' : OV w B' e' (.slice (some ⟨g', 0, none⟩) n' cap') us') (hne : e ≠ e') : g ≠ g' := by
 rintro rfl
 rcases h.apart h' hne with hh | hh
 · cases hh
 · exact hh rfl
theorem OV.fr {Bs : List Nat} {w w' : World} {B : Nat} {e : TypeId} {v : Value} {us : List Value} (h : OV w B e v us) (hf : Fr Bs w w') (hn : ∀ g, v.ownBlock = some g -> g ∉ Bs) : OV w' B e v us := by
 refine ⟨⟨h.1.1, ?_⟩, h.2⟩
 rcases h.1.2 with h2 | ⟨g, cap, cur, hv, hg, hh, r⟩
 · exact .inl h2
 · exact .inr ⟨g, cap, cur, hv, hg, (hf.block g (lt_of_block hh) (hn g (by rw [hv]; rfl))).trans hh, r⟩
theorem OI.setOther {w : World} {B g n cap : Nat} {zs : List Int} (h : OI w B (.slice (some ⟨g, 0, none⟩) n cap) zs) {p : Addr} (hp : g ≠ p.block) (x : Value) : OI (w.setCell p x) B (.slice (some ⟨g, 0, none⟩) n cap) zs := by
 refine ⟨⟨h.1.1, ?_⟩, h.2⟩
 rcases h.1.2 with h2 | ⟨g', cap', cur, hv, hg, hh, r⟩
 · exact .inl h2
 · simp only [Value.slice.injEq, Option.some.injEq, Addr.mk.injEq, and_true] at hv
   obtain ⟨rfl, hv⟩ := hv
   exact .inr ⟨g, cap', cur, by simp [hv], hg, (heap_setCell_other w p g x hp).trans hh, r⟩
theorem run_max4 {P : Program} (ts : Array TypeId) (t : TypeId) (k : IntKind) (x y z u B : Int) (hx : x <= B) (hy : y <= B) (hz : z <= B) (hu : u <= B) : ∃ m, m <= B /\ ∀ w, (Builtin.max_ ts t #[.int k x, .int k y, .int k z, .int k u]).run P w = .ok (.int k m) w := by
 refine ⟨if u > (if z > (if y > x then y else x) then z else (if y > x then y else x)) then u else (if z > (if y > x then y else x) then z else (if y > x then y else x)), ?_, fun w => ?_⟩
 · repeat' split
   all_goals assumption
 · simp [Builtin.max_, Builtin.max2]
def addS (ins : List Bool) (k : Int) : Nat -> List Int -> List Int
 | 0, s => s
 | m + 1, s => if ins.getD m false = true then addAt (addS ins k m s) m k else addS ins k m s
theorem addS_len (ins : List Bool) (k : Int) (m : Nat) (s : List Int) : (addS ins k m s).length = s.length := by
 induction m with
 | zero => rfl
 | succ m ih => simp only [addS]; split
                · rw [addAt_len, ih]
                · exact ih
theorem addS_get {ins : List Bool} {k : Int} {m : Nat} {s : List Int} (hm : m <= s.length) (x : Nat) : (addS ins k m s).getD x 0 = s.getD x 0 + if x < m /\ ins.getD x false = true then k else 0 := by
 induction m with
 | zero => simp [addS]
 | succ m ih =>
   have ih := ih (by omega)
   simp only [addS]
   by_cases c : ins.getD m false = true
   · rw [if_pos c, addAt_get _ (by rw [addS_len]; omega), ih]
     by_cases e : m = x
     · subst e; rw [if_neg (by omega), if_pos rfl, if_pos ⟨by omega, c⟩]; omega
     · rw [if_neg e]
       by_cases e2 : x < m /\ ins.getD x false = true
       · rw [if_pos e2, if_pos ⟨by omega, e2.2⟩]; omega
       · rw [if_neg e2, if_neg fun h => e2 ⟨by omega, h.2⟩]; omega
   · rw [if_neg c, ih]
     by_cases e2 : x < m /\ ins.getD x false = true
     · rw [if_pos e2, if_pos ⟨by omega, e2.2⟩]
     · rw [if_neg e2, if_neg fun h => e2 ⟨by
         rcases Nat.lt_or_ge x m with c1 | c1
         · exact c1
         · have : x = m := by omega
           subst this; exact absurd h.2 c, h.2⟩]
def fireF (b gi n capi : Nat) (K : Int) (h k : Nat) (u : Nat -> Value) (ds : List Deferred) : Act := { tmps := #[.pointer (some ⟨b, 0, none⟩), .slice (some ⟨gi, 0, none⟩) n capi, .int .i64 K, .pointer (some ⟨h, 0, none⟩), u 4, .pointer (some ⟨h + 1, 0, none⟩), u 6, u 7, u 8, u 9, u 10, .slice (some ⟨gi, 0, none⟩) n capi, .int .i64 (n : Nat), .int .i64 (k : Nat), u 14, u 15, u 16, u 17, u 18, u 19, u 20, u 21, u 22, u 23, u 24, u 25, u 26, u 27, u 28, u 29, u 30, u 31, u 32, u 33, u 34, u 35, u 36, u 37, u 38, u 39, u 40, u 41, u 42, u 43, u 44, u 45, u 46, u 47, u 48, u 49, u 50, u 51, u 52, u 53, u 54, u 55, u 56, u 57, u 58, u 59, u 60, u 61, u 62, u 63, u 64, u 65, u 66, u 67, u 68, u 69, u 70, u 71, u 72, u 73, u 74, u 75, u 76, u 77, u 78, u 79, u 80, u 81, u 82, u 83, u 84, u 85, u 86, u 87, u 88, u 89, u 90, u 91, u 92, u 93, u 94, u 95, u 96, u 97, u 98, u 99, u 100, u 101, u 102, u 103, u 104, u 105, u 106, u 107, u 108, u 109, u 110], defers := ds }
def FireR (w : World) (b n : Nat) (K : Int) (es : List Tri) (ins : List Bool) (B gd capd gs caps : Nat) (d0 s0 : List Int) (k : Nat) (ds : List Deferred) (wr : World) : Prop :=
 k <= n /\ BL wr w.heap.size 285 [.pointer (some ⟨b, 0, none⟩)] /\ BL wr (w.heap.size + 1) 3 [.int .i64 K] /\ OI wr B (.slice (some ⟨gd, 0, none⟩) n capd) (fireS ins K es k d0) /\
   OI wr B (.slice (some ⟨gs, 0, none⟩) n caps) (addS ins K k s0) /\ Fr [gd, gs] w wr /\ Marks w.heap.size ds wr

def FnI (w : World) (hc hx hv b k eb : Nat) (n : Nat) (ve : Value) (q : Int) (es : List Tri) (K : Int) (B gd capd gs caps : Nat) (d s : List Int) (ds : List Deferred) (pre : List (Int × Int)) (W : World) : Prop :=
 BL W w.heap.size 285 [.pointer (some ⟨b, 0, none⟩)] /\ BL W (w.heap.size + 1) 3 [.int .i64 K] /\ BL W hc 3 [.int .i64 (k : Nat)] /\ LkPre hx hv b k eb n ve q (.slice (some ⟨gd, 0, none⟩) n capd) (.slice (some ⟨gs, 0, none⟩) n caps) 0 es W /\
   OI W B (.slice (some ⟨gd, 0, none⟩) n capd) (fireI k K pre d) /\ OI W B (.slice (some ⟨gs, 0, none⟩) n caps) s /\ Fr [gd, gs] w W /\ Marks w.heap.size ds W
theorem FnI.drew {w : World} {hc hx hv b k eb : Nat} {n : Nat} {ve : Value} {q : Int} {es : List Tri} {K : Int} {B gd capd gs caps : Nat} {d s : List Int} {ds : List Deferred} {pre : List (Int × Int)} {W : World} (h : FnI w hc hx hv b k eb n ve q es K B gd capd gs caps d s ds pre W) : FnI w hc hx hv b k eb n ve q es K B gd capd gs caps d s ds pre W.drew := by
 obtain ⟨h1, h2, h3, h4, h5, h6, h7, h8⟩ := h
 exact ⟨h1, h2, h3, h4.keep ⟨Nat.le_refl _, fun _ _ => rfl⟩, h5, h6, h7.drewN 1, h8.keep fun _ _ _ => rfl⟩
theorem OV.heapEq {w w' : World} {B g n cap : Nat} {e : TypeId} {us : List Value} (h : OV w B e (.slice (some ⟨g, 0, none⟩) n cap) us) (hk : w'.heap[g]? = w.heap[g]?) : OV w' B e (.slice (some ⟨g, 0, none⟩) n cap) us := by
 refine ⟨⟨h.1.1, ?_⟩, h.2⟩
 rcases h.1.2 with h2 | ⟨g', cap', cur, hv, hg, hh, r⟩
 · exact .inl h2
 · simp only [Value.slice.injEq, Option.some.injEq, Addr.mk.injEq, and_true] at hv
   obtain ⟨rfl, hv⟩ := hv
   exact .inr ⟨g, cap', cur, by simp [hv], hg, hk.trans hh, r⟩
theorem OV.putLoop' {w : World} {B g n cap : Nat} {e : TypeId} {us : List Value} (h : OV w B e (.slice (some ⟨g, 0, none⟩) n cap) us) {l : Nat} {r : Loop} (hl : w.heap[l]? = some (.loop r)) (o : Obj) : OV (w.putObj l o) B e (.slice (some ⟨g, 0, none⟩) n cap) us := by
 refine h.heapEq (World.putObj_heap_other ?_)
 rintro rfl
 obtain ⟨c, hc, _⟩ := h.block_ (g := g) rfl
 rw [hl] at hc; cases hc

theorem fire_any (b eb n gi capi gd capd gs caps B : Nat) (ve : Value) (q : Int) (es : List Tri) (ins : List Bool) (K : Int) (d0 s0 : List Int) (w : World) (hE : Edges n es) (hn : n <= 12) (hn1 : 1 <= n)
   (hST : ST w b n ve q (.slice (some ⟨gd, 0, none⟩) n capd) (.slice (some ⟨gs, 0, none⟩) n caps) 0) (hEB : EB w ve es eb) (heb : eb < w.heap.size) (he1 : eb ≠ gd) (he2 : eb ≠ gs) (hgg : gd ≠ gs)
   (hd : OI w B (.slice (some ⟨gd, 0, none⟩) n capd) d0) (hs : OI w B (.slice (some ⟨gs, 0, none⟩) n caps) s0) (hi : OV w B 4 (.slice (some ⟨gi, 0, none⟩) n capi) (ins.map Value.bool))
   (hK : -1000000 <= K /\ K <= 1000000) (hdl : d0.length = n) (hsl : s0.length = n) (hil : ins.length = n) (hdb : Bd 10000000 d0) (hsb : Bd 10000000 s0) (hD : Bd 2097152 (fireS ins K es n d0)) (hS : Bd 2097152 (addS ins K n s0)) :
   Calls Tryz.prog 259 #[.pointer (some ⟨b, 0, none⟩), .slice (some ⟨gi, 0, none⟩) n capi, .int .i64 K] w fun e w' => (∃ v, e = .returned v) /\
     ST w' b n ve q (.slice (some ⟨gd, 0, none⟩) n capd) (.slice (some ⟨gs, 0, none⟩) n caps) 0 /\ OI w' B (.slice (some ⟨gd, 0, none⟩) n capd) (fireS ins K es n d0) /\ OI w' B (.slice (some ⟨gs, 0, none⟩) n caps) (addS ins K n s0) /\ Fr [gd, gs] w w' := by
 have hbd : b ≠ gd := BL.ne_own hST hd (by decide)
 have hbs : b ≠ gs := BL.ne_own hST hs (by decide)
 have hid : gi ≠ gd := OV.ne_own hi hd (by decide)
 have his : gi ≠ gs := OV.ne_own hi hs (by decide)
 have hdz : gd < w.heap.size := (hd.1.lt gd rfl).2
 have hsz : gs < w.heap.size := (hs.1.lt gs rfl).2
 have hbz : b < w.heap.size := BL.lt hST
 have HST := Hd hST
 have HEB := Hd hEB
 have HE := Hd hE
 have HD0 := Hd hd
 have HS0 := Hd hs
 have HI := Hd hi
 have HDL := Hd hdl
 have HSL := Hd hsl
 have HIL := Hd hil
 have HDB := Hd hdb
 have HSB := Hd hsb
 have HDF := Hd hD
 have HSF := Hd hS
 clear hST hEB hE hd hs hi hdl hsl hil hdb hsb hD hS
 refine (callsIn_wide (n := 3)).1 ?_
 refine callsIn_of_wp_marks Tryz.func259 rfl trivial ?_ rfl
 refine wpIn_wide.2 ?_
 simp only [Tryz.ntmps259, List.size_toArray, List.length_cons, List.length_nil, Nat.reduceAdd, Nat.reduceSub, Array.replicate_succ, Array.replicate_zero, List.push_toArray, List.append_toArray, List.nil_append, List.cons_append]
 go_wp2
 refine wp_loop (fun a wr => ∃ k u ds, FireR w b n K es ins B gd capd gs caps d0 s0 k ds wr /\ a = fireF b gi n capi K w.heap.size k u ds) (fun a _ => n - (intOf (a.tmps.getD 13 undef)).toNat) ?start ?round
 case start =>
   refine ex_act (P := fun k u ds => FireR w b n K es ins B gd capd gs caps d0 s0 k ds _) (F := fireF b gi n capi K w.heap.size) 0 ⟨Nat.zero_le _, ?_, ?_, ?_, ?_, ?_, trivial⟩ rfl
   · exact (BL.new' w _ _).alloc _
   · have := BL.new' (w.alloc (.cells #[.pointer (some ⟨b, 0, none⟩)] 285)) #[.int .i64 K] 3
     rwa [World.size_alloc] at this
   · exact HD0.out.below ((below_alloc w _).alloc (by simp) _)
   · exact HS0.out.below ((below_alloc w _).alloc (by simp) _)
   · exact (Fr.refl _ w).below ((below_alloc w _).alloc (by simp) _)
 case round =>
   rintro _ wr ⟨k, u, ds, ⟨hk, hx, ht, hd, hs, hfr, hmk⟩, rfl⟩
   unfold fireF
   have HX := Hd hx
   have HT := Hd ht
   have HDk := Hd hd
   have HSk := Hd hs
   have HFr := Hd hfr
   have HMk := Hd hmk
   clear hx ht hd hs hfr hmk
   have hxl := HX.out.lt
   have htl := HT.out.lt
   have hwr : w.heap.size <= wr.heap.size := HFr.out.size
   have HSTr : Hid (ST wr b n ve q (.slice (some ⟨gd, 0, none⟩) n capd) (.slice (some ⟨gs, 0, none⟩) n caps) 0) := BL.fr HST.out HFr.out (by simp; omega)
   have HEBr := Hd (HEB.out.fr HFr.out (by simp; omega) heb)
   have hkl : k <= s0.length := by have := HSL.out; omega
   have hBs : Bd 100000000 (addS ins K k s0) := fun j => by
     have := HSB.out j
     rw [addS_get hkl]; split <;> omega
   have hBd : Bd 1000000000000 (fireS ins K es k d0) := Bd.mono (fireS_bd HE.out HDL.out hn (K := 1000000) (by omega) hK HDB.out hk) (by have := Int.mul_le_mul_of_nonneg_right (a := (k : Int)) (b := 12) (c := 14400 * 1000000) (by omega) (by omega); omega)
   have HBs := Hd hBs
   have HBd := Hd hBd
   clear hBs hBd hkl
   by_cases hlt : k < n
   · have hiw : OV wr B 4 (.slice (some ⟨gi, 0, none⟩) n capi) (ins.map Value.bool) := HI.out.fr HFr.out (fun g hg => by simp only [Value.ownBlock, Option.some.injEq] at hg; subst hg; simp; omega)
     have hbi : (ins.map Value.bool)[k]? = some (.bool (ins.getD k false)) := by
       have := HIL.out
       rw [List.getElem?_map, List.getD_eq_getElem?_getD, List.getElem?_eq_getElem (by omega)]; rfl
     have ci : wr.cell? ⟨gi, k, none⟩ = some (.bool (ins.getD k false)) := by
       obtain ⟨g', cap', hv', -, -, ci, -, -⟩ := hiw.at_ hbi
       simp only [Value.slice.injEq, Option.some.injEq, Addr.mk.injEq, and_true] at hv'
       obtain ⟨rfl, -, -⟩ := hv'
       exact ci
     have HStep : Hid (fireS ins K es (k + 1) d0 = if ins.getD k false = true then fireI k K (linksL es k) (fireS ins K es k d0) else fireS ins K es k d0) := rfl
     have HStepS : Hid (addS ins K (k + 1) s0 = if ins.getD k false = true then addAt (addS ins K k s0) k K else addS ins K k s0) := rfl
     clear hbi hiw
     generalize ins.getD k false = bi at *
     cases bi
     · rw [if_neg (by simp)] at HStep HStepS
       go_wp2
       refine ⟨ex_act (P := fun k u ds => FireR w b n K es ins B gd capd gs caps d0 s0 k ds _) (F := fireF b gi n capi K w.heap.size) (k + 1) ⟨by omega, HX.out.alloc _, HT.out.alloc _, ?_, ?_, HFr.out.below (below_alloc wr _), HMk.out.keep fun b' _ h => Below.heap_alloc wr _ b' (lt_of_block h)⟩ rfl, ?_⟩
       · rw [HStep.out]; exact HDk.out.below (below_alloc wr _)
       · rw [HStepS.out]; exact HSk.out.below (below_alloc wr _)
       · show n - (intOf (.int .i64 ((k : Int) + 1))).toNat < n - (intOf (.int .i64 (k : Int))).toNat
         simp [intOf]; omega
     · rw [if_pos rfl] at HStep HStepS
       obtain ⟨W1, hW1⟩ : ∃ W1, W1 = wr.alloc (.cells #[.int .i64 (k : Int)] 3) := ⟨_, rfl⟩
       have hb1 : Below wr.heap.size wr W1 := by rw [hW1]; exact below_alloc wr _
       have hz1 : W1.heap.size = wr.heap.size + 1 := by rw [hW1]; simp
       have HV1 : Hid (BL W1 wr.heap.size 3 [.int .i64 (k : Int)]) := by rw [hW1]; exact BL.new' wr _ _
       have HX1 := Hd (HX.out.bel hb1)
       have HT1 := Hd (HT.out.bel hb1)
       have HST1 := Hd (BL.bel HSTr.out hb1)
       have HEB1 := Hd (HEBr.out.below hb1)
       have HD1 := Hd (HDk.out.below hb1)
       have hs1 := HSk.out.below hb1
       have HFr1 := Hd (HFr.out.below hb1)
       have HMk1 : Hid (Marks w.heap.size ds W1) := HMk.out.keep fun b' _ h => hb1.block b' (lt_of_block h)
       have x1 : W1.cell? ⟨w.heap.size, 0, none⟩ = some (.pointer (some ⟨b, 0, none⟩)) := HX1.out.cell 0
       have t1 : W1.cell? ⟨w.heap.size + 1, 0, none⟩ = some (.int .i64 K) := HT1.out.cell 0
       have v1 : W1.cell? ⟨wr.heap.size, 0, none⟩ = some (.int .i64 (k : Int)) := HV1.out.cell 0
       have s1 : W1.cell? ⟨b, 4, none⟩ = some (.slice (some ⟨gs, 0, none⟩) n caps) := BL.cell HST1.out 4
       obtain ⟨-, -, e1, f1, est⟩ := OI.at' hs1 (k := k) (by rw [addS_len]; have := HSL.out; omega)
       have hskb := HBs.out k
       have HSet := Hd (est ((addS ins K k s0).getD k 0 + K)).1
       have HSE : Hid ((addS ins K k s0).set k ((addS ins K k s0).getD k 0 + K) = addS ins K (k + 1) s0) := by show _ = _; rw [HStepS.out]; rfl
       rw [HSE.out] at HSet
       generalize (addS ins K k s0).getD k 0 = sk at *
       have hwp : IntKind.i64.wrap (sk + K) = sk + K := IntWalk.i64_in _ (by omega)
       obtain ⟨W2, hW2⟩ : ∃ W2, W2 = (W1.setCell ⟨gs, k, none⟩ (.int .i64 (sk + K))).drew := ⟨_, rfl⟩
       have hz2 : W2.heap.size = wr.heap.size + 1 := by rw [hW2]; simpa using hz1
       have HV2 : Hid (BL W2 wr.heap.size 3 [.int .i64 (k : Int)]) := by rw [hW2]; exact HV1.out.set_other (by simp; omega) _
       have HX2 : Hid (BL W2 w.heap.size 285 [.pointer (some ⟨b, 0, none⟩)]) := by rw [hW2]; exact HX1.out.set_other (by simp; omega) _
       have HT2 : Hid (BL W2 (w.heap.size + 1) 3 [.int .i64 K]) := by rw [hW2]; exact HT1.out.set_other (by simp; omega) _
       have HST2 : Hid (ST W2 b n ve q (.slice (some ⟨gd, 0, none⟩) n capd) (.slice (some ⟨gs, 0, none⟩) n caps) 0) := by rw [hW2]; exact BL.set_other HST1.out (by simp; omega) _
       have HEB2 : Hid (EB W2 ve es eb) := by rw [hW2]; exact HEB1.out.keep (by simp) (heap_setCell_other W1 _ eb _ (by simp; omega))
       have HD2 : Hid (OI W2 B (.slice (some ⟨gd, 0, none⟩) n capd) (fireS ins K es k d0)) := by rw [hW2]; exact HD1.out.setOther (by simp; omega) _
       have HS2 : Hid (OI W2 B (.slice (some ⟨gs, 0, none⟩) n caps) (addS ins K (k + 1) s0)) := by rw [hW2]; exact HSet.out
       have HFr2 : Hid (Fr [gd, gs] w W2) := by rw [hW2]; exact (HFr1.out.setCell (p := ⟨gs, k, none⟩) (by simp) _).drewN 1
       have HMk2 : Hid (Marks w.heap.size ds W2) := by rw [hW2]; exact HMk1.out.keep fun b' hb' _ => heap_setCell_other W1 _ b' _ (by simp; omega)
       have x2 : W2.cell? ⟨w.heap.size, 0, none⟩ = some (.pointer (some ⟨b, 0, none⟩)) := HX2.out.cell 0
       have v2 : W2.cell? ⟨wr.heap.size, 0, none⟩ = some (.int .i64 (k : Int)) := HV2.out.cell 0
       have HW1 : Hid (W1 = wr.alloc (.cells #[.int .i64 (k : Int)] 3)) := hW1
       have HW2 : Hid (W2 = (W1.setCell ⟨gs, k, none⟩ (.int .i64 (sk + K))).drew) := hW2
       rw [HW2.out] at x2 v2
       have HZ2 := Hd hz2
       clear hz2 hW1 hW2 hb1 hs1 est HSet HV1 HX1 HT1 HST1 HEB1 HD1 HFr1 HMk1 HStepS HSE hz1
       go_wp2_with fail
       rw [<- HW1.out]
       clear HW1
       refine wp_region_still_tail 10 (by kernel_rfl) (by kernel_rfl) ?_
       change wpStill _ _ W1.drew _ _ _
       simp only [List.take_succ_cons, List.take_zero, List.drop_succ_cons, List.drop_zero]
       repeat still_step
       refine wpStill_nil ?_
       change wpList _ _ _ _ _ W1.drew
       go_wp2_with fail
       rw [<- HW2.out]
       clear HW2 x2 v2 x1 t1 v1 s1 e1 f1 hwp hskb
       refine (links_any b k _).mono ?_
       rintro e' w3 ⟨rfl, rfl⟩
       go_wp2
       obtain ⟨W3, hW3⟩ : ∃ W3, W3 = (W2.alloc (.cells #[.pointer (some ⟨b, 0, none⟩)] 285)).alloc (.cells #[.int .i64 (k : Int)] 3) := ⟨_, rfl⟩
       have hz3 : W3.heap.size = W2.heap.size + 1 + 1 := by rw [hW3]; simp
       have hb3 : Below W2.heap.size W2 W3 := by rw [hW3]; exact (below_alloc W2 _).alloc (by simp) _
       have hI3 : FnI w wr.heap.size W2.heap.size (W2.heap.size + 1) b k eb n ve q es K B gd capd gs caps (fireS ins K es k d0) (addS ins K (k + 1) s0) ds [] W3 := by
         refine ⟨HX2.out.bel hb3, HT2.out.bel hb3, HV2.out.bel hb3, ⟨?_, ?_, BL.bel HST2.out hb3, HEB2.out.below hb3⟩, HD2.out.below hb3, HS2.out.below hb3, HFr2.out.below hb3, HMk2.out.keep fun b' _ h => hb3.block b' (lt_of_block h)⟩
         · rw [hW3]; exact (BL.new' W2 _ _).alloc _
         · rw [hW3]
           have := BL.new' (W2.alloc (.cells #[.pointer (some ⟨b, 0, none⟩)] 285)) #[.int .i64 (k : Int)] 3
           rwa [World.size_alloc] at this
       rw [<- hW3]
       have HZ3 := Hd hz3
       have HI3 := Hd hI3
       have HMk3 := Hd hI3.2.2.2.2.2.2.2
       have HFr3 := Hd hI3.2.2.2.2.2.2.1
       have hsz2 : wr.heap.size < W2.heap.size := by have := HZ2.out; omega
       have hsz3 : W2.heap.size + 1 < W3.heap.size := by omega
       clear hW3 hz3 hb3 hI3 HX2 HT2 HV2 HST2 HEB2 HD2 HS2 HFr2
       refine (wpIn_wide (n := 3)).1 ?_
       refine wpIn_rangeFunc_iter (gf := 343) (lb := #[.pointer (some ⟨W2.heap.size, 0, none⟩), .pointer (some ⟨W2.heap.size + 1, 0, none⟩)]) rfl (enters_of Tryz.func343 (by kernel_rfl) rfl)
         (links1_iter W2.heap.size (W2.heap.size + 1) b k eb n ve q (.slice (some ⟨gd, 0, none⟩) n capd) (.slice (some ⟨gs, 0, none⟩) n caps) 0 es HE.out hlt hn) (fun _ => rfl) ?hR LkK_trans ?hKp (fun _ _ _ _ _ h _ => h) (FnI w wr.heap.size W2.heap.size (W2.heap.size + 1) b k eb n ve q es K B gd capd gs caps (fireS ins K es k d0) (addS ins K (k + 1) s0) ds) (fun _ _ _ => False) ?hI (fun _ _ _ _ _ h _ => h) ?hIR (fun _ _ _ _ h _ => h) ?hpre ?h0
         ?a1 ?assign ?body ?done ?stop
       case assign =>
         intro l x W K' hK'
         gi_wp2
         exact hK'
       case hR => intro A C h hs; exact ⟨h.block _ (by omega), h.block _ (by omega)⟩
       case hKp => intro W r o _; exact LkK_put W _ (by simp; omega)
       case hI =>
         intro pre W r o h hl
         obtain ⟨h1, h2, h3, h4, h5, h6, h7, h8⟩ := h
         exact ⟨h1.putLoop hl o, h2.putLoop hl o, h3.putLoop hl o, h4.keep (LkK_put W o (by simp; omega)), OV.putLoop' h5 hl o, OV.putLoop' h6 hl o, h7.putLoop (by omega) o, h8.keep fun b' _ h => World.putObj_heap_other (by rintro rfl; rw [hl] at h; cases h)⟩
       case hIR =>
         intro pre A C h hr
         obtain ⟨h1, h2, h3, h4, h5, h6, h7, h8⟩ := h
         exact ⟨h1.bel hr, h2.bel hr, h3.bel hr, h4.below hr, h5.below hr, h6.below hr, h7.below hr, h8.keep fun b' _ h => hr.block b' (lt_of_block h)⟩
       case hpre => intro r; exact HI3.out.2.2.2.1.below ((below_alloc W3 _).alloc (by simp) _)
       case h0 =>
         intro r
         obtain ⟨h1, h2, h3, h4, h5, h6, h7, h8⟩ := HI3.out
         have hr := (below_alloc W3 (.deferred (some []))).alloc (by simp) (.loop r)
         exact ⟨h1.bel hr, h2.bel hr, h3.bel hr, h4.below hr, h5.below hr, h6.below hr, h7.below hr, h8.keep fun b' _ h => hr.block b' (lt_of_block h)⟩
       case stop => rintro c pre W _ h _; exact h.elim
       case done =>
         rintro xs W hS ⟨h1, h2, h3, h4, h5, h6, h7, h8⟩ hD
         have HS' := Hd hS
         have HD' := Hd hD
         have H1 := Hd h1
         have H2 := Hd h2
         have H5 := Hd h5
         have H6 := Hd h6
         have H7 := Hd h7
         have H8 := Hd h8
         clear hS hD h1 h2 h3 h4 h5 h6 h7 h8
         go_wp2
         refine ⟨ex_act (P := fun k u ds => FireR w b n K es ins B gd capd gs caps d0 s0 k ds _) (F := fireF b gi n capi K w.heap.size) (k + 1) ⟨by omega, H1.out, H2.out, ?_, H6.out, H7.out, H8.out.push (HMk3.out) (Nat.le_refl _) (by have := HFr3.out.size; omega) HD'.out⟩ rfl, ?_⟩
         · rw [HStep.out, <- HS'.out]; exact H5.out
         · show n - (intOf (.int .i64 ((k : Int) + 1))).toNat < n - (intOf (.int .i64 (k : Int))).toNat
           simp [intOf]; omega
       case body =>
         rintro l pre ⟨u, m⟩ W r ⟨h1, h2, h3, h4, h5, h6, h7, h8⟩ ⟨rest, hrest⟩ hl hd
         have hxm := links_mem HE.out hlt (x := (u, m)) (by rw [<- hrest]; simp)
         simp only at hxm
         obtain ⟨hu0, hu1, hu2, hm1, hm2⟩ := hxm
         obtain ⟨y, rfl⟩ := Int.eq_ofNat_of_zero_le hu0
         have hyk : y ≠ k := by omega
         have hyn : y < n := by omega
         have hpl : pre.length <= 144 := by
           have g1 := links_len es k
           have g2 := edges_len HE.out hn
           have g3 := congrArg List.length hrest
           simp at g3; omega
         have hfl : (fireS ins K es k d0).length = n := by rw [fireS_len]; exact HDL.out
         have hDb : Bd 2000000000000 (fireI k K pre (fireS ins K es k d0)) := Bd.mono (fireI_bd (K := 1000000) (by omega) (fun z hz => by have := links_mem HE.out hlt (x := z) (by rw [<- hrest]; simp [hz]); omega) hK HBd.out) (by omega)
         have hDl : (fireI k K pre (fireS ins K es k d0)).length = n := by rw [fireI_len]; exact hfl
         have hmK := mul_abs (x := m) (y := K) (X := 50) (Y := 1000000) (by omega) (by omega) hK.1 hK.2
         obtain ⟨p, hp⟩ : ∃ p, p = m * K := ⟨_, rfl⟩
         rw [<- hp] at hmK
         have HSn : Hid (fireI k K (pre ++ [((y : Int), m)]) (fireS ins K es k d0) = addAt (addAt (fireI k K pre (fireS ins K es k d0)) k (-p)) y p) := by show _ = _; rw [fireI_snoc]; simp only [hp, Int.toNat_natCast]
         generalize fireI k K pre (fireS ins K es k d0) = dd at *
         have x1 := h1.cell 0
         have t1 := h2.cell 0
         have v1 := h3.cell 0
         have d1 : W.cell? ⟨b, 3, none⟩ = some (.slice (some ⟨gd, 0, none⟩) n capd) := BL.cell h4.2.2.1 3
         obtain ⟨-, -, e1, f1, est⟩ := OI.at' h5 (k := k) (by omega)
         have hb1 := hDb k
         have hadd := addAt_bd (F := 50000000) hDb (i := k) (x := -p) (by omega) (by omega)
         have hb2 := hadd y
         obtain ⟨dk, hdk⟩ : ∃ dk, dk = dd.getD k 0 := ⟨_, rfl⟩
         have hw2 := (est (dk - p)).1
         rw [show dd.set k (dk - p) = addAt dd k (-p) by rw [hdk]; rfl] at hw2
         obtain ⟨-, -, e2, f2, est2⟩ := OI.at' hw2 (k := y) (by rw [addAt_len]; omega)
         obtain ⟨dy, hdy⟩ : ∃ dy, dy = (addAt dd k (-p)).getD y 0 := ⟨_, rfl⟩
         have hw3 := (est2 (dy + p)).1
         rw [show (addAt dd k (-p)).set y (dy + p) = addAt (addAt dd k (-p)) y p by rw [hdy]; rfl, <- HSn.out] at hw3
         rw [<- hdk] at e1 hb1
         rw [<- hdy] at e2 hb2
         have q1 : IntKind.i64.wrap (m * K) = p := by rw [<- hp]; exact IntWalk.i64_in _ (by omega)
         have q2 : IntKind.i64.wrap (dk - p) = dk - p := IntWalk.i64_in _ (by omega)
         have q3 : IntKind.i64.wrap (dy + p) = dy + p := IntWalk.i64_in _ (by omega)
         have hgl : gd < W.heap.size := by have := h7.size; omega
         have hoth : ∀ j, j ≠ gd -> ((W.setCell ⟨gd, k, none⟩ (.int .i64 (dk - p))).setCell ⟨gd, y, none⟩ (.int .i64 (dy + p))).heap[j]? = W.heap[j]? := fun j hj => (heap_setCell_other _ _ j _ hj).trans (heap_setCell_other W _ j _ hj)
         have x2 : (W.setCell ⟨gd, k, none⟩ (.int .i64 (dk - p))).cell? ⟨w.heap.size, 0, none⟩ = some (.pointer (some ⟨b, 0, none⟩)) := (h1.set_other (a := ⟨gd, k, none⟩) (by simp; omega) _).cell 0
         have t2 : (W.setCell ⟨gd, k, none⟩ (.int .i64 (dk - p))).cell? ⟨w.heap.size + 1, 0, none⟩ = some (.int .i64 K) := (h2.set_other (a := ⟨gd, k, none⟩) (by simp; omega) _).cell 0
         have d2 : (W.setCell ⟨gd, k, none⟩ (.int .i64 (dk - p))).cell? ⟨b, 3, none⟩ = some (.slice (some ⟨gd, 0, none⟩) n capd) := BL.cell (BL.set_other h4.2.2.1 (a := ⟨gd, k, none⟩) (by simp; omega) _) 3
         have hlb := lt_of_block hl
         have hdb := lt_of_block hd
         have hNl : W3.heap.size + 1 ≠ gd /\ W3.heap.size ≠ gd := by constructor <;> omega
         have HFin : Hid (KeepLD W3.heap.size W ((W.setCell ⟨gd, k, none⟩ (.int .i64 (dk - p))).setCell ⟨gd, y, none⟩ (.int .i64 (dy + p))) /\ LkK [W2.heap.size, W2.heap.size + 1, b, eb] W ((W.setCell ⟨gd, k, none⟩ (.int .i64 (dk - p))).setCell ⟨gd, y, none⟩ (.int .i64 (dy + p))) /\
             FnI w wr.heap.size W2.heap.size (W2.heap.size + 1) b k eb n ve q es K B gd capd gs caps (fireS ins K es k d0) (addS ins K (k + 1) s0) ds (pre ++ [((y : Int), m)]) ((W.setCell ⟨gd, k, none⟩ (.int .i64 (dk - p))).setCell ⟨gd, y, none⟩ (.int .i64 (dy + p)))) := by
           refine ⟨⟨hoth _ (by omega), hoth _ (by omega)⟩, ⟨by simp, fun j hj => hoth j (by simp at hj; omega)⟩, (hoth _ (by omega)).trans h1, (hoth _ (by omega)).trans h2, (hoth _ (by omega)).trans h3, h4.keep ⟨by simp, fun j hj => hoth j (by simp at hj; omega)⟩, hw3, h6.heapEq (hoth _ (by omega)), (h7.setCell (p := ⟨gd, k, none⟩) (by simp) _).setCell (p := ⟨gd, y, none⟩) (by simp) _, h8.keep fun j hj _ => hoth j (by omega)⟩
         clear hw2 hw3 est est2 hadd hDb hDl hfl hdk hdy hoth h1 h2 h3 h4 h5 h6 h7 h8 hrest hl hd hNl hp HSn hpl
         gi_wp2_with fail
         refine still_tail_round 12 (by kernel_rfl) (by kernel_rfl) (by kernel_rfl) (fun ⟨a, w, h⟩ => h) ?_
         change wpStill _ _ W.drew _ _ _
         simp only [List.take_succ_cons, List.take_zero, List.drop_succ_cons, List.drop_zero]
         repeat still_step
         refine wpStill_nil ?_
         change wpList _ _ _ _ _ W.drew
         go_wp2_with fail
         gi_wp2_with fail
         clear d1 t1 v1 x1 e1 f1 q2
         generalize W.setCell ⟨gd, k, none⟩ (.int .i64 (dk - p)) = V at *
         refine still_tail_round 12 (by kernel_rfl) (by kernel_rfl) (by kernel_rfl) (fun ⟨a, w, h⟩ => h) ?_
         change wpStill _ _ V.drew.drew _ _ _
         simp only [List.take_succ_cons, List.take_zero, List.drop_succ_cons, List.drop_zero]
         repeat still_step
         refine wpStill_nil ?_
         change wpList _ _ _ _ _ V.drew.drew
         go_wp2_with fail
         gi_wp2
         obtain ⟨k1, k2, k3⟩ := HFin.out
         exact ⟨k1, k2, k3.drew.drew⟩
   · obtain rfl : k = n := by omega
     have x1 := HX.out.cell 0
     have d1 : wr.cell? ⟨b, 3, none⟩ = some (.slice (some ⟨gd, 0, none⟩) k capd) := BL.cell HSTr.out 3
     have s1 : wr.cell? ⟨b, 4, none⟩ = some (.slice (some ⟨gs, 0, none⟩) k caps) := BL.cell HSTr.out 4
     have hdl : (fireS ins K es k d0).length = k := by rw [fireS_len]; exact HDL.out
     have hsl : (addS ins K k s0).length = k := by rw [addS_len]; exact HSL.out
     have HDl := Hd hdl
     have HSl := Hd hsl
     clear hdl hsl
     go_wp2_with fail
     go_loopw [65] (fun i wx => ∃ (j m : Nat), j <= k /\ i = .int .i64 j /\ wx = wr.drewN m) (fun i _ => k - (intOf i).toNat)
     case atStart => exact ⟨0, 0, Nat.zero_le _, rfl, rfl⟩
     case round =>
       obtain ⟨j, m, hj, rfl, rfl⟩ := hrel
       by_cases hjk : j < k
       · have dd := HDF.out j
         have ss := HSF.out j
         obtain ⟨-, -, e1, f1, -⟩ := OI.at' HDk.out (k := j) (by have := HDl.out; omega)
         obtain ⟨-, -, e2, f2, -⟩ := OI.at' HSk.out (k := j) (by have := HSl.out; omega)
         generalize (fireS ins K es k d0).getD j 0 = x at *
         generalize (addS ins K k s0).getD j 0 = y at *
         obtain ⟨M, hM, hmx⟩ := run_max4 (P := Tryz.prog) #[3, 3, 3, 3] 3 .i64 x (-x) y (-y) 2097152 (by omega) (by omega) (by omega) (by omega)
         have hM2 : decide (2097152 < M) = false := by simp; omega
         go_wp2_with fail
         refine wp_region_quiet_lit (by kernel_rfl) (by kernel_rfl) ?_
         repeat (first | go_big_quiet_step (fail) | quiet_step (fail) | (refine wpQuiet_step (fun K hK => ?_); go_simp; rw [if_neg (by omega)]; refine hK _ ?_; clear hK K))
         refine wpQuiet_nil ?_
         intro _ hw'
         obtain ⟨nq, hw''⟩ := hw'
         subst hw''
         go_wp2
         go_roundw
         case rel => exact ⟨j + 1, m + nq, by omega, by go_num, by simp⟩
         case measure => simp [intOf]; omega
       · go_wp2
         refine leaves_marks (B := w.heap.size) ds _ (HMk.out.keep fun _ _ _ => rfl) fun w' hs => ⟨_, results_none rfl _ _ _, ⟨_, rfl⟩, ?_, ?_, ?_, ?_⟩
         · exact BL.shut (w := wr.drewN m) HSTr.out hs
         · exact OV.shut (w := wr.drewN m) HDk.out hs
         · exact OV.shut (w := wr.drewN m) HSk.out hs
         · exact (HFr.out.drewN m).shut hs (Nat.le_refl _)
end Go.Proofs.YteamhbohgoclgaaGreatDoor

namespace Go.Proofs.YteamhbohgoclgaaGreatDoor
open Go.RowKit Go.Shelf

def rGiven (n : Int) (es : List Tri) (q : Int) (zs : List Int) : Int := if gcheckE n es ≠ 0 then gcheckE n es else if connB n es = false then 13 else if q < 0 \/ n <= q then 2 else checkE zs n
theorem rGiven_any (g d : Value) (n q : Int) (es : List Tri) (zs : List Int) (w : World) (hg : GV w g n es) (hd : RI w d zs) :
   Calls Tryz.prog 202 #[g, .int .i64 q, d] w fun e w' => e = .returned (.int .i64 (rGiven n es q zs)) /\ Below w.heap.size w w' := by
 obtain ⟨A, c, rfl, hlc, hc, -⟩ := hg.open_
 obtain ⟨A2, c2, rfl, -, -, -⟩ := hd.open_
 have HB0 := Hd (below_alloc w (.cells #[.int .i64 n, .slice A es.length c] 25))
 have HG := Hd (hg.below HB0.out)
 have HD := Hd (hd.below HB0.out)
 have HBL := Hd (BL.new' w #[.int .i64 n, .slice A es.length c] 25)
 have HC := Hd (Connected_any _ n es _ HG.out)
 clear hg hd
 by_cases h0 : gcheckE n es = 0
 · have HE : Hid (connL n es = connB n es) := by show _ = _; simp [connL, h0]
   rw [h0, HE.out] at HC
   have H0 := Hd h0
   clear h0
   cases hcb : connB n es
   · rw [hcb] at HC
     go_enter Tryz.func202, Tryz.ntmps202
     go_wp2_with fail
     refine HC.out.mono ?_
     rintro e w1 ⟨rfl, hb⟩
     have HB := Hd (HB0.out.trans (hb.mono (by simp)))
     clear hb
     go_wp2
     go_ret
     exact ⟨ret_i (by simp [rGiven, H0.out, hcb]), HB.out⟩
   · rw [hcb] at HC
     by_cases hq : q < 0 \/ n <= q
     · have HQ := Hd hq
       rcases hq with hq | hq
       all_goals
         go_enter Tryz.func202, Tryz.ntmps202
         go_wp2_with fail
         refine HC.out.mono ?_
         rintro e w1 ⟨rfl, hb⟩
         have c0 : w1.cell? ⟨w.heap.size, 0, none⟩ = some (.int .i64 n) := (HBL.out.bel hb).cell 0
         have HB := Hd (HB0.out.trans (hb.mono (by simp)))
         clear hb
         go_wp2
         all_goals (go_ret; exact ⟨ret_i (by simp [rGiven, H0.out, hcb, HQ.out]), HB.out⟩)
     · have HQ := Hd hq
       have hq1 : 0 <= q := by omega
       have hq2 : q < n := by omega
       clear hq
       go_enter Tryz.func202, Tryz.ntmps202
       go_wp2_with fail
       refine HC.out.mono ?_
       rintro e w1 ⟨rfl, hb⟩
       have c0 : w1.cell? ⟨w.heap.size, 0, none⟩ = some (.int .i64 n) := (HBL.out.bel hb).cell 0
       have HD1 := Hd (HD.out.below hb)
       have HB := Hd (HB0.out.trans (hb.mono (by simp)))
       clear hb
       go_wp2_with (go_at_call 65; refine (check_any _ zs _ _ HD1.out).mono ?_; rintro e w' ⟨rfl, rfl⟩)
       go_ret
       exact ⟨ret_i (by simp [rGiven, H0.out, hcb, HQ.out]), HB.out⟩
 · have HE : Hid (connL n es = false) := by show _ = _; simp [connL, h0]
   have hne : (gcheckE n es != 0) = true := by simp [h0]
   rw [HE.out] at HC
   have H0 := Hd h0
   clear h0
   go_enter Tryz.func202, Tryz.ntmps202
   go_wp2_with fail
   refine HC.out.mono ?_
   rintro e w1 ⟨rfl, hb⟩
   have HB := Hd (HB0.out.trans (hb.mono (by simp)))
   clear hb
   go_wp2
   go_ret
   exact ⟨ret_i (by simp [rGiven, H0.out]), HB.out⟩

def Stt (w : World) (B b n : Nat) (ve : Value) (q : Int) (ds ss : List Int) : Prop := ∃ gd capd gs caps, ST w b n ve q (.slice (some ⟨gd, 0, none⟩) n capd) (.slice (some ⟨gs, 0, none⟩) n caps) 0 /\
 OI w B (.slice (some ⟨gd, 0, none⟩) n capd) ds /\ OI w B (.slice (some ⟨gs, 0, none⟩) n caps) ss /\ gd ≠ gs /\ B <= b /\ ds.length = n /\ ss.length = n
theorem own_zeros (W : World) (n : Nat) (hn : n <= 1000) : OI (W.alloc (.cells (madeCells #[Value.int .i64 0] n) 3)) W.heap.size (.slice (some ⟨W.heap.size, 0, none⟩) n n) (List.replicate n 0) := by
 have hs : (madeCells #[Value.int .i64 0] n).toList = List.replicate n (.int .i64 0) := by simpa using toList_madeCells_one (.int .i64 0) n
 refine ⟨⟨by simp, .inr ⟨W.heap.size, n, madeCells #[Value.int .i64 0] n, by simp, Nat.le_refl _, heap_alloc_new W _, by simp, by unfold maxLen; omega, ?_, ?_⟩⟩, by simp; omega⟩
 · have := congrArg List.length hs
   simpa using this
 · rw [hs]; simp
theorem clone_shape (va : Value) (xs : List Int) (w : World) (ha : RI w va xs) (n : Nat) (hl : xs.length = n) (hn1 : 1 <= n) :
   Calls Tryz.prog 115 #[va] w fun e w' => ∃ g cap, e = .returned (.slice (some ⟨g, 0, none⟩) n cap) /\ Hid (OI w' w.heap.size (.slice (some ⟨g, 0, none⟩) n cap) xs) /\ Hid (Below w.heap.size w w') := by
 refine (CloneD_any va xs w ha ha.len).mono ?_
 rintro e w1 ⟨v1, rfl, ho, hb⟩
 obtain ⟨g, cap, rfl, _⟩ := OI.at_ ho (k := 0) (by omega)
 subst hl
 exact ⟨g, cap, rfl, ho, hb⟩
theorem begin_any (g d : Value) (n : Nat) (q : Int) (es : List Tri) (ds : List Int) (w : World) (hg : GV w g n es) (hd : RI w d ds) (hdl : ds.length = n) (hn : n <= 12) (hn1 : 1 <= n) :
   Calls Tryz.prog 203 #[g, .int .i64 q, d] w fun e w' => ∃ b ve, e = .returned (.pointer (some ⟨b, 0, none⟩)) /\ g = .agg #[.int .i64 (n : Int), ve] /\ Stt w' w.heap.size b n ve q ds (List.replicate n 0) /\ Below w.heap.size w w' := by
 obtain ⟨A, c, rfl, hlc, hc, -⟩ := hg.open_
 obtain ⟨A2, c2, rfl, -, -, -⟩ := hd.open_
 obtain ⟨W0, hW0⟩ : ∃ W0, W0 = w.alloc (.cells #[.int .i64 (n : Int), .slice A es.length c] 25) := ⟨_, rfl⟩
 have hb0 : Below w.heap.size w W0 := by rw [hW0]; exact below_alloc w _
 have hz0 : W0.heap.size = w.heap.size + 1 := by rw [hW0]; simp
 have c0 : W0.cell? ⟨w.heap.size, 0, none⟩ = some (.int .i64 (n : Int)) := by rw [hW0]; exact cell_lit rfl
 have c1 : W0.cell? ⟨w.heap.size, 1, none⟩ = some (.slice A es.length c) := by rw [hW0]; exact cell_lit rfl
 have hmk := run_make_row' (P := Tryz.prog) 158 3 (.int .i64 0) 8 Tryz.underlying158 int_info rfl .i64 .i64 n (by omega) (by omega)
 have HD0 := Hd (hd.below hb0)
 have HMZ := Hd (fun W => own_zeros W n (by omega))
 have HB0 := Hd hb0
 have HZ0 := Hd hz0
 have HDL := Hd hdl
 have HW0 : Hid (W0 = w.alloc (.cells #[.int .i64 (n : Int), .slice A es.length c] 25)) := hW0
 clear hb0 hz0 hdl hW0 hd hg
 go_enter Tryz.func203, Tryz.ntmps203
 go_wp2
 rw [<- HW0.out]
 have hcA := Hd (clone_shape _ ds W0.drew HD0.out n HDL.out hn1)
 have hcB := Hd (clone_shape _ ds (W0.alloc (.cells (madeCells #[Value.int .i64 0] n) 3)).drew (show RI (W0.alloc (.cells (madeCells #[Value.int .i64 0] n) 3)).drew _ ds from RI.below (w := W0) HD0.out (below_alloc W0 _).drew) n HDL.out hn1)
 have hzl : w.heap.size < W0.heap.size := by have := HZ0.out; omega
 have d0 : (W0.alloc (.cells (madeCells #[Value.int .i64 0] n) 3)).cell? ⟨w.heap.size, 0, none⟩ = some (.int .i64 (n : Int)) := (World.cell?_alloc_lt _ _ _ hzl).trans c0
 have d1 : (W0.alloc (.cells (madeCells #[Value.int .i64 0] n) 3)).cell? ⟨w.heap.size, 1, none⟩ = some (.slice A es.length c) := (World.cell?_alloc_lt _ _ _ hzl).trans c1
 have CA : Hid (∀ w1 : World, Below W0.drew.heap.size W0.drew w1 -> w1.cell? ⟨w.heap.size, 0, none⟩ = some (.int .i64 (n : Int)) /\ w1.cell? ⟨w.heap.size, 1, none⟩ = some (.slice A es.length c)) := fun w1 hb => ⟨(hb.cell (p := ⟨w.heap.size, 0, none⟩) hzl).trans c0, (hb.cell (p := ⟨w.heap.size, 1, none⟩) hzl).trans c1⟩
 have CB : Hid (∀ w1 : World, Below (W0.alloc (.cells (madeCells #[Value.int .i64 0] n) 3)).drew.heap.size (W0.alloc (.cells (madeCells #[Value.int .i64 0] n) 3)).drew w1 -> w1.cell? ⟨w.heap.size, 0, none⟩ = some (.int .i64 (n : Int)) /\ w1.cell? ⟨w.heap.size, 1, none⟩ = some (.slice A es.length c)) := fun w1 hb => ⟨(hb.cell (p := ⟨w.heap.size, 0, none⟩) (by simp; omega)).trans d0, (hb.cell (p := ⟨w.heap.size, 1, none⟩) (by simp; omega)).trans d1⟩
 go_region_with (go_at_call 115; (first | (refine hcA.out.mono ?_; rintro e w1 ⟨gd, cap, rfl, ho, hb⟩; obtain ⟨k0, k1⟩ := CA.out w1 hb.out; have kz : w.heap.size < w1.heap.size := block_lt_of_cell k0) | (refine hcB.out.mono ?_; rintro e w1 ⟨gd, cap, rfl, ho, hb⟩; obtain ⟨k0, k1⟩ := CB.out w1 hb.out; have kz : w.heap.size < w1.heap.size := block_lt_of_cell k0)))
 all_goals
   go_wp2
   go_ret
   have hz := HZ0.out
   have hbb := HB0.out
   first
   | (refine ⟨w1.heap.size + 1, _, rfl, rfl, ?_⟩
      have h1 := OI.below (OI.below ho.out (below_alloc w1 (.cells (madeCells #[Value.int .i64 0] n) 3))) (below_alloc _ (.cells #[.int .i64 (n : Int), .slice A es.length c, .int .i64 q, .slice (some ⟨gd, 0, none⟩) n cap, .slice (some ⟨w1.heap.size, 0, none⟩) n n, .int .i64 0] 338))
      have h2 := OI.below (HMZ.out w1) (below_alloc _ (.cells #[.int .i64 (n : Int), .slice A es.length c, .int .i64 q, .slice (some ⟨gd, 0, none⟩) n cap, .slice (some ⟨w1.heap.size, 0, none⟩) n n, .int .i64 0] 338))
      have h3 := BL.new' (w1.alloc (.cells (madeCells #[Value.int .i64 0] n) 3)) #[.int .i64 (n : Int), .slice A es.length c, .int .i64 q, .slice (some ⟨gd, 0, none⟩) n cap, .slice (some ⟨w1.heap.size, 0, none⟩) n n, .int .i64 0] 338
      rw [World.size_alloc] at h3
      have hgl := (ho.out.1.lt gd rfl).2
      have hs : W0.heap.size <= w1.heap.size := hb.out.size
      exact ⟨⟨gd, cap, w1.heap.size, n, h3, OV.mono h1 (by simp; omega), OV.mono h2 (by omega), by omega, by omega, HDL.out, by simp⟩, ((((hbb.drew).trans (hb.out.mono (by simp; omega))).alloc (by omega) _).alloc (by simp; omega) _)⟩)
   | (refine ⟨w1.heap.size, _, rfl, rfl, ?_⟩
      have h1 := OI.below ho.out (below_alloc w1 (.cells #[.int .i64 (n : Int), .slice A es.length c, .int .i64 q, .slice (some ⟨gd, 0, none⟩) n cap, .slice (some ⟨W0.heap.size, 0, none⟩) n n, .int .i64 0] 338))
      have hm : OI (W0.alloc (.cells (madeCells #[Value.int .i64 0] n) 3)).drew W0.heap.size (.slice (some ⟨W0.heap.size, 0, none⟩) n n) (List.replicate n 0) := HMZ.out W0
      have h2 := OI.below (OI.below hm hb.out) (below_alloc w1 (.cells #[.int .i64 (n : Int), .slice A es.length c, .int .i64 q, .slice (some ⟨gd, 0, none⟩) n cap, .slice (some ⟨W0.heap.size, 0, none⟩) n n, .int .i64 0] 338))
      have h3 := BL.new' w1 #[.int .i64 (n : Int), .slice A es.length c, .int .i64 q, .slice (some ⟨gd, 0, none⟩) n cap, .slice (some ⟨W0.heap.size, 0, none⟩) n n, .int .i64 0] 338
      have hgl := (ho.out.1.lt gd rfl).1
      simp only [World.size_drew, World.size_alloc] at hgl
      have hs := hb.out.size
      simp only [World.size_drew, World.size_alloc] at hs
      exact ⟨⟨gd, cap, W0.heap.size, n, h3, OV.mono h1 (by simp; omega), OV.mono h2 (by omega), by omega, by omega, HDL.out, by simp⟩, (((hbb.alloc (by omega) _).drew.trans (hb.out.mono (by simp; omega))).alloc (by omega) _)⟩)
open Go.RowKit

def maxTo (zs : List Int) : Nat -> Int
 | 0 => zs.getD 0 0
 | k + 1 => if maxTo zs k < zs.getD (k + 1) 0 then zs.getD (k + 1) 0 else maxTo zs k
theorem maxTo_ge (zs : List Int) (k : Nat) : ∀ j, j <= k -> zs.getD j 0 <= maxTo zs k := by
 induction k with
 | zero => intro j hj; rw [show j = 0 by omega]; exact Int.le_refl _
 | succ k ih =>
   intro j hj
   rcases Nat.lt_or_ge j (k + 1) with c | c
   · have := ih j (by omega); simp only [maxTo]; split <;> omega
   · obtain rfl : j = k + 1 := by omega
     simp only [maxTo]; split <;> omega
theorem maxTo_is (zs : List Int) (k : Nat) : ∃ j, j <= k /\ maxTo zs k = zs.getD j 0 := by
 induction k with
 | zero => exact ⟨0, Nat.le_refl _, rfl⟩
 | succ k ih =>
   simp only [maxTo]; split
   · exact ⟨k + 1, Nat.le_refl _, rfl⟩
   · obtain ⟨j, hj, he⟩ := ih; exact ⟨j, by omega, he⟩
theorem run_max2z {P : Program} (ts : Array TypeId) (t : TypeId) (k : IntKind) (x y : Int) (w : World) : (Builtin.max_ ts t #[.int k x, .int k y]).run P w = .ok (.int k (if x < y then y else x)) w := by
 simp [Builtin.max_, Builtin.max2]
theorem Max_any (va : Value) (xs : List Int) (w : World) (ha : RI w va xs) (hn : 0 < xs.length) :
   Calls Tryz.prog 260 #[va] w fun e w' => e = .returned (.int .i64 (maxTo xs (xs.length - 1))) /\ w = w' := by
 obtain ⟨A, c, rfl, hlc, hc, hcell⟩ := ha.open_
 obtain ⟨ad, z, rfl, _, hz, hcl⟩ := hcell 0 hn
 have HA := Hd hcell
 have hz0 : Hid (z = maxTo xs 0) := by show _ = _; simp [maxTo, List.getD_eq_getElem?_getD, hz.out]
 have hcl0 : w.cell? ad = some (.int .i64 z) := by rw [<- hcl]; congr 1
 clear hcell ha hz
 go_enter Tryz.func260, Tryz.ntmps260
 go_wp2
 go_loopw [3, 4] (fun m i wr => ∃ k : Nat, 1 <= k /\ k <= xs.length /\ m = .int .i64 (maxTo xs (k - 1)) /\ i = .int .i64 (k : Int) /\ wr = w) (fun _ i _ => xs.length - (intOf i).toNat)
 case atStart => exact ⟨1, Nat.le_refl _, hn, by rw [hz0.out], rfl, rfl⟩
 case round =>
   obtain ⟨k, hk1, hk, rfl, rfl, rfl⟩ := hrel
   by_cases hlt : k < xs.length
   · obtain ⟨ad', z', hA, _, hz', hcl'⟩ := HA.out k hlt
     obtain rfl := Option.some.inj hA
     obtain ⟨mm, hmm⟩ : ∃ mm, mm = maxTo xs (k - 1) := ⟨_, rfl⟩
     have hmx := fun W => run_max2z (P := Tryz.prog) #[3, 3] 3 .i64 mm z' W
     have HM : Hid ((if mm < z' then z' else mm) = maxTo xs k) := by
       obtain ⟨j, rfl⟩ : ∃ j, k = j + 1 := ⟨k - 1, by omega⟩
       show _ = _
       rw [hmm]
       simp [maxTo, List.getD_eq_getElem?_getD, hz'.out]
     rw [HM.out] at hmx
     rw [<- hmm]
     clear hz' hA hmm
     go_wp2
     go_roundw
     case rel => exact ⟨k + 1, by omega, by omega, by simp, by go_num, by trivial⟩
     case measure => simp [intOf]; omega
   · have hke : Hid (k = xs.length) := by show _ = _; omega
     go_wp2
     go_ret
     exact ⟨by rw [<- hke.out]; rfl, rfl⟩
open Go.RowKit Go.Shelf

def firstE (n : Int) : List (List Int) -> Int
 | [] => 0
 | zs :: r => if checkE zs n ≠ 0 then checkE zs n else firstE n r
def eGiven (n : Int) (es : List Tri) (l : List (List Int)) : Int := if gcheckE n es ≠ 0 then gcheckE n es else if connB n es = false then 13 else firstE n l
end Go.Proofs.YteamhbohgoclgaaGreatDoor
