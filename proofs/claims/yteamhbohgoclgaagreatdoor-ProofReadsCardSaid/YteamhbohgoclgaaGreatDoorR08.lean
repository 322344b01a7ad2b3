/- Contract of reduced's settle: the walk. -/
import Derived.Test.YteamhbohgoclgaaGreatDoorR07
import Derived.Laws.CopyOwn
set_option maxRecDepth 100000
set_option maxHeartbeats 16000000
namespace Go.Proofs.YteamhbohgoclgaaGreatDoor
open Go.RowKit Go.Shelf
def SetR (b eb n q gd capd gs caps B : Nat) (ve : Value) (es : List Tri) (d0 s0 : List Int) (w : World) (d s : List Int) (wr : World) : Prop :=
 ST wr b n ve q (.slice (some ⟨gd, 0, none⟩) n capd) (.slice (some ⟨gs, 0, none⟩) n caps) 0 /\ EB wr ve es eb /\ OI wr B (.slice (some ⟨gd, 0, none⟩) n capd) d /\ OI wr B (.slice (some ⟨gs, 0, none⟩) n caps) s /\ Fr [gd, gs] w wr /\ Stl n q es d0 s0 d s
theorem SetR.below {b eb n q gd capd gs caps B : Nat} {ve : Value} {es : List Tri} {d0 s0 : List Int} {w : World} {d s : List Int} {wr W : World} (h : SetR b eb n q gd capd gs caps B ve es d0 s0 w d s wr) (hb : Below wr.heap.size wr W) : SetR b eb n q gd capd gs caps B ve es d0 s0 w d s W :=
 ⟨BL.bel h.1 hb, h.2.1.below hb, h.2.2.1.below hb, h.2.2.2.1.below hb, h.2.2.2.2.1.below hb, h.2.2.2.2.2⟩
def SetI (b eb n q gd capd gs caps B : Nat) (ve : Value) (es : List Tri) (d0 s0 : List Int) (w : World) (d s : List Int) (hb B2 gl cl : Nat) (lf : List Bool) (wr : World) : Prop :=
 SetR b eb n q gd capd gs caps B ve es d0 s0 w d s wr /\ BL wr hb 206 [.slice (some ⟨gl, 0, none⟩) n cl] /\ OV wr B2 4 (.slice (some ⟨gl, 0, none⟩) n cl) (lf.map Value.bool)
theorem SetI.below {b eb n q gd capd gs caps B : Nat} {ve : Value} {es : List Tri} {d0 s0 : List Int} {w : World} {d s : List Int} {hb B2 gl cl : Nat} {lf : List Bool} {wr W : World} (h : SetI b eb n q gd capd gs caps B ve es d0 s0 w d s hb B2 gl cl lf wr) (hw : Below wr.heap.size wr W) : SetI b eb n q gd capd gs caps B ve es d0 s0 w d s hb B2 gl cl lf W :=
 ⟨h.1.below hw, BL.bel h.2.1 hw, OV.below h.2.2 hw⟩
theorem bd_of {n : Nat} {d : List Int} {B : Int} (hl : d.length = n) (hB : 0 <= B) (h : ∀ v, v < n -> -B <= d.getD v 0 /\ d.getD v 0 <= B) : Bd B d := fun j => by
 rcases Nat.lt_or_ge j n with c | c
 · exact h j c
 · rw [List.getD_eq_getElem?_getD, List.getElem?_eq_none (by omega)]
   show -B <= 0 /\ 0 <= B
   omega
theorem stl_bnd {n q : Nat} {es : List Tri} {d0 s0 d s : List Int} {T : Int} (hE : Edges n es) (hc : Conn n (wgt es)) (hn : n <= 12) (hq : q < n) (h : Stl n q es d0 s0 d s) (h0 : ∀ v, v < n -> v ≠ q -> 0 <= d0.getD v 0)
   (hT : (sumN n fun v => d0.getD v 0) - d0.getD q 0 <= T) (hT0 : 0 <= T /\ T <= 80000) (hqb : -1000000 <= d0.getD q 0 /\ d0.getD q 0 <= 1000000) (hsb : Bd 1000000 s0) : Bd 1100000 d /\ Bd 2000000 s := by
 obtain ⟨h1, h2, h3⟩ := stl_bd hE hc hq h h0 hT hT0.1
 have hnT : (n : Int) * T <= 960000 := by
   have := Int.mul_le_mul (show (n : Int) <= 12 by omega) hT0.2 hT0.1 (by omega)
   omega
 refine ⟨bd_of h.dl (by omega) fun v hv => ?_, bd_of h.sl (by omega) fun v hv => ?_⟩
 · by_cases e : v = q
   · subst e; have := h.low; omega
   · have := h.pos v hv e; have := h1 v hv e; omega
 · have := h3 v hv; have := h.up v hv; have := hsb v; omega
theorem room_lt {n q : Nat} {es : List Tri} {d0 s0 d s s' : List Int} {T : Int} (hE : Edges n es) (hc : Conn n (wgt es)) (hq : q < n) (h : Stl n q es d0 s0 d s) (h0 : ∀ v, v < n -> v ≠ q -> 0 <= d0.getD v 0)
   (hT : (sumN n fun v => d0.getD v 0) - d0.getD q 0 <= T) (hT0 : 0 <= T) {d' : List Int} (h' : Stl n q es d0 s0 d' s') (hle : ∀ v, v < n -> s.getD v 0 <= s'.getD v 0) (hx : ∃ v, v < n /\ s.getD v 0 < s'.getD v 0) : roomN n T s0 s' < roomN n T s0 s := by
 obtain ⟨-, -, b1⟩ := stl_bd hE hc hq h h0 hT hT0
 obtain ⟨-, -, b2⟩ := stl_bd hE hc hq h' h0 hT hT0
 obtain ⟨x, hx, hlt⟩ := hx
 unfold roomN
 have n2 := sumN_nonneg (n := n) (f := fun v => (n : Int) * T - (s'.getD v 0 - s0.getD v 0)) fun v hv => by have := b2 v hv; omega
 have hd : (sumN n fun v => (n : Int) * T - (s.getD v 0 - s0.getD v 0)) = (sumN n fun v => (n : Int) * T - (s'.getD v 0 - s0.getD v 0)) + sumN n fun v => s'.getD v 0 - s.getD v 0 := by
   rw [<- sumN_add]; exact sumN_congr fun v _ => by omega
 have hs := sumN_ge (n := n) (c := x) (f := fun v => s'.getD v 0 - s.getD v 0) (fun v hv => by have := hle v hv; omega) hx
 omega
theorem settle_any (b eb n q gd capd gs caps B : Nat) (ve : Value) (es : List Tri) (d0 s0 : List Int) (w : World) (T : Int) (hE : Edges n es) (hn : n <= 12) (hq : q < n) (hc : Conn n (wgt es))
   (hST : ST w b n ve q (.slice (some ⟨gd, 0, none⟩) n capd) (.slice (some ⟨gs, 0, none⟩) n caps) 0) (hEB : EB w ve es eb) (heb : eb < w.heap.size) (he1 : eb ≠ gd) (he2 : eb ≠ gs) (hgg : gd ≠ gs)
   (hd : OI w B (.slice (some ⟨gd, 0, none⟩) n capd) d0) (hs : OI w B (.slice (some ⟨gs, 0, none⟩) n caps) s0) (hdl : d0.length = n) (hsl : s0.length = n)
   (h0 : ∀ v, v < n -> v ≠ q -> 0 <= d0.getD v 0) (hT : (sumN n fun v => d0.getD v 0) - d0.getD q 0 <= T) (hT0 : 0 <= T /\ T <= 80000) (hqb : -1000000 <= d0.getD q 0 /\ d0.getD q 0 <= 1000000) (hsb : Bd 1000000 s0) :
   Calls Tryz.prog 205 #[.pointer (some ⟨b, 0, none⟩)] w fun e w' => (∃ v, e = .returned v) /\ ∃ d s, SetR b eb n q gd capd gs caps B ve es d0 s0 w d s w' /\ Tight n (wgt es) q (fnD d) := by
 have hbz : b < w.heap.size := BL.lt hST
 have HS0 : Hid (SetR b eb n q gd capd gs caps B ve es d0 s0 w d0 s0 w) := ⟨hST, hEB, hd, hs, Fr.refl _ _, stl_start hdl hsl h0⟩
 have hdz : gd < w.heap.size := (hd.1.lt gd rfl).2
 have hsz : gs < w.heap.size := (hs.1.lt gs rfl).2
 have hBg : B <= gd := (hd.1.lt gd rfl).1
 have HE := Hd hE
 have HC := Hd hc
 have H0 := Hd h0
 have HT := Hd hT
 have HT0 := Hd hT0
 have HQ := Hd hqb
 have HSB := Hd hsb
 clear hST hEB hd hs hdl hsl hE hc h0 hT hT0 hqb hsb
 go_enter Tryz.func205, Tryz.ntmps205
 go_wp2_with fail
 go_loopg [2] (roomN n T s0 s0) (fun m x wr => ∃ d s : List Int, Hid (SetR b eb n q gd capd gs caps B ve es d0 s0 w d s wr) /\ Hid (m = roomN n T s0 s))
 case atStart => exact ⟨d0, s0, HS0.out, rfl⟩
 case round =>
   obtain ⟨d, s, hr, hm⟩ := hrel
   obtain ⟨wo, rfl⟩ : ∃ wo : World, wo = wr := ⟨_, rfl⟩
   have hbo : w.heap.size <= wo.heap.size := hr.out.2.2.2.2.1.size
   have e5 : wo.cell? ⟨b, 5, none⟩ = some (.int .i64 0) := BL.cell hr.out.1 5
   have HU := Hd (unburnt_any b eb n q gd capd B ve _ es d wo HE.out hn hq hr.out.1 hr.out.2.1 (by omega) hr.out.2.2.1 hr.out.2.2.2.2.2.dl)
   go_wp2_with fail
   refine HU.out.mono ?_
   rintro e w1 ⟨gl, cl, bt, rfl, hlv, hbu, hcm, hbel⟩
   have hz1 := hbel.size
   have HB1 := Hd hbel
   have HLV := Hd hlv
   have HBu := Hd hbu
   have HCm := Hd hcm
   obtain ⟨sm, hsm⟩ : ∃ sm, sm = (bt.map fun x => !x).any id := ⟨_, rfl⟩
   rw [<- hsm]
   clear hlv hbu hcm hbel e5
   cases sm
   · have HAll := Hd (any_false HBu.out.1 hsm.symm)
     clear hsm
     go_wp2
     refine bodyPost_ret (results_none rfl _ _ _) rfl ?_
     exact ⟨⟨_, rfl⟩, d, s, (hr.out.below HB1.out).below (below_alloc _ _), settle_end HBu.out HAll.out⟩
   · have HAny := Hd (any_true HBu.out.1 hsm.symm)
     clear hsm
     obtain ⟨lf, hlf⟩ : ∃ lf, lf = bt.map fun x => !x := ⟨_, rfl⟩
     have hLL : lf.length = n := by rw [hlf]; simpa using HBu.out.1
     have HI0 : Hid (SetI b eb n q gd capd gs caps B ve es d0 s0 w d s w1.heap.size wo.heap.size gl cl lf (w1.alloc (.cells #[.slice (some ⟨gl, 0, none⟩) n cl] 206))) := by
       refine ⟨(hr.out.below HB1.out).below (below_alloc _ _), BL.new' _ _ _, ?_⟩
       have := OV.below HLV.out (below_alloc w1 (.cells #[.slice (some ⟨gl, 0, none⟩) n cl] 206))
       rwa [<- hlf] at this
     have HLF := Hd hlf
     clear hlf
     go_wp2
     go_loopw [4, 23] (fun tm i wr => ∃ (k : Nat) (tz : Int), k <= n /\ i = .int .i64 (k : Int) /\ tm = .int .i64 tz /\ 0 <= tz /\ tz <= 2000000 /\ Hid (SetI b eb n q gd capd gs caps B ve es d0 s0 w d s w1.heap.size wo.heap.size gl cl lf wr) /\ Hid (TimesR k es d bt tz)) (fun _ i _ => n - (intOf i).toNat)
     case atStart => exact ⟨0, 0, Nat.zero_le _, rfl, rfl, by omega, by omega, HI0.out, .inl ⟨rfl, fun v hv => by omega⟩⟩
     case round =>
       obtain ⟨k, tz, hk, rfl, rfl, htz0, htz1, hi, ht⟩ := hrel
       have hz2 := hi.out.2.1.lt
       by_cases hlt : k < n
       · obtain ⟨p1, -, -⟩ := bools_at hi.out.2.2 hLL hlt
         rw [show lf.getD k false = !fnB bt k by rw [HLF.out]; exact fnB_not bt (by rw [HBu.out.1]; exact hlt)] at p1
         cases hbk : fnB bt k
         · rw [hbk] at p1
           have HBK := Hd hbk
           have HJ := Hd (joins_any b k eb n ve q (.slice (some ⟨gd, 0, none⟩) n capd) (.slice (some ⟨gs, 0, none⟩) n caps) 0 es _ (fun u => !lf.getD u false) wr HE.out hlt hn hi.out.1.1 hi.out.1.2.1 (left_clo wr w1.heap.size wo.heap.size gl n cl lf hi.out.2.1 hi.out.2.2 hLL) (by omega) (by omega))
           have hjc : joinE es (fun u => !lf.getD u false) k = joinE es (fnB bt) k := joinE_congr HE.out fun u hu => by
             show (!lf.getD u false) = fnB bt u
             rw [show lf.getD u false = !fnB bt u by rw [HLF.out]; exact fnB_not bt (by rw [HBu.out.1]; exact hu)]
             simp
           have hlow := joinE_le HE.out.pos (fnB bt) k
           have hdk := HCm.out k hlt HBK.out
           obtain ⟨jn, hjn⟩ : ∃ jn, jn = joinE es (fnB bt) k := ⟨_, rfl⟩
           rw [hjc, <- hjn] at HJ
           rw [<- hjn] at hdk
           obtain ⟨dk, hdke⟩ : ∃ dk, dk = fnD d k := ⟨_, rfl⟩
           have hjn0 : 0 <= jn := by rw [hjn]; exact hlow.1
           have hjnL : jn <= dk := by rw [hdke]; exact hdk
           have HJN := Hd hjn
           have HDK := Hd hdke
           have hdkT : dk <= 1100000 := by
             have := (stl_bnd HE.out HC.out hn hq hi.out.1.2.2.2.2.2 H0.out HT.out HT0.out HQ.out HSB.out).1 k
             rw [hdke]; exact this.2
           clear hbk hjc hlow hjn hdk hdke
           go_wp2_with fail
           refine HJ.out.mono ?_
           rintro e w2 ⟨rfl, hb2⟩
           have HI2 := Hd (hi.out.below hb2)
           have hz3 := hb2.size
           obtain ⟨-, -, e1, -, -⟩ := OI.at' HI2.out.1.2.2.1 (k := k) (by rw [HI2.out.1.2.2.2.2.2.dl]; exact hlt)
           rw [show d.getD k 0 = fnD d k from rfl, <- HDK.out] at e1
           have e3 : w2.cell? ⟨b, 3, none⟩ = some (.slice (some ⟨gd, 0, none⟩) n capd) := BL.cell HI2.out.1.1 3
           clear hb2 HJ
           by_cases hpos : 0 < jn
           · have hq0 : dk.tdiv jn = dk / jn := Int.tdiv_eq_ediv_of_nonneg (by omega)
             have hq1 : 0 <= dk / jn := Int.ediv_nonneg (by omega) (by omega)
             have hq2 : dk / jn <= dk := Int.ediv_le_self _ (by omega)
             obtain ⟨mo, hmo⟩ : ∃ mo, mo = dk / jn := ⟨_, rfl⟩
             rw [<- hmo] at hq0 hq1 hq2
             have HMO := Hd hmo
             have hwr : IntKind.i64.wrap mo = mo := by simp (disch := omega) only [IntWalk.i64_in]
             clear hmo
             have ht2 := (times_step HE.out HCm.out hlt ht.out (by rw [<- HJN.out]; exact hpos) (by rw [<- HJN.out, <- HDK.out]; exact hjnL) (show mo = _ by rw [HMO.out, HJN.out, HDK.out]))
             have HTp : Hid ((tz = 0 \/ mo < tz) -> TimesR (k + 1) es d bt mo) := fun h => by rwa [if_pos h] at ht2
             have HTn : Hid (¬ (tz = 0 \/ mo < tz) -> TimesR (k + 1) es d bt tz) := fun h => by rwa [if_neg h] at ht2
             clear ht2
             go_wp2_with fail
             all_goals
               go_roundw
               case rel =>
                 first
                 | exact ⟨k + 1, tz, by omega, by go_num, rfl, by omega, by omega, HI2.out, HTn.out (by first | omega | (rename_i hh; simp at hh; omega))⟩
                 | exact ⟨k + 1, mo, by omega, by go_num, rfl, by omega, by omega, HI2.out, HTp.out (by first | omega | (rename_i hh; simp at hh; omega))⟩
               case measure => simp [intOf]; omega
           · go_wp2
             go_roundw
             case rel => exact ⟨k + 1, tz, by omega, by go_num, rfl, by omega, by omega, HI2.out, times_skip ht.out (.inr ⟨by rw [<- HJN.out]; omega, by rw [<- HDK.out]; omega⟩)⟩
             case measure => simp [intOf]; omega
         · rw [hbk] at p1
           have HBK := Hd hbk
           clear hbk
           go_wp2
           go_roundw
           case rel => exact ⟨k + 1, tz, by omega, by go_num, rfl, by omega, by omega, hi.out, times_skip ht.out (.inl HBK.out)⟩
           case measure => simp [intOf]; omega
       · obtain rfl : k = n := by omega
         have x2 := hi.out.2.1.cell 0
         obtain ⟨h1, ⟨v, hv, hvf, hvt⟩, hst⟩ := settle_round HE.out HC.out hq hi.out.1.2.2.2.2.2 HBu.out HAny.out ht.out
         have hvq : v ≠ q := by rintro rfl; rw [HBu.out.2.1] at hvf; cases hvf
         obtain ⟨bd1, bs1⟩ := stl_bnd HE.out HC.out hn hq hi.out.1.2.2.2.2.2 H0.out HT.out HT0.out HQ.out HSB.out
         obtain ⟨bd2, bs2⟩ := stl_bnd HE.out HC.out hn hq hst H0.out HT.out HT0.out HQ.out HSB.out
         have htT : tz <= 80000 := by
           have := (stl_bd HE.out HC.out hq hi.out.1.2.2.2.2.2 H0.out HT.out HT0.out.1).1 v hv hvq
           have := HT0.out.2
           unfold fnD at hvt
           omega
         have HFi := Hd (fire_any b eb k gl cl gd capd gs caps B ve q es lf tz d s wr HE.out hn (by omega) hi.out.1.1 hi.out.1.2.1 (by omega) he1 he2 hgg hi.out.1.2.2.1 hi.out.1.2.2.2.1 (OV.mono hi.out.2.2 (by omega)) (by omega) hi.out.1.2.2.2.2.2.dl hi.out.1.2.2.2.2.2.sl hLL
           (fun j => by have := bd1 j; omega) (fun j => by have := bs1 j; omega) (fun j => by have := bd2 j; rw [HLF.out]; omega) (fun j => by have := bs2 j; rw [HLF.out]; omega))
         have hrm : roomN k T s0 (addS (bt.map fun x => !x) tz k s) < roomN k T s0 s := room_lt HE.out HC.out hq hi.out.1.2.2.2.2.2 H0.out HT.out HT0.out.1 hst
           (fun x hx => by rw [addS_get (by rw [hi.out.1.2.2.2.2.2.sl]; exact Nat.le_refl _)]; split <;> omega)
           ⟨v, hv, by
             rw [addS_get (by rw [hi.out.1.2.2.2.2.2.sl]; exact Nat.le_refl _), if_pos ⟨hv, by have := fnB_not bt (v := v) (by rw [HBu.out.1]; exact hv); rw [hvf] at this; exact this⟩]; omega⟩
         have HRm := Hd hrm
         have HSt := Hd hst
         clear hrm hst bd1 bs1 bd2 bs2 hvt
         go_wp2_with fail
         refine HFi.out.mono ?_
         rintro e w3 ⟨⟨vv, rfl⟩, hST3, hD3, hS3, hF3⟩
         have HR3 : Hid (SetR b eb k q gd capd gs caps B ve es d0 s0 w (fireS (bt.map fun x => !x) tz es k d) (addS (bt.map fun x => !x) tz k s) w3) := by
           rw [HLF.out] at hD3 hS3
           exact ⟨hST3, hi.out.1.2.1.fr hF3 (by simp; omega) (by omega), hD3, hS3, hi.out.1.2.2.2.2.1.trans hF3, HSt.out⟩
         clear hST3 hD3 hS3 hF3 x2
         go_wp2
         go_roundg (roomN k T s0 (addS (bt.map fun x => !x) tz k s))
         case measure => rw [hm.out]; exact HRm.out
         case rel => exact ⟨_, _, HR3.out, rfl⟩
open Go.RowKit

theorem Mul_any (n : Nat) (hn : n <= 12) (w : World) : Calls Tryz.prog 342 #[.int .u64 1, .int .u64 (n : Int)] w fun e w' => e = .returned (.tuple #[.int .u64 0, .int .u64 (n : Int)]) /\ w = w' := by
 have hc : n = 0 \/ n = 1 \/ n = 2 \/ n = 3 \/ n = 4 \/ n = 5 \/ n = 6 \/ n = 7 \/ n = 8 \/ n = 9 \/ n = 10 \/ n = 11 \/ n = 12 := by omega
 rcases hc with rfl | rfl | rfl | rfl | rfl | rfl | rfl | rfl | rfl | rfl | rfl | rfl | rfl
 all_goals
   go_enter Tryz.func342, Tryz.ntmps342
   go_wp2
   go_ret2
   exact ⟨rfl, rfl⟩

def repL (n m : Nat) : List Value := List.replicate m (.int .i64 (-1)) ++ List.replicate (n - m) (.int .i64 0)
theorem repL_splice {n m : Nat} : splice (repL n m) m (List.replicate (Nat.min m (n - m)) (.int .i64 (-1))) = repL n (m + Nat.min m (n - m)) := by
 have hk : Nat.min m (n - m) <= n - m := Nat.min_le_right _ _
 unfold splice repL
 generalize Nat.min m (n - m) = c at hk
 rw [List.take_left' (by simp), List.replicate_append_replicate.symm, List.append_assoc]
 congr 2
 rw [List.drop_append, List.drop_eq_nil_of_le (by simp), List.nil_append, List.drop_replicate]
 congr 1
 simp
 omega
theorem Repeat_any (va : Value) (n : Nat) (hn1 : 1 <= n) (hn : n <= 12) (w : World) (ha : RI w va [-1]) :
   Calls Tryz.prog 312 #[va, .int .i64 (n : Int)] w fun e w' => e = .returned (.slice (some ⟨w.heap.size, 0, none⟩) n n) /\ w.heap.size < w'.heap.size /\ BL w' w.heap.size 3 (repL n n) /\ Below w.heap.size w w' := by
 obtain ⟨A, c, rfl, hlc, hc, hcell⟩ := ha.open_
 obtain ⟨ad, z, rfl, had, hz, hcl⟩ := hcell 0 (by simp)
 have hz0 : z = -1 := by have := hz.out; simpa using this.symm
 subst hz0
 have hcl0 : w.cell? ad = some (.int .i64 (-1)) := by rw [<- hcl]; congr 1
 clear hcell ha hz hlc hc
 have HM := Hd (Mul_any n hn w)
 go_enter Tryz.func312, Tryz.ntmps312
 have hmk := run_make_row' (P := Tryz.prog) 37 3 (.int .i64 0) 8 Tryz.underlying37 int_info rfl .i64 .i64 n (by omega) (by omega)
 have HG : Hid (BL (w.alloc (.cells (madeCells #[Value.int .i64 0] n) 3)) w.heap.size 3 (repL n 0)) := by
   have := BL.new' w (madeCells #[Value.int .i64 0] n) 3
   rwa [show (madeCells #[Value.int .i64 0] n).toList = repL n 0 by simpa [repL] using toList_madeCells_one (.int .i64 0) n] at this
 have hB : Hid (Below w.heap.size w (w.alloc (.cells (madeCells #[Value.int .i64 0] n) 3))) := below_alloc w _
 have hc2 : (w.alloc (.cells (madeCells #[Value.int .i64 0] n) 3)).cell? ad = some (.int .i64 (-1)) := (hB.out.cell had).trans hcl0
 obtain ⟨W1, hW1⟩ : ∃ W1, W1 = w.alloc (.cells (madeCells #[Value.int .i64 0] n) 3) := ⟨_, rfl⟩
 rw [<- hW1] at HG hB hc2
 obtain ⟨W2, hW2⟩ : ∃ W2, W2 = W1.setRow w.heap.size ((repL n 0).toArray.toList.take 0 ++ [Value.int .i64 (-1)] ++ (repL n 0).toArray.toList.drop (0 + [Value.int .i64 (-1)].length)).toArray := ⟨_, rfl⟩
 have hcp := run_copy_row (P := Tryz.prog) W1 37 37 3 3 w.heap.size 0 n n ad 1 c (repL n 0).toArray 3 [.int .i64 (-1)] Tryz.underlying37 (by kernel_rfl) HG.out
   (by show 1 = Nat.min 1 n; exact (Nat.min_eq_left hn1).symm) (fun j v hj => by
     have : j = 0 := by
       rcases j with _ | j
       · rfl
       · simp at hj
     subst this
     have hv : v = .int .i64 (-1) := by simpa using hj.symm
     rw [hv, show ad.add 0 = ad from rfl]
     exact hc2) (by simp [repL]; omega) (by simp [Value.oneCell'])
 rw [<- hW2] at hcp
 have HG2 : Hid (BL W2 w.heap.size 3 (repL n 1)) := by
   have h := setRow_heap W1 w.heap.size (repL n 0).toArray ((repL n 0).toArray.toList.take 0 ++ [Value.int .i64 (-1)] ++ (repL n 0).toArray.toList.drop (0 + [Value.int .i64 (-1)].length)).toArray 3 _ HG.out
   rw [<- hW2] at h
   have e : (repL n 0).toArray.toList.take 0 ++ [Value.int .i64 (-1)] ++ (repL n 0).toArray.toList.drop (0 + [Value.int .i64 (-1)].length) = repL n 1 := by
     simp [repL]
   rw [e] at h
   exact h
 have HB2 : Hid (Below w.heap.size w W2) := by rw [hW2]; exact below_setRow hB.out (Nat.le_refl _) _
 have HW1 := Hd hW1
 clear hc2 hW2 hW1
 have hmk1 := hmk w
 rw [<- HW1.out] at hmk1
 clear hmk
 go_wp2_with (first
   | (go_at_call 342; refine HM.out.mono ?_; rintro e w1 ⟨rfl, rfl⟩))
 have HZ : Hid (w.heap.size < W2.heap.size) := HG2.out.lt
 clear hcp hmk1 hcl0 HW1 HG hB
 go_loopw [8] (fun i wr => ∃ m : Nat, 1 <= m /\ m <= n /\ i = .int .i64 (m : Int) /\ Hid (BL wr w.heap.size 3 (repL n m)) /\ Hid (Below w.heap.size w wr)) (fun i _ => n - (intOf i).toNat)
 case atStart => exact ⟨1, Nat.le_refl _, hn1, rfl, HG2.out, HB2.out⟩
 case round =>
   obtain ⟨m, hm1, hm, rfl, hg, hb⟩ := hrel
   by_cases hlt : m < n
   · obtain ⟨cc, hcc⟩ : ∃ cc, cc = Nat.min m (n - m) := ⟨_, rfl⟩
     have hc1 : 1 <= cc /\ m + cc <= n /\ cc <= m := by rw [hcc]; simp only [Nat.min_def]; split <;> omega
     have hsp := repL_splice (n := n) (m := m)
     rw [<- hcc] at hsp
     have HSp := Hd hsp
     have HCC := Hd hcc
     have HCl : Hid (∀ j v, (List.replicate cc (Value.int .i64 (-1)))[j]? = some v -> wr.cell? ((⟨w.heap.size, 0, none⟩ : Addr).add j) = some v) := fun j v hj => by
       obtain ⟨hj1, hj2⟩ := List.getElem?_eq_some_iff.1 hj
       rw [List.length_replicate] at hj1
       rw [List.getElem_replicate] at hj2
       have h := hg.out.cell j
       have ea : ((⟨w.heap.size, 0, none⟩ : Addr).add j) = ⟨w.heap.size, j, none⟩ := by
         simp [Addr.add]
         exact fun h => h.symm
       rw [ea, h, <- hj2]
       unfold repL
       rw [List.getElem?_append_left (by simp; omega), List.getElem?_replicate, if_pos (by omega)]
     have hwr : IntKind.i64.wrap ((m : Int) + (cc : Int)) = (m : Int) + (cc : Int) := by simp (disch := omega) only [IntWalk.i64_in]
     clear hsp hcc
     go_wp2_with fail
     go_region_law (refine step_copy_splice rfl (.tmp 41) (.tmp 44) 37 37 rfl 3 Tryz.underlying37 (by kernel_rfl) (if n = m then some ⟨w.heap.size, 0, none⟩ else some ⟨w.heap.size, m, none⟩) (some ⟨w.heap.size, 0, none⟩) (n - m) (n - m) m n (by simp [Act.eval, Act.put]) (by simp [Act.eval, Act.put]) w.heap.size m (repL n m) 3 hg.out (List.replicate cc (.int .i64 (-1))) (by rw [List.length_replicate]; exact HCC.out) (fun _ => ⟨if_neg (by omega), _, rfl, HCl.out⟩) (by simp [repL]; omega) (by simp [Value.oneCell']) w.heap.size w hb.out.drew (Nat.le_refl _) ?_; intro w4 hg4 hb4; have HB4 := Hd hb4; clear hb4; rw [HSp.out] at hg4; simp only [List.length_replicate])
     go_wp2
     go_roundw
     case rel =>
       first
       | exact ⟨m + cc, by omega, by omega, by first | omega | go_num, hg4.out⟩
       | exact ⟨m + cc, by omega, by omega, by go_num, hg4.out, HB4.out⟩
     case measure => simp [intOf]; omega
   · obtain rfl : m = n := by omega
     go_wp2
     go_ret
     exact ⟨rfl, hg.out.lt, hg.out, hb.out⟩

def natV (Q : List Nat) : List Value := Q.map fun (u : Nat) => Value.int .i64 (u : Int)
def QI (w : World) (g : Nat) (v : Value) (Q : List Nat) : Prop :=
 ∃ off cap cur, v = .slice (some ⟨g, off, none⟩) Q.length cap /\ w.heap[g]? = some (.cells cur 3 (0, 0)) /\ off + cap <= cur.size /\ Q.length <= cap /\ ∀ j u, (natV Q)[j]? = some u -> cur[off + j]? = some u
theorem QI.keep {w w' : World} {g : Nat} {v : Value} {Q : List Nat} (h : QI w g v Q) (hk : w'.heap[g]? = w.heap[g]?) : QI w' g v Q := by
 obtain ⟨off, cap, cur, h1, h2, h3⟩ := h
 exact ⟨off, cap, cur, h1, hk.trans h2, h3⟩
theorem QI.lt {w : World} {g : Nat} {v : Value} {Q : List Nat} (h : QI w g v Q) : g < w.heap.size := by
 obtain ⟨off, cap, cur, h1, h2, h3⟩ := h
 exact lt_of_block h2
theorem QI.below {w w' : World} {g : Nat} {v : Value} {Q : List Nat} (h : QI w g v Q) (hb : Below w.heap.size w w') : QI w' g v Q := h.keep (hb.block g h.lt)
theorem QI.head {w : World} {g u : Nat} {v : Value} {Q : List Nat} (h : QI w g v (u :: Q)) : ∃ off cap, v = .slice (some ⟨g, off, none⟩) (Q.length + 1) cap /\ Q.length + 1 <= cap /\ w.cell? ⟨g, off, none⟩ = some (.int .i64 (u : Int)) /\
   QI w g (.slice (if cap = 1 then some ⟨g, off, none⟩ else some ⟨g, off + 1, none⟩) Q.length (cap - 1)) Q := by
 obtain ⟨off, cap, cur, h1, h2, h3, h4, h5⟩ := h
 have h0 := h5 0 _ rfl
 refine ⟨off, cap, by simpa using h1, by simpa using h4, by simpa [World.cell?, h2] using h0, ?_⟩
 simp only [List.length_cons] at h4
 by_cases c : cap = 1
 · subst c
   have hq : Q = [] := List.eq_nil_of_length_eq_zero (by omega)
   subst hq
   exact ⟨off, 0, cur, by simp, h2, by omega, by simp, fun j u hj => by simp [natV] at hj⟩
 · exact ⟨off + 1, cap - 1, cur, by rw [if_neg c], h2, by omega, by omega, fun j u hj => by
     have := h5 (j + 1) u (by simpa [natV] using hj)
     rwa [show off + 1 + j = off + (j + 1) by omega]⟩
theorem natV_len (Q : List Nat) : (natV Q).length = Q.length := by simp [natV]
theorem QI.append {w : World} {g : Nat} {v : Value} {Q : List Nat} (h : QI w g v Q) (hl : Q.length <= 1000) (ty : TypeId) (a : Addr) (u : Nat) (ha : w.cell? a = some (.int .i64 (u : Int))) :
   ∃ v' w' g', (Builtin.append_ #[37, 37] ty #[v, .slice (some a) 1 1]).run Tryz.prog w = .ok v' w' /\ QI w' g' v' (Q ++ [u]) /\ (g' = g \/ w.heap.size <= g') /\ w.grownBy w' (some g) := by
 obtain ⟨off, cap, cur, rfl, h2, h3, h4, h5⟩ := h
 obtain ⟨i0, hi, hz0, hz1, hz2⟩ := info_parts int_info
 have hn : ∀ (j : Nat) (x : Value), ([Value.int .i64 (u : Int)])[j]? = some x -> w.cell? (a.add j) = some x := fun j x hj => by
   rcases j with _ | j
   · have hx : x = .int .i64 (u : Int) := by simpa using hj.symm
     rw [hx, <- ha]
     congr 1
   · simp at hj
 by_cases hr : Q.length + 1 <= cap
 · have hin : off + Q.length < cur.size := by omega
   have e := run_append_room_cells (P := Tryz.prog) w 37 ty 3 i0 Tryz.underlying37 hi g off Q.length cap a 1 1 [.int .i64 (u : Int)] (by simp [hz1]) hn (by simp [Value.oneCell']) hr
     (fun j hj => by
       have : j = 0 := by simpa using hj
       subst this
       simp [World.cell?, h2, hz1, hin]) (fun j hj => by simp [World.frozen?, h2])
   refine ⟨_, _, g, e, ?_, .inl rfl, ?_⟩
   · have hs : w.setCells g (off + Q.length * i0.size) [.int .i64 (u : Int)] = w.setRow g (cur.setIfInBounds (off + Q.length) (.int .i64 (u : Int))) := by
       rw [hz1, Nat.mul_one]
       exact setCell_eq_setRow w g (off + Q.length) cur _ _ _ h2
     rw [hs]
     refine ⟨off, cap, _, by simp, setRow_heap w g cur _ _ _ h2, by simpa using h3, by simpa using hr, fun j x hj => ?_⟩
     rw [Array.getElem?_setIfInBounds]
     rcases Nat.lt_or_ge j Q.length with c | c
     · rw [if_neg (by omega)]
       refine h5 j x ?_
       rw [<- hj]
       simp only [natV, List.map_append]
       rw [List.getElem?_append_left (by simpa using c)]
     · have hj2 : j < (natV (Q ++ [u])).length := (List.getElem?_eq_some_iff.1 hj).1
       rw [natV_len] at hj2
       have : j = Q.length := by simp at hj2; omega
       subst this
       rw [if_pos rfl, if_pos hin, <- hj]
       simp [natV]
   · rw [hz1, Nat.mul_one]
     exact ⟨rfl, rfl, rfl, by simp [World.setCells], fun k _ hk => heap_setCell_other w ⟨g, off + Q.length, none⟩ k _ (by simpa using hk)⟩
 · obtain ⟨v', w', e, how, hgr⟩ := run_append_arg_grows (P := Tryz.prog) w 37 ty 3 i0 _ 1 8 Tryz.underlying37 hi hz0 hz1 hz2 rfl (by decide) ⟨g, off, none⟩ Q.length cap (natV Q) (by simp [natV]) (fun j x hj => by
       have := h5 j x hj
       show w.cell? ((⟨g, off, none⟩ : Addr).add j) = _
       have ea : ((⟨g, off, none⟩ : Addr).add j) = ⟨g, off + j, none⟩ := by unfold Addr.add; split <;> simp_all
       rw [ea]
       simpa [World.cell?, h2] using this) a 1 1 [.int .i64 (u : Int)] (by simp) hn (by omega) (by unfold maxLen; omega) (by omega)
   rcases how.2 with ⟨_, hz⟩ | ⟨g', cap', cur', hv, hg', hh, hc, _, hcs, htk⟩
   · omega
   · refine ⟨v', w', g', e, ⟨0, cap', cur', by simpa using hv, hh, by omega, by simpa using hc, fun j x hj => ?_⟩, .inr hg', ⟨hgr.1, hgr.2, hgr.3, hgr.4, fun k hk _ => hgr.5 k hk (by simp)⟩⟩
     have e2 : natV (Q ++ [u]) = natV Q ++ [.int .i64 (u : Int)] := by simp [natV]
     rw [e2, <- htk] at hj
     obtain ⟨hj1, hj2⟩ := List.getElem?_eq_some_iff.1 hj
     rw [List.getElem_take] at hj2
     rw [Nat.zero_add, <- hj2]
     simp

def un (n : Nat) (o : List Int) : Nat := countN n fun v => decide (o.getD v 0 < 0)
def bfsT (v : Nat) (s : List Int × List Nat) (x : Int × Int) : List Int × List Nat :=
 if s.1.getD x.1.toNat 0 < 0 then (s.1.set x.1.toNat (s.1.getD v 0 + 1), s.2 ++ [x.1.toNat]) else s
def bfsI (v : Nat) (l : List (Int × Int)) (s : List Int × List Nat) : List Int × List Nat := l.foldl (bfsT v) s
theorem bfsI_snoc (v : Nat) (l : List (Int × Int)) (x : Int × Int) (s : List Int × List Nat) : bfsI v (l ++ [x]) s = bfsT v (bfsI v l s) x := by simp [bfsI]
structure Bf (n q : Nat) (es : List Tri) (o : List Int) (Q : List Nat) (c : Option Nat) (l : List (Int × Int)) : Prop where
 len : o.length = n
 q0 : o.getD q 0 = 0
 lo : ∀ v, v < n -> -1 <= o.getD v 0
 inQ : ∀ u ∈ Q, u < n /\ 0 <= o.getD u 0
 closed : ∀ p, p < n -> 0 <= o.getD p 0 -> p ∉ Q -> c ≠ some p -> ∀ x ∈ linksL es p, 0 <= o.getD x.1.toNat 0 /\ o.getD x.1.toNat 0 <= o.getD p 0 + 1
 seen : ∀ p, c = some p -> p < n /\ 0 <= o.getD p 0 /\ (∀ x ∈ l, 0 <= o.getD x.1.toNat 0 /\ o.getD x.1.toNat 0 <= o.getD p 0 + 1) /\ (∀ a, a < n -> o.getD a 0 <= o.getD p 0 + 1) /\ (∀ a ∈ Q, o.getD p 0 <= o.getD a 0) /\ o.getD p 0 + 1 + 2 * un n o + Q.length <= 2 * n - 1
 mono : Q.Pairwise fun a b => o.getD a 0 <= o.getD b 0
 head : ∀ h r, Q = h :: r -> ∀ a, a < n -> o.getD a 0 <= o.getD h 0 + 1
 hi : ∀ v, v < n -> o.getD v 0 + 2 * un n o + Q.length <= 2 * n - 1
 par : ∀ a, a < n -> 0 <= o.getD a 0 -> a ≠ q -> ∃ p, p < n /\ 0 <= o.getD p 0 /\ o.getD a 0 = o.getD p 0 + 1 /\ ∃ x ∈ linksL es p, x.1.toNat = a
theorem getD_set_int (l : List Int) (i j : Nat) (x : Int) (hi : i < l.length) : (l.set i x).getD j 0 = if i = j then x else l.getD j 0 := by
 rw [List.getD_eq_getElem?_getD, List.getElem?_set]
 by_cases e : i = j
 · subst e; rw [if_pos rfl, if_pos rfl, if_pos hi]; rfl
 · rw [if_neg e, if_neg e, List.getD_eq_getElem?_getD]
theorem countN_drop {n : Nat} {p p' : Nat -> Bool} {x : Nat} (hx : x < n) (h1 : p x = true) (h2 : p' x = false) (h : ∀ v, v < n -> v ≠ x -> p' v = p v) : countN n p' + 1 = countN n p := by
 induction n with
 | zero => omega
 | succ n ih =>
   simp only [countN]
   by_cases e : x = n
   · subst e
     have : countN x p' = countN x p := by
       have : ∀ m, m <= x -> countN m p' = countN m p := fun m hm => by
         induction m with
         | zero => rfl
         | succ m ihm => simp only [countN]; rw [ihm (by omega), h m (by omega) (by omega)]
       exact this x (Nat.le_refl _)
     rw [h1, h2, this]; simp
   · have := ih (by omega) fun v hv hne => h v (by omega) hne
     rw [h n (by omega) (fun e' => e e'.symm)]
     omega
theorem bf_step {n q : Nat} {es : List Tri} {o : List Int} {Q : List Nat} {v : Nat} {l : List (Int × Int)} {x : Int × Int} (hE : Edges n es) (h : Bf n q es o Q (some v) l) (hx : x ∈ linksL es v) (hq : q < n) :
   Bf n q es (bfsT v (o, Q) x).1 (bfsT v (o, Q) x).2 (some v) (l ++ [x]) := by
 obtain ⟨hv, hv0, hs1, hs2, hs3, hs4⟩ := h.seen v rfl
 have hxb := links_mem hE hv hx
 have hxn : x.1.toNat < n := by omega
 unfold bfsT
 dsimp only
 by_cases c : o.getD x.1.toNat 0 < 0
 · rw [if_pos c]
   dsimp only
   have hg : ∀ j, (o.set x.1.toNat (o.getD v 0 + 1)).getD j 0 = if x.1.toNat = j then o.getD v 0 + 1 else o.getD j 0 := fun j => getD_set_int _ _ _ _ (by rw [h.len]; exact hxn)
   have hge : ∀ j, o.getD j 0 <= (o.set x.1.toNat (o.getD v 0 + 1)).getD j 0 := fun j => by
     rw [hg]; split
     · next e => subst e; omega
     · exact Int.le_refl _
   have hvx : x.1.toNat ≠ v := by omega
   have hqx : x.1.toNat ≠ q := by intro e; rw [e, h.q0] at c; omega
   have hov : (o.set x.1.toNat (o.getD v 0 + 1)).getD v 0 = o.getD v 0 := by rw [hg, if_neg hvx]
   have hun : un n (o.set x.1.toNat (o.getD v 0 + 1)) + 1 = un n o := countN_drop hxn (by simpa using c) (by simp only [decide_eq_false_iff_not]; rw [hg, if_pos rfl]; omega) (fun u _ hne => by rw [hg, if_neg (fun e => hne e.symm)])
   have hold : ∀ j, 0 <= o.getD j 0 -> (o.set x.1.toNat (o.getD v 0 + 1)).getD j 0 = o.getD j 0 := fun j hj => by rw [hg, if_neg]; intro e; subst e; omega
   refine ⟨by simp [h.len], by rw [hg, if_neg hqx]; exact h.q0, fun u hu => Int.le_trans (h.lo u hu) (hge u), ?_, ?_, ?_, ?_, ?_, ?_, ?_⟩
   · intro u hu
     rcases List.mem_append.1 hu with hu | hu
     · have := h.inQ u hu
       rw [hold u this.2]; exact this
     · simp only [List.mem_singleton] at hu
       subst hu
       rw [hg, if_pos rfl]; exact ⟨hxn, by omega⟩
   · intro p hp hp0 hpQ hpc y hy
     have hne : x.1.toNat ≠ p := fun e => hpQ (List.mem_append_right _ (by simp [e]))
     rw [hg, if_neg hne] at hp0
     have := h.closed p hp hp0 (fun hm => hpQ (List.mem_append_left _ hm)) hpc y hy
     rw [hold _ this.1, hg p, if_neg hne]; exact this
   · intro p hp
     obtain rfl := Option.some.inj hp
     rw [hov]
     refine ⟨hv, hv0, ?_, ?_, ?_, ?_⟩
     · intro y hy
       rcases List.mem_append.1 hy with hy | hy
       · have := hs1 y hy; rw [hold _ this.1]; exact this
       · simp only [List.mem_singleton] at hy
         subst hy
         rw [hg, if_pos rfl]; omega
     · intro a ha
       rw [hg]; split
       · exact Int.le_refl _
       · exact hs2 a ha
     · intro a ha
       rcases List.mem_append.1 ha with ha | ha
       · exact Int.le_trans (hs3 a ha) (hge a)
       · simp only [List.mem_singleton] at ha
         subst ha
         rw [hg, if_pos rfl]; omega
     · simp only [List.length_append, List.length_singleton]; omega
   · rw [List.pairwise_append]
     refine ⟨?_, List.pairwise_singleton _ _, ?_⟩
     · refine List.Pairwise.imp_of_mem (fun {a b} ha hb hab => ?_) h.mono
       rw [hold a (h.inQ a ha).2, hold b (h.inQ b hb).2]; exact hab
     · intro a ha b hb
       simp only [List.mem_singleton] at hb
       subst hb
       rw [hold a (h.inQ a ha).2, hg, if_pos rfl]
       exact hs2 a (h.inQ a ha).1
   · intro hh r hQ a ha
     rcases Q with _ | ⟨y, Q'⟩
     · simp only [List.nil_append, List.cons.injEq] at hQ
       obtain ⟨rfl, _⟩ := hQ
       rw [hg x.1.toNat, if_pos rfl, hg a]
       split
       · omega
       · have := hs2 a ha; omega
     · simp only [List.cons_append, List.cons.injEq] at hQ
       obtain ⟨rfl, _⟩ := hQ
       have hy := h.inQ y (List.mem_cons_self ..)
       rw [hold y hy.2, hg a]
       split
       · have := hs3 y (List.mem_cons_self ..); omega
       · exact h.head y Q' rfl a ha
   · intro u hu
     simp only [List.length_append, List.length_singleton]
     rw [hg]; split
     · omega
     · have := h.hi u hu; omega
   · intro a ha ha0 haq
     by_cases e : x.1.toNat = a
     · subst e
       exact ⟨v, hv, by rw [hov]; exact hv0, by rw [hov, hg, if_pos rfl], x, hx, rfl⟩
     · rw [hg, if_neg e] at ha0 ⊢
       obtain ⟨p, hp, hp0, he, y, hy, hya⟩ := h.par a ha ha0 haq
       exact ⟨p, hp, by rw [hold p hp0]; exact hp0, by rw [hold p hp0]; exact he, y, hy, hya⟩
 · rw [if_neg c]
   have c : ¬ o.getD x.1.toNat 0 < 0 := c
   refine ⟨h.len, h.q0, h.lo, h.inQ, h.closed, ?_, h.mono, h.head, h.hi, h.par⟩
   intro p hp
   obtain rfl := Option.some.inj hp
   refine ⟨hv, hv0, fun y hy => ?_, hs2, hs3, hs4⟩
   rcases List.mem_append.1 hy with hy | hy
   · exact hs1 y hy
   · simp only [List.mem_singleton] at hy
     subst hy
     refine ⟨?_, hs2 _ hxn⟩
     show 0 <= o.getD _ 0
     omega
theorem bf_pop {n q : Nat} {es : List Tri} {o : List Int} {v : Nat} {Q : List Nat} (h : Bf n q es o (v :: Q) none []) : Bf n q es o Q (some v) [] := by
 have hv := h.inQ v (List.mem_cons_self ..)
 have hp := List.pairwise_cons.1 h.mono
 refine ⟨h.len, h.q0, h.lo, fun u hu => h.inQ u (List.mem_cons_of_mem _ hu), ?_, ?_, hp.2, ?_, ?_, h.par⟩
 · intro p hp hp0 hpQ hpc x hx
   exact h.closed p hp hp0 (fun hm => by
     rcases List.mem_cons.1 hm with rfl | hm
     · exact hpc rfl
     · exact hpQ hm) (by simp) x hx
 · intro p hpe
   obtain rfl := Option.some.inj hpe
   refine ⟨hv.1, hv.2, by simp, h.head v Q rfl, fun a ha => hp.1 a ha, ?_⟩
   have := h.hi v hv.1
   simp only [List.length_cons] at this; omega
 · intro y r hQ a ha
   have h1 := h.head v Q rfl a ha
   have h2 := hp.1 y (by rw [hQ]; exact List.mem_cons_self ..)
   omega
 · intro u hu
   have := h.hi u hu
   simp only [List.length_cons] at this; omega
theorem bf_done {n q : Nat} {es : List Tri} {o : List Int} {v : Nat} {Q : List Nat} (h : Bf n q es o Q (some v) (linksL es v)) : Bf n q es o Q none [] := by
 obtain ⟨hv, hv0, hs1, hs2, hs3, hs4⟩ := h.seen v rfl
 refine ⟨h.len, h.q0, h.lo, h.inQ, ?_, by simp, h.mono, h.head, h.hi, h.par⟩
 intro p hp hp0 hpQ _ x hx
 by_cases e : p = v
 · subst e; exact hs1 x hx
 · exact h.closed p hp hp0 hpQ (by simp; exact fun h => e h.symm) x hx
structure Dist (n q : Nat) (es : List Tri) (o : List Int) : Prop where
 len : o.length = n
 q0 : o.getD q 0 = 0
 bd : ∀ v, v < n -> 0 <= o.getD v 0 /\ o.getD v 0 <= 2 * n
 near : ∀ p, p < n -> ∀ x ∈ linksL es p, o.getD x.1.toNat 0 <= o.getD p 0 + 1
 par : ∀ a, a < n -> a ≠ q -> ∃ p, p < n /\ o.getD a 0 = o.getD p 0 + 1 /\ ∃ x ∈ linksL es p, x.1.toNat = a
theorem link_of_wgt {n : Nat} {es : List Tri} {v u : Nat} (hE : Edges n es) (h : 0 < wgt es v u) : ∃ x ∈ linksL es v, x.1.toNat = u := by
 obtain ⟨t, ht, hne, hh⟩ := wgt_pos_mem h
 have hb := hE.lo t ht
 refine ⟨(t.1 + t.2.1 - v, t.2.2), ?_, by simp only; omega⟩
 unfold linksL
 refine List.mem_filterMap.2 ⟨t, ht, ?_⟩
 rw [if_pos ⟨hne, by omega⟩]
theorem bf_end {n q : Nat} {es : List Tri} {o : List Int} (hE : Edges n es) (hq : q < n) (hc : Conn n (wgt es)) (h : Bf n q es o [] none []) : Dist n q es o := by
 have hall : ∀ v, v < n -> 0 <= o.getD v 0 := by
   apply Classical.byContradiction
   intro hno
   have : ∃ v, v < n /\ ¬ 0 <= o.getD v 0 := by
     apply Classical.byContradiction
     intro h2
     exact hno fun v hv => Classical.byContradiction fun h3 => h2 ⟨v, hv, h3⟩
   obtain ⟨v, hv, hv0⟩ := this
   obtain ⟨a, u, ha, hu, ha1, hu1, hw⟩ := hc (fun v => decide (0 <= o.getD v 0)) ⟨q, hq, by simp only [decide_eq_true_eq]; rw [h.q0]; exact Int.le_refl _⟩ ⟨v, hv, by simpa using hv0⟩
   simp only [decide_eq_true_eq, decide_eq_false_iff_not] at ha1 hu1
   obtain ⟨x, hx, hxu⟩ := link_of_wgt hE hw
   have := h.closed a ha ha1 (by simp) (by simp) x hx
   rw [hxu] at this
   exact hu1 this.1
 refine ⟨h.len, h.q0, fun v hv => ⟨hall v hv, ?_⟩, fun p hp x hx => (h.closed p hp (hall p hp) (by simp) (by simp) x hx).2, fun a ha hne => ?_⟩
 · have := h.hi v hv; omega
 · obtain ⟨p, hp, _, he, hx⟩ := h.par a ha (hall a ha) hne
   exact ⟨p, hp, he, hx⟩
theorem bf_start {n q : Nat} {es : List Tri} (hq : q < n) : Bf n q es ((List.replicate n (-1)).set q 0) [q] none [] := by
 have hg : ∀ j, ((List.replicate n (-1 : Int)).set q 0).getD j 0 = if q = j then 0 else (List.replicate n (-1 : Int)).getD j 0 := fun j => getD_set_int _ _ _ _ (by simpa using hq)
 have hr : ∀ j, j < n -> (List.replicate n (-1 : Int)).getD j 0 = -1 := fun j hj => by rw [List.getD_eq_getElem?_getD, List.getElem?_replicate, if_pos hj]; rfl
 have hle : ∀ j, j < n -> ((List.replicate n (-1 : Int)).set q 0).getD j 0 <= 0 := fun j hj => by
   rw [hg]; split
   · exact Int.le_refl _
   · rw [hr j hj]; omega
 have honly : ∀ j, j < n -> 0 <= ((List.replicate n (-1 : Int)).set q 0).getD j 0 -> j = q := fun j hj h => by
   apply Classical.byContradiction
   intro hne
   rw [hg, if_neg (fun e => hne e.symm), hr j hj] at h; omega
 have hun : un n ((List.replicate n (-1 : Int)).set q 0) + 1 <= n := by
   have h1 := countN_drop (n := n) (p := fun _ => true) (p' := fun v => decide (((List.replicate n (-1 : Int)).set q 0).getD v 0 < 0)) hq rfl (by simp only [decide_eq_false_iff_not]; rw [hg, if_pos rfl]; omega) (fun v hv hne => by simp only [decide_eq_true_eq]; rw [hg, if_neg (fun e => hne e.symm), hr v hv]; omega)
   have h2 := countN_le n fun _ => true
   unfold un; omega
 refine ⟨by simp, by rw [hg, if_pos rfl], fun v hv => ?_, ?_, ?_, by simp, List.pairwise_singleton _ _, ?_, ?_, ?_⟩
 · rw [hg]; split
   · omega
   · rw [hr v hv]; omega
 · intro u hu
   simp only [List.mem_singleton] at hu
   subst hu
   exact ⟨hq, by rw [hg, if_pos rfl]; omega⟩
 · intro p hp hp0 hpQ
   exact absurd (honly p hp hp0) (by simpa using hpQ)
 · intro y r hQ a ha
   simp only [List.cons.injEq] at hQ
   obtain ⟨rfl, _⟩ := hQ
   have := hle a ha
   rw [hg q, if_pos rfl]; omega
 · intro v hv
   have := hle v hv
   simp only [List.length_singleton]; omega
 · intro a ha ha0 hne
   exact absurd (honly a ha ha0) hne
open Go.RowKit Go.Shelf

theorem wpListIn_append {l n : Nat} {P : Program} {ops : Array Oper} {Q : Exit -> Act -> World -> Prop} {a : Act} {w : World} {rest : List Oper} {o : Oper} (hgd : o.guard = none) (s x : Operand) (t : TypeId)
   (ho : o.op = .call { callee := .builtin .append, args := #[s, x], argTypes := #[t, t] }) (vs vx : Value) (hs : a.eval s = vs) (hx : a.eval x = vx) (v' : Value) (w' : World)
   (hrun : (Builtin.append_ #[t, t] o.type #[vs, vx]).run P w = .ok v' w') (h : wpListIn (Fence.wide.inRound l) n P ops Q rest (a.put o.dst v') w') : wpListIn (Fence.wide.inRound l) n P ops Q (o :: rest) a w := by
 refine wpListIn_plain hgd fun K hK => ?_
 refine ⟨fun _ _ => trivial, ?_⟩
 rw [show (Fence.wide.inRound l).round = some l from rfl, Oper.semAt_some _ _ _ (by intro c hc; rw [ho] at hc; cases hc)]
 unfold execOp
 simp only [ho, resolve, invoke, builtin, Sem.run_bind, Sem.run_pure, Result.andThen_ok, List.map_toArray, List.map_cons, List.map_nil, hs, hx, hrun]
 exact hK _ _ h
theorem QI.putLoop {w : World} {g : Nat} {v : Value} {Q : List Nat} (h : QI w g v Q) {l : Nat} {r : Loop} (hl : w.heap[l]? = some (.loop r)) (o : Obj) : QI (w.putObj l o) g v Q := by
 refine h.keep (World.putObj_heap_other ?_)
 rintro rfl
 obtain ⟨_, _, _, _, hh, _⟩ := h
 rw [hl] at hh; cases hh
theorem QI.ne_bl {w : World} {g b : Nat} {v : Value} {Q : List Nat} {T : TypeId} {us : List Value} (h : QI w g v Q) (hb : BL w b T us) (hT : T ≠ 3) : b ≠ g := by
 rintro rfl
 obtain ⟨_, _, _, _, hh, _⟩ := h
 unfold BL at hb
 rw [hb] at hh
 simp only [Option.some.injEq, Obj.cells.injEq] at hh
 exact hT hh.2.1
theorem Fr.ofBelow {w W : World} (h : Below w.heap.size w W) : Fr [] w W := ⟨h.os, h.tape, h.output, h.size, fun k hk _ => h.block k hk⟩
theorem Fr.below_ {w W : World} (h : Fr [] w W) : Below w.heap.size w W := ⟨h.os, h.tape, h.output, h.size, fun k hk => h.block k hk (by simp)⟩
theorem Fr.grownQ {w W w' : World} {gq : Nat} {o : Obj} (h : Fr [] w W) (hg : (W.drew.alloc o).grownBy w' (some gq)) (hq : w.heap.size <= gq) : Fr [] w w' :=
 ⟨hg.os.trans h.os, hg.tape.trans h.tape, hg.output.trans h.output, by have := hg.size; have := h.size; simp at *; omega, fun k hk _ => by
   have hs := h.size
   have e1 := hg.block k (by simp; omega) (fun e => by simp at e; omega)
   exact e1.trans ((Below.heap_alloc W.drew o k (by simp; omega)).trans (h.block k hk (by simp)))⟩
def DiI (w : World) (hx hv vb bo bq g b v eb n : Nat) (ve : Value) (q : Nat) (vd vs : Value) (es : List Tri) (o : List Int) (Q : List Nat) (ds : List Deferred) (pre : List (Int × Int)) (W : World) : Prop :=
 LkPre hx hv b v eb n ve q vd vs 0 es W /\ BL W vb 3 [.int .i64 (v : Nat)] /\ BL W bo 37 [.slice (some ⟨g, 0, none⟩) n n] /\
   (∃ gq vq, BL W bq 37 [vq] /\ QI W gq vq (bfsI v pre (o, Q)).2 /\ g < gq /\ gq ≠ vb /\ gq ≠ hv) /\
   OI W w.heap.size (.slice (some ⟨g, 0, none⟩) n n) (bfsI v pre (o, Q)).1 /\ Fr [] w W /\ Bf n q es (bfsI v pre (o, Q)).1 (bfsI v pre (o, Q)).2 (some v) pre /\ Marks w.heap.size ds W
theorem DiI.below {w : World} {hx hv vb bo bq g b v eb n : Nat} {ve : Value} {q : Nat} {vd vs : Value} {es : List Tri} {o : List Int} {Q : List Nat} {ds : List Deferred} {pre : List (Int × Int)} {W W' : World} (h : DiI w hx hv vb bo bq g b v eb n ve q vd vs es o Q ds pre W) (hr : Below W.heap.size W W') : DiI w hx hv vb bo bq g b v eb n ve q vd vs es o Q ds pre W' := by
 obtain ⟨h1, h2, h3, ⟨gq, vq, h4, h5, h6⟩, h7, h8, h9, h10⟩ := h
 exact ⟨h1.below hr, h2.bel hr, h3.bel hr, ⟨gq, vq, h4.bel hr, h5.below hr, h6⟩, h7.below hr, h8.below hr, h9, h10.keep fun b' _ h => hr.block b' (lt_of_block h)⟩
theorem bfsT_meas {n v : Nat} {o : List Int} {Q : List Nat} {x : Int × Int} (hl : o.length = n) (hx : x.1.toNat < n) (hv : 0 <= o.getD v 0) :
   2 * un n (bfsT v (o, Q) x).1 + (bfsT v (o, Q) x).2.length <= 2 * un n o + Q.length /\ (bfsT v (o, Q) x).1.length = n /\ 0 <= (bfsT v (o, Q) x).1.getD v 0 := by
 unfold bfsT
 dsimp only
 by_cases c : o.getD x.1.toNat 0 < 0
 · rw [if_pos c]
   dsimp only
   have hg : ∀ j, (o.set x.1.toNat (o.getD v 0 + 1)).getD j 0 = if x.1.toNat = j then o.getD v 0 + 1 else o.getD j 0 := fun j => getD_set_int _ _ _ _ (by rw [hl]; exact hx)
   have hun : un n (o.set x.1.toNat (o.getD v 0 + 1)) + 1 = un n o := countN_drop hx (by simpa using c) (by simp only [decide_eq_false_iff_not]; rw [hg, if_pos rfl]; omega) (fun u _ hne => by rw [hg, if_neg (fun e => hne e.symm)])
   refine ⟨by rw [List.length_append, List.length_singleton]; omega, by simpa using hl, ?_⟩
   rw [hg]; split <;> omega
 · rw [if_neg c]
   exact ⟨Nat.le_refl _, hl, hv⟩
theorem bfsI_meas {n v : Nat} {l : List (Int × Int)} (hx : ∀ x ∈ l, x.1.toNat < n) : ∀ {o : List Int} {Q : List Nat}, o.length = n -> 0 <= o.getD v 0 ->
   2 * un n (bfsI v l (o, Q)).1 + (bfsI v l (o, Q)).2.length <= 2 * un n o + Q.length := by
 induction l with
 | nil => intro o Q _ _; exact Nat.le_refl _
 | cons x l ih =>
   intro o Q hl hv
   obtain ⟨h1, h2, h3⟩ := bfsT_meas (Q := Q) hl (hx x (by simp)) hv
   have := ih (fun y hy => hx y (by simp [hy])) (o := (bfsT v (o, Q) x).1) (Q := (bfsT v (o, Q) x).2) h2 h3
   have e : bfsI v (x :: l) (o, Q) = bfsI v l ((bfsT v (o, Q) x).1, (bfsT v (o, Q) x).2) := rfl
   rw [e]
   omega
end Go.Proofs.YteamhbohgoclgaaGreatDoor
