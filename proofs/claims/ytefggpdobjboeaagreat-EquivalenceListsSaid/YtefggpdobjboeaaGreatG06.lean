/- Contracts of package firing: given, Check, bounded, moved, Apply.
   Contracts of package firing: moved.
   Contract of firing.Apply.
   A range over a function, where the iterator may write memory of its own between two rounds: the law of the statement, stated with a relation for the iterator's own steps and one for what a round keeps. -/
import Derived.Test.YtefggpdobjboeaaGreatG05
import Derived.RangeFuncNested
import Derived.Shelf.Abstract
import Derived.Test.YtefggpdobjboeaaGreatG01
import Derived.RangeFuncBound
import Derived.RangeFuncCalls
import Derived.RangeFuncLeaves
import Derived.Shelf.RegionOpen
import Derived.OwnWalkIn
import Derived.TacticsInMore
import Derived.LoopNIn
import Derived.LoopIn
namespace Go.Proofs.YtefggpdobjboeaaGreat
open Go.RowKit Go.Shelf

def fGiven (n : Int) (es : List Tri) (zs : List Int) : Int := if gcheckE n es ≠ 0 then gcheckE n es else checkE zs n
theorem box_cells {w : World} {u v : Value} {T : TypeId} : (w.alloc (.cells #[u, v] T)).cell? ⟨w.heap.size, 0, none⟩ = some u ∧ (w.alloc (.cells #[u, v] T)).cell? ⟨w.heap.size, 1, none⟩ = some v := ⟨cell_lit rfl, cell_lit rfl⟩
set_option maxHeartbeats 1000000 in
theorem fGiven_any (g d : Value) (n : Int) (es : List Tri) (zs : List Int) (w : World) (hg : GV w g n es) (hd : RI w d zs) :
    Calls Tryz.prog 68 #[g, d] w fun e w' => e = .returned (.int .i64 (fGiven n es zs)) ∧ Below w.heap.size w w' := by
  obtain ⟨A, c, rfl, hlc, hc, -⟩ := hg.open_
  obtain ⟨A2, c2, rfl, -, -, -⟩ := hd.open_
  have HG := Lib.hid (hg.below (below_alloc w (.cells #[.int .i64 n, .slice A es.length c] 24)))
  have HD := Lib.hid (hd.below (below_alloc w (.cells #[.int .i64 n, .slice A es.length c] 24)))
  clear hg hd
  by_cases h0 : gcheckE n es = 0
  · have H0 := Lib.hid h0
    clear h0
    go_enter Tryz.func68, Tryz.ntmps68
    go_wp2_with fail
    refine (gCheck_any _ n es _ HG.out).mono ?_
    rw [H0.out]
    rintro e w1 ⟨rfl, hb⟩
    have c0 : w1.cell? ⟨w.heap.size, 0, none⟩ = some (.int .i64 n) := (hb.cell (p := ⟨w.heap.size, 0, none⟩) (by simp)).trans (cell_lit rfl)
    have HD1 := Lib.hid (HD.out.below hb)
    have HB := Lib.hid ((below_alloc w (.cells #[.int .i64 n, .slice A es.length c] 24)).trans (hb.mono (by simp)))
    clear hb
    go_wp2_with (go_at_call 50; refine (check_any _ zs _ _ HD1.out).mono ?_; rintro e w' ⟨rfl, rfl⟩)
    go_ret
    exact ⟨ret_i (by simp [fGiven, H0.out]), HB.out⟩
  · have hne : (gcheckE n es != 0) = true := by simp [h0]
    have H0 := Lib.hid h0
    clear h0
    go_enter Tryz.func68, Tryz.ntmps68
    go_wp2_with (go_at_call 107; refine (gCheck_any _ n es _ HG.out).mono ?_; rintro e w1 ⟨rfl, hb1⟩)
    go_ret
    exact ⟨ret_i (by simp [fGiven, H0.out]), (below_alloc w _).trans (hb1.mono (by simp))⟩
set_option maxHeartbeats 1000000 in
theorem fCheck_any (g d : Value) (n : Int) (es : List Tri) (zs : List Int) (w : World) (hg : GV w g n es) (hd : RI w d zs) :
    Calls Tryz.prog 69 #[g, d] w fun e w' => e = .returned (.int .i64 (fGiven n es zs)) ∧ Below w.heap.size w w' := by
  obtain ⟨A, c, rfl, hlc, hc, -⟩ := hg.open_
  obtain ⟨A2, c2, rfl, -, -, -⟩ := hd.open_
  have HG := Lib.hid (hg.below (below_alloc w (.cells #[.int .i64 n, .slice A es.length c] 24)))
  have HD := Lib.hid (hd.below (below_alloc w (.cells #[.int .i64 n, .slice A es.length c] 24)))
  clear hg hd
  go_enter Tryz.func69, Tryz.ntmps69
  go_wp2_with (go_at_call 68; refine (fGiven_any _ _ n es zs _ HG.out HD.out).mono ?_; rintro e w1 ⟨rfl, hb1⟩)
  go_ret
  exact ⟨rfl, (below_alloc w _).trans (hb1.mono (by simp))⟩
theorem big_clo (w : World) : CloB Tryz.prog w (.func (.func 108) #[] #[]) (fun _ => True) (fun x => !InB x) :=
  ⟨_, _, rfl, enters_of Tryz.func108 (by kernel_rfl) rfl, fun W _ x _ => by
    show Calls _ _ #[.int .i64 x] _ _
    by_cases h : x < -1048576
    · go_enter Tryz.func108, Tryz.ntmps108
      go_wp2
      go_ret
      exact ⟨ret_b (by simp [InB]; omega), rfl⟩
    · go_enter Tryz.func108, Tryz.ntmps108
      go_wp2
      go_ret
      refine ⟨ret_b ?_, rfl⟩
      have : decide (-1048576 ≤ x) = true := by simp; omega
      simp only [InB, this, Bool.true_and]
      by_cases h2 : x ≤ 1048576
      · simp [h2]; try omega
      · simp [h2]; try omega⟩
def bndL (zs : List Int) : List Int × Int := if zs.all InB then (zs, 0) else ([], 11)
theorem any_not_all (zs : List Int) : zs.any (fun x => !InB x) = !zs.all InB := by
  induction zs with
  | nil => rfl
  | cons z r ih => simp only [List.any_cons, List.all_cons, ih]; cases InB z <;> simp
theorem bounded_any (v : Value) (zs : List Int) (w : World) (B : Nat) (hv : OI w B v zs) :
    Calls Tryz.prog 70 #[v] w fun e w' => ∃ u, e = .returned (.tuple #[u, .int .i64 (bndL zs).2]) ∧ OI w B u (bndL zs).1 ∧ w = w' := by
  have HC := Lib.hid (ContainsD_any v _ zs _ _ w hv.ri (big_clo w) (fun _ _ => trivial))
  have HV := Lib.hid hv
  obtain ⟨A, c, rfl, -, -, -⟩ := hv.ri.open_
  rw [any_not_all] at HC
  clear hv
  cases h : zs.all InB
  · rw [h] at HC
    go_enter Tryz.func70, Tryz.ntmps70
    go_wp2_with (refine HC.out.mono ?_; rintro e w' ⟨rfl, rfl⟩)
    go_ret2
    exact ⟨.slice none 0 0, by simp only [bndL, h]; rfl, by simp only [bndL, h]; exact OI.nil_ _ _, rfl⟩
  · rw [h] at HC
    go_enter Tryz.func70, Tryz.ntmps70
    go_wp2_with (refine HC.out.mono ?_; rintro e w' ⟨rfl, rfl⟩)
    go_ret2
    exact ⟨_, by simp only [bndL, h]; rfl, by simp only [bndL, h]; exact HV.out, rfl⟩
end Go.Proofs.YtefggpdobjboeaaGreat

namespace Go.Proofs.YtefggpdobjboeaaGreat
open Go.RowKit Go.Shelf

theorem OI.kept {w w' : World} {B : Nat} {v : Value} {zs : List Int} {row : Option Nat} (h : OI w B v zs) (hg : w.grownBy w' row) (hne : v.ownBlock = none ∨ v.ownBlock ≠ row) : OI w' B v zs := ⟨h.1.kept hg hne, h.2⟩
theorem moveT_nat (s d : List Int) (x y : Nat) (m : Int) : moveT s d (x, y, m) = addAt (addAt d x (-(m * (s.getD x 0 - s.getD y 0)))) y (m * (s.getD x 0 - s.getD y 0)) := by simp [moveT]
set_option maxHeartbeats 2000000 in
theorem along_any (x y : Nat) (m : Int) (hs ho B g cap n : Nat) (vs : Value) (zs os : List Int) (w : World) (hbs : BL w hs 29 [vs]) (hbo : BL w ho 26 [.slice (some ⟨g, 0, none⟩) n cap])
    (hrs : RI w vs zs) (hro : OI w B (.slice (some ⟨g, 0, none⟩) n cap) os) (hx : x < zs.length) (hy : y < zs.length) (hl : os.length = zs.length) (hm : 1 ≤ m ∧ m ≤ 50) (hS : Bd 1048576 zs) (hO : Bd 100000000000 os) :
    Calls Tryz.prog 109 #[.agg #[.int .i64 x, .int .i64 y, .int .i64 m], .pointer (some ⟨hs, 0, none⟩), .pointer (some ⟨ho, 0, none⟩)] w fun e w' => (∃ v, e = .returned v) ∧ OI w' B (.slice (some ⟨g, 0, none⟩) n cap) (moveT zs os (x, y, m)) ∧ w.grownBy w' (some g) := by
  obtain ⟨A, c, rfl, hlc, hc, hcell⟩ := hrs.open_
  obtain ⟨ad, a, rfl, hab, hza, hca⟩ := hcell x hx
  obtain ⟨ad', b, e, _, hzb, hcb⟩ := hcell y hy
  obtain rfl := Option.some.inj e
  have ea : zs.getD x 0 = a := by rw [List.getD_eq_getElem?_getD, hza.out]; rfl
  have eb : zs.getD y 0 = b := by rw [List.getD_eq_getElem?_getD, hzb.out]; rfl
  have hfl := flow_bd (t := ((x : Int), (y : Int), m)) hS hm
  have h1 := hS x
  have h2 := hS y
  simp only [Int.toNat_natCast] at hfl
  rw [ea] at h1
  rw [eb] at h2
  rw [ea, eb] at hfl
  obtain ⟨f, hf⟩ : ∃ f, f = m * (a - b) := ⟨_, rfl⟩
  rw [← hf] at hfl
  have hE : Hid (moveT zs os (x, y, m) = addAt (addAt os x (-f)) y f) := by show _ = _; rw [moveT_nat, ea, eb, ← hf]
  obtain ⟨W, hW⟩ : ∃ W, W = w.alloc (.cells #[.int .i64 x, .int .i64 y, .int .i64 m] 76) := ⟨_, rfl⟩
  have hbW : Below w.heap.size w W := by rw [hW]; exact below_alloc w _
  have hWs : W.heap.size = w.heap.size + 1 := by rw [hW]; simp
  have d0 : W.cell? ⟨w.heap.size, 0, none⟩ = some (.int .i64 x) := by rw [hW]; exact cell_lit rfl
  have d1 : W.cell? ⟨w.heap.size, 1, none⟩ = some (.int .i64 y) := by rw [hW]; exact cell_lit rfl
  have d2 : W.cell? ⟨w.heap.size, 2, none⟩ = some (.int .i64 m) := by rw [hW]; exact cell_lit rfl
  have b0 : W.cell? ⟨hs, 0, none⟩ = some (.slice (some ad) zs.length c) := (hbs.bel hbW).cell 0
  have b1 : W.cell? ⟨ho, 0, none⟩ = some (.slice (some ⟨g, 0, none⟩) n cap) := (hbo.bel hbW).cell 0
  have ca : W.cell? (ad.add x) = some (.int .i64 a) := (hbW.cell (by rw [block_of_add]; exact hab)).trans hca
  have cb : W.cell? (ad.add y) = some (.int .i64 b) := (hbW.cell (by rw [block_of_add]; exact hab)).trans hcb
  have hoW := hro.below hbW
  have hog : ho ≠ g := by
    intro e; subst e
    rcases hro.1.2 with ⟨h, _⟩ | ⟨g', cap', cur, h, _, hh, _⟩
    · cases h
    · simp only [Value.slice.injEq, Option.some.injEq, Addr.mk.injEq, and_true] at h
      obtain ⟨rfl, _⟩ := h
      unfold BL at hbo
      rw [hbo] at hh
      simp only [Option.some.injEq, Obj.cells.injEq] at hh
      exact absurd hh.2.1 (by decide)
  have hgs : g < w.heap.size := (hro.1.lt g rfl).2
  have HOW := Lib.hid hoW
  have HO := Lib.hid hO
  have HL := Lib.hid hl
  have HN : Hid (n = zs.length) := by have := (OI.at' hro (k := x) (by omega)).1; rw [hl] at this; exact this
  have hGA : Hid (w.grownBy W (some g)) := by rw [hW]; exact World.grownBy_alloc w _ _
  have HW : Hid (W = w.alloc (.cells #[.int .i64 x, .int .i64 y, .int .i64 m] 76)) := hW
  have w1 : IntKind.i64.wrap (a - b) = a - b := IntWalk.i64_in _ (by omega)
  have w2' : IntKind.i64.wrap (m * (a - b)) = f := by rw [← hf]; exact IntWalk.i64_in _ (by omega)
  clear hW hf hcell hza hzb hca hcb hro hrs hbs hbo hbW hoW hS hO ea eb hl
  go_enter Tryz.func109, Tryz.ntmps109
  go_wp2
  rw [← HW.out]
  go_quiet (fail)
  obtain ⟨V, hV⟩ : ∃ V, V = W.drewN nq := ⟨_, rfl⟩
  rw [← hV]
  have g1 : V.cell? ⟨w.heap.size, 1, none⟩ = some (.int .i64 y) := by rw [hV]; exact d1
  have g0 : V.cell? ⟨w.heap.size, 0, none⟩ = some (.int .i64 x) := by rw [hV]; exact d0
  have gb : V.cell? ⟨ho, 0, none⟩ = some (.slice (some ⟨g, 0, none⟩) n cap) := by rw [hV]; exact b1
  have hoV : OI V B (.slice (some ⟨g, 0, none⟩) n cap) os := by rw [hV]; exact HOW.out
  have hVg : w.grownBy V (some g) := by rw [hV]; exact ⟨hGA.out.os, hGA.out.tape, hGA.out.output, hGA.out.size, hGA.out.block⟩
  clear hV d0 d1 d2 b0 b1 ca cb w1 w2' HW HOW hGA
  have hlen := HL.out
  obtain ⟨hn, hBg, o0, of0, ost⟩ := OI.at' hoV (k := x) (by omega)
  have hOx := HO.out x
  obtain ⟨w2, hw2⟩ : ∃ w2, w2 = V.setCell ⟨g, x, none⟩ (.int .i64 (os.getD x 0 - f)) := ⟨_, rfl⟩
  have ho2 : OI w2 B (.slice (some ⟨g, 0, none⟩) n cap) (addAt os x (-f)) := by rw [hw2]; exact (ost _).1
  have hg2 : V.grownBy w2 (some g) := by rw [hw2]; exact (ost (os.getD x 0 - f)).2
  have hadd := addAt_bd (F := 1000000000) HO.out (i := x) (x := -f) (by omega) (by omega)
  have hOy := hadd y
  obtain ⟨-, -, p0, pf0, pst⟩ := OI.at' ho2 (k := y) (by rw [addAt_len]; omega)
  have e0 : w2.cell? ⟨ho, 0, none⟩ = some (.slice (some ⟨g, 0, none⟩) n cap) := hg2.cell gb (by simp [hog])
  have e1 : w2.cell? ⟨w.heap.size, 1, none⟩ = some (.int .i64 y) := hg2.cell g1 (by simp; omega)
  have HR : Hid (OI (w2.setCell ⟨g, y, none⟩ (.int .i64 ((addAt os x (-f)).getD y 0 + f))) B (.slice (some ⟨g, 0, none⟩) n cap) (moveT zs os (x, y, m))) := by rw [hE.out]; exact (pst _).1
  have HG : Hid (w.grownBy (w2.setCell ⟨g, y, none⟩ (.int .i64 ((addAt os x (-f)).getD y 0 + f))) (some g)) :=
    (hVg.trans hg2).trans (pst ((addAt os x (-f)).getD y 0 + f)).2
  have HW2 : Hid (w2 = V.setCell ⟨g, x, none⟩ (.int .i64 (os.getD x 0 - f))) := hw2
  have hxn : x < n := by omega
  have hyn : y < n := by omega
  generalize (addAt os x (-f)).getD y 0 = oy at *
  generalize os.getD x 0 = ox at *
  clear hw2 ost pst ho2 hg2 hadd hlen hoV hVg
  rw [HW2.out] at e0 e1 p0 pf0 HR HG
  clear HW2 w2
  go_wp2
  go_end0
  exact ⟨⟨_, rfl⟩, HR.out, HG.out⟩

theorem getD_tri {es : List Tri} {k : Nat} {t : Tri} (h : Hid (es[k]? = some t)) : t ∈ es := List.mem_of_getElem? h.out
set_option maxHeartbeats 2000000 in
theorem moved_any (g d s : Value) (n : Nat) (es : List Tri) (ds zs : List Int) (w : World) (hg : GV w g n es) (hd : RI w d ds) (hs : RI w s zs) (hn : n ≤ 12) (hn1 : 1 ≤ n) (he : Edges n es) (hdl : ds.length = n) (hzl : zs.length = n) (hdb : Bd 1048576 ds) (hzb : Bd 1048576 zs) :
    Calls Tryz.prog 71 #[g, d, s] w fun e w' => ∃ v, e = .returned v ∧ OI w' w.heap.size v (moveE zs es ds) ∧ Below w.heap.size w w' := by
  obtain ⟨A, c, rfl, hlc, hc, hcell⟩ := hg.open_
  obtain ⟨A2, c2, rfl, -, -, -⟩ := hd.open_
  obtain ⟨A3, c3, rfl, -, -, -⟩ := hs.open_
  have hW0 : Below w.heap.size w ((w.alloc (.cells #[.int .i64 n, .slice A es.length c] 24)).alloc (.cells #[.slice A3 zs.length c3] 29)) := (below_alloc w _).alloc (by simp) _
  have HD := Lib.hid (hd.below hW0)
  have HS := Lib.hid hs
  have HC := Lib.hid hcell
  have HE := Lib.hid he
  have HDB := Lib.hid hdb
  have HZB := Lib.hid hzb
  have HDL := Lib.hid hdl
  have HZL := Lib.hid hzl
  have HGB : Hid (BL ((w.alloc (.cells #[.int .i64 n, .slice A es.length c] 24)).alloc (.cells #[.slice A3 zs.length c3] 29)) (w.heap.size) 24 [.int .i64 n, .slice A es.length c]) := (BL.new' w _ _).alloc _
  have HSB : Hid (BL ((w.alloc (.cells #[.int .i64 n, .slice A es.length c] 24)).alloc (.cells #[.slice A3 zs.length c3] 29)) (w.heap.size + 1) 29 [.slice A3 zs.length c3]) := by
    have := BL.new' (w.alloc (.cells #[.int .i64 n, .slice A es.length c] 24)) #[.slice A3 zs.length c3] 29
    rwa [World.size_alloc] at this
  have hel := edges_len he hn
  clear hg hd hs hcell he hdb hzb hdl hzl
  go_enter Tryz.func71, Tryz.ntmps71
  go_wp2_with fail
  refine (CloneD_any _ ds _ HD.out (by have := HDL.out; omega)).mono ?_
  rintro e w1 ⟨v1, rfl, ho, hb⟩
  have hz := hb.size
  simp only [World.size_alloc] at hz
  have HB1 : Hid (Below w.heap.size w w1) := hW0.trans (hb.mono (by simp; omega))
  have HSB1 := Lib.hid (HSB.out.bel hb)
  have HGB1 := Lib.hid (HGB.out.bel hb)
  obtain ⟨gb, cap, hv1, hgb1, -⟩ := OI.at_ ho (k := 0) (by have := HDL.out; omega)
  have hgb2 : gb < w1.heap.size := by rw [hv1] at ho; exact (ho.1.lt gb rfl).2
  rw [HDL.out] at hv1
  subst hv1
  simp only [World.size_alloc] at hgb1
  have HO1 : Hid (OI w1 w.heap.size (.slice (some ⟨gb, 0, none⟩) n cap) ds) := OV.mono ho (by simp; omega)
  have c1 : (w1.alloc (.cells #[.slice (some ⟨gb, 0, none⟩) n cap] 26)).cell? ⟨w.heap.size, 1, none⟩ = some (.slice A es.length c) := (HGB1.out.alloc _).cell 1
  clear hb ho
  go_wp2
  clear c1
  go_loopw [17] (fun i wr => ∃ k : Nat, k ≤ es.length ∧ i = .int .i64 k ∧ Hid (OI wr w.heap.size (.slice (some ⟨gb, 0, none⟩) n cap) (moveE zs (es.take k) ds)) ∧ Hid (BL wr (w.heap.size + 1) 29 [.slice A3 zs.length c3]) ∧ Hid (BL wr w1.heap.size 26 [.slice (some ⟨gb, 0, none⟩) n cap]) ∧ Hid (Below w.heap.size w wr)) (fun i _ => es.length - (intOf i).toNat)
  case atStart => exact ⟨0, Nat.zero_le _, rfl, HO1.out.below (below_alloc w1 _), HSB1.out.alloc _, BL.new' w1 _ _, HB1.out.alloc (by omega) _⟩
  case round =>
    obtain ⟨k, hk, rfl, ho, hsb, hob, hbel⟩ := hrel
    by_cases hlt : k < es.length
    · obtain ⟨ad, a, b, m, rfl, hab, ht, q1, q2, q3⟩ := HC.out k hlt
      obtain ⟨d1, d2, d3⟩ := tri_cells hbel.out hab q1 q2 q3
      have hen := HE.out.lo _ (getD_tri ht)
      have hmm := HE.out.mult _ (getD_tri ht)
      simp only at hen hmm
      obtain ⟨x, rfl⟩ := Int.eq_ofNat_of_zero_le hen.1
      obtain ⟨y, rfl⟩ := Int.eq_ofNat_of_zero_le (show 0 ≤ b by omega)
      have hBd : Bd 100000000000 (moveE zs (es.take k) ds) := Bd.mono (moveE_bd HDL.out (ends_take HE.out.ends k) (fun t ht => HE.out.mult t (List.mem_of_mem_take ht)) HZB.out HDB.out) (by rw [List.length_take]; omega)
      have HW : Hid (Below wr.heap.size wr (wr.alloc (.cells #[.int .i64 x, .int .i64 y, .int .i64 m] 76))) := below_alloc wr _
      have HJ := Lib.hid (along_any x y m (w.heap.size + 1) w1.heap.size w.heap.size gb cap n (.slice A3 zs.length c3) zs (moveE zs (es.take k) ds) _ (hsb.out.bel HW.out) (hob.out.bel HW.out) ((HS.out.below hbel.out).below HW.out) (ho.out.below HW.out)
        (by have := HZL.out; omega) (by have := HZL.out; omega) (by rw [moveE_len, HDL.out, HZL.out]) hmm HZB.out hBd)
      have HT : Hid (moveT zs (moveE zs (es.take k) ds) (x, y, m) = moveE zs (es.take (k + 1)) ds) := by show _ = _; rw [take_tri ht, moveE_snoc]
      have hne1 : w.heap.size + 1 ≠ gb := by omega
      have hne2 : w1.heap.size ≠ gb := by omega
      clear q1 q2 q3 HC ht hen hmm hBd
      go_wp2_with fail
      refine HJ.out.mono ?_
      rintro e w' ⟨⟨v, rfl⟩, hj, hgr⟩
      rw [HT.out] at hj
      have HJ2 := Lib.hid hj
      have HGR := Lib.hid hgr
      clear hgr hj
      go_wp2
      go_roundw
      case rel => exact ⟨k + 1, by omega, by go_num, HJ2.out, (hsb.out.bel HW.out).grown HGR.out (by simp; omega), (hob.out.bel HW.out).grown HGR.out (by simp; omega), (hbel.out.trans (HW.out.mono hbel.out.size)).grown HGR.out (by have := hbel.out.size; simp; omega) (fun j hj => by simp at hj; omega)⟩
      case measure => simp [intOf]; omega
    · have hke : es.take k = es := List.take_of_length_le (by omega)
      rw [hke] at ho
      have cc : wr.cell? ⟨w1.heap.size, 0, none⟩ = some (.slice (some ⟨gb, 0, none⟩) n cap) := hob.out.cell 0
      clear hke
      go_wp2
      go_ret
      exact ⟨_, rfl, ho.out, hbel.out⟩
end Go.Proofs.YtefggpdobjboeaaGreat

namespace Go.Proofs.YtefggpdobjboeaaGreat
open Go.RowKit Go.Shelf

def Pair (w : World) (l : List Int × Int) (e : Ending) (w' : World) : Prop := ∃ v, e = .returned (.tuple #[v, .int .i64 l.2]) ∧ OI w' w.heap.size v l.1 ∧ Below w.heap.size w w'
def applyL (n : Int) (es : List Tri) (ds zs : List Int) : List Int × Int :=
  if fGiven n es ds ≠ 0 then ([], fGiven n es ds) else if fGiven n es zs ≠ 0 then ([], fGiven n es zs) else bndL (moveE zs es ds)
theorem checkE_ok {zs : List Int} {n : Int} (h : checkE zs n = 0) : 1 ≤ n ∧ n ≤ 12 ∧ (zs.length : Int) = n ∧ zs.all InB = true := by
  unfold checkE at h
  by_cases a : n < 1 ∨ 12 < n
  · rw [if_pos a] at h; cases h
  · rw [if_neg a] at h
    by_cases b : (zs.length : Int) ≠ n
    · rw [if_pos b] at h; cases h
    · rw [if_neg b] at h
      cases c : zs.all InB
      · simp [c] at h
      · exact ⟨by omega, by omega, by omega, rfl⟩
theorem inB_bd {zs : List Int} (h : zs.all InB = true) : Bd 1048576 zs := fun j => by
  rcases Nat.lt_or_ge j zs.length with c | c
  · rw [List.getD_eq_getElem?_getD, List.getElem?_eq_getElem c]
    exact (inB_iff _).1 (List.all_eq_true.1 h _ (List.getElem_mem c))
  · rw [List.getD_eq_getElem?_getD, List.getElem?_eq_none c]; simp
theorem fGiven_ok {n : Int} {es : List Tri} {zs : List Int} (h : fGiven n es zs = 0) : ∃ m : Nat, n = m ∧ 1 ≤ m ∧ m ≤ 12 ∧ Edges m es ∧ zs.length = m ∧ zs.all InB = true := by
  unfold fGiven at h
  by_cases a : gcheckE n es = 0
  · simp only [a, ne_eq, not_true_eq_false, if_false] at h
    obtain ⟨m, rfl, h1, h2, h3⟩ := gcheckE_zero a
    obtain ⟨_, _, h4, h5⟩ := checkE_ok h
    exact ⟨m, rfl, h1, h2, h3, by omega, h5⟩
  · simp [a] at h
set_option maxHeartbeats 2000000 in
theorem Apply_any (g d s : Value) (n : Int) (es : List Tri) (ds zs : List Int) (w : World) (hg : GV w g n es) (hd : RI w d ds) (hs : RI w s zs) :
    Calls Tryz.prog 27 #[g, d, s] w (Pair w (applyL n es ds zs)) := by
  have HG := Lib.hid hg
  have HD := Lib.hid hd
  have HS := Lib.hid hs
  obtain ⟨A, c, rfl, hlc, hc, -⟩ := hg.open_
  obtain ⟨A2, c2, rfl, -, -, -⟩ := hd.open_
  obtain ⟨A3, c3, rfl, -, -, -⟩ := hs.open_
  have HB0 := Lib.hid (below_alloc w (.cells #[.int .i64 n, .slice A es.length c] 24))
  have HBL := Lib.hid (BL.new' w #[.int .i64 n, .slice A es.length c] 24)
  clear hg hd hs
  by_cases h0 : fGiven n es ds = 0
  · have H0 := Lib.hid h0
    go_enter Tryz.func27, Tryz.ntmps27
    clear h0
    go_wp2_with fail
    refine (fGiven_any _ _ n es ds _ (HG.out.below HB0.out) (HD.out.below HB0.out)).mono ?_
    rw [H0.out]
    rintro e w1 ⟨rfl, hb1⟩
    have HB1 := Lib.hid (HB0.out.trans (hb1.mono (by simp)))
    have HBL1 := Lib.hid (HBL.out.bel hb1)
    have c0 : w1.cell? ⟨w.heap.size, 0, none⟩ = some (.int .i64 n) := HBL1.out.cell 0
    have c1 : w1.cell? ⟨w.heap.size, 1, none⟩ = some (.slice A es.length c) := HBL1.out.cell 1
    clear hb1
    by_cases h1 : fGiven n es zs = 0
    · have H1 := Lib.hid h1
      clear h1
      go_wp2_with fail
      refine (fCheck_any _ _ n es zs _ (HG.out.below HB1.out) (HS.out.below HB1.out)).mono ?_
      rw [H1.out]
      rintro e w2 ⟨rfl, hb2⟩
      have HB2 := Lib.hid (HB1.out.trans (hb2.mono HB1.out.size))
      have HBL2 := Lib.hid (HBL1.out.bel hb2)
      have e0 : w2.cell? ⟨w.heap.size, 0, none⟩ = some (.int .i64 n) := HBL2.out.cell 0
      have e1 : w2.cell? ⟨w.heap.size, 1, none⟩ = some (.slice A es.length c) := HBL2.out.cell 1
      clear hb2 c0 c1
      obtain ⟨m, hm, hm1, hm2, hed, hl1, ha1⟩ := fGiven_ok H0.out
      obtain ⟨m', hm', -, -, -, hl2, ha2⟩ := fGiven_ok H1.out
      have hmm : m' = m := by omega
      have HM := Lib.hid (moved_any _ _ _ m es ds zs _ (hm ▸ HG.out.below HB2.out) (HD.out.below HB2.out) (HS.out.below HB2.out) hm2 hm1 hed hl1 (hmm ▸ hl2) (inB_bd ha1) (inB_bd ha2))
      rw [← hm] at HM
      clear hm hm' hed hl1 ha1 hl2 ha2 hmm
      go_wp2_with fail
      refine HM.out.mono ?_
      rintro e w3 ⟨v, rfl, ho, hb3⟩
      have HB3 := Lib.hid (HB2.out.trans (hb3.mono HB2.out.size))
      have HO3 := Lib.hid (OV.mono ho HB2.out.size : OI w3 w.heap.size v _)
      clear ho hb3 e0 e1
      go_wp2_with fail
      refine (bounded_any _ _ _ w.heap.size HO3.out).mono ?_
      rintro e w4 ⟨u, rfl, ho4, rfl⟩
      have HO4 := Lib.hid ho4
      clear ho4
      go_wp2
      go_ret2
      refine ⟨u, ?_, ?_, HB3.out⟩
      · simp only [applyL, H0.out, H1.out, ne_eq, not_true_eq_false, if_false]; rfl
      · simp only [applyL, H0.out, H1.out, ne_eq, not_true_eq_false, if_false]; exact HO4.out
    · have hne : (fGiven n es zs != 0) = true := by simp [h1]
      have H1 := Lib.hid h1
      clear h1
      go_wp2_with fail
      refine (fCheck_any _ _ n es zs _ (HG.out.below HB1.out) (HS.out.below HB1.out)).mono ?_
      rintro e w2 ⟨rfl, hb2⟩
      have HB2 := Lib.hid (HB1.out.trans (hb2.mono HB1.out.size))
      clear hb2
      go_wp2
      go_ret2
      refine ⟨.slice none 0 0, ?_, ?_, HB2.out⟩
      · simp [applyL, H0.out, H1.out]
      · simp only [applyL, H0.out, H1.out, ne_eq, not_true_eq_false, not_false_eq_true, if_false, if_true]; exact OI.nil_ _ _
  · have hne : (fGiven n es ds != 0) = true := by simp [h0]
    have H0 := Lib.hid h0
    clear h0
    go_enter Tryz.func27, Tryz.ntmps27
    go_wp2_with fail
    refine (fGiven_any _ _ n es ds _ (HG.out.below HB0.out) (HD.out.below HB0.out)).mono ?_
    rintro e w1 ⟨rfl, hb1⟩
    have HB1 := Lib.hid (HB0.out.trans (hb1.mono (by simp)))
    clear hb1
    go_wp2
    go_ret2
    refine ⟨.slice none 0 0, ?_, ?_, HB1.out⟩
    · simp [applyL, H0.out]
    · simp only [applyL, H0.out, ne_eq, not_false_eq_true, if_true]; exact OI.nil_ _ _
end Go.Proofs.YtefggpdobjboeaaGreat

namespace Go.Proofs.YtefggpdobjboeaaGreat
open Go.RowKit Go.Shelf

theorem wpListIn_appendV {F : Fence} {n : Nat} {P : Program} (w : World) {ops : Array Oper} {rest : List Oper} {o : Oper} {a : Act} {Q : Exit → Act → World → Prop} (hgd : o.guard = none) (s x : Operand) (t : TypeId)
    (ho : o.op = .call { callee := .builtin .append, args := #[s, x], argTypes := #[t, t] })
    (e : TypeId) (i : TypeInfo) (z : Value) (bytes : Nat) (ht : P.underlying t = some (.slice e)) (hi : P.info? e = some i) (hz : i.zero = some z)
    (hsize : i.size = 1) (hby : i.bytes = bytes) (hzs : z.cells.size = 1) (B : Nat) (v : Value) (us : List Value) (hs : a.eval s = v) (hown : OV w B e v us)
    (vx : Value) (news : List Value) (hx : a.eval x = vx) (hr : RV w vx news)
    (h1 : ∀ u ∈ news, u.oneCell' = true) (hb1 : us.length + news.length ≤ 17592186044415) (hb2 : (us.length + news.length) * bytes ≤ 140737488355328) (hB : B ≤ w.heap.size)
    (h : ∀ v' w', OV w' B e v' (us ++ news) → w.grownBy w' v.ownBlock → (v'.ownBlock = v.ownBlock ∨ v'.ownBlock = some w.heap.size) → wpListIn F n P ops Q rest (a.put o.dst v') w') : wpListIn F n P ops Q (o :: rest) a w := by
  refine wpListIn_plain hgd fun K hK' => ?_
  obtain ⟨v', w', hrun, h2, h3, h4⟩ := run_appendV (P := P) w t o.type e i z bytes ht hi hz hsize hby hzs B v us hown vx news hr h1 hb1 hb2 hB
  unfold Oper.wpIn
  refine ⟨?_, ?_⟩
  · simp [Oper.about, ho, resolve, Target.leads, Sem.run_pure]
  · rw [Oper.semAt_plain F _ _ (by rw [ho]; intro c hc'; cases hc')]
    simp [execOp, ho, resolve, invoke, builtin, hs, hx, hrun, Result.andThen]
    exact hK' _ _ (h v' w' h2 h3 h4)
theorem OV.shape {w : World} {B : Nat} {e : TypeId} {v : Value} {us : List Value} (h : OV w B e v us) (hl : 1 ≤ us.length) : ∃ g cap, v = .slice (some ⟨g, 0, none⟩) us.length cap ∧ B ≤ g ∧ g < w.heap.size := by
  rcases h.1.2 with ⟨_, hn⟩ | ⟨g, cap, cur, rfl, hg, hh, _⟩
  · omega
  · exact ⟨g, cap, rfl, hg, lt_of_block hh⟩

/-- The contract of an iterator: whatever is said of the items that have come abides its own steps R; a round that goes on keeps Kp. -/
def IterC {α : Type} (P : Program) (gf : FuncId) (lb : Array Value) (encs : α → Array Value) (It : List α → α → World → Prop) (R Kp : World → World → Prop) (S Sp : List α → Prop) (Pre : World → Prop) : Prop :=
  ∀ (n l : Nat) (J Jx : List α → World → Prop) (W : World), Pre W → (∀ pre A B, J pre A → R A B → J pre B) → (∀ pre A B, Jx pre A → R A B → Jx pre B) →
    (∀ pre x W1, J pre W1 → It pre x W1 → YieldAt Fence.wide (n - 1) P l (encs x) W1 fun e W' =>
      (e = .returned (.bool true) ∧ J (pre ++ [x]) W' ∧ Kp W1 W') ∨ (e = .returned (.bool false) ∧ Jx (pre ++ [x]) W')) →
    J [] W →
    CallsIn Fence.wide n P gf (#[.func (.yield l) #[] #[]] ++ lb) W fun e W' => (∃ v, e = .returned v) ∧ ((∃ xs, S xs ∧ J xs W') ∨ (∃ pre, Sp pre ∧ Jx pre W'))

/-- The two blocks of the statement itself are as they were. -/
def KeepLD (h : Nat) (W W' : World) : Prop := W'.heap[h]? = W.heap[h]? ∧ W'.heap[h + 1]? = W.heap[h + 1]?

def iterPost {α : Type} (h : Nat) (Kp : World → World → Prop) (I : List α → World → Prop) (Ix : Code → List α → World → Prop) (xs : List α) (W : World) : Exit → Act → World → Prop
  | .normal, _, W' => KeepLD h W W' ∧ Kp W W' ∧ I xs W'
  | .ret, _, W' => KeepLD h W W' ∧ Ix .ret xs W'
  | .exit id, _, W' => KeepLD h W W' ∧ Ix (.exit id) xs W'
  | .goto t, _, W' => KeepLD h W W' ∧ Ix (.goto t) xs W'
  | .panic _, _, _ => False
  | .outgrown, _, _ => False

variable {P : Program}
theorem wpIn_rangeFunc_iter {α : Type} {g : Operand} {ps : Array Tmp} {assign body : Code} {Q : Exit → Act → World → Prop} {a : Act} {w : World} {n : Nat}
    {gf : Nat} {lb : Array Value} (hg : a.eval g = .func (.func gf) #[] lb) (eg : ∀ args w, (callFunc gf args).run P w = .ok (.enter gf args) w)
    {encs : α → Array Value} {It : List α → α → World → Prop} {R Kp : World → World → Prop} {S Sp : List α → Prop} {Pre : World → Prop}
    (hseq : IterC P gf lb encs It R Kp S Sp Pre) (hps : ∀ x, (encs x).size = ps.size)
    (hR : ∀ A B, R A B → A.heap.size ≥ w.heap.size + 2 → KeepLD w.heap.size A B)
    (hKt : ∀ A B C, Kp A B → Kp B C → Kp A C) (hKp : ∀ (W : World) (r : Loop) (o : Obj), W.heap[w.heap.size + 1]? = some (.loop r) → Kp W (W.putObj (w.heap.size + 1) o))
    (hIt : ∀ pre x (W : World) (r : Loop) (o : Obj), It pre x W → W.heap[w.heap.size + 1]? = some (.loop r) → It pre x (W.putObj (w.heap.size + 1) o))
    (I : List α → World → Prop) (Ix : Code → List α → World → Prop)
    (hI : ∀ pre (W : World) (r : Loop) (o : Obj), I pre W → W.heap[w.heap.size + 1]? = some (.loop r) → I pre (W.putObj (w.heap.size + 1) o))
    (hIx : ∀ c pre (W : World) (r : Loop) (o : Obj), Ix c pre W → W.heap[w.heap.size + 1]? = some (.loop r) → Ix c pre (W.putObj (w.heap.size + 1) o))
    (hIR : ∀ pre A B, I pre A → R A B → I pre B) (hIxR : ∀ c pre A B, Ix c pre A → R A B → Ix c pre B)
    (hpre : ∀ r, Pre ((w.alloc (.deferred (some []))).alloc (.loop r))) (h0 : ∀ r, I [] ((w.alloc (.deferred (some []))).alloc (.loop r))) (a₁ : α → Act)
    (hassign : ∀ (l : Nat) (x : α) (W : World) (K : Act → World → Prop), K (a₁ x) W →
      assign.wpIn (Fence.wide.inRound l) (n - 1 - 1) P (Exit.then K (fun _ _ _ => False)) { tmps := (ps.zip (encs x)).foldl (fun t (p, v) => t.setIfInBounds p v) a.tmps, defers := [] } W)
    (hbody : ∀ (l : Nat) (pre : List α) (x : α) (W : World) (r : Loop), I pre W → It pre x W → W.heap[w.heap.size + 1]? = some (.loop r) → W.heap[w.heap.size]? = some (.deferred (some [])) →
      body.wpIn (Fence.wide.inRound l) (n - 1 - 1) P (iterPost w.heap.size Kp I Ix (pre ++ [x]) W) (a₁ x) W)
    (hdone : ∀ (xs : List α) (W : World), S xs → I xs W → W.heap[w.heap.size]? = some (.deferred (some [])) → Q .normal { a with defers := { target := .collected w.heap.size, args := #[] } :: a.defers } W)
    (hstop : ∀ (c : Code) (pre : List α) (W : World), Sp pre → Ix c pre W → W.heap[w.heap.size]? = some (.deferred (some [])) → c.wpIn Fence.wide n P Q { a with defers := { target := .collected w.heap.size, args := #[] } :: a.defers } W) :
    (Code.rangeFunc g ps assign body).wpIn Fence.wide n P Q a w := by
  refine wpIn_rangeFunc ?_
  intro fn _
  obtain ⟨rec, hrec⟩ : ∃ rec : LoopState → Option Code → Loop, rec = fun st pe => { state := st, pending := pe, fn, tmps := a.tmps, params := ps, assign, body, defers := w.heap.size } := ⟨_, rfl⟩
  obtain ⟨W1, hW1⟩ : ∃ W1, (w.alloc (.deferred (some []))).alloc (.loop (rec .ready none)) = W1 := ⟨_, rfl⟩
  have hL1 : W1.heap[w.heap.size + 1]? = some (.loop (rec .ready none)) := by
    rw [← hW1]; have := World.alloc_heap_new (w.alloc (.deferred (some []))) (.loop (rec .ready none)); rwa [World.size_alloc] at this
  have hK1 : W1.heap[w.heap.size]? = some (.deferred (some [])) := by
    rw [← hW1]; exact (Below.heap_alloc _ _ _ (by simp)).trans (World.alloc_heap_new w _)
  refine ⟨w.heap.size + 1, [{ target := .collected w.heap.size, args := #[] }], W1, { target := .fn (.func gf) lb, args := #[.func (.yield (w.heap.size + 1)) #[] #[]] }, W1, gf,
    #[.func (.yield (w.heap.size + 1)) #[] #[]] ++ lb, W1, ?_, ?_, ?_, ?_, ?_, ?_⟩
  · rw [← hW1, hrec]; exact run_enterLoop_outer _ _ _ _ _
  · simp only [resolve, hg]
    simp [go_sem]
  · intro f' _; trivial
  · simp [invoke, go_sem, eg]
  · intro h; simp [Fence.wide] at h
  · refine (hseq (n - 1) (w.heap.size + 1)
      (fun pre W => I pre W ∧ W.heap[w.heap.size + 1]? = some (.loop (rec .ready none)) ∧ W.heap[w.heap.size]? = some (.deferred (some [])))
      (fun pre W => ∃ c, Ix c pre W ∧ W.heap[w.heap.size + 1]? = some (.loop (rec .done (some c))) ∧ W.heap[w.heap.size]? = some (.deferred (some [])))
      W1 (hW1 ▸ hpre _) ?_ ?_ ?_ ⟨hW1 ▸ h0 _, hL1, hK1⟩).mono ?_
    · rintro pre A B ⟨hi, hl, hk⟩ hr
      have := hR A B hr (by have := (Array.getElem?_eq_some_iff.1 hl).1; omega)
      exact ⟨hIR _ _ _ hi hr, this.2.trans hl, this.1.trans hk⟩
    · rintro pre A B ⟨c, hi, hl, hk⟩ hr
      have := hR A B hr (by have := (Array.getElem?_eq_some_iff.1 hl).1; omega)
      exact ⟨c, hIxR _ _ _ _ hi hr, this.2.trans hl, this.1.trans hk⟩
    · rintro pre x W ⟨hi, hl, hk⟩ hit
      have hlt : w.heap.size + 1 < W.heap.size := (Array.getElem?_eq_some_iff.1 hl).1
      have hy := run_yield (P := P) (args := encs x) hl (by rw [hrec]; exact hps x)
      rw [hrec] at hy
      refine ⟨fn, _, assign, body, hy, roundIn_of_wpIn trivial (hassign _ x W _ ⟨_, run_beginRound hl (by rw [hrec]), ?_⟩)⟩
      have hl2 : (W.putObj (w.heap.size + 1) (.loop { rec .ready none with state := .busy })).heap[w.heap.size + 1]? = some (.loop { rec .ready none with state := .busy }) := World.putObj_heap_same hlt
      have hk2 : (W.putObj (w.heap.size + 1) (.loop { rec .ready none with state := .busy })).heap[w.heap.size]? = some (.deferred (some [])) := (World.putObj_heap_other (by omega)).trans hk
      have hw2 : Kp W (W.putObj (w.heap.size + 1) (.loop { rec .ready none with state := .busy })) := hKp _ _ _ hl
      refine wpIn_mono (hbody _ pre x _ _ (hI _ _ _ _ hi hl) (hIt _ _ _ _ _ hit hl) hl2 hk2) ?_
      have fin : ∀ (jump : Option Code) (W3 : World), KeepLD w.heap.size (W.putObj (w.heap.size + 1) (.loop { rec .ready none with state := .busy })) W3 →
          (Instr.endRound (w.heap.size + 1) jump).run P W3 = .ok (.bool jump.isNone) (W3.putObj (w.heap.size + 1) (.loop (rec (if jump.isNone then .ready else .done) jump))) ∧
          W3.heap[w.heap.size + 1]? = some (.loop { rec .ready none with state := .busy }) ∧
          (W3.putObj (w.heap.size + 1) (.loop (rec (if jump.isNone then .ready else .done) jump))).heap[w.heap.size + 1]? = some (.loop (rec (if jump.isNone then .ready else .done) jump)) ∧
          (W3.putObj (w.heap.size + 1) (.loop (rec (if jump.isNone then .ready else .done) jump))).heap[w.heap.size]? = some (.deferred (some [])) := fun jump W3 hk3 => by
        have hl3 := hk3.2.trans hl2
        have := run_endRound (P := P) jump hl3
        rw [hrec] at this ⊢
        exact ⟨this, by rw [hrec] at hl3; exact hl3, World.putObj_heap_same (Array.getElem?_eq_some_iff.1 hl3).1, (World.putObj_heap_other (by omega)).trans (hk3.1.trans hk2)⟩
      rintro e a3 W3 hp
      cases e with
      | normal =>
        obtain ⟨hk3, hkp3, hi3⟩ := hp
        obtain ⟨hr, hl3, hl4, hk4⟩ := fin none W3 hk3
        exact ⟨_, _, hr, .inl ⟨rfl, ⟨hI _ _ _ _ hi3 hl3, hl4, hk4⟩, hKt _ _ _ (hKt _ _ _ hw2 hkp3) (hKp _ _ _ hl3)⟩⟩
      | ret =>
        obtain ⟨hk3, hi3⟩ := hp
        obtain ⟨hr, hl3, hl4, hk4⟩ := fin (some .ret) W3 hk3
        exact ⟨_, _, hr, .inr ⟨rfl, .ret, hIx _ _ _ _ _ hi3 hl3, hl4, hk4⟩⟩
      | exit id =>
        obtain ⟨hk3, hi3⟩ := hp
        obtain ⟨hr, hl3, hl4, hk4⟩ := fin (some (.exit id)) W3 hk3
        exact ⟨_, _, hr, .inr ⟨rfl, .exit id, hIx _ _ _ _ _ hi3 hl3, hl4, hk4⟩⟩
      | goto t =>
        obtain ⟨hk3, hi3⟩ := hp
        obtain ⟨hr, hl3, hl4, hk4⟩ := fin (some (.goto t)) W3 hk3
        exact ⟨_, _, hr, .inr ⟨rfl, .goto t, hIx _ _ _ _ _ hi3 hl3, hl4, hk4⟩⟩
      | panic ch => exact hp.elim
      | outgrown => exact hp.elim
    · rintro e W2 ⟨⟨v, rfl⟩, (⟨xs, hS, hi, hl, hk⟩ | ⟨pre, hSp, c, hi, hl, hk⟩)⟩
      · exact ⟨none, _, by have := run_endLoop (P := P) hl (by rw [hrec]; simp); rw [hrec] at this; exact this, hdone xs _ hS (hI _ _ _ _ hi hl) ((World.putObj_heap_other (by omega)).trans hk)⟩
      · exact ⟨some c, _, by have := run_endLoop (P := P) hl (by rw [hrec]; simp); rw [hrec] at this; exact this, hstop c pre _ hSp (hIx _ _ _ _ _ hi hl) ((World.putObj_heap_other (by omega)).trans hk)⟩
end Go.Proofs.YtefggpdobjboeaaGreat
