/- Contracts of packages stabilize and burning on right configurations: rooted, Check, check.
   A fire's wood in memory; contracts of burning's flames and catches.
   Contract of burning's kindled.
   A range over a function whose iterator says what it leaves in its own memory. -/
import Derived.Test.YtefggpdobjboeaaGreatG15
namespace Go.Proofs.YtefggpdobjboeaaGreat
open Go.RowKit Go.Shelf

set_option maxHeartbeats 2000000 in
theorem rooted_ok (g : Value) (n q : Nat) (es : List Tri) (w : World) (hg : GV w g n es) (hr : Rt n es) (hq : q < n) :
    Calls Tryz.prog 158 #[g, .int .i64 (q : Int)] w fun e w' => e = .returned (.int .i64 0) ∧ Below w.heap.size w w' := by
  obtain ⟨A, c, rfl, -, -, -⟩ := hg.open_
  have HB0 := Lib.hid (below_alloc w (.cells #[.int .i64 (n : Int), .slice A es.length c] 24))
  have HBL := Lib.hid (BL.new' w #[.int .i64 (n : Int), .slice A es.length c] 24)
  have hC := Connected_any _ n es _ (hg.below HB0.out)
  have hcl : connL n es = true := by unfold connL; rw [hr.gc, hr.cb]; rfl
  rw [hcl, hr.gc] at hC
  have HC := Lib.hid hC
  have h6 := hr.n6
  clear hC hcl hg hr
  go_enter Tryz.func158, Tryz.ntmps158
  go_wp2_with fail
  refine HC.out.mono ?_
  rintro e w1 ⟨rfl, hb⟩
  have c0 : w1.cell? ⟨w.heap.size, 0, none⟩ = some (.int .i64 (n : Int)) := (HBL.out.bel hb).cell 0
  have HB := Lib.hid (HB0.out.trans (hb.mono (by simp)))
  clear hb
  go_wp2
  go_ret
  exact ⟨rfl, HB.out⟩
/-- A right configuration. -/
structure Cf (n q : Nat) (cs : List Int) : Prop where
  len : cs.length = n
  lo : ∀ v, v < n → 0 ≤ cs.getD v 0
  hi : ∀ v, v < n → cs.getD v 0 ≤ 1048576
  own : cs.getD q 0 = 0
theorem Cf.check {n q : Nat} {cs : List Int} (h : Cf n q cs) (h1 : 1 ≤ n) (h6 : n ≤ 6) : checkE cs n = 0 := checkE_fine h1 (by omega) h.len fun v hv => ⟨by have := h.lo v hv; omega, h.hi v hv⟩
set_option maxHeartbeats 2000000 in
theorem sCheck_ok (g d : Value) (n q : Nat) (es : List Tri) (cs : List Int) (w : World) (hg : GV w g n es) (hr : Rt n es) (hq : q < n) (hd : RI w d cs) (hc : Cf n q cs) :
    Calls Tryz.prog 201 #[g, .int .i64 (q : Int), d] w fun e w' => e = .returned (.int .i64 0) ∧ Below w.heap.size w w' := by
  obtain ⟨A, c, rfl, -, -, -⟩ := hg.open_
  obtain ⟨A2, c2, rfl, -, hlb, -⟩ := hd.open_
  have HB0 := Lib.hid (below_alloc w (.cells #[.int .i64 (n : Int), .slice A es.length c] 24))
  have HBL := Lib.hid (BL.new' w #[.int .i64 (n : Int), .slice A es.length c] 24)
  have HRo := Lib.hid (rooted_ok _ n q es _ (hg.below HB0.out) hr hq)
  have HD := Lib.hid (hd.below HB0.out)
  have HCf := Lib.hid hc
  have HLen := Lib.hid hc.len
  have HRt := Lib.hid hr
  clear hg hr hd hc
  go_enter Tryz.func201, Tryz.ntmps201
  go_wp2_with fail
  refine HRo.out.mono ?_
  rintro e w1 ⟨rfl, hb⟩
  have c0 : w1.cell? ⟨w.heap.size, 0, none⟩ = some (.int .i64 (n : Int)) := (HBL.out.bel hb).cell 0
  have HB := Lib.hid (HB0.out.trans (hb.mono (by simp)))
  have HD1 := Lib.hid (HD.out.below hb)
  have hCk := check_any _ cs n w1 HD1.out
  rw [HCf.out.check HRt.out.n1 HRt.out.n6] at hCk
  have HCk := Lib.hid hCk
  clear hb hCk
  go_wp2_with fail
  refine HCk.out.mono ?_
  rintro e w2 ⟨rfl, rfl⟩
  go_wp2
  go_loop [26] (fun i => ∃ k : Nat, k ≤ cs.length ∧ i = .int .i64 (k : Int)) (fun i => cs.length - (intOf i).toNat)
  case atStart => exact ⟨0, Nat.zero_le _, rfl⟩
  case round =>
    obtain ⟨k, hk, rfl⟩ := hrel
    obtain ⟨A3, c3, he3, -, -, hcell⟩ := HD1.out.open_
    simp only [Value.slice.injEq, true_and] at he3
    obtain ⟨rfl, rfl⟩ := he3
    by_cases hlt : k < cs.length
    · obtain ⟨ad, z, rfl, hbl, hz, hcl⟩ := hcell k hlt
      have hz0 : 0 ≤ z := by
        have := HCf.out.lo k (by have := HLen.out; omega)
        rwa [List.getD_eq_getElem?_getD, hz.out] at this
      clear hcell hz
      by_cases hkq : k = q
      · subst hkq
        have t1 : ((k : Int) != k) = false := by simp
        go_wp2
        go_round
        case rel => exact ⟨k + 1, by omega, by go_num⟩
        case measure => simp [intOf]; omega
      · have t1 : ((k : Int) != q) = true := by simp; omega
        go_wp2
        go_round
        case rel => exact ⟨k + 1, by omega, by go_num⟩
        case measure => simp [intOf]; omega
    · go_wp2
      go_ret
      exact ⟨rfl, HB.out⟩
set_option maxHeartbeats 2000000 in
theorem bCheck_ok (g d : Value) (n q : Nat) (es : List Tri) (cs : List Int) (w : World) (hg : GV w g n es) (hr : Rt n es) (hq : q < n) (hd : RI w d cs) (hc : Cf n q cs) :
    Calls Tryz.prog 195 #[g, .int .i64 (q : Int), d] w fun e w' => e = .returned (.int .i64 0) ∧ Below w.heap.size w w' := by
  obtain ⟨A, c, rfl, -, -, -⟩ := hg.open_
  obtain ⟨A2, c2, rfl, -, hlb, -⟩ := hd.open_
  have HB0 := Lib.hid (below_alloc w (.cells #[.int .i64 (n : Int), .slice A es.length c] 24))
  have HS := Lib.hid (sCheck_ok _ _ n q es cs _ (hg.below HB0.out) hr hq (hd.below HB0.out) hc)
  have HD := Lib.hid (hd.below HB0.out)
  have HCf := Lib.hid hc
  have hql : q < cs.length := by have := hc.len; omega
  clear hg hr hd hc
  go_enter Tryz.func195, Tryz.ntmps195
  go_wp2_with fail
  refine HS.out.mono ?_
  rintro e w1 ⟨rfl, hb⟩
  have HB := Lib.hid (HB0.out.trans (hb.mono (by simp)))
  obtain ⟨A3, c3, he3, -, -, hcell⟩ := (HD.out.below hb).open_
  simp only [Value.slice.injEq, true_and] at he3
  obtain ⟨rfl, rfl⟩ := he3
  obtain ⟨ad, z, rfl, hbl, hz, hcl⟩ := hcell q hql
  obtain rfl : z = 0 := by
    have := HCf.out.own
    rwa [List.getD_eq_getElem?_getD, hz.out] at this
  clear hb hcell hz
  go_wp2
  go_ret
  exact ⟨rfl, HB.out⟩
end Go.Proofs.YtefggpdobjboeaaGreat

namespace Go.Proofs.YtefggpdobjboeaaGreat
open Go.RowKit Go.Shelf

def WU (n : Int) (tl : List Int) (ch : Value) (bl : List Bool) : List Value := .int .i64 n :: ((tl.map fun z => Value.int .i64 z) ++ (ch :: bl.map Value.bool))
/-- The wood at block b. -/
def WD (w : World) (b : Nat) (n : Int) (tl : List Int) (ch : Value) (bl : List Bool) : Prop := BL w b 242 (WU n tl ch bl) ∧ tl.length = 144 ∧ bl.length = 12
theorem WD.n {w : World} {b : Nat} {n : Int} {tl : List Int} {ch : Value} {bl : List Bool} (h : WD w b n tl ch bl) : w.cell? ⟨b, 0, none⟩ = some (.int .i64 n) := h.1.cell 0
theorem WD.time {w : World} {b : Nat} {n : Int} {tl : List Int} {ch : Value} {bl : List Bool} (h : WD w b n tl ch bl) {i : Nat} (hi : i < 144) : w.cell? ⟨b, 1 + i, none⟩ = some (.int .i64 (tl.getD i 0)) := by
  rw [h.1.cell (1 + i), Nat.add_comm 1 i]
  unfold WU
  rw [List.getElem?_cons_succ, List.getElem?_append_left (by simp [h.2.1]; exact hi), List.getElem?_map, List.getD_eq_getElem?_getD, List.getElem?_eq_getElem (by rw [h.2.1]; exact hi)]
  rfl
theorem WD.chips {w : World} {b : Nat} {n : Int} {tl : List Int} {ch : Value} {bl : List Bool} (h : WD w b n tl ch bl) : w.cell? ⟨b, 145, none⟩ = some ch := by
  rw [h.1.cell 145]
  unfold WU
  rw [List.getElem?_cons_succ, List.getElem?_append_right (by simp [h.2.1])]
  simp [h.2.1]
theorem WD.burnt {w : World} {b : Nat} {n : Int} {tl : List Int} {ch : Value} {bl : List Bool} (h : WD w b n tl ch bl) {j : Nat} (hj : j < 12) : w.cell? ⟨b, 146 + j, none⟩ = some (.bool (fnB bl j)) := by
  rw [h.1.cell (146 + j)]
  unfold WU fnB
  rw [show 146 + j = (145 + j) + 1 by omega, List.getElem?_cons_succ, List.getElem?_append_right (by simp [h.2.1]; omega)]
  simp only [List.length_map, h.2.1]
  rw [show 145 + j - 144 = j + 1 by omega, List.getElem?_cons_succ, List.getElem?_map, List.getD_eq_getElem?_getD, List.getElem?_eq_getElem (by rw [h.2.2]; exact hj)]
  rfl
theorem WD.setT {w : World} {b : Nat} {n : Int} {tl : List Int} {ch : Value} {bl : List Bool} (h : WD w b n tl ch bl) {i : Nat} (hi : i < 144) (x : Int) : WD (w.setCell ⟨b, 1 + i, none⟩ (.int .i64 x)) b n (tl.set i x) ch bl := by
  refine ⟨?_, by simpa using h.2.1, h.2.2⟩
  have := h.1.set (1 + i) (.int .i64 x)
  rw [show (WU n tl ch bl).set (1 + i) (.int .i64 x) = WU n (tl.set i x) ch bl by
    unfold WU
    rw [Nat.add_comm, List.set_cons_succ, List.set_append_left _ _ (by simp [h.2.1]; exact hi), List.map_set]] at this
  exact this
theorem WD.setB {w : World} {b : Nat} {n : Int} {tl : List Int} {ch : Value} {bl : List Bool} (h : WD w b n tl ch bl) {j : Nat} (hj : j < 12) (x : Bool) : WD (w.setCell ⟨b, 146 + j, none⟩ (.bool x)) b n tl ch (bl.set j x) := by
  refine ⟨?_, h.2.1, by simpa using h.2.2⟩
  have := h.1.set (146 + j) (.bool x)
  rw [show (WU n tl ch bl).set (146 + j) (.bool x) = WU n tl ch (bl.set j x) by
    unfold WU
    rw [show 146 + j = (145 + j) + 1 by omega, List.set_cons_succ, List.set_append_right _ _ (by simp [h.2.1]; omega)]
    simp only [List.length_map, h.2.1]
    rw [show 145 + j - 144 = j + 1 by omega, List.set_cons_succ, List.map_set]] at this
  exact this
theorem WD.bel {w w' : World} {b : Nat} {n : Int} {tl : List Int} {ch : Value} {bl : List Bool} (h : WD w b n tl ch bl) (hb : Below w.heap.size w w') : WD w' b n tl ch bl := ⟨h.1.bel hb, h.2⟩
theorem WD.keep {w w' : World} {b : Nat} {n : Int} {tl : List Int} {ch : Value} {bl : List Bool} (h : WD w b n tl ch bl) (hk : w'.heap[b]? = w.heap[b]?) : WD w' b n tl ch bl := ⟨hk.trans h.1, h.2⟩
theorem WD.drewN {w : World} {b : Nat} {n : Int} {tl : List Int} {ch : Value} {bl : List Bool} (h : WD w b n tl ch bl) (k : Nat) : WD (w.drewN k) b n tl ch bl := h
/-- How often vertices are joined, as a table of 12 rows. -/
def TT (n : Nat) (es : List Tri) (tl : List Int) : Prop := ∀ a b, a < n → b < n → tl.getD (a * 12 + b) 0 = wgt es a b
theorem sumN_le_of {k n : Nat} {f : Nat → Int} (h : ∀ i, i < n → 0 ≤ f i) (hk : k ≤ n) : sumN k f ≤ sumN n f := by
  induction n with
  | zero => have : k = 0 := by omega
            subst this; exact Int.le_refl _
  | succ n ih =>
    by_cases e : k = n + 1
    · subst e; exact Int.le_refl _
    · have := ih (fun i hi => h i (by omega)) (by omega)
      have := h n (by omega)
      simp only [sumN]; omega
/-- How many single edges of v burn from the vertices below k. -/
def flameN (es : List Tri) (bl : List Bool) (v k : Nat) : Int := sumN k fun u => if fnB bl u = true then wgt es v u else 0
theorem flameN_bd {n k v : Nat} {es : List Tri} {bl : List Bool} (hr : Rt n es) (hk : k ≤ n) : 0 ≤ flameN es bl v k ∧ flameN es bl v k ≤ 9 := by
  have hw := wgt_nonneg hr.ed.pos
  have h0 : ∀ i, 0 ≤ (if fnB bl i = true then wgt es v i else 0) := fun i => by split; exact hw v i; exact Int.le_refl _
  have h1 : flameN es bl v k ≤ flameN es bl v n := sumN_le_of (fun i _ => h0 i) hk
  have h2 : flameN es bl v n = joinE es (fnB bl) v := join_edges hr.ed.ends (fnB bl) v
  have h3 := joinE_le hr.ed.pos (fnB bl) v
  have := hr.m9
  refine ⟨sumN_nonneg fun i _ => h0 i, by omega⟩
set_option maxHeartbeats 2000000 in
theorem flames_any (b n v : Nat) (es : List Tri) (tl : List Int) (ch : Value) (bl : List Bool) (w : World) (hr : Rt n es) (hw : WD w b n tl ch bl) (hT : TT n es tl) (hv : v < n) :
    Calls Tryz.prog 204 #[.pointer (some ⟨b, 0, none⟩), .int .i64 (v : Int)] w fun e w' => e = .returned (.int .i64 (flameN es bl v n)) ∧ w = w' := by
  have h6 := hr.n6
  have HR := Lib.hid hr
  have HW := Lib.hid hw
  have HT := Lib.hid hT
  have c0 := hw.n
  clear hr hw hT
  go_enter Tryz.func204, Tryz.ntmps204
  go_wp2
  go_loop [5, 11] (fun s i => ∃ k : Nat, k ≤ n ∧ i = .int .i64 (k : Int) ∧ s = .int .i64 (flameN es bl v k)) (fun _ i => n - (intOf i).toNat)
  case atStart => exact ⟨0, Nat.zero_le _, rfl, rfl⟩
  case round =>
    obtain ⟨k, hk, rfl, rfl⟩ := hrel
    by_cases hlt : k < n
    · have cb := HW.out.burnt (j := k) (by omega)
      have ct := HW.out.time (i := v * 12 + k) (by omega)
      rw [HT.out v k hv hlt] at ct
      obtain ⟨s0, s1⟩ := flameN_bd (bl := bl) (v := v) HR.out hk
      obtain ⟨r0, r1⟩ := flameN_bd (bl := bl) (v := v) (k := k + 1) HR.out (by omega)
      have HS : Hid (flameN es bl v (k + 1) = flameN es bl v k + if fnB bl k = true then wgt es v k else 0) := rfl
      rw [HS.out] at r0 r1
      rw [← Nat.add_assoc] at ct
      generalize wgt es v k = x at *
      generalize flameN es bl v k = y at *
      have hwr : IntKind.i64.wrap (y + x) = y + x ∨ fnB bl k = false := by
        by_cases c : fnB bl k = true
        · rw [if_pos c] at r0 r1; exact .inl (IntWalk.i64_in _ (by omega))
        · exact .inr (by simpa using c)
      cases hb : fnB bl k
      · rw [hb] at cb HS
        have HS' : Hid (flameN es bl v (k + 1) = y) := by show _ = _; rw [HS.out, if_neg (by simp)]; omega
        clear hb hwr r0 r1 HS
        go_wp2
        go_round
        case rel => exact ⟨k + 1, by omega, by go_num, by rw [HS'.out]⟩
        case measure => simp [intOf]; omega
      · rw [hb] at cb HS hwr r0 r1
        rw [if_pos rfl] at r0 r1
        have hw : IntKind.i64.wrap (y + x) = y + x := hwr.resolve_right (by simp)
        have HS' : Hid (flameN es bl v (k + 1) = y + x) := by show _ = _; rw [HS.out, if_pos rfl]
        clear hb hwr HS
        go_wp2
        go_round
        case rel => exact ⟨k + 1, by omega, by go_num, by rw [HS'.out]⟩
        case measure => simp [intOf]; omega
    · obtain rfl : k = n := by omega
      go_wp2
      go_ret
      exact ⟨rfl, rfl⟩
/-- v catches fire. -/
def catchB (n : Nat) (es : List Tri) (cs : List Int) (bl : List Bool) (v : Nat) : Bool := !fnB bl v && decide (cs.getD v 0 < flameN es bl v n)
set_option maxHeartbeats 2000000 in
theorem catches_any (b n v : Nat) (es : List Tri) (tl : List Int) (ch : Value) (cs : List Int) (bl : List Bool) (w : World) (hr : Rt n es) (hw : WD w b n tl ch bl) (hT : TT n es tl) (hv : v < n) (hc : RI w ch cs) (hcl : cs.length = n) :
    Calls Tryz.prog 203 #[.pointer (some ⟨b, 0, none⟩), .int .i64 (v : Int)] w (Quiet w (.bool (catchB n es cs bl v))) := by
  obtain ⟨A, c, rfl, -, -, hcell⟩ := hc.open_
  obtain ⟨ad, z, rfl, hadl, hz, hcc⟩ := hcell v (by omega)
  have h6 := hr.n6
  have c1 := hw.burnt (j := v) (by omega)
  have c2 := hw.chips
  have HF := fun m => flames_any b n v es tl _ bl (w.drewN m) hr (hw.drewN m) hT hv
  have hzv : cs.getD v 0 = z := by rw [List.getD_eq_getElem?_getD, hz.out]; rfl
  have HFm : ∀ m, Calls Tryz.prog 204 #[.pointer (some ⟨b, 0, none⟩), .int .i64 (v : Int)] (w.drewN m) fun e w' => e = .returned (.int .i64 (flameN es bl v n)) ∧ ∃ k, w' = w.drewN k := fun m => (HF m).mono fun _ _ ⟨he, hm⟩ => ⟨he, m, hm.symm⟩
  have HB : Hid (catchB n es cs bl v = (!fnB bl v && decide (z < flameN es bl v n))) := by show _ = _; unfold catchB; rw [hzv]
  generalize flameN es bl v n = fl at *
  clear hr hw hT hc hcell hz HF hzv
  rw [HB.out]
  clear HB
  cases hb : fnB bl v
  · rw [hb] at c1
    clear hb
    go_enter Tryz.func203, Tryz.ntmps203
    go_wp2_with fail
    go_quiet (first | (go_at_call 204; exact HFm _))
    go_wp2
    go_ret
    exact ⟨ret_b (by simp), nq, rfl⟩
  · rw [hb] at c1
    clear hb
    go_enter Tryz.func203, Tryz.ntmps203
    go_wp2_with fail
    go_quiet (fail)
    go_wp2
    go_ret
    exact ⟨ret_b (by simp), nq, rfl⟩
end Go.Proofs.YtefggpdobjboeaaGreat

namespace Go.Proofs.YtefggpdobjboeaaGreat
open Go.RowKit Go.Shelf

theorem wgt_snoc (es : List Tri) (t : Tri) (v u : Nat) : wgt (es ++ [t]) v u = wgt es v u + ew t v u := by
  induction es with
  | nil => simp [wgt]
  | cons x r ih => simp only [List.cons_append, wgt, ih]; omega
theorem wgt_new {n : Nat} {es : List Tri} (hE : Edges n es) {k : Nat} {t : Tri} (ht : es[k]? = some t) (a b : Nat) (hab : (t.1 = a ∧ t.2.1 = b) ∨ (t.1 = b ∧ t.2.1 = a)) : wgt (es.take k) a b = 0 := by
  have hw : 0 ≤ wgt (es.take k) a b := wgt_nonneg (fun s hs => hE.pos s (List.mem_of_mem_take hs)) a b
  apply Classical.byContradiction
  intro hne
  obtain ⟨s, hs, hsn, hh⟩ := wgt_pos_mem (show 0 < wgt (es.take k) a b by omega)
  obtain ⟨i, hi, hsi⟩ := List.getElem_of_mem hs
  simp only [List.length_take] at hi
  rw [List.getElem_take] at hsi
  obtain ⟨hkl, hkt⟩ := List.getElem?_eq_some_iff.1 ht
  have hlt := List.pairwise_iff_getElem.1 hE.ord i k (by omega) hkl (by omega)
  rw [hsi, hkt] at hlt
  have h1 := hE.lo s (List.mem_of_mem_take hs)
  have h2 := hE.lo t (List.mem_of_getElem? ht)
  unfold LexLt at hlt
  omega
theorem tt_skip {n : Nat} {es : List Tri} {k : Nat} {t : Tri} {tl : List Int} (ht : es[k]? = some t) (h : TT n (es.take k) tl) (he : t.1 = t.2.1) : TT n (es.take (k + 1)) tl := by
  intro a b ha hb
  rw [List.take_add_one, ht, Option.toList_some, wgt_snoc, h a b ha hb]
  unfold ew
  rw [if_neg fun hh => hh.1 he]; omega
theorem tt_step {n : Nat} {es : List Tri} (hE : Edges n es) (hn : n ≤ 12) {k x y : Nat} {m : Int} {tl : List Int} (ht : es[k]? = some ((x : Int), (y : Int), m)) (h : TT n (es.take k) tl) (hl : tl.length = 144) (hxy : x ≠ y) (hx : x < n) (hy : y < n) :
    TT n (es.take (k + 1)) ((tl.set (x * 12 + y) m).set (y * 12 + x) m) := by
  intro a b ha hb
  rw [List.take_add_one, ht, Option.toList_some, wgt_snoc]
  rw [getD_set_int _ _ _ _ (by simp [hl]; omega), getD_set_int _ _ _ _ (by rw [hl]; omega)]
  unfold ew
  simp only
  by_cases c1 : y * 12 + x = a * 12 + b
  · rw [if_pos c1, if_pos ⟨by omega, .inr ⟨by omega, by omega⟩⟩, wgt_new hE ht a b (.inr ⟨by simp only; omega, by simp only; omega⟩)]; omega
  · rw [if_neg c1]
    by_cases c2 : x * 12 + y = a * 12 + b
    · rw [if_pos c2, if_pos ⟨by omega, .inl ⟨by omega, by omega⟩⟩, wgt_new hE ht a b (.inl ⟨by simp only; omega, by simp only; omega⟩)]; omega
    · rw [if_neg c2, h a b ha hb, if_neg fun hh => by omega]; omega
theorem RV.two {w : World} {g n cap : Nat} {us : List Value} {p p' : Addr} (h : RV w (.slice (some ⟨g, 0, none⟩) n cap) us) (hp : ∀ g', Value.slice (some ⟨g, 0, none⟩) n cap = .slice (some ⟨g', 0, none⟩) n cap → g' ≠ p.block ∧ g' ≠ p'.block) (x y : Value) : RV ((w.setCell p x).setCell p' y) (.slice (some ⟨g, 0, none⟩) n cap) us := by
  obtain ⟨h1, h2⟩ := hp g rfl
  obtain ⟨A, c, he, h3, h4, h5⟩ := h
  refine ⟨A, c, he, h3, h4, fun k hk => ?_⟩
  obtain ⟨ad, rfl, hb, hc⟩ := h5 k hk
  simp only [Value.slice.injEq, Option.some.injEq] at he
  obtain ⟨rfl, -⟩ := he
  refine ⟨_, rfl, by simpa using hb, ?_⟩
  rw [World.cell?_of_block (w := w) ((heap_setCell_other _ p' _ y (by rw [block_of_add]; exact h2)).trans (heap_setCell_other w p _ x (by rw [block_of_add]; exact h1)))]
  exact hc
theorem RV.keep1 {w : World} {g n cap : Nat} {us : List Value} {p : Addr} (h : RV w (.slice (some ⟨g, 0, none⟩) n cap) us) (hp : g ≠ p.block) (x : Value) : RV (w.setCell p x) (.slice (some ⟨g, 0, none⟩) n cap) us := by
  obtain ⟨A, c, he, h3, h4, h5⟩ := h
  refine ⟨A, c, he, h3, h4, fun k hk => ?_⟩
  obtain ⟨ad, rfl, hb, hc⟩ := h5 k hk
  simp only [Value.slice.injEq, Option.some.injEq] at he
  obtain ⟨rfl, -⟩ := he
  refine ⟨_, rfl, by simpa using hb, ?_⟩
  rw [World.cell?_of_block (w := w) (heap_setCell_other w p _ x (by rw [block_of_add]; exact hp))]
  exact hc
theorem RI.two {w : World} {g n cap : Nat} {zs : List Int} {p p' : Addr} (h : RI w (.slice (some ⟨g, 0, none⟩) n cap) zs) (hp : ∀ g', Value.slice (some ⟨g, 0, none⟩) n cap = .slice (some ⟨g', 0, none⟩) n cap → g' ≠ p.block ∧ g' ≠ p'.block) (x y : Value) : RI ((w.setCell p x).setCell p' y) (.slice (some ⟨g, 0, none⟩) n cap) zs := RV.two h hp x y
theorem tt_zero (n : Nat) (hn : n ≤ 12) : TT n [] (List.replicate 144 0) := by
  intro a b ha hb
  rw [List.getD_eq_getElem?_getD, List.getElem?_replicate, if_pos (by omega)]; rfl
theorem wood_zero : Tryz.zeroCells242.toList = .int .i64 0 :: (List.replicate 144 (Value.int .i64 0) ++ (Value.slice none 0 0 :: List.replicate 12 (Value.bool false))) := by kernel_rfl
theorem wood_new (n : Int) (ch : Value) : ((Tryz.zeroCells242.setIfInBounds 0 (.int .i64 n)).setIfInBounds 145 ch).toList = WU n (List.replicate 144 0) ch (List.replicate 12 false) := by
  rw [Array.toList_setIfInBounds, Array.toList_setIfInBounds, wood_zero]
  unfold WU
  rw [List.set_cons_zero, List.set_cons_succ, List.set_append_right _ _ (by simp)]
  simp only [List.length_replicate, List.map_replicate, Nat.sub_self, List.set_cons_zero]
set_option maxRecDepth 100000 in
set_option maxHeartbeats 4000000 in
theorem kindled_any (g d : Value) (n q : Nat) (es : List Tri) (cs : List Int) (w : World) (hg : GV w g n es) (hr : Rt n es) (hq : q < n) (hd : RI w d cs) (hcl : cs.length = n) :
    Calls Tryz.prog 196 #[g, .int .i64 (q : Int), d] w fun e w' => ∃ b tl gd cap, e = .returned (.pointer (some ⟨b, 0, none⟩)) ∧ w.heap.size ≤ b ∧ gd < b ∧ WD w' b n tl (.slice (some ⟨gd, 0, none⟩) n cap) ((List.replicate 12 false).set q true) ∧ TT n es tl ∧ RI w' (.slice (some ⟨gd, 0, none⟩) n cap) cs ∧ Below w.heap.size w w' := by
  obtain ⟨A, c, rfl, hlc, hc, hcell⟩ := hg.open_
  have HCe := Lib.hid hcell
  obtain ⟨A2, c2, rfl, -, -, -⟩ := hd.open_
  clear hcell
  obtain ⟨W0, hW0⟩ : ∃ W0, W0 = w.alloc (.cells #[.int .i64 (n : Int), .slice A es.length c] 24) := ⟨_, rfl⟩
  have hb0 : Below w.heap.size w W0 := by rw [hW0]; exact below_alloc w _
  have hz0 : W0.heap.size = w.heap.size + 1 := by rw [hW0]; simp
  have hbx : BL W0 w.heap.size 24 [.int .i64 (n : Int), .slice A es.length c] := by rw [hW0]; exact BL.new' w _ _
  have c0 := hbx.cell 0
  have h6 := hr.n6
  have h1 := hr.n1
  have HD0 := Lib.hid (hd.below hb0)
  have HG0 := Lib.hid (hg.below hb0)
  have HX0 := Lib.hid hbx
  have hcA := Lib.hid (clone_shape _ cs W0.drew HD0.out n hcl h1)
  have CA : Hid (∀ w1 : World, Below W0.drew.heap.size W0.drew w1 → w1.cell? ⟨w.heap.size, 0, none⟩ = some (.int .i64 (n : Int))) := fun w1 hb => (hb.cell (p := ⟨w.heap.size, 0, none⟩) (by simp; omega)).trans c0
  have HB0 := Lib.hid hb0
  have HW0 := Lib.hid hW0
  have HCl := Lib.hid hcl
  have HR := Lib.hid hr
  clear hg hd hb0 hW0 hbx hcl hr
  go_enter Tryz.func196, Tryz.ntmps196
  go_wp2_with fail
  rw [← HW0.out]
  go_region_with (go_at_call 29; refine hcA.out.mono ?_; rintro e w1 ⟨gd, cap, rfl, ho, hb⟩; have k0 := CA.out w1 hb.out; have kz : w.heap.size < w1.heap.size := block_lt_of_cell k0)
  all_goals
    obtain ⟨W2, hW2⟩ : ∃ W2, W2 = w1.alloc (.cells ((Tryz.zeroCells242.setIfInBounds 0 (.int .i64 (n : Int))).setIfInBounds 145 (.slice (some ⟨gd, 0, none⟩) n cap)) 242) := ⟨_, rfl⟩
    have hb2 : Below w1.heap.size w1 W2 := by rw [hW2]; exact below_alloc w1 _
    have hbw1 : Below w.heap.size w w1 := (HB0.out.drew).trans (hb.out.mono (by simp; omega))
    have HWD : Hid (WD W2 w1.heap.size n (List.replicate 144 0) (.slice (some ⟨gd, 0, none⟩) n cap) (List.replicate 12 false)) := by
      refine ⟨?_, by simp, by simp⟩
      rw [hW2, ← wood_new]
      exact BL.new' w1 _ _
    have HO2 : Hid (RI W2 (.slice (some ⟨gd, 0, none⟩) n cap) cs) := OV.rv (OV.below ho.out hb2)
    have HBe := Lib.hid (hbw1.trans (hb2.mono hbw1.size))
    have k1 : w1.cell? ⟨w.heap.size, 1, none⟩ = some (.slice A es.length c) := ((hb.out.cell (p := ⟨w.heap.size, 1, none⟩) (by simp; omega)).trans (HX0.out.cell 1))
    have HW2 := Lib.hid hW2
    have hzz := hbw1.size
    clear hW2 hb2 hbw1 k0
    go_wp2_with fail
    rw [← HW2.out]
    clear k1 kz hb
    have HT0 : Hid (TT n (es.take 0) (List.replicate 144 0)) := tt_zero n (by omega)
    go_loopw [19] (fun i wr => ∃ (k : Nat) (tl : List Int), k ≤ es.length ∧ i = .int .i64 (k : Int) ∧ Hid (WD wr w1.heap.size n tl (.slice (some ⟨gd, 0, none⟩) n cap) (List.replicate 12 false)) ∧ Hid (TT n (es.take k) tl) ∧ Hid (RI wr (.slice (some ⟨gd, 0, none⟩) n cap) cs) ∧ Hid (gd < w1.heap.size) ∧ Hid (Below w.heap.size w wr)) (fun i _ => es.length - (intOf i).toNat)
    case atStart => exact ⟨0, _, Nat.zero_le _, rfl, HWD.out, HT0.out, HO2.out, (ho.out.1.lt gd rfl).2, HBe.out⟩
    case round =>
      obtain ⟨k, tl, hk, rfl, hw, ht, ho2, hgd, hbe⟩ := hrel
      have hbl := hw.out.1.lt
      by_cases hlt : k < es.length
      · obtain ⟨ad, a, a2, m, rfl, hab, ht3, e1, e2, e3⟩ := HCe.out k hlt
        have hlo := HR.out.ed.lo _ (List.mem_of_getElem? ht3.out)
        have hmu := HR.out.ed.mult _ (List.mem_of_getElem? ht3.out)
        simp only at hlo hmu
        obtain ⟨x, rfl⟩ := Int.eq_ofNat_of_zero_le hlo.1
        obtain ⟨y, rfl⟩ := Int.eq_ofNat_of_zero_le (show 0 ≤ a2 by omega)
        have f1 := (hbe.out.cell (p := ad.add (k * 3)) (by rw [block_of_add]; exact hab)).trans e1
        have f2 := (hbe.out.cell (p := ⟨(ad.add (k * 3)).block, (ad.add (k * 3)).off + 1, none⟩) (by rw [block_of_add]; exact hab)).trans e2
        have f3 := (hbe.out.cell (p := ⟨(ad.add (k * 3)).block, (ad.add (k * 3)).off + 2, none⟩) (by rw [block_of_add]; exact hab)).trans e3
        clear e1 e2 e3
        by_cases hxy : x = y
        · subst hxy
          have t1 : ((x : Int) != x) = false := by simp
          have HT1 := Lib.hid (tt_skip ht3.out ht.out rfl)
          clear ht3
          go_wp2
          go_roundw
          case rel => exact ⟨k + 1, tl, by omega, by go_num, hw.out.bel (below_alloc _ _), HT1.out, RI.below ho2.out (below_alloc _ _), hgd.out, hbe.out.alloc hbe.out.size _⟩
          case measure => simp [intOf]; omega
        · have t1 : ((x : Int) != y) = true := by simp; omega
          have HT1 := Lib.hid (tt_step HR.out.ed (by omega) ht3.out ht.out hw.out.2.1 hxy (by omega) (by omega))
          obtain ⟨W3, hW3⟩ : ∃ W3, W3 = wr.alloc (.cells #[.int .i64 (x : Int), .int .i64 (y : Int), .int .i64 m] 76) := ⟨_, rfl⟩
          have hb3 : Below wr.heap.size wr W3 := by rw [hW3]; exact below_alloc wr _
          have hbx3 : BL W3 wr.heap.size 76 [.int .i64 (x : Int), .int .i64 (y : Int), .int .i64 m] := by rw [hW3]; exact BL.new' wr _ _
          have hw3 := hw.out.bel hb3
          have hz3 := hb3.size
          have g0 := hbx3.cell 0
          have g1 := hbx3.cell 1
          have g2 := hbx3.cell 2
          have d0 : W3.cell? ⟨wr.heap.size, 0, none⟩ = some (.int .i64 (x : Int)) := g0
          have d1 : W3.cell? ⟨wr.heap.size, 1, none⟩ = some (.int .i64 (y : Int)) := g1
          have d2 : W3.cell? ⟨wr.heap.size, 2, none⟩ = some (.int .i64 m) := g2
          have q1 := hw3.time (i := x * 12 + y) (by omega)
          have p1 : W3.frozen? ⟨w1.heap.size, 1 + (x * 12 + y), none⟩ = false := hw3.1.frozen _
          have hw4 := hw3.setT (i := x * 12 + y) (by omega) m
          have q2 := hw4.time (i := y * 12 + x) (by omega)
          have p2 : (W3.setCell ⟨w1.heap.size, 1 + (x * 12 + y), none⟩ (.int .i64 m)).frozen? ⟨w1.heap.size, 1 + (y * 12 + x), none⟩ = false := hw4.1.frozen _
          have hw5 := hw4.setT (i := y * 12 + x) (by omega) m
          have ho5 : RI ((W3.setCell ⟨w1.heap.size, 1 + (x * 12 + y), none⟩ (.int .i64 m)).setCell ⟨w1.heap.size, 1 + (y * 12 + x), none⟩ (.int .i64 m)) (.slice (some ⟨gd, 0, none⟩) n cap) cs := by
            exact (RI.below ho2.out hb3).two (fun g hg => by cases hg; exact ⟨by simp; have := hgd.out; omega, by simp; have := hgd.out; omega⟩) _ _
          have hbe5 : Below w.heap.size w ((W3.setCell ⟨w1.heap.size, 1 + (x * 12 + y), none⟩ (.int .i64 m)).setCell ⟨w1.heap.size, 1 + (y * 12 + x), none⟩ (.int .i64 m)) :=
            ((hbe.out.trans (hb3.mono hbe.out.size)).setCell (p := ⟨w1.heap.size, 1 + (x * 12 + y), none⟩) (by simp; omega) _).setCell (p := ⟨w1.heap.size, 1 + (y * 12 + x), none⟩) (by simp; omega) _
          rw [← Nat.add_assoc] at q1 p1 q2 p2 hw5 ho5 hbe5
          rw [← Nat.add_assoc] at q2 p2 hw5 ho5 hbe5
          have i1 : (0 : Int) ≤ (x : Int) := by omega
          have i2 : (x : Int) < 12 := by omega
          have i3 : (0 : Int) ≤ (y : Int) := by omega
          have i4 : (y : Int) < 12 := by omega
          have HS0 : Hid (W3.drew.cell? ⟨wr.heap.size, 0, none⟩ = some (.int .i64 (x : Int)) ∧ W3.drew.cell? ⟨wr.heap.size, 1, none⟩ = some (.int .i64 (y : Int)) ∧ W3.drew.cell? ⟨wr.heap.size, 2, none⟩ = some (.int .i64 m)) := ⟨d0, d1, d2⟩
          have hx4 := hbx3.set_other (a := ⟨w1.heap.size, 1 + x * 12 + y, none⟩) (by simp; omega) (.int .i64 m)
          have hx5 := hx4.set_other (a := ⟨w1.heap.size, 1 + y * 12 + x, none⟩) (by simp; omega) (.int .i64 m)
          have HS1 : Hid ((W3.drew.setCell ⟨w1.heap.size, 1 + x * 12 + y, none⟩ (.int .i64 m)).cell? ⟨wr.heap.size, 0, none⟩ = some (.int .i64 (x : Int)) ∧ (W3.drew.setCell ⟨w1.heap.size, 1 + x * 12 + y, none⟩ (.int .i64 m)).cell? ⟨wr.heap.size, 1, none⟩ = some (.int .i64 (y : Int)) ∧ (W3.drew.setCell ⟨w1.heap.size, 1 + x * 12 + y, none⟩ (.int .i64 m)).cell? ⟨wr.heap.size, 2, none⟩ = some (.int .i64 m)) := ⟨hx4.cell 0, hx4.cell 1, hx4.cell 2⟩
          have HS2 : Hid (((W3.drew.setCell ⟨w1.heap.size, 1 + x * 12 + y, none⟩ (.int .i64 m)).setCell ⟨w1.heap.size, 1 + y * 12 + x, none⟩ (.int .i64 m)).cell? ⟨wr.heap.size, 0, none⟩ = some (.int .i64 (x : Int)) ∧ ((W3.drew.setCell ⟨w1.heap.size, 1 + x * 12 + y, none⟩ (.int .i64 m)).setCell ⟨w1.heap.size, 1 + y * 12 + x, none⟩ (.int .i64 m)).cell? ⟨wr.heap.size, 1, none⟩ = some (.int .i64 (y : Int)) ∧ ((W3.drew.setCell ⟨w1.heap.size, 1 + x * 12 + y, none⟩ (.int .i64 m)).setCell ⟨w1.heap.size, 1 + y * 12 + x, none⟩ (.int .i64 m)).cell? ⟨wr.heap.size, 2, none⟩ = some (.int .i64 m)) := ⟨hx5.cell 0, hx5.cell 1, hx5.cell 2⟩
          clear hx4 hx5
          have HW3 := Lib.hid hW3
          have HW5 := Lib.hid hw5
          have HO5 := Lib.hid ho5
          have HBe5 := Lib.hid hbe5
          clear hb3 hbx3 hw3 hw4 hw5 ho5 hbe5 ht3
          rw [hW3] at g0 g1 g2
          clear hW3
          go_wp2_with fail
          rw [← HW3.out]
          go_region_held3 (fun W' : World => W'.cell? ⟨wr.heap.size, 0, none⟩ = some (.int .i64 (x : Int)) ∧ W'.cell? ⟨wr.heap.size, 1, none⟩ = some (.int .i64 (y : Int)) ∧ W'.cell? ⟨wr.heap.size, 2, none⟩ = some (.int .i64 m)) (first | exact HS0.out | exact HS1.out | exact HS2.out) (fail)
          all_goals
            go_wp2
            go_roundw
            case rel => exact ⟨k + 1, _, by omega, by go_num, HW5.out, HT1.out, HO5.out, hgd.out, HBe5.out.drew⟩
            case measure => simp [intOf]; omega
      · obtain rfl : k = es.length := by omega
        have q1 : wr.cell? ⟨w1.heap.size, 146 + q, none⟩ = some (.bool (fnB (List.replicate 12 false) q)) := hw.out.burnt (by omega)
        have p1 : wr.frozen? ⟨w1.heap.size, 146 + q, none⟩ = false := hw.out.1.frozen _
        have hw5 := hw.out.setB (j := q) (by omega) true
        have ho5 : RI ((wr.setCell ⟨w1.heap.size, 146 + q, none⟩ (.bool true))) (.slice (some ⟨gd, 0, none⟩) n cap) cs := RV.keep1 ho2.out (by simp; have := hgd.out; omega) _
        have hbe5 : Below w.heap.size w (wr.setCell ⟨w1.heap.size, 146 + q, none⟩ (.bool true)) := hbe.out.setCell (p := ⟨w1.heap.size, 146 + q, none⟩) (by simp; omega) _
        have HW5 := Lib.hid hw5
        have HO5 := Lib.hid ho5
        have HBe5 := Lib.hid hbe5
        have hTT := ht.out
        rw [List.take_of_length_le (Nat.le_refl _)] at hTT
        have HTT := Lib.hid hTT
        clear hw5 ho5 hbe5 hTT
        go_wp2
        go_ret
        exact ⟨w1.heap.size, tl, gd, cap, rfl, hzz, hgd.out, HW5.out, HTT.out, HO5.out, HBe5.out⟩
end Go.Proofs.YtefggpdobjboeaaGreat

namespace Go.Proofs.YtefggpdobjboeaaGreat
open Go.RowKit Go.Shelf

/-- The contract of an iterator, with a word on the world that it leaves: whatever is said of the items that have come abides its own steps R; a round that goes on keeps Kp. -/
def IterW {α : Type} (P : Program) (gf : FuncId) (lb : Array Value) (encs : α → Array Value) (It : List α → α → World → Prop) (R Kp : World → World → Prop) (S Sp : List α → World → Prop) (Pre : World → Prop) : Prop :=
  ∀ (n l : Nat) (J Jx : List α → World → Prop) (W : World), Pre W → (∀ pre A B, J pre A → R A B → J pre B) → (∀ pre A B, Jx pre A → R A B → Jx pre B) →
    (∀ pre x W1, J pre W1 → It pre x W1 → YieldAt Fence.wide (n - 1) P l (encs x) W1 fun e W' =>
      (e = .returned (.bool true) ∧ J (pre ++ [x]) W' ∧ Kp W1 W') ∨ (e = .returned (.bool false) ∧ Jx (pre ++ [x]) W')) →
    J [] W →
    CallsIn Fence.wide n P gf (#[.func (.yield l) #[] #[]] ++ lb) W fun e W' => (∃ v, e = .returned v) ∧ ((∃ xs, S xs W' ∧ J xs W') ∨ (∃ pre, Sp pre W' ∧ Jx pre W'))

variable {P : Program}
theorem wpIn_rangeFunc_iterW {α : Type} {g : Operand} {ps : Array Tmp} {assign body : Code} {Q : Exit → Act → World → Prop} {a : Act} {w : World} {n : Nat}
    {gf : Nat} {lb : Array Value} (hg : a.eval g = .func (.func gf) #[] lb) (eg : ∀ args w, (callFunc gf args).run P w = .ok (.enter gf args) w)
    {encs : α → Array Value} {It : List α → α → World → Prop} {R Kp : World → World → Prop} {S Sp : List α → World → Prop} {Pre : World → Prop}
    (hseq : IterW P gf lb encs It R Kp S Sp Pre) (hps : ∀ x, (encs x).size = ps.size)
    (hR : ∀ A B, R A B → A.heap.size ≥ w.heap.size + 2 → KeepLD w.heap.size A B)
    (hKt : ∀ A B C, Kp A B → Kp B C → Kp A C) (hKp : ∀ (W : World) (r : Loop) (o : Obj), W.heap[w.heap.size + 1]? = some (.loop r) → Kp W (W.putObj (w.heap.size + 1) o))
    (hIt : ∀ pre x (W : World) (r : Loop) (o : Obj), It pre x W → W.heap[w.heap.size + 1]? = some (.loop r) → It pre x (W.putObj (w.heap.size + 1) o))
    (hSk : ∀ xs (W : World) (r : Loop) (o : Obj), S xs W → W.heap[w.heap.size + 1]? = some (.loop r) → S xs (W.putObj (w.heap.size + 1) o))
    (hSpk : ∀ xs (W : World) (r : Loop) (o : Obj), Sp xs W → W.heap[w.heap.size + 1]? = some (.loop r) → Sp xs (W.putObj (w.heap.size + 1) o))
    (I : List α → World → Prop) (Ix : Code → List α → World → Prop)
    (hI : ∀ pre (W : World) (r : Loop) (o : Obj), I pre W → W.heap[w.heap.size + 1]? = some (.loop r) → I pre (W.putObj (w.heap.size + 1) o))
    (hIx : ∀ c pre (W : World) (r : Loop) (o : Obj), Ix c pre W → W.heap[w.heap.size + 1]? = some (.loop r) → Ix c pre (W.putObj (w.heap.size + 1) o))
    (hIR : ∀ pre A B, I pre A → R A B → I pre B) (hIxR : ∀ c pre A B, Ix c pre A → R A B → Ix c pre B)
    (hpre : ∀ r, Pre ((w.alloc (.deferred (some []))).alloc (.loop r))) (h0 : ∀ r, I [] ((w.alloc (.deferred (some []))).alloc (.loop r))) (a₁ : α → Act)
    (hassign : ∀ (l : Nat) (x : α) (W : World) (K : Act → World → Prop), K (a₁ x) W →
      assign.wpIn (Fence.wide.inRound l) (n - 1 - 1) P (Exit.then K (fun _ _ _ => False)) { tmps := (ps.zip (encs x)).foldl (fun t (p, v) => t.setIfInBounds p v) a.tmps, defers := [] } W)
    (hbody : ∀ (l : Nat) (pre : List α) (x : α) (W : World) (r : Loop), I pre W → It pre x W → W.heap[w.heap.size + 1]? = some (.loop r) → W.heap[w.heap.size]? = some (.deferred (some [])) →
      body.wpIn (Fence.wide.inRound l) (n - 1 - 1) P (iterPost w.heap.size Kp I Ix (pre ++ [x]) W) (a₁ x) W)
    (hdone : ∀ (xs : List α) (W : World), S xs W → I xs W → W.heap[w.heap.size]? = some (.deferred (some [])) → Q .normal { a with defers := { target := .collected w.heap.size, args := #[] } :: a.defers } W)
    (hstop : ∀ (c : Code) (pre : List α) (W : World), Sp pre W → Ix c pre W → W.heap[w.heap.size]? = some (.deferred (some [])) → c.wpIn Fence.wide n P Q { a with defers := { target := .collected w.heap.size, args := #[] } :: a.defers } W) :
    (Code.rangeFunc g ps assign body).wpIn Fence.wide n P Q a w := by
  refine wpIn_rangeFunc ?_
  intro fn _
  obtain ⟨rec, hrec⟩ : ∃ rec : LoopState → Option Code → Loop, rec = fun st pe => { state := st, pending := pe, fn, tmps := a.tmps, params := ps, assign, body, defers := w.heap.size } := ⟨_, rfl⟩
  obtain ⟨W1, hW1⟩ : ∃ W1, (w.alloc (.deferred (some []))).alloc (.loop (rec .ready none)) = W1 := ⟨_, rfl⟩
  have hL1 : W1.heap[w.heap.size + 1]? = some (.loop (rec .ready none)) := by
    rw [← hW1]; have := World.alloc_heap_new (w.alloc (.deferred (some []))) (.loop (rec .ready none)); rwa [World.size_alloc] at this
  have hK1 : W1.heap[w.heap.size]? = some (.deferred (some [])) := by
    rw [← hW1]; exact (Below.heap_alloc _ _ _ (by simp)).trans (World.alloc_heap_new w _)
  refine ⟨w.heap.size + 1, [{ target := .collected w.heap.size, args := #[] }], W1, { target := .fn (.func gf) lb, args := #[.func (.yield (w.heap.size + 1)) #[] #[]] }, W1, gf,
    #[.func (.yield (w.heap.size + 1)) #[] #[]] ++ lb, W1, ?_, ?_, ?_, ?_, ?_, ?_⟩
  · rw [← hW1, hrec]; exact run_enterLoop_outer _ _ _ _ _
  · simp only [resolve, hg]
    simp [go_sem]
  · intro f' _; trivial
  · simp [invoke, go_sem, eg]
  · intro h; simp [Fence.wide] at h
  · refine (hseq (n - 1) (w.heap.size + 1)
      (fun pre W => I pre W ∧ W.heap[w.heap.size + 1]? = some (.loop (rec .ready none)) ∧ W.heap[w.heap.size]? = some (.deferred (some [])))
      (fun pre W => ∃ c, Ix c pre W ∧ W.heap[w.heap.size + 1]? = some (.loop (rec .done (some c))) ∧ W.heap[w.heap.size]? = some (.deferred (some [])))
      W1 (hW1 ▸ hpre _) ?_ ?_ ?_ ⟨hW1 ▸ h0 _, hL1, hK1⟩).mono ?_
    · rintro pre A B ⟨hi, hl, hk⟩ hr
      have := hR A B hr (by have := (Array.getElem?_eq_some_iff.1 hl).1; omega)
      exact ⟨hIR _ _ _ hi hr, this.2.trans hl, this.1.trans hk⟩
    · rintro pre A B ⟨c, hi, hl, hk⟩ hr
      have := hR A B hr (by have := (Array.getElem?_eq_some_iff.1 hl).1; omega)
      exact ⟨c, hIxR _ _ _ _ hi hr, this.2.trans hl, this.1.trans hk⟩
    · rintro pre x W ⟨hi, hl, hk⟩ hit
      have hlt : w.heap.size + 1 < W.heap.size := (Array.getElem?_eq_some_iff.1 hl).1
      have hy := run_yield (P := P) (args := encs x) hl (by rw [hrec]; exact hps x)
      rw [hrec] at hy
      refine ⟨fn, _, assign, body, hy, roundIn_of_wpIn trivial (hassign _ x W _ ⟨_, run_beginRound hl (by rw [hrec]), ?_⟩)⟩
      have hl2 : (W.putObj (w.heap.size + 1) (.loop { rec .ready none with state := .busy })).heap[w.heap.size + 1]? = some (.loop { rec .ready none with state := .busy }) := World.putObj_heap_same hlt
      have hk2 : (W.putObj (w.heap.size + 1) (.loop { rec .ready none with state := .busy })).heap[w.heap.size]? = some (.deferred (some [])) := (World.putObj_heap_other (by omega)).trans hk
      have hw2 : Kp W (W.putObj (w.heap.size + 1) (.loop { rec .ready none with state := .busy })) := hKp _ _ _ hl
      refine wpIn_mono (hbody _ pre x _ _ (hI _ _ _ _ hi hl) (hIt _ _ _ _ _ hit hl) hl2 hk2) ?_
      have fin : ∀ (jump : Option Code) (W3 : World), KeepLD w.heap.size (W.putObj (w.heap.size + 1) (.loop { rec .ready none with state := .busy })) W3 →
          (Instr.endRound (w.heap.size + 1) jump).run P W3 = .ok (.bool jump.isNone) (W3.putObj (w.heap.size + 1) (.loop (rec (if jump.isNone then .ready else .done) jump))) ∧
          W3.heap[w.heap.size + 1]? = some (.loop { rec .ready none with state := .busy }) ∧
          (W3.putObj (w.heap.size + 1) (.loop (rec (if jump.isNone then .ready else .done) jump))).heap[w.heap.size + 1]? = some (.loop (rec (if jump.isNone then .ready else .done) jump)) ∧
          (W3.putObj (w.heap.size + 1) (.loop (rec (if jump.isNone then .ready else .done) jump))).heap[w.heap.size]? = some (.deferred (some [])) := fun jump W3 hk3 => by
        have hl3 := hk3.2.trans hl2
        have := run_endRound (P := P) jump hl3
        rw [hrec] at this ⊢
        exact ⟨this, by rw [hrec] at hl3; exact hl3, World.putObj_heap_same (Array.getElem?_eq_some_iff.1 hl3).1, (World.putObj_heap_other (by omega)).trans (hk3.1.trans hk2)⟩
      rintro e a3 W3 hp
      cases e with
      | normal =>
        obtain ⟨hk3, hkp3, hi3⟩ := hp
        obtain ⟨hr, hl3, hl4, hk4⟩ := fin none W3 hk3
        exact ⟨_, _, hr, .inl ⟨rfl, ⟨hI _ _ _ _ hi3 hl3, hl4, hk4⟩, hKt _ _ _ (hKt _ _ _ hw2 hkp3) (hKp _ _ _ hl3)⟩⟩
      | ret =>
        obtain ⟨hk3, hi3⟩ := hp
        obtain ⟨hr, hl3, hl4, hk4⟩ := fin (some .ret) W3 hk3
        exact ⟨_, _, hr, .inr ⟨rfl, .ret, hIx _ _ _ _ _ hi3 hl3, hl4, hk4⟩⟩
      | exit id =>
        obtain ⟨hk3, hi3⟩ := hp
        obtain ⟨hr, hl3, hl4, hk4⟩ := fin (some (.exit id)) W3 hk3
        exact ⟨_, _, hr, .inr ⟨rfl, .exit id, hIx _ _ _ _ _ hi3 hl3, hl4, hk4⟩⟩
      | goto t =>
        obtain ⟨hk3, hi3⟩ := hp
        obtain ⟨hr, hl3, hl4, hk4⟩ := fin (some (.goto t)) W3 hk3
        exact ⟨_, _, hr, .inr ⟨rfl, .goto t, hIx _ _ _ _ _ hi3 hl3, hl4, hk4⟩⟩
      | panic ch => exact hp.elim
      | outgrown => exact hp.elim
    · rintro e W2 ⟨⟨v, rfl⟩, (⟨xs, hS, hi, hl, hk⟩ | ⟨pre, hSp, c, hi, hl, hk⟩)⟩
      · exact ⟨none, _, by have := run_endLoop (P := P) hl (by rw [hrec]; simp); rw [hrec] at this; exact this, hdone xs _ (hSk _ _ _ _ hS hl) (hI _ _ _ _ hi hl) ((World.putObj_heap_other (by omega)).trans hk)⟩
      · exact ⟨some c, _, by have := run_endLoop (P := P) hl (by rw [hrec]; simp); rw [hrec] at this; exact this, hstop c pre _ (hSpk _ _ _ _ hSp hl) (hIx _ _ _ _ _ hi hl) ((World.putObj_heap_other (by omega)).trans hk)⟩
end Go.Proofs.YtefggpdobjboeaaGreat
