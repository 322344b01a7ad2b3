/- Contract of burning's fire: the iterator of a wood that burns.
   Contracts of burning: fire, unburnt.
   Contracts of burning: Burn, Superstable; superstable's calm.
   Contracts of burning's Superstable and of superstable's calm.
   All tight configurations, one after the other. No program in sight. -/
import Derived.Test.YtefggpdobjboeaaGreatG17
namespace Go.Proofs.YtefggpdobjboeaaGreat
open Go.RowKit Go.Shelf
attribute [local go_sem] Oper.semAt_some

theorem RV.keepG {w w' : World} {g n cap : Nat} {us : List Value} (h : RV w (.slice (some ⟨g, 0, none⟩) n cap) us) (hs : w.heap.size ≤ w'.heap.size) (hk : w'.heap[g]? = w.heap[g]?) : RV w' (.slice (some ⟨g, 0, none⟩) n cap) us := by
  obtain ⟨A, c, he, h3, h4, h5⟩ := h
  refine ⟨A, c, he, h3, h4, fun k hkl => ?_⟩
  obtain ⟨ad, rfl, hb, hc⟩ := h5 k hkl
  simp only [Value.slice.injEq, Option.some.injEq] at he
  obtain ⟨rfl, -⟩ := he
  refine ⟨_, rfl, by omega, ?_⟩
  rw [World.cell?_of_block (w := w) (by rw [block_of_add]; exact hk)]
  exact hc
/-- The wood that the iterator has captured. -/
def WS (hb b gd cap n : Nat) (tl cs : List Int) (bl : List Bool) (W : World) : Prop :=
  BL W hb 234 [.pointer (some ⟨b, 0, none⟩)] ∧ WD W b n tl (.slice (some ⟨gd, 0, none⟩) n cap) bl ∧ RI W (.slice (some ⟨gd, 0, none⟩) n cap) cs
theorem WS.keep {hb b gd cap n : Nat} {tl cs : List Int} {bl : List Bool} {W W' : World} (h : WS hb b gd cap n tl cs bl W) (hk : LkK [hb, b, gd] W W') : WS hb b gd cap n tl cs bl W' :=
  ⟨(hk.2 hb (by simp)).trans h.1, h.2.1.keep (hk.2 b (by simp)), RV.keepG h.2.2 hk.1 (hk.2 gd (by simp))⟩
theorem WS.below {hb b gd cap n : Nat} {tl cs : List Int} {bl : List Bool} {W W' : World} (h : WS hb b gd cap n tl cs bl W) (hw : Below W.heap.size W W') : WS hb b gd cap n tl cs bl W' :=
  ⟨h.1.bel hw, h.2.1.bel hw, RI.below h.2.2 hw⟩
theorem WS.ne {hb b gd cap n : Nat} {tl cs : List Int} {bl : List Bool} {W : World} (h : WS hb b gd cap n tl cs bl W) : hb ≠ b := by
  rintro rfl
  have h1 := h.1
  have h2 := h.2.1.1
  unfold BL at h1 h2
  rw [h1] at h2
  simp only [Option.some.injEq, Obj.cells.injEq] at h2
  exact absurd h2.2.1 (by decide)
theorem WS.set {hb b gd cap n : Nat} {tl cs : List Int} {bl : List Bool} {W : World} (h : WS hb b gd cap n tl cs bl W) (hg : gd ≠ b) {j : Nat} (hj : j < 12) (x : Bool) : WS hb b gd cap n tl cs (bl.set j x) (W.setCell ⟨b, 146 + j, none⟩ (.bool x)) :=
  ⟨h.1.set_other h.ne _, h.2.1.setB hj x, RV.keep1 h.2.2 hg _⟩
/-- What burns when the vertices xs have caught fire. -/
def blOf (q : Nat) (xs : List Nat) : List Bool := xs.foldl (fun bl v => bl.set v true) ((List.replicate 12 false).set q true)
theorem blOf_snoc (q : Nat) (xs : List Nat) (v : Nat) : blOf q (xs ++ [v]) = (blOf q xs).set v true := by simp [blOf]
theorem blOf_len (q : Nat) (xs : List Nat) : (blOf q xs).length = 12 := by
  unfold blOf
  have : ∀ (l : List Nat) (bl : List Bool), (l.foldl (fun bl v => bl.set v true) bl).length = bl.length := fun l => by
    induction l with
    | nil => intro bl; rfl
    | cons x r ih => intro bl; simp [ih]
  rw [this]; simp
theorem fnB_set12 {bl : List Bool} (hl : bl.length = 12) {v : Nat} (hv : v < 12) (u : Nat) : fnB (bl.set v true) u = if v = u then true else fnB bl u := by
  unfold fnB
  rw [List.getD_eq_getElem?_getD, List.getElem?_set, List.getD_eq_getElem?_getD]
  by_cases e : v = u
  · subst e; rw [if_pos rfl, if_pos rfl, if_pos (by omega)]; rfl
  · rw [if_neg e, if_neg e]
/-- What burns can't be in a part that can fire. -/
def BurnW (n q : Nat) (es : List Tri) (cs : List Int) (bl : List Bool) : Prop :=
  bl.length = 12 ∧ fnB bl q = true ∧ ∀ A : Nat → Bool, A q = false → Legal n (wgt es) (fnD cs) A → ∀ v, v < n → fnB bl v = true → A v = false
theorem burnw_start {n q : Nat} {es : List Tri} {cs : List Int} (hq : q < 12) : BurnW n q es cs (blOf q []) := by
  have e : blOf q [] = (List.replicate 12 false).set q true := rfl
  rw [e]
  refine ⟨by simp, by rw [fnB_set12 (by simp) hq, if_pos rfl], fun A hA _ v _ hb => ?_⟩
  rw [fnB_set12 (by simp) hq] at hb
  by_cases e : q = v
  · subst e; exact hA
  · rw [if_neg e] at hb
    unfold fnB at hb
    rw [List.getD_eq_getElem?_getD, List.getElem?_replicate] at hb
    split at hb <;> cases hb
theorem burnw_step {n q v : Nat} {es : List Tri} {cs : List Int} {bl : List Bool} (hr : Rt n es) (h : BurnW n q es cs bl) (hv : v < n) (hc : catchB n es cs bl v = true) : BurnW n q es cs (bl.set v true) := by
  have h6 := hr.n6
  unfold catchB at hc
  simp only [Bool.and_eq_true, Bool.not_eq_true', decide_eq_true_eq] at hc
  refine ⟨by simpa using h.1, by rw [fnB_set12 h.1 (by omega)]; split; rfl; exact h.2.1, fun A hA hl u hu hb => ?_⟩
  rw [fnB_set12 h.1 (by omega)] at hb
  by_cases e : v = u
  · subst e
    exact burn_step (wgt_nonneg hr.ed.pos) hl (fun u hu hb => h.2.2 A hA hl u hu hb) hv hc.2
  · rw [if_neg e] at hb
    exact h.2.2 A hA hl u hu hb
def unb (n : Nat) (bl : List Bool) : Nat := countN n fun u => !fnB bl u
theorem unb_set {n v : Nat} {bl : List Bool} (hl : bl.length = 12) (hv : v < n) (hn : n ≤ 12) (hb : fnB bl v = false) : unb n (bl.set v true) + 1 = unb n bl :=
  countN_drop hv (by simp [hb]) (by simp [fnB_set12 hl (show v < 12 by omega)]) (fun u _ hne => by simp only [fnB_set12 hl (show v < 12 by omega)]; rw [if_neg (fun e => hne e.symm)])
set_option maxRecDepth 100000 in
set_option maxHeartbeats 4000000 in
theorem fire1_iter (hb b gd cap n q : Nat) (tl cs : List Int) (es : List Tri) (hr : Rt n es) (hT : TT n es tl) (hq : q < n) (hcl : cs.length = n) (hgb : gd ≠ b) :
    IterW Tryz.prog 202 #[.pointer (some ⟨hb, 0, none⟩)] (fun x : Nat => #[.int .i64 (x : Int)]) (fun pre x _ => x < n ∧ pre.length ≤ 12) (fun A B => Fr [b] A B) (LkK [hb, b, gd])
      (fun xs W => WS hb b gd cap n tl cs (blOf q xs) W ∧ BurnW n q es cs (blOf q xs) ∧ ∀ u, u < n → catchB n es cs (blOf q xs) u = false) (fun _ _ => True) (fun W => WS hb b gd cap n tl cs (blOf q []) W) := by
  intro N l J Jx W hpre hJ hJx hY h0
  have HJ := Lib.hid hJ
  have HY := Lib.hid hY
  have HP := Lib.hid hpre
  have HR := Lib.hid hr
  have HT := Lib.hid hT
  have h6 := hr.n6
  have H0 := Lib.hid h0
  clear hJ hY hpre hJx hr hT h0
  refine callsIn_of_wp Tryz.func202 rfl trivial ?_ rfl
  simp only [Tryz.ntmps202, List.size_toArray, List.length_cons, List.length_nil, Nat.reduceAdd, Nat.reduceSub, Array.replicate_succ, Array.replicate_zero, List.push_toArray, List.append_toArray, List.nil_append, List.cons_append]
  gi_wp2_with fail
  gi_loopg [3] (unb n (blOf q []) * (n + 1) + n) (fun k i wr => ∃ (v : Nat) (pre : List Nat), v ≤ n ∧ i = .int .i64 (v : Int) ∧ Hid (k = unb n (blOf q pre) * (n + 1) + (n - v)) ∧ Hid (J pre wr) ∧ Hid (WS hb b gd cap n tl cs (blOf q pre) wr) ∧ Hid (BurnW n q es cs (blOf q pre)) ∧ Hid (∀ u, u < v → catchB n es cs (blOf q pre) u = false) ∧ Hid (pre.length + unb n (blOf q pre) ≤ n))
  case atStart => exact ⟨0, [], Nat.zero_le _, rfl, by show _ = _; omega, H0.out, HP.out, burnw_start (by omega), fun u hu => by omega, by have := countN_le n fun u => !fnB (blOf q []) u; show _ ≤ _; unfold unb; simp; omega⟩
  case round =>
    obtain ⟨v, pre, hv, rfl, hk, hj, hw, hbu, hno, hpl⟩ := hrel
    obtain ⟨wo, rfl⟩ : ∃ wo : World, wo = wr := ⟨_, rfl⟩
    have a0 := hw.out.1.cell 0
    have a1 := hw.out.2.1.n
    by_cases hlt : v < n
    · have HC := Lib.hid (catches_any b n v es tl _ cs (blOf q pre) wo HR.out hw.out.2.1 HT.out hlt hw.out.2.2 hcl)
      obtain ⟨cb, hcb⟩ : ∃ cb, cb = catchB n es cs (blOf q pre) v := ⟨_, rfl⟩
      rw [← hcb] at HC
      have HCB := Lib.hid hcb
      clear hcb
      gi_wp2_with fail
      refine ⟨trivial, fun h => (by simp [Fence.wide] at h), (callsIn_wide.2 HC.out).mono ?_⟩
      rintro e w1 ⟨rfl, j, rfl⟩
      have hj1 := HJ.out pre wo _ hj.out ((Fr.refl [b] wo).drewN j)
      have hw1 : WS hb b gd cap n tl cs (blOf q pre) (wo.drewN j) := hw.out.below (below_drewN (Below.refl _ _) j)
      clear a0 a1 HC
      generalize wo.drewN j = wa at *
      have b0 := hw1.1.cell 0
      cases cb
      · have HJ1 := Lib.hid hj1
        have HW1 := Lib.hid hw1
        clear hj1 hw1
        gi_wp2
        gi_roundg (unb n (blOf q pre) * (n + 1) + (n - (v + 1)))
        case measure => rw [hk.out]; omega
        case rel => exact ⟨v + 1, pre, by omega, by go_num, rfl, HJ1.out, HW1.out, hbu.out, fun u hu => by
          by_cases e : u = v
          · subst e; exact HCB.out.symm
          · exact hno.out u (by omega), hpl.out⟩
      · have q1 := hw1.2.1.burnt (j := v) (by omega)
        have p1 : wa.frozen? ⟨b, 146 + v, none⟩ = false := hw1.2.1.1.frozen _
        have hw2 := hw1.set hgb (j := v) (by omega) true
        rw [← blOf_snoc] at hw2
        have hj2 := HJ.out pre wa _ hj1 ((Fr.refl [b] wa).setCell (p := ⟨b, 146 + v, none⟩) (.inl (by simp)) (.bool true))
        obtain ⟨W2, hW2⟩ : ∃ W2, W2 = wa.setCell ⟨b, 146 + v, none⟩ (.bool true) := ⟨_, rfl⟩
        rw [← hW2] at hw2 hj2
        have hbu2 := burnw_step HR.out hbu.out hlt HCB.out.symm
        rw [← blOf_snoc] at hbu2
        have hun : unb n (blOf q (pre ++ [v])) + 1 = unb n (blOf q pre) := by
          rw [blOf_snoc]
          refine unb_set hbu.out.1 hlt (by omega) ?_
          have := HCB.out.symm
          unfold catchB at this
          simp only [Bool.and_eq_true, Bool.not_eq_true'] at this
          exact this.1
        obtain ⟨fn, tmps, assign, body, hy, hRd⟩ := HY.out pre v W2 hj2 ⟨hlt, by have := hpl.out; omega⟩
        (try dsimp only at hy hRd)
        have HRd := Lib.hid hRd
        have HW2 := Lib.hid hw2
        have HEq := Lib.hid hW2
        have HBu2 := Lib.hid hbu2
        have HUn := Lib.hid hun
        clear hRd hj2 hw2 hW2 hbu2 hj1 hw1 hun
        rw [HEq.out] at hy
        gi_wp2_with fail
        rw [← HEq.out]
        refine ⟨fun h => (by simp [Fence.wide] at h), HRd.out.mono ?_⟩
        rintro e W3 (⟨rfl, hJ3, hk3⟩ | ⟨rfl, hJx3⟩)
        · have HJ3 := Lib.hid hJ3
          have HW3 := Lib.hid (HW2.out.keep hk3)
          clear hJ3 hk3 hy
          gi_wp2
          gi_roundg (unb n (blOf q (pre ++ [v])) * (n + 1) + n)
          case measure =>
            have h1 := HUn.out
            have h2 := hk.out
            have h3 : unb n (blOf q pre) * (n + 1) = unb n (blOf q (pre ++ [v])) * (n + 1) + (n + 1) := by rw [← h1, Nat.add_mul, Nat.one_mul]
            omega
          case rel => exact ⟨0, pre ++ [v], by omega, rfl, by show _ = _; omega, HJ3.out, HW3.out, HBu2.out, fun u hu => by omega, by have := hpl.out; have := HUn.out; show _ ≤ _; rw [List.length_append, List.length_singleton]; omega⟩
        · clear hy
          gi_wp2
          refine bodyPost_ret (results_none rfl _ _ _) rfl ?_
          exact ⟨⟨_, rfl⟩, .inr ⟨pre ++ [v], trivial, hJx3⟩⟩
    · obtain rfl : v = n := by omega
      gi_wp2
      refine bodyPost_end (results_none rfl _ _ _) rfl ?_
      exact ⟨⟨_, rfl⟩, .inl ⟨pre, ⟨hw.out, hbu.out, hno.out⟩, hj.out⟩⟩
end Go.Proofs.YtefggpdobjboeaaGreat

namespace Go.Proofs.YtefggpdobjboeaaGreat
open Go.RowKit Go.Shelf

theorem fireF_any (b : Nat) (w : World) : Calls Tryz.prog 197 #[.pointer (some ⟨b, 0, none⟩)] w fun e w' =>
    e = .returned (.func (.func 202) #[] #[.pointer (some ⟨w.heap.size, 0, none⟩)]) ∧ w.alloc (.cells #[.pointer (some ⟨b, 0, none⟩)] 234) = w' := by
  go_enter Tryz.func197, Tryz.ntmps197
  go_wp2
  go_ret
  exact ⟨rfl, rfl⟩
/-- The vertices below k that are not burnt. -/
def leftV (bl : List Bool) (k : Nat) : List Int := ((List.range k).filter fun u => !fnB bl u).map fun u : Nat => (u : Int)
theorem leftV_succ (bl : List Bool) (k : Nat) : leftV bl (k + 1) = if fnB bl k = true then leftV bl k else leftV bl k ++ [(k : Int)] := by
  unfold leftV
  rw [List.range_succ, List.filter_append, List.map_append]
  cases h : fnB bl k <;> simp [h]
theorem leftV_len (bl : List Bool) (k : Nat) : (leftV bl k).length ≤ k := by
  unfold leftV
  rw [List.length_map]
  exact Nat.le_trans (List.length_filter_le _ _) (by simp)
theorem leftV_nil {bl : List Bool} {k : Nat} : leftV bl k = [] ↔ ∀ u, u < k → fnB bl u = true := by
  unfold leftV
  rw [List.map_eq_nil_iff, List.filter_eq_nil_iff]
  simp
theorem one_ones {u : Value} (h : u.oneCell' = true) : ∀ x ∈ [u], x.oneCell' = true := by simp [h]
theorem RV.ones (w : World) (u : Value) (e : TypeId) : RV (w.alloc (.cells #[u] e)) (.slice (some ⟨w.heap.size, 0, none⟩) 1 1) [u] := RV.lit w #[u] e 1 rfl (by omega)
set_option maxRecDepth 100000 in
set_option maxHeartbeats 2000000 in
theorem unburntW_any (b n : Nat) (tl : List Int) (ch : Value) (bl : List Bool) (w : World) (hn : n ≤ 12) (hw : WD w b n tl ch bl) :
    Calls Tryz.prog 198 #[.pointer (some ⟨b, 0, none⟩)] w fun e w' => ∃ v, e = .returned v ∧ OI w' w.heap.size v (leftV bl n) ∧ Below w.heap.size w w' := by
  obtain ⟨i0, hi, hz0, hz1, hz2⟩ := info_parts int_info
  have HW := Lib.hid hw
  have c0 := hw.n
  have hbl := hw.1.lt
  clear hw
  go_enter Tryz.func198, Tryz.ntmps198
  go_wp2
  go_loopw [3, 9] (fun vs i wr => ∃ k : Nat, k ≤ n ∧ i = .int .i64 (k : Int) ∧ Hid (OI wr w.heap.size vs (leftV bl k)) ∧ Hid (Below w.heap.size w wr)) (fun _ i _ => n - (intOf i).toNat)
  case atStart => exact ⟨0, Nat.zero_le _, rfl, OI.nil_ _ _, Below.refl _ _⟩
  case round =>
    obtain ⟨k, hk, rfl, ho, hbe⟩ := hrel
    rename_i vs _ _
    by_cases hlt : k < n
    · have cb := (HW.out.bel hbe.out).burnt (j := k) (by omega)
      have HS := Lib.hid (leftV_succ bl k)
      have hll := leftV_len bl k
      have hsz := hbe.out.size
      cases hb : fnB bl k
      · rw [hb] at cb HS
        rw [if_neg (by simp)] at HS
        have h1 := Lib.hid (RV.ones wr (.int .i64 (k : Int)) 3)
        have ho1 := Lib.hid (OV.below ho.out (below_alloc wr (.cells #[.int .i64 (k : Int)] 3)))
        clear hb
        go_wp2_with (at_builtin; refine wpList_appendV _ rfl _ _ _ rfl 3 i0 _ 8 Tryz.underlying25 hi hz0 hz1 hz2 rfl w.heap.size _ _ rfl ho1.out _ _ rfl h1.out (one_ones rfl) (by simp; omega) (by simp; omega) (by simp; omega) ?_; intro v1 w1 hown1 hg1 hat1)
        have HO := Lib.hid hown1
        clear hown1
        go_wp2
        go_roundw
        case rel => exact ⟨k + 1, by omega, by go_num, by rw [HS.out]; show OI _ _ _ _; simpa [OI] using HO.out, below_own (hbe.out.trans ((below_alloc wr _).mono hbe.out.size)) (by simp; omega) ho1.out hg1⟩
        case measure => simp [intOf]; omega
      · rw [hb] at cb HS
        rw [if_pos rfl] at HS
        clear hb
        go_wp2
        go_roundw
        case rel => exact ⟨k + 1, by omega, by go_num, by rw [HS.out]; exact ho.out, hbe.out⟩
        case measure => simp [intOf]; omega
    · obtain rfl : k = n := by omega
      go_wp2
      go_ret
      exact ⟨_, rfl, ho.out, hbe.out⟩
end Go.Proofs.YtefggpdobjboeaaGreat

namespace Go.Proofs.YtefggpdobjboeaaGreat
open Go.RowKit Go.Shelf
attribute [local go_sem] Oper.semAt_some

theorem burnw_tight {n q : Nat} {es : List Tri} {cs : List Int} {bl : List Bool} (hb : BurnW n q es cs bl) (hc : ∀ u, u < n → catchB n es cs bl u = false) : leftV bl n = [] ↔ Tight n (wgt es) q (fnD cs) := by
  rw [leftV_nil]
  constructor
  · intro hall
    exact tight_of_burnt fun A hA hl v hv => hb.2.2 A hA hl v hv (hall v hv)
  · intro ht u hu
    apply Classical.byContradiction
    intro hne
    obtain ⟨v, hv, hA, hlt⟩ := ht (fun x => !fnB bl x) (by simp [hb.2.1]) ⟨u, hu, by simpa using hne⟩
    rw [outw_not] at hlt
    have h := hc v hv
    unfold catchB at h
    have hf : fnB bl v = false := by simpa using hA
    rw [hf] at h
    simp only [Bool.not_false, Bool.true_and, decide_eq_false_iff_not] at h
    exact h hlt
theorem Fr.grownG {Bs : List Nat} {w W W' : World} {row : Option Nat} (h : Fr Bs w W) (hg : W.grownBy W' row) (hr : ∀ k, row = some k → w.heap.size ≤ k) : Fr Bs w W' :=
  ⟨hg.os.trans h.os, hg.tape.trans h.tape, hg.output.trans h.output, Nat.le_trans h.size hg.size, fun k hk hn => (hg.block k (by have := h.size; omega) (fun e => by have := hr k e.symm; omega)).trans (h.block k hk hn)⟩
/-- What holds while the order of burning is written down. -/
def BnI (w0 : World) (B ob b hb gd q : Nat) (pre : List Nat) (W : World) : Prop :=
  ∃ g cap, BL W ob 25 [.slice (some ⟨g, 0, none⟩) (pre.length + 1) cap] ∧ OI W B (.slice (some ⟨g, 0, none⟩) (pre.length + 1) cap) ((q : Int) :: pre.map fun x : Nat => (x : Int)) ∧ (g ≠ hb ∧ g ≠ b ∧ g ≠ gd) ∧ Fr [b] w0 W
theorem BnI.fr {w0 : World} {B ob b hb gd q : Nat} {pre : List Nat} {A C : World} (h : BnI w0 B ob b hb gd q pre A) (hob : ob ≠ b) (hr : Fr [b] A C) : BnI w0 B ob b hb gd q pre C := by
  obtain ⟨g, cap, h1, h2, h3, h5⟩ := h
  exact ⟨g, cap, h1.fr hr (by simpa using hob), OV.fr h2 hr (fun g' hg => by simp only [Value.ownBlock, Option.some.injEq] at hg; subst hg; simpa using h3.2.1), h3, h5.trans hr⟩
theorem own_lit (w : World) (z : Int) : OI (w.alloc (.cells #[.int .i64 z] 3)) w.heap.size (.slice (some ⟨w.heap.size, 0, none⟩) 1 1) [z] := by
  refine ⟨⟨by simp, .inr ⟨w.heap.size, 1, #[.int .i64 z], by simp, Nat.le_refl _, heap_alloc_new w _, by simp, by unfold maxLen; omega, by simp, by simp⟩⟩, by simp⟩
/-- An own list with one more int behind it. -/
theorem run_append_one {P : Program} (w : World) (t ty e : TypeId) (i : TypeInfo) (z : Value) (ht : P.underlying t = some (.slice e)) (hi : P.info? e = some i) (hz : i.zero = some z)
    (hsize : i.size = 1) (hby : i.bytes = 8) (hzs : z.cells.size = 1) (B : Nat) (v : Value) (us : List Value) (hown : OV w B e v us) (u : Value) (h1 : u.oneCell' = true) (hb : us.length ≤ 1000) (hB : B ≤ w.heap.size) :
    ∃ g cap w', (Builtin.append_ #[t, t] ty #[v, .slice (some ⟨w.heap.size, 0, none⟩) 1 1]).run P (w.alloc (.cells #[u] e)) = .ok (.slice (some ⟨g, 0, none⟩) (us.length + 1) cap) w' ∧
      OV w' B e (.slice (some ⟨g, 0, none⟩) (us.length + 1) cap) (us ++ [u]) ∧ (w.alloc (.cells #[u] e)).grownBy w' v.ownBlock ∧ (v.ownBlock = some g ∨ g = w.heap.size + 1) := by
  obtain ⟨v', w', hrun, ho, hg, hat⟩ := run_appendV (P := P) (w.alloc (.cells #[u] e)) t ty e i z 8 ht hi hz hsize hby hzs B v us (OV.below hown (below_alloc w _)) _ [u] (RV.ones w u e) (one_ones h1) (by simp; omega) (by simp; omega) (by simp; omega)
  obtain ⟨g, cap, rfl, -, -⟩ := OV.shape ho (by simp)
  refine ⟨g, cap, w', by simpa using hrun, by simpa using ho, hg, ?_⟩
  rcases hat with h | h
  · exact .inl (by rw [← h]; rfl)
  · right
    simp only [Value.ownBlock, World.size_alloc, Option.some.injEq] at h
    exact h
set_option maxRecDepth 100000 in
set_option maxHeartbeats 4000000 in
theorem Burn_any (g d : Value) (n q : Nat) (es : List Tri) (cs : List Int) (w : World) (hg : GV w g n es) (hr : Rt n es) (hq : q < n) (hd : RI w d cs) (hc : Cf n q cs) :
    Calls Tryz.prog 186 #[g, .int .i64 (q : Int), d] w fun e w' => ∃ vo vl left, e = .returned (.tuple #[vo, vl, .int .i64 0]) ∧ RI w' vl left ∧ Below w.heap.size w w' ∧ (left = [] ↔ Tight n (wgt es) q (fnD cs)) := by
  obtain ⟨A, c, rfl, -, -, -⟩ := hg.open_
  obtain ⟨A2, c2, rfl, -, hlb, -⟩ := hd.open_
  obtain ⟨i0, hi, hz0, hz1, hz2⟩ := info_parts int_info
  obtain ⟨W0, hW0⟩ : ∃ W0, W0 = w.alloc (.cells #[.int .i64 (n : Int), .slice A es.length c] 24) := ⟨_, rfl⟩
  have hb0 : Below w.heap.size w W0 := by rw [hW0]; exact below_alloc w _
  have hbx : BL W0 w.heap.size 24 [.int .i64 (n : Int), .slice A es.length c] := by rw [hW0]; exact BL.new' w _ _
  have c0 := hbx.cell 0
  have c1 := hbx.cell 1
  rw [hW0] at c0 c1
  have HCk := Lib.hid (bCheck_ok _ _ n q es cs W0 (hg.below hb0) hr hq (RI.below hd hb0) hc)
  have HG0 := Lib.hid (hg.below hb0)
  have HD0 := Lib.hid (RI.below hd hb0)
  have HX0 := Lib.hid hbx
  have HB0 := Lib.hid hb0
  have HW0 := Lib.hid hW0
  have HR := Lib.hid hr
  have HCf := Lib.hid hc
  clear hg hd hb0 hW0 hbx hr hc
  refine (callsIn_wide (n := 3)).1 ?_
  refine callsIn_of_wp_marks Tryz.func186 rfl trivial ?_ rfl
  refine wpIn_wide.2 ?_
  simp only [Tryz.ntmps186, List.size_toArray, List.length_cons, List.length_nil, Nat.reduceAdd, Nat.reduceSub, Array.replicate_succ, Array.replicate_zero, List.push_toArray, List.append_toArray, List.nil_append, List.cons_append]
  go_wp2_with fail
  rw [← HW0.out]
  refine HCk.out.mono ?_
  rintro e w1 ⟨rfl, hb1⟩
  have d0 := (HX0.out.bel hb1).cell 0
  have d1 := (HX0.out.bel hb1).cell 1
  have HKi := Lib.hid (kindled_any _ _ n q es cs w1 (HG0.out.below hb1) HR.out hq (RI.below HD0.out hb1) HCf.out.len)
  have HB1 := Lib.hid (HB0.out.trans (hb1.mono HB0.out.size))
  clear hb1 c0 c1
  go_wp2_with fail
  refine HKi.out.mono ?_
  rintro e w2 ⟨b, tl, gd, cap, rfl, hbB, hgb, hwd, htt, hri, hb2⟩
  have HWD := Lib.hid hwd
  have HTT := Lib.hid htt
  have HRI := Lib.hid hri
  have HB2 := Lib.hid (HB1.out.trans (hb2.mono HB1.out.size))
  have hbl := hwd.1.lt
  have hz1w := HB1.out.size
  clear hwd htt hri hb2 d0 d1 HKi HCk
  go_wp2_with fail
  obtain ⟨W4, hW4⟩ : ∃ W4, W4 = (w2.alloc (.cells #[.int .i64 (q : Int)] 3)).alloc (.cells #[.slice (some ⟨w2.heap.size, 0, none⟩) 1 1] 25) := ⟨_, rfl⟩
  have hb4 : Below w2.heap.size w2 W4 := by rw [hW4]; exact (below_alloc w2 _).alloc (by simp) _
  have hz4 : W4.heap.size = w2.heap.size + 2 := by rw [hW4]; simp
  have ho4 : OI W4 w2.heap.size (.slice (some ⟨w2.heap.size, 0, none⟩) 1 1) [(q : Int)] := by
    rw [hW4]
    exact OI.below (own_lit w2 (q : Int)) (below_alloc _ _)
  have hx4 : BL W4 (w2.heap.size + 1) 25 [.slice (some ⟨w2.heap.size, 0, none⟩) 1 1] := by
    rw [hW4]
    have := BL.new' (w2.alloc (.cells #[.int .i64 (q : Int)] 3)) #[.slice (some ⟨w2.heap.size, 0, none⟩) 1 1] 25
    rwa [World.size_alloc] at this
  have HW4 := Lib.hid hW4
  have HB4 := Lib.hid hb4
  have HO4 := Lib.hid ho4
  have HX4 := Lib.hid hx4
  clear hW4 hb4 ho4 hx4
  rw [← HW4.out]
  refine (fireF_any b _).mono ?_
  rintro e w5 ⟨rfl, rfl⟩
  go_wp2
  obtain ⟨W5, hW5⟩ : ∃ W5, W5 = W4.alloc (.cells #[.pointer (some ⟨b, 0, none⟩)] 234) := ⟨_, rfl⟩
  have hb5 : Below W4.heap.size W4 W5 := by rw [hW5]; exact below_alloc W4 _
  have hz5 : W5.heap.size = W4.heap.size + 1 := by rw [hW5]; simp
  have HWS : Hid (WS (w2.heap.size + 2) b gd cap n tl cs (blOf q []) W5) := by
    refine ⟨?_, (HWD.out.bel HB4.out).bel hb5, RI.below (RI.below HRI.out HB4.out) hb5⟩
    rw [hW5, ← hz4]; exact BL.new' W4 _ _
  have HI5 : Hid (BnI w2 w2.heap.size (w2.heap.size + 1) b (w2.heap.size + 2) gd q [] W5) :=
    ⟨w2.heap.size, 1, HX4.out.bel hb5, OI.below HO4.out hb5, ⟨by omega, by omega, by omega⟩, ((Fr.refl _ w2).below HB4.out).below hb5⟩
  have HB5 := Lib.hid (HB2.out.trans ((HB4.out.trans (hb5.mono HB4.out.size)).mono HB2.out.size))
  have HZ4 := Lib.hid hz4
  have HZ5 := Lib.hid hz5
  rw [← hW5]
  clear hW5 hb5 hz4 hz5
  refine (wpIn_wide (n := 3)).1 ?_
  refine wpIn_rangeFunc_iterW (gf := 202) (lb := #[.pointer (some ⟨w2.heap.size + 2, 0, none⟩)]) rfl (enters_of Tryz.func202 (by kernel_rfl) rfl)
    (fire1_iter (w2.heap.size + 2) b gd cap n q tl cs es HR.out HTT.out hq HCf.out.len (by omega)) (fun _ => rfl) ?hR LkK_trans ?hKp (fun _ _ _ _ _ h _ => h) ?hSk (fun _ _ _ _ _ _ => trivial) (BnI w2 w2.heap.size (w2.heap.size + 1) b (w2.heap.size + 2) gd q) (fun _ _ _ => False) ?hI (fun _ _ _ _ _ h _ => h) ?hIR (fun _ _ _ _ h _ => h) ?hpre ?h0
    ?a1 ?assign ?body ?done ?stop
  case assign =>
    intro l x W K' hK'
    gi_wp2
    exact hK'
  case hR => intro A C h hs; have := HZ5.out; have := HZ4.out; exact ⟨h.block _ (by omega) (by simp; omega), h.block _ (by omega) (by simp; omega)⟩
  case hKp => intro W r o _; have := HZ5.out; have := HZ4.out; exact LkK_put W _ (by simp; omega)
  case hSk =>
    rintro xs W r o ⟨k1, k2, k3⟩ hl
    have := HZ5.out; have := HZ4.out
    exact ⟨k1.keep (LkK_put W o (by simp; omega)), k2, k3⟩
  case hI =>
    rintro pre W r o ⟨g, cap', k1, k2, k3, k5⟩ hl
    exact ⟨g, cap', k1.putLoop hl o, OV.putLoop' k2 hl o, k3, k5.putLoop (by have := HZ5.out; have := HZ4.out; omega) o⟩
  case hIR => intro pre A C h hr; exact h.fr (by omega) hr
  case hpre => intro r; exact HWS.out.below ((below_alloc W5 _).alloc (by simp) _)
  case h0 => intro r; exact HI5.out.fr (by omega) ((Fr.refl _ W5).below ((below_alloc W5 (.deferred (some []))).alloc (by simp) (.loop r)))
  case stop => rintro c pre W _ h _; exact h.elim
  case done =>
    rintro xs W ⟨hws, hbw, hno⟩ ⟨g, cap', k1, k2, k3, k5⟩ hD
    have HUn := Lib.hid (unburntW_any b n tl _ (blOf q xs) W.drew (by have := HR.out.n6; omega) (hws.2.1.drewN 1))
    have c0 := k1.cell 0
    have hol := k1.lt
    have HK : Hid (∀ w1 : World, Below W.drew.heap.size W.drew w1 → w1.cell? ⟨w2.heap.size + 1, 0, none⟩ = some (.slice (some ⟨g, 0, none⟩) (xs.length + 1) cap')) := fun w1 hb => (hb.cell (p := ⟨w2.heap.size + 1, 0, none⟩) hol).trans c0
    have HTi := Lib.hid (burnw_tight hbw hno)
    have HD := Lib.hid hD
    have HK5 := Lib.hid k5
    clear hws hbw hno k1 k2 k3 k5 hD
    go_wp2_with fail
    have HK0 : Hid (W.drew.cell? ⟨w2.heap.size + 1, 0, none⟩ = some (.slice (some ⟨g, 0, none⟩) (xs.length + 1) cap')) := c0
    go_region_held3 (fun W' : World => W'.cell? ⟨w2.heap.size + 1, 0, none⟩ = some (.slice (some ⟨g, 0, none⟩) (xs.length + 1) cap')) (first | exact HK0.out | exact HKw.out) (first | (go_at_call 198; refine HUn.out.mono ?_; rintro e w6 ⟨vl, rfl, ho6, hb6⟩; have HKw := Lib.hid (HK.out w6 hb6)))
    all_goals
      have HO6 := Lib.hid ho6
      have HB6 := Lib.hid hb6
      clear ho6 hb6
      go_wp2_with fail
      refine leaves_marks (B := w.heap.size) [_] _ ⟨⟨_, rfl, ?_, ?_, by simp⟩, trivial⟩ fun w' hs => ⟨_, results_tmp3 rfl _ _ _, _, vl, _, rfl, (OV.shut HO6.out hs).rv, ?_, HTi.out⟩
      · have := HZ5.out; have := HZ4.out; have := HB2.out.size; omega
      · exact (HB6.out.block _ (by have := lt_of_block HD.out; simpa using this)).trans HD.out
      · refine Below.shut ?_ hs
        have h6 : Fr [b] w2 w6 := (HK5.out.drewN 1).below HB6.out
        exact h6.toBelow HB2.out (by intro b' hb'; simp only [List.mem_cons, List.not_mem_nil, or_false] at hb'; omega)
  case body =>
    rintro l pre x W r ⟨g, cap', k1, k2, k3, k5⟩ ⟨hx, hpl⟩ hl hd
    have hz4 := HZ4.out
    have hz5 := HZ5.out
    obtain ⟨g2, cap2, w', hrun, hown, hgr, hat⟩ := run_append_one (P := Tryz.prog) W 25 25 3 i0 _ Tryz.underlying25 hi hz0 hz1 hz2 rfl w2.heap.size _ _ k2 (.int .i64 (x : Int)) rfl (by simp; omega) (by have := k5.size; omega)
    rw [show ((((q : Int) :: pre.map fun x : Nat => (x : Int)).map (Value.int .i64)).length + 1) = pre.length + 2 by simp] at hrun hown
    have hog : w2.heap.size + 1 ≠ g := BL.ne_own k1 k2 (by decide)
    have ho2 : w2.heap.size + 1 ≠ g2 := by
      rcases hat with h | h
      · simp only [Value.ownBlock, Option.some.injEq] at h; omega
      · have := k1.lt; omega
    have hgW := (k2.1.lt g rfl).2
    have hk1 : BL w' (w2.heap.size + 1) 25 [.slice (some ⟨g, 0, none⟩) (pre.length + 1) cap'] := BL.grown (k1.alloc _) hgr (by simp only [Value.ownBlock, ne_eq, Option.some.injEq]; omega)
    have c4 := k1.cell 0
    have c5 := hk1.cell 0
    have f5 := hk1.frozen 0
    have hfin : ∀ j, j < W.heap.size → j ≠ g → j ≠ w2.heap.size + 1 → (w'.setCell ⟨w2.heap.size + 1, 0, none⟩ (.slice (some ⟨g2, 0, none⟩) (pre.length + 2) cap2)).heap[j]? = W.heap[j]? := fun j hj h1 h2 =>
      (heap_setCell_other w' _ j _ h2).trans ((hgr.block j (by rw [World.size_alloc]; omega) (by simp only [Value.ownBlock, ne_eq, Option.some.injEq]; omega)).trans (Below.heap_alloc W _ j hj))
    have hszf : W.heap.size ≤ (w'.setCell ⟨w2.heap.size + 1, 0, none⟩ (.slice (some ⟨g2, 0, none⟩) (pre.length + 2) cap2)).heap.size := by have := hgr.size; simp at this ⊢; omega
    have hlb := lt_of_block hl
    have hdb := lt_of_block hd
    have hlg : W5.heap.size + 1 ≠ g := by rintro rfl; obtain ⟨_, hh, _⟩ := k2.block_ (g := W5.heap.size + 1) rfl; rw [hl] at hh; cases hh
    have hdg : W5.heap.size ≠ g := by rintro rfl; obtain ⟨_, hh, _⟩ := k2.block_ (g := W5.heap.size) rfl; rw [hd] at hh; cases hh
    have hk5s := k5.size
    have HFin : Hid (KeepLD W5.heap.size W (w'.setCell ⟨w2.heap.size + 1, 0, none⟩ (.slice (some ⟨g2, 0, none⟩) (pre.length + 2) cap2)) ∧ LkK [w2.heap.size + 2, b, gd] W (w'.setCell ⟨w2.heap.size + 1, 0, none⟩ (.slice (some ⟨g2, 0, none⟩) (pre.length + 2) cap2)) ∧
        BnI w2 w2.heap.size (w2.heap.size + 1) b (w2.heap.size + 2) gd q (pre ++ [x]) (w'.setCell ⟨w2.heap.size + 1, 0, none⟩ (.slice (some ⟨g2, 0, none⟩) (pre.length + 2) cap2))) := by
      refine ⟨⟨hfin _ hdb hdg (by omega), hfin _ hlb hlg (by omega)⟩, ⟨hszf, fun j hj => ?_⟩, ⟨g2, cap2, ?_, ?_, ?_, ?_⟩⟩
      · simp only [List.mem_cons, List.not_mem_nil, or_false] at hj
        exact hfin j (by omega) (by omega) (by omega)
      · have h := hk1.set 0 (.slice (some ⟨g2, 0, none⟩) (pre.length + 2) cap2)
        simpa using h
      · have h := OI.setOther (p := ⟨w2.heap.size + 1, 0, none⟩) (zs := (q : Int) :: (pre ++ [x]).map fun x : Nat => (x : Int)) (by simpa [OI] using hown) (by simp; omega) (.slice (some ⟨g2, 0, none⟩) (pre.length + 2) cap2)
        simpa using h
      · rcases hat with h | h
        · simp only [Value.ownBlock, Option.some.injEq] at h
          omega
        · omega
      · exact (Fr.grownG (k5.below (below_alloc W _)) hgr (fun k hk => by simp only [Value.ownBlock, Option.some.injEq] at hk; have := (k2.1.lt g rfl).1; omega)).setCell (p := ⟨w2.heap.size + 1, 0, none⟩) (.inr (by simp)) _
    clear hfin hk1 k1 k2 k5 hl hd hown hgr hat
    repeat (first | (refine wpListIn_append rfl _ _ _ rfl _ _ (by simp [Act.eval, Act.put]; done) (by simp [Act.eval, Act.put]; done) _ _ hrun ?_) | gi_step)
    gi_wp2
    exact HFin.out
end Go.Proofs.YtefggpdobjboeaaGreat

namespace Go.Proofs.YtefggpdobjboeaaGreat
open Go.RowKit Go.Shelf

set_option maxRecDepth 100000 in
set_option maxHeartbeats 2000000 in
theorem Superstable_any (g d : Value) (n q : Nat) (es : List Tri) (cs : List Int) (w : World) (hg : GV w g n es) (hr : Rt n es) (hq : q < n) (hd : RI w d cs) (hc : Cf n q cs) :
    Calls Tryz.prog 160 #[g, .int .i64 (q : Int), d] w fun e w' => ∃ ok, e = .returned (.tuple #[.bool ok, .int .i64 0]) ∧ Below w.heap.size w w' ∧ (ok = true ↔ Tight n (wgt es) q (fnD cs)) := by
  obtain ⟨A, c, rfl, -, -, -⟩ := hg.open_
  obtain ⟨A2, c2, rfl, -, -, -⟩ := hd.open_
  have HB0 := Lib.hid (below_alloc w (.cells #[.int .i64 (n : Int), .slice A es.length c] 24))
  have HBu := Lib.hid (Burn_any _ _ n q es cs _ (hg.below HB0.out) hr hq (RI.below hd HB0.out) hc)
  clear hg hr hd hc
  go_enter Tryz.func160, Tryz.ntmps160
  go_wp2_with fail
  refine HBu.out.mono ?_
  rintro e w1 ⟨vo, vl, left, rfl, hl, hb, ht⟩
  have HB := Lib.hid (HB0.out.trans (hb.mono (by simp)))
  obtain ⟨A3, c3, rfl, -, -, -⟩ := hl.open_
  have HT := Lib.hid ht
  clear hl hb ht
  go_wp2
  refine bodyPost_ret (results_tmp2 rfl _ _ _) rfl ?_
  exact ⟨((left.length : Int) == 0), rfl, HB.out, by rw [← HT.out, beq_iff_eq]; simp⟩
set_option maxRecDepth 100000 in
set_option maxHeartbeats 2000000 in
theorem calm_any (g d : Value) (n q : Nat) (es : List Tri) (cs : List Int) (w : World) (hg : GV w g n es) (hr : Rt n es) (hq : q < n) (hd : RI w d cs) (hc : Cf n q cs) :
    Calls Tryz.prog 125 #[g, .int .i64 (q : Int), d] w fun e w' => ∃ ok, e = .returned (.bool ok) ∧ Below w.heap.size w w' ∧ (ok = true ↔ Tight n (wgt es) q (fnD cs)) := by
  obtain ⟨A, c, rfl, -, -, -⟩ := hg.open_
  obtain ⟨A2, c2, rfl, -, -, -⟩ := hd.open_
  have HB0 := Lib.hid (below_alloc w (.cells #[.int .i64 (n : Int), .slice A es.length c] 24))
  have HSu := Lib.hid (Superstable_any _ _ n q es cs _ (hg.below HB0.out) hr hq (RI.below hd HB0.out) hc)
  clear hg hr hd hc
  go_enter Tryz.func125, Tryz.ntmps125
  go_wp2_with fail
  refine HSu.out.mono ?_
  rintro e w1 ⟨ok, rfl, hb, ht⟩
  have HB := Lib.hid (HB0.out.trans (hb.mono (by simp)))
  have HT := Lib.hid ht
  clear hb ht
  cases ok
  all_goals
    go_wp2
    go_ret
    exact ⟨_, rfl, HB.out, by simpa using HT.out⟩
end Go.Proofs.YtefggpdobjboeaaGreat

namespace Go.Proofs.YtefggpdobjboeaaGreat

theorem mask_ex (n : Nat) (A : Nat → Bool) : ∃ m, m < 2 ^ n ∧ ∀ v, v < n → m.testBit v = A v := by
  induction n with
  | zero => exact ⟨0, by simp, fun v hv => by omega⟩
  | succ n ih =>
    obtain ⟨m, hm, h⟩ := ih
    cases hA : A n
    · refine ⟨m, by rw [Nat.pow_succ]; omega, fun v hv => ?_⟩
      by_cases e : v = n
      · subst e; rw [hA]; exact Nat.testBit_lt_two_pow hm
      · exact h v (by omega)
    · refine ⟨2 ^ n + m, by rw [Nat.pow_succ]; omega, fun v hv => ?_⟩
      by_cases e : v = n
      · subst e; rw [hA, Nat.testBit_two_pow_add_eq, Nat.testBit_lt_two_pow hm]; rfl
      · rw [Nat.testBit_two_pow_add_gt (by omega)]; exact h v (by omega)
def mayN (n : Nat) (es : List Tri) (cs : List Int) (m : Nat) : Bool := (List.range n).all fun v => !m.testBit v || decide (outw n (wgt es) (fun u => m.testBit u) v ≤ cs.getD v 0)
/-- Tightness by trying all sets. -/
def tightB (n q : Nat) (es : List Tri) (cs : List Int) : Bool := (List.range (2 ^ n)).all fun m => m == 0 || m.testBit q || !mayN n es cs m
theorem outw_congr {n : Nat} {w : Nat → Nat → Int} {A A' : Nat → Bool} (h : ∀ u, u < n → A u = A' u) (v : Nat) : outw n w A v = outw n w A' v := by
  unfold outw
  exact sumN_congr fun u hu => by rw [h u hu]
theorem tightB_iff {n q : Nat} {es : List Tri} {cs : List Int} (hq : q < n) : tightB n q es cs = true ↔ Tight n (wgt es) q (fnD cs) := by
  unfold tightB
  rw [List.all_eq_true]
  constructor
  · intro h A hAq hA
    obtain ⟨m, hm, hmA⟩ := mask_ex n A
    obtain ⟨x, hx, hxA⟩ := hA
    have h1 := h m (List.mem_range.2 hm)
    have hm0 : m ≠ 0 := by
      rintro rfl
      have := hmA x hx
      rw [hxA] at this
      simp at this
    simp only [Bool.or_eq_true, beq_iff_eq, Bool.not_eq_true'] at h1
    rcases h1 with (h1 | h1) | h1
    · exact absurd h1 hm0
    · rw [hmA q hq, hAq] at h1; cases h1
    · unfold mayN at h1
      rw [List.all_eq_false] at h1
      obtain ⟨v, hv, hh⟩ := h1
      have hv := List.mem_range.1 hv
      simp only [Bool.or_eq_true, Bool.not_eq_true', decide_eq_true_eq, not_or, Bool.not_eq_false] at hh
      refine ⟨v, hv, by rw [← hmA v hv]; exact hh.1, ?_⟩
      rw [outw_congr (A' := fun u => m.testBit u) (fun u hu => (hmA u hu).symm)]
      unfold fnD
      omega
  · intro h m hm
    have hm := List.mem_range.1 hm
    simp only [Bool.or_eq_true, beq_iff_eq, Bool.not_eq_true']
    by_cases h0 : m = 0
    · exact .inl (.inl h0)
    · cases hq1 : m.testBit q
      · right
        obtain ⟨x, hx⟩ := Nat.exists_testBit_of_ne_zero h0
        have hxn : x < n := by
          apply Classical.byContradiction
          intro hn
          have := Nat.testBit_lt_two_pow (Nat.lt_of_lt_of_le hm (Nat.pow_le_pow_right (by omega) (show n ≤ x by omega)))
          rw [this] at hx; cases hx
        obtain ⟨v, hv, hvA, hlt⟩ := h (fun u => m.testBit u) hq1 ⟨x, hxn, hx⟩
        unfold mayN
        rw [List.all_eq_false]
        refine ⟨v, List.mem_range.2 hv, ?_⟩
        simp only [Bool.or_eq_true, Bool.not_eq_true', decide_eq_true_eq, not_or, Bool.not_eq_false]
        unfold fnD at hlt
        exact ⟨hvA, by omega⟩
      · exact .inl (.inr rfl)
/-- The least numbers at v for which what follows is tried. -/
def enumK (p : List Int → Bool) (f : List Int → List (List Int)) (v : Nat) (cs : List Int) : Nat → Nat → List (List Int)
  | 0, _ => []
  | fuel + 1, k => if p (cs.set v (k : Int)) then f (cs.set v (k : Int)) ++ enumK p f v cs fuel (k + 1) else []
def enumF (p : List Int → Bool) (q : Nat) : Nat → Nat → List Int → List (List Int)
  | 0, _, cs => [cs]
  | m + 1, v, cs => if v = q then enumF p q m (v + 1) cs else enumK p (enumF p q m (v + 1)) v cs 64 0
theorem tight_lt {n q v : Nat} {es : List Tri} {cs : List Int} (hr : Rt n es) (ht : Tight n (wgt es) q (fnD cs)) (hv : v < n) (hvq : v ≠ q) : cs.getD v 0 < 9 := by
  obtain ⟨u, hu, hA, hlt⟩ := ht (fun x => decide (x = v)) (by simp; exact fun e => hvq e.symm) ⟨v, hv, by simp⟩
  simp only [decide_eq_true_eq] at hA
  subst hA
  have h1 : outw n (wgt es) (fun x => decide (x = u)) u ≤ multS es := by
    have e := outw_not n (wgt es) (fun x => !decide (x = u)) u
    simp only [Bool.not_not] at e
    rw [e, join_edges hr.ed.ends]
    exact (joinE_le hr.ed.pos _ u).2
  have := hr.m9
  unfold fnD at hlt
  omega
end Go.Proofs.YtefggpdobjboeaaGreat
