/- Contracts of burning: Burn, Superstable; superstable's calm.
   Contracts of burning's Superstable and of superstable's calm.
   All tight configurations, one after the other. No program in sight.
   Contract of superstable's configurations: the closure from.
   Contract of superstable's configurations: the iterator. -/
import Derived.Test.YtjfggodnfoknfaaGreatDoorM15
set_option maxRecDepth 100000
set_option maxHeartbeats 16000000
namespace Go.Proofs.YtjfggodnfoknfaaGreatDoor
open Go.RowKit Go.Shelf
attribute [local go_sem] Oper.semAt_some

theorem burnw_tight {n q : Nat} {es : List Tri} {cs : List Int} {bl : List Bool} (hb : BurnW n q es cs bl) (hc : ∀ u, u < n → catchB n es cs bl u = false) : leftV bl n = [] ↔ Tight n (wgt es) q (fnD cs) := by
  rw [leftV_nil]
  constructor
  · intro hall
    exact tight_of_burnt fun A hA hl v hv => hb.2.2 A hA hl v hv (hall v hv)
  · intro ht u hu
    apply Classical.byContradiction
    intro hne
    obtain ⟨v, hv, hA, hlt⟩ := ht (fun x => !fnB bl x) (by simp [hb.2.1]) ⟨u, hu, by simpa using hne⟩
    rw [outw_not] at hlt
    have h := hc v hv
    unfold catchB at h
    have hf : fnB bl v = false := by simpa using hA
    rw [hf] at h
    simp only [Bool.not_false, Bool.true_and, decide_eq_false_iff_not] at h
    exact h hlt
theorem Fr.grownG {Bs : List Nat} {w W W' : World} {row : Option Nat} (h : Fr Bs w W) (hg : W.grownBy W' row) (hr : ∀ k, row = some k → w.heap.size ≤ k) : Fr Bs w W' :=
  ⟨hg.os.trans h.os, hg.tape.trans h.tape, hg.output.trans h.output, Nat.le_trans h.size hg.size, fun k hk hn => (hg.block k (by have := h.size; omega) (fun e => by have := hr k e.symm; omega)).trans (h.block k hk hn)⟩
/-- What holds while the order of burning is written down. -/
def BnI (w0 : World) (B ob b hb gd q : Nat) (pre : List Nat) (W : World) : Prop :=
  ∃ g cap, BL W ob 25 [.slice (some ⟨g, 0, none⟩) (pre.length + 1) cap] ∧ OI W B (.slice (some ⟨g, 0, none⟩) (pre.length + 1) cap) ((q : Int) :: pre.map fun x : Nat => (x : Int)) ∧ (g ≠ hb ∧ g ≠ b ∧ g ≠ gd) ∧ Fr [b] w0 W
theorem BnI.fr {w0 : World} {B ob b hb gd q : Nat} {pre : List Nat} {A C : World} (h : BnI w0 B ob b hb gd q pre A) (hob : ob ≠ b) (hr : Fr [b] A C) : BnI w0 B ob b hb gd q pre C := by
  obtain ⟨g, cap, h1, h2, h3, h5⟩ := h
  exact ⟨g, cap, h1.fr hr (by simpa using hob), OV.fr h2 hr (fun g' hg => by simp only [Value.ownBlock, Option.some.injEq] at hg; subst hg; simpa using h3.2.1), h3, h5.trans hr⟩
theorem own_lit (w : World) (z : Int) : OI (w.alloc (.cells #[.int .i64 z] 3)) w.heap.size (.slice (some ⟨w.heap.size, 0, none⟩) 1 1) [z] := by
  refine ⟨⟨by simp, .inr ⟨w.heap.size, 1, #[.int .i64 z], by simp, Nat.le_refl _, heap_alloc_new w _, by simp, by unfold maxLen; omega, by simp, by simp⟩⟩, by simp⟩
/-- An own list with one more int behind it. -/
theorem run_append_one {P : Program} (w : World) (t ty e : TypeId) (i : TypeInfo) (z : Value) (ht : P.underlying t = some (.slice e)) (hi : P.info? e = some i) (hz : i.zero = some z)
    (hsize : i.size = 1) (hby : i.bytes = 8) (hzs : z.cells.size = 1) (B : Nat) (v : Value) (us : List Value) (hown : OV w B e v us) (u : Value) (h1 : u.oneCell' = true) (hb : us.length ≤ 1000) (hB : B ≤ w.heap.size) :
    ∃ g cap w', (Builtin.append_ #[t, t] ty #[v, .slice (some ⟨w.heap.size, 0, none⟩) 1 1]).run P (w.alloc (.cells #[u] e)) = .ok (.slice (some ⟨g, 0, none⟩) (us.length + 1) cap) w' ∧
      OV w' B e (.slice (some ⟨g, 0, none⟩) (us.length + 1) cap) (us ++ [u]) ∧ (w.alloc (.cells #[u] e)).grownBy w' v.ownBlock ∧ (v.ownBlock = some g ∨ g = w.heap.size + 1) := by
  obtain ⟨v', w', hrun, ho, hg, hat⟩ := run_appendV (P := P) (w.alloc (.cells #[u] e)) t ty e i z 8 ht hi hz hsize hby hzs B v us (OV.below hown (below_alloc w _)) _ [u] (RV.ones w u e) (one_ones h1) (by simp; omega) (by simp; omega) (by simp; omega)
  obtain ⟨g, cap, rfl, -, -⟩ := OV.shape ho (by simp)
  refine ⟨g, cap, w', by simpa using hrun, by simpa using ho, hg, ?_⟩
  rcases hat with h | h
  · exact .inl (by rw [← h]; rfl)
  · right
    simp only [Value.ownBlock, World.size_alloc, Option.some.injEq] at h
    exact h
theorem Burn_any (g d : Value) (n q : Nat) (es : List Tri) (cs : List Int) (w : World) (hg : GV w g n es) (hr : Rt n es) (hq : q < n) (hd : RI w d cs) (hc : Cf n q cs) :
    Calls Tryz.prog 151 #[g, .int .i64 (q : Int), d] w fun e w' => ∃ vo vl left, e = .returned (.tuple #[vo, vl, .int .i64 0]) ∧ RI w' vl left ∧ Below w.heap.size w w' ∧ (left = [] ↔ Tight n (wgt es) q (fnD cs)) := by
  obtain ⟨A, c, rfl, -, -, -⟩ := hg.open_
  obtain ⟨A2, c2, rfl, -, hlb, -⟩ := hd.open_
  obtain ⟨i0, hi, hz0, hz1, hz2⟩ := info_parts int_info
  obtain ⟨W0, hW0⟩ : ∃ W0, W0 = w.alloc (.cells #[.int .i64 (n : Int), .slice A es.length c] 24) := ⟨_, rfl⟩
  have hb0 : Below w.heap.size w W0 := by rw [hW0]; exact below_alloc w _
  have hbx : BL W0 w.heap.size 24 [.int .i64 (n : Int), .slice A es.length c] := by rw [hW0]; exact BL.new' w _ _
  have c0 := hbx.cell 0
  have c1 := hbx.cell 1
  rw [hW0] at c0 c1
  have HCk := Lib.hid (bCheck_ok _ _ n q es cs W0 (hg.below hb0) hr hq (RI.below hd hb0) hc)
  have HG0 := Lib.hid (hg.below hb0)
  have HD0 := Lib.hid (RI.below hd hb0)
  have HX0 := Lib.hid hbx
  have HB0 := Lib.hid hb0
  have HW0 := Lib.hid hW0
  have HR := Lib.hid hr
  have HCf := Lib.hid hc
  clear hg hd hb0 hW0 hbx hr hc
  refine (callsIn_wide (n := 3)).1 ?_
  refine callsIn_of_wp_marks Tryz.func151 rfl trivial ?_ rfl
  refine wpIn_wide.2 ?_
  simp only [Tryz.ntmps151, List.size_toArray, List.length_cons, List.length_nil, Nat.reduceAdd, Nat.reduceSub, Array.replicate_succ, Array.replicate_zero, List.push_toArray, List.append_toArray, List.nil_append, List.cons_append]
  go_wp2_with fail
  rw [← HW0.out]
  refine HCk.out.mono ?_
  rintro e w1 ⟨rfl, hb1⟩
  have d0 := (HX0.out.bel hb1).cell 0
  have d1 := (HX0.out.bel hb1).cell 1
  have HKi := Lib.hid (kindled_any _ _ n q es cs w1 (HG0.out.below hb1) HR.out hq (RI.below HD0.out hb1) HCf.out.len)
  have HB1 := Lib.hid (HB0.out.trans (hb1.mono HB0.out.size))
  clear hb1 c0 c1
  go_wp2_with fail
  refine HKi.out.mono ?_
  rintro e w2 ⟨b, tl, gd, cap, rfl, hbB, hgb, hwd, htt, hri, hb2⟩
  have HWD := Lib.hid hwd
  have HTT := Lib.hid htt
  have HRI := Lib.hid hri
  have HB2 := Lib.hid (HB1.out.trans (hb2.mono HB1.out.size))
  have hbl := hwd.1.lt
  have hz1w := HB1.out.size
  clear hwd htt hri hb2 d0 d1 HKi HCk
  go_wp2_with fail
  obtain ⟨W4, hW4⟩ : ∃ W4, W4 = (w2.alloc (.cells #[.int .i64 (q : Int)] 3)).alloc (.cells #[.slice (some ⟨w2.heap.size, 0, none⟩) 1 1] 25) := ⟨_, rfl⟩
  have hb4 : Below w2.heap.size w2 W4 := by rw [hW4]; exact (below_alloc w2 _).alloc (by simp) _
  have hz4 : W4.heap.size = w2.heap.size + 2 := by rw [hW4]; simp
  have ho4 : OI W4 w2.heap.size (.slice (some ⟨w2.heap.size, 0, none⟩) 1 1) [(q : Int)] := by
    rw [hW4]
    exact OI.below (own_lit w2 (q : Int)) (below_alloc _ _)
  have hx4 : BL W4 (w2.heap.size + 1) 25 [.slice (some ⟨w2.heap.size, 0, none⟩) 1 1] := by
    rw [hW4]
    have := BL.new' (w2.alloc (.cells #[.int .i64 (q : Int)] 3)) #[.slice (some ⟨w2.heap.size, 0, none⟩) 1 1] 25
    rwa [World.size_alloc] at this
  have HW4 := Lib.hid hW4
  have HB4 := Lib.hid hb4
  have HO4 := Lib.hid ho4
  have HX4 := Lib.hid hx4
  clear hW4 hb4 ho4 hx4
  rw [← HW4.out]
  refine (fireF_any b _).mono ?_
  rintro e w5 ⟨rfl, rfl⟩
  go_wp2
  obtain ⟨W5, hW5⟩ : ∃ W5, W5 = W4.alloc (.cells #[.pointer (some ⟨b, 0, none⟩)] 230) := ⟨_, rfl⟩
  have hb5 : Below W4.heap.size W4 W5 := by rw [hW5]; exact below_alloc W4 _
  have hz5 : W5.heap.size = W4.heap.size + 1 := by rw [hW5]; simp
  have HWS : Hid (WS (w2.heap.size + 2) b gd cap n tl cs (blOf q []) W5) := by
    refine ⟨?_, (HWD.out.bel HB4.out).bel hb5, RI.below (RI.below HRI.out HB4.out) hb5⟩
    rw [hW5, ← hz4]; exact BL.new' W4 _ _
  have HI5 : Hid (BnI w2 w2.heap.size (w2.heap.size + 1) b (w2.heap.size + 2) gd q [] W5) :=
    ⟨w2.heap.size, 1, HX4.out.bel hb5, OI.below HO4.out hb5, ⟨by omega, by omega, by omega⟩, ((Fr.refl _ w2).below HB4.out).below hb5⟩
  have HB5 := Lib.hid (HB2.out.trans ((HB4.out.trans (hb5.mono HB4.out.size)).mono HB2.out.size))
  have HZ4 := Lib.hid hz4
  have HZ5 := Lib.hid hz5
  rw [← hW5]
  clear hW5 hb5 hz4 hz5
  refine (wpIn_wide (n := 3)).1 ?_
  refine wpIn_rangeFunc_iterW (gf := 192) (lb := #[.pointer (some ⟨w2.heap.size + 2, 0, none⟩)]) rfl (enters_of Tryz.func192 (by kernel_rfl) rfl)
    (fire1_iter (w2.heap.size + 2) b gd cap n q tl cs es HR.out HTT.out hq HCf.out.len (by omega)) (fun _ => rfl) ?hR LkK_trans ?hKp (fun _ _ _ _ _ h _ => h) ?hSk (fun _ _ _ _ _ _ => trivial) (BnI w2 w2.heap.size (w2.heap.size + 1) b (w2.heap.size + 2) gd q) (fun _ _ _ => False) ?hI (fun _ _ _ _ _ h _ => h) ?hIR (fun _ _ _ _ h _ => h) ?hpre ?h0
    ?a1 ?assign ?body ?done ?stop
  case assign =>
    intro l x W K' hK'
    gi_wp2
    exact hK'
  case hR => intro A C h hs; have := HZ5.out; have := HZ4.out; exact ⟨h.block _ (by omega) (by simp; omega), h.block _ (by omega) (by simp; omega)⟩
  case hKp => intro W r o _; have := HZ5.out; have := HZ4.out; exact LkK_put W _ (by simp; omega)
  case hSk =>
    rintro xs W r o ⟨k1, k2, k3⟩ hl
    have := HZ5.out; have := HZ4.out
    exact ⟨k1.keep (LkK_put W o (by simp; omega)), k2, k3⟩
  case hI =>
    rintro pre W r o ⟨g, cap', k1, k2, k3, k5⟩ hl
    exact ⟨g, cap', k1.putLoop hl o, OV.putLoop' k2 hl o, k3, k5.putLoop (by have := HZ5.out; have := HZ4.out; omega) o⟩
  case hIR => intro pre A C h hr; exact h.fr (by omega) hr
  case hpre => intro r; exact HWS.out.below ((below_alloc W5 _).alloc (by simp) _)
  case h0 => intro r; exact HI5.out.fr (by omega) ((Fr.refl _ W5).below ((below_alloc W5 (.deferred (some []))).alloc (by simp) (.loop r)))
  case stop => rintro c pre W _ h _; exact h.elim
  case done =>
    rintro xs W ⟨hws, hbw, hno⟩ ⟨g, cap', k1, k2, k3, k5⟩ hD
    have HUn := Lib.hid (unburntW_any b n tl _ (blOf q xs) W.drew (by have := HR.out.n6; omega) (hws.2.1.drewN 1))
    have c0 := k1.cell 0
    have hol := k1.lt
    have HK : Hid (∀ w1 : World, Below W.drew.heap.size W.drew w1 → w1.cell? ⟨w2.heap.size + 1, 0, none⟩ = some (.slice (some ⟨g, 0, none⟩) (xs.length + 1) cap')) := fun w1 hb => (hb.cell (p := ⟨w2.heap.size + 1, 0, none⟩) hol).trans c0
    have HTi := Lib.hid (burnw_tight hbw hno)
    have HD := Lib.hid hD
    have HK5 := Lib.hid k5
    clear hws hbw hno k1 k2 k3 k5 hD
    go_wp2_with fail
    have HK0 : Hid (W.drew.cell? ⟨w2.heap.size + 1, 0, none⟩ = some (.slice (some ⟨g, 0, none⟩) (xs.length + 1) cap')) := c0
    go_region_held3 (fun W' : World => W'.cell? ⟨w2.heap.size + 1, 0, none⟩ = some (.slice (some ⟨g, 0, none⟩) (xs.length + 1) cap')) (first | exact HK0.out | exact HKw.out) (first | (go_at_call 174; refine HUn.out.mono ?_; rintro e w6 ⟨vl, rfl, ho6, hb6⟩; have HKw := Lib.hid (HK.out w6 hb6)))
    all_goals
      have HO6 := Lib.hid ho6
      have HB6 := Lib.hid hb6
      clear ho6 hb6
      go_wp2_with fail
      refine leaves_marks (B := w.heap.size) [_] _ ⟨⟨_, rfl, ?_, ?_, by simp⟩, trivial⟩ fun w' hs => ⟨_, results_tmp3 rfl _ _ _, _, vl, _, rfl, (OV.shut HO6.out hs).rv, ?_, HTi.out⟩
      · have := HZ5.out; have := HZ4.out; have := HB2.out.size; omega
      · exact (HB6.out.block _ (by have := lt_of_block HD.out; simpa using this)).trans HD.out
      · refine Below.shut ?_ hs
        have h6 : Fr [b] w2 w6 := (HK5.out.drewN 1).below HB6.out
        exact h6.toBelow HB2.out (by intro b' hb'; simp only [List.mem_cons, List.not_mem_nil, or_false] at hb'; omega)
  case body =>
    rintro l pre x W r ⟨g, cap', k1, k2, k3, k5⟩ ⟨hx, hpl⟩ hl hd
    have hz4 := HZ4.out
    have hz5 := HZ5.out
    obtain ⟨g2, cap2, w', hrun, hown, hgr, hat⟩ := run_append_one (P := Tryz.prog) W 25 25 3 i0 _ Tryz.underlying25 hi hz0 hz1 hz2 rfl w2.heap.size _ _ k2 (.int .i64 (x : Int)) rfl (by simp; omega) (by have := k5.size; omega)
    rw [show ((((q : Int) :: pre.map fun x : Nat => (x : Int)).map (Value.int .i64)).length + 1) = pre.length + 2 by simp] at hrun hown
    have hog : w2.heap.size + 1 ≠ g := BL.ne_own k1 k2 (by decide)
    have ho2 : w2.heap.size + 1 ≠ g2 := by
      rcases hat with h | h
      · simp only [Value.ownBlock, Option.some.injEq] at h; omega
      · have := k1.lt; omega
    have hgW := (k2.1.lt g rfl).2
    have hk1 : BL w' (w2.heap.size + 1) 25 [.slice (some ⟨g, 0, none⟩) (pre.length + 1) cap'] := BL.grown (k1.alloc _) hgr (by simp only [Value.ownBlock, ne_eq, Option.some.injEq]; omega)
    have c4 := k1.cell 0
    have c5 := hk1.cell 0
    have f5 := hk1.frozen 0
    have hfin : ∀ j, j < W.heap.size → j ≠ g → j ≠ w2.heap.size + 1 → (w'.setCell ⟨w2.heap.size + 1, 0, none⟩ (.slice (some ⟨g2, 0, none⟩) (pre.length + 2) cap2)).heap[j]? = W.heap[j]? := fun j hj h1 h2 =>
      (heap_setCell_other w' _ j _ h2).trans ((hgr.block j (by rw [World.size_alloc]; omega) (by simp only [Value.ownBlock, ne_eq, Option.some.injEq]; omega)).trans (Below.heap_alloc W _ j hj))
    have hszf : W.heap.size ≤ (w'.setCell ⟨w2.heap.size + 1, 0, none⟩ (.slice (some ⟨g2, 0, none⟩) (pre.length + 2) cap2)).heap.size := by have := hgr.size; simp at this ⊢; omega
    have hlb := lt_of_block hl
    have hdb := lt_of_block hd
    have hlg : W5.heap.size + 1 ≠ g := by rintro rfl; obtain ⟨_, hh, _⟩ := k2.block_ (g := W5.heap.size + 1) rfl; rw [hl] at hh; cases hh
    have hdg : W5.heap.size ≠ g := by rintro rfl; obtain ⟨_, hh, _⟩ := k2.block_ (g := W5.heap.size) rfl; rw [hd] at hh; cases hh
    have hk5s := k5.size
    have HFin : Hid (KeepLD W5.heap.size W (w'.setCell ⟨w2.heap.size + 1, 0, none⟩ (.slice (some ⟨g2, 0, none⟩) (pre.length + 2) cap2)) ∧ LkK [w2.heap.size + 2, b, gd] W (w'.setCell ⟨w2.heap.size + 1, 0, none⟩ (.slice (some ⟨g2, 0, none⟩) (pre.length + 2) cap2)) ∧
        BnI w2 w2.heap.size (w2.heap.size + 1) b (w2.heap.size + 2) gd q (pre ++ [x]) (w'.setCell ⟨w2.heap.size + 1, 0, none⟩ (.slice (some ⟨g2, 0, none⟩) (pre.length + 2) cap2))) := by
      refine ⟨⟨hfin _ hdb hdg (by omega), hfin _ hlb hlg (by omega)⟩, ⟨hszf, fun j hj => ?_⟩, ⟨g2, cap2, ?_, ?_, ?_, ?_⟩⟩
      · simp only [List.mem_cons, List.not_mem_nil, or_false] at hj
        exact hfin j (by omega) (by omega) (by omega)
      · have h := hk1.set 0 (.slice (some ⟨g2, 0, none⟩) (pre.length + 2) cap2)
        simpa using h
      · have h := OI.setOther (p := ⟨w2.heap.size + 1, 0, none⟩) (zs := (q : Int) :: (pre ++ [x]).map fun x : Nat => (x : Int)) (by simpa [OI] using hown) (by simp; omega) (.slice (some ⟨g2, 0, none⟩) (pre.length + 2) cap2)
        simpa using h
      · rcases hat with h | h
        · simp only [Value.ownBlock, Option.some.injEq] at h
          omega
        · omega
      · exact (Fr.grownG (k5.below (below_alloc W _)) hgr (fun k hk => by simp only [Value.ownBlock, Option.some.injEq] at hk; have := (k2.1.lt g rfl).1; omega)).setCell (p := ⟨w2.heap.size + 1, 0, none⟩) (.inr (by simp)) _
    clear hfin hk1 k1 k2 k5 hl hd hown hgr hat
    repeat (first | (refine wpListIn_append rfl _ _ _ rfl _ _ (by simp [Act.eval, Act.put]; done) (by simp [Act.eval, Act.put]; done) _ _ hrun ?_) | gi_step)
    gi_wp2
    exact HFin.out
end Go.Proofs.YtjfggodnfoknfaaGreatDoor

namespace Go.Proofs.YtjfggodnfoknfaaGreatDoor
open Go.RowKit Go.Shelf

theorem Superstable_any (g d : Value) (n q : Nat) (es : List Tri) (cs : List Int) (w : World) (hg : GV w g n es) (hr : Rt n es) (hq : q < n) (hd : RI w d cs) (hc : Cf n q cs) :
    Calls Tryz.prog 115 #[g, .int .i64 (q : Int), d] w fun e w' => ∃ ok, e = .returned (.tuple #[.bool ok, .int .i64 0]) ∧ Below w.heap.size w w' ∧ (ok = true ↔ Tight n (wgt es) q (fnD cs)) := by
  obtain ⟨A, c, rfl, -, -, -⟩ := hg.open_
  obtain ⟨A2, c2, rfl, -, -, -⟩ := hd.open_
  have HB0 := Lib.hid (below_alloc w (.cells #[.int .i64 (n : Int), .slice A es.length c] 24))
  have HBu := Lib.hid (Burn_any _ _ n q es cs _ (hg.below HB0.out) hr hq (RI.below hd HB0.out) hc)
  clear hg hr hd hc
  go_enter Tryz.func115, Tryz.ntmps115
  go_wp2_with fail
  refine HBu.out.mono ?_
  rintro e w1 ⟨vo, vl, left, rfl, hl, hb, ht⟩
  have HB := Lib.hid (HB0.out.trans (hb.mono (by simp)))
  obtain ⟨A3, c3, rfl, -, -, -⟩ := hl.open_
  have HT := Lib.hid ht
  clear hl hb ht
  go_wp2
  refine bodyPost_ret (results_tmp2 rfl _ _ _) rfl ?_
  exact ⟨((left.length : Int) == 0), rfl, HB.out, by rw [← HT.out, beq_iff_eq]; simp⟩
theorem calm_any (g d : Value) (n q : Nat) (es : List Tri) (cs : List Int) (w : World) (hg : GV w g n es) (hr : Rt n es) (hq : q < n) (hd : RI w d cs) (hc : Cf n q cs) :
    Calls Tryz.prog 77 #[g, .int .i64 (q : Int), d] w fun e w' => ∃ ok, e = .returned (.bool ok) ∧ Below w.heap.size w w' ∧ (ok = true ↔ Tight n (wgt es) q (fnD cs)) := by
  obtain ⟨A, c, rfl, -, -, -⟩ := hg.open_
  obtain ⟨A2, c2, rfl, -, -, -⟩ := hd.open_
  have HB0 := Lib.hid (below_alloc w (.cells #[.int .i64 (n : Int), .slice A es.length c] 24))
  have HSu := Lib.hid (Superstable_any _ _ n q es cs _ (hg.below HB0.out) hr hq (RI.below hd HB0.out) hc)
  clear hg hr hd hc
  go_enter Tryz.func77, Tryz.ntmps77
  go_wp2_with fail
  refine HSu.out.mono ?_
  rintro e w1 ⟨ok, rfl, hb, ht⟩
  have HB := Lib.hid (HB0.out.trans (hb.mono (by simp)))
  have HT := Lib.hid ht
  clear hb ht
  cases ok
  all_goals
    go_wp2
    go_ret
    exact ⟨_, rfl, HB.out, by simpa using HT.out⟩
end Go.Proofs.YtjfggodnfoknfaaGreatDoor

namespace Go.Proofs.YtjfggodnfoknfaaGreatDoor

theorem mask_ex (n : Nat) (A : Nat → Bool) : ∃ m, m < 2 ^ n ∧ ∀ v, v < n → m.testBit v = A v := by
  induction n with
  | zero => exact ⟨0, by simp, fun v hv => by omega⟩
  | succ n ih =>
    obtain ⟨m, hm, h⟩ := ih
    cases hA : A n
    · refine ⟨m, by rw [Nat.pow_succ]; omega, fun v hv => ?_⟩
      by_cases e : v = n
      · subst e; rw [hA]; exact Nat.testBit_lt_two_pow hm
      · exact h v (by omega)
    · refine ⟨2 ^ n + m, by rw [Nat.pow_succ]; omega, fun v hv => ?_⟩
      by_cases e : v = n
      · subst e; rw [hA, Nat.testBit_two_pow_add_eq, Nat.testBit_lt_two_pow hm]; rfl
      · rw [Nat.testBit_two_pow_add_gt (by omega)]; exact h v (by omega)
def mayN (n : Nat) (es : List Tri) (cs : List Int) (m : Nat) : Bool := (List.range n).all fun v => !m.testBit v || decide (outw n (wgt es) (fun u => m.testBit u) v ≤ cs.getD v 0)
/-- Tightness by trying all sets. -/
def tightB (n q : Nat) (es : List Tri) (cs : List Int) : Bool := (List.range (2 ^ n)).all fun m => m == 0 || m.testBit q || !mayN n es cs m
theorem outw_congr {n : Nat} {w : Nat → Nat → Int} {A A' : Nat → Bool} (h : ∀ u, u < n → A u = A' u) (v : Nat) : outw n w A v = outw n w A' v := by
  unfold outw
  exact sumN_congr fun u hu => by rw [h u hu]
theorem tightB_iff {n q : Nat} {es : List Tri} {cs : List Int} (hq : q < n) : tightB n q es cs = true ↔ Tight n (wgt es) q (fnD cs) := by
  unfold tightB
  rw [List.all_eq_true]
  constructor
  · intro h A hAq hA
    obtain ⟨m, hm, hmA⟩ := mask_ex n A
    obtain ⟨x, hx, hxA⟩ := hA
    have h1 := h m (List.mem_range.2 hm)
    have hm0 : m ≠ 0 := by
      rintro rfl
      have := hmA x hx
      rw [hxA] at this
      simp at this
    simp only [Bool.or_eq_true, beq_iff_eq, Bool.not_eq_true'] at h1
    rcases h1 with (h1 | h1) | h1
    · exact absurd h1 hm0
    · rw [hmA q hq, hAq] at h1; cases h1
    · unfold mayN at h1
      rw [List.all_eq_false] at h1
      obtain ⟨v, hv, hh⟩ := h1
      have hv := List.mem_range.1 hv
      simp only [Bool.or_eq_true, Bool.not_eq_true', decide_eq_true_eq, not_or, Bool.not_eq_false] at hh
      refine ⟨v, hv, by rw [← hmA v hv]; exact hh.1, ?_⟩
      rw [outw_congr (A' := fun u => m.testBit u) (fun u hu => (hmA u hu).symm)]
      unfold fnD
      omega
  · intro h m hm
    have hm := List.mem_range.1 hm
    simp only [Bool.or_eq_true, beq_iff_eq, Bool.not_eq_true']
    by_cases h0 : m = 0
    · exact .inl (.inl h0)
    · cases hq1 : m.testBit q
      · right
        obtain ⟨x, hx⟩ := Nat.exists_testBit_of_ne_zero h0
        have hxn : x < n := by
          apply Classical.byContradiction
          intro hn
          have := Nat.testBit_lt_two_pow (Nat.lt_of_lt_of_le hm (Nat.pow_le_pow_right (by omega) (show n ≤ x by omega)))
          rw [this] at hx; cases hx
        obtain ⟨v, hv, hvA, hlt⟩ := h (fun u => m.testBit u) hq1 ⟨x, hxn, hx⟩
        unfold mayN
        rw [List.all_eq_false]
        refine ⟨v, List.mem_range.2 hv, ?_⟩
        simp only [Bool.or_eq_true, Bool.not_eq_true', decide_eq_true_eq, not_or, Bool.not_eq_false]
        unfold fnD at hlt
        exact ⟨hvA, by omega⟩
      · exact .inl (.inr rfl)
/-- The least numbers at v for which what follows is tried. -/
def enumK (p : List Int → Bool) (f : List Int → List (List Int)) (v : Nat) (cs : List Int) : Nat → Nat → List (List Int)
  | 0, _ => []
  | fuel + 1, k => if p (cs.set v (k : Int)) then f (cs.set v (k : Int)) ++ enumK p f v cs fuel (k + 1) else []
def enumF (p : List Int → Bool) (q : Nat) : Nat → Nat → List Int → List (List Int)
  | 0, _, cs => [cs]
  | m + 1, v, cs => if v = q then enumF p q m (v + 1) cs else enumK p (enumF p q m (v + 1)) v cs 64 0
theorem tight_lt {n q v : Nat} {es : List Tri} {cs : List Int} (hr : Rt n es) (ht : Tight n (wgt es) q (fnD cs)) (hv : v < n) (hvq : v ≠ q) : cs.getD v 0 < 9 := by
  obtain ⟨u, hu, hA, hlt⟩ := ht (fun x => decide (x = v)) (by simp; exact fun e => hvq e.symm) ⟨v, hv, by simp⟩
  simp only [decide_eq_true_eq] at hA
  subst hA
  have h1 : outw n (wgt es) (fun x => decide (x = u)) u ≤ multS es := by
    have e := outw_not n (wgt es) (fun x => !decide (x = u)) u
    simp only [Bool.not_not] at e
    rw [e, join_edges hr.ed.ends]
    exact (joinE_le hr.ed.pos _ u).2
  have := hr.m9
  unfold fnD at hlt
  omega
end Go.Proofs.YtjfggodnfoknfaaGreatDoor

namespace Go.Proofs.YtjfggodnfoknfaaGreatDoor
open Go.RowKit Go.Shelf
attribute [local go_sem] Oper.semAt_some

theorem yieldAt_any {m m' : Nat} {P : Program} {l : Nat} {args : Array Value} {W : World} {R : Ending → World → Prop} (h : YieldAt Fence.wide m P l args W R) : YieldAt Fence.wide m' P l args W R := by
  obtain ⟨fn, tmps, assign, body, h1, h2, h3⟩ := h
  exact ⟨fn, tmps, assign, body, h1, h2, fun c cs _ => h3 c cs (room_wide _)⟩
/-- What the closure from has captured: G0 the graph's box, Q0 the sink's, s the yield's, s + 2 the box of c, whose cells lie at s + 1, s + 3 its own. -/
structure CfS (G0 Q0 eb s n q l : Nat) (ve : Value) (es : List Tri) (cs : List Int) (W : World) : Prop where
  g : BL W G0 24 [.int .i64 (n : Int), ve]
  e : EB W ve es eb
  k : BL W Q0 3 [.int .i64 (q : Int)]
  y : BL W s 51 [.func (.yield l) #[] #[]]
  c : OI W (s + 1) (.slice (some ⟨s + 1, 0, none⟩) n n) cs
  b : BL W (s + 2) 26 [.slice (some ⟨s + 1, 0, none⟩) n n]
  f : BL W (s + 3) 72 [.func (.func 76) #[] #[.pointer (some ⟨G0, 0, none⟩), .pointer (some ⟨s, 0, none⟩), .pointer (some ⟨s + 2, 0, none⟩), .pointer (some ⟨Q0, 0, none⟩), .pointer (some ⟨s + 3, 0, none⟩)]]
theorem CfS.keep {G0 Q0 eb s n q l : Nat} {ve : Value} {es : List Tri} {cs : List Int} {W W' : World} (h : CfS G0 Q0 eb s n q l ve es cs W) (hk : LkK [G0, Q0, eb, s, s + 1, s + 2, s + 3] W W') : CfS G0 Q0 eb s n q l ve es cs W' :=
  ⟨(hk.2 _ (by simp)).trans h.g, h.e.keep hk.1 (hk.2 _ (by simp)), (hk.2 _ (by simp)).trans h.k, (hk.2 _ (by simp)).trans h.y, OV.heapEq h.c (hk.2 _ (by simp)), (hk.2 _ (by simp)).trans h.b, (hk.2 _ (by simp)).trans h.f⟩
theorem CfS.below {G0 Q0 eb s n q l : Nat} {ve : Value} {es : List Tri} {cs : List Int} {W W' : World} (h : CfS G0 Q0 eb s n q l ve es cs W) (hb : Below W.heap.size W W') : CfS G0 Q0 eb s n q l ve es cs W' :=
  ⟨h.g.bel hb, h.e.below hb, h.k.bel hb, h.y.bel hb, h.c.below hb, h.b.bel hb, h.f.bel hb⟩
theorem CfS.set {G0 Q0 eb s n q l : Nat} {ve : Value} {es : List Tri} {cs : List Int} {W : World} (h : CfS G0 Q0 eb s n q l ve es cs W) (hG : G0 < s) (hQ : Q0 < s) (he : eb < s) {v : Nat} (hv : v < cs.length) (x : Int) : CfS G0 Q0 eb s n q l ve es (cs.set v x) (W.setCell ⟨s + 1, v, none⟩ (.int .i64 x)) := by
  obtain ⟨-, -, -, -, est⟩ := OI.at' h.c hv
  exact ⟨h.g.set_other (by simp; omega) _, h.e.keep (by simp) (heap_setCell_other _ _ _ _ (by simp; omega)), h.k.set_other (by simp; omega) _, h.y.set_other (by simp) _, (est x).1, h.b.set_other (by simp) _, h.f.set_other (by simp) _⟩
/-- What comes with a configuration that is yielded. -/
def CfIt (s : Nat) (E : List (List Int)) (pre : List (Value × List Int)) (x : Value × List Int) (W : World) : Prop :=
  OI W (s + 4) x.1 x.2 ∧ s + 4 ≤ W.heap.size ∧ ∃ rest, pre.map (·.2) ++ x.2 :: rest = E
theorem gv_of {W : World} {n : Nat} {ve : Value} {es : List Tri} {eb : Nat} (h : EB W ve es eb) : GV W (.agg #[.int .i64 (n : Int), ve]) n es := ⟨ve, rfl, h.1⟩
theorem from_any (G0 Q0 eb s n q l : Nat) (ve : Value) (es : List Tri) (hr : Rt n es) (hq : q < n) (hG : G0 < s) (hQ : Q0 < s) (he : eb < s) (E : List (List Int)) (J Jx : List (Value × List Int) → World → Prop)
    (hJ : ∀ pre A B, J pre A → Fr [s + 1] A B → J pre B)
    (hY : ∀ (N : Nat) pre x W1, J pre W1 → CfIt s E pre x W1 → YieldAt Fence.wide N Tryz.prog l #[x.1] W1 fun e W' => (e = .returned (.bool true) ∧ J (pre ++ [x]) W' ∧ LkK [G0, Q0, eb, s, s + 1, s + 2, s + 3] W1 W') ∨ (e = .returned (.bool false) ∧ Jx (pre ++ [x]) W')) :
    ∀ (m v : Nat), v + m = n → ∀ (N : Nat) (cs : List Int) (pre : List (Value × List Int)) (W : World), Cf n q cs → (∀ u, v ≤ u → u < n → cs.getD u 0 = 0) → (∃ rest, pre.map (·.2) ++ (enumF (tightB n q es) q m v cs ++ rest) = E) → J pre W → CfS G0 Q0 eb s n q l ve es cs W →
      CallsIn Fence.wide N Tryz.prog 76 #[.int .i64 (v : Int), .pointer (some ⟨G0, 0, none⟩), .pointer (some ⟨s, 0, none⟩), .pointer (some ⟨s + 2, 0, none⟩), .pointer (some ⟨Q0, 0, none⟩), .pointer (some ⟨s + 3, 0, none⟩)] W fun e W' =>
        (e = .returned (.bool true) ∧ ∃ xs, xs.map (·.2) = enumF (tightB n q es) q m v cs ∧ J (pre ++ xs) W' ∧ CfS G0 Q0 eb s n q l ve es cs W') ∨ (e = .returned (.bool false) ∧ ∃ pre', Jx pre' W') := by
  intro m
  induction m with
  | zero =>
    intro v hvn N cs pre W hcf hz hE hj hw
    have hm : Tryz.prog.follows .mixedOrders = true := by kernel_rfl
    obtain rfl : v = n := by omega
    have c1 := hw.g.cell 0
    have c2 := hw.y.cell 0
    have c3 := hw.b.cell 0
    have hCl := Lib.hid (clone_shape _ cs W.drew (OV.rv (OV.below hw.c (Below.refl _ _).drew)) v hcf.len hr.n1)
    have HW := Lib.hid hw
    have HJ := Lib.hid hJ
    have HY := Lib.hid hY
    have HJW := Lib.hid hj
    have HE := Lib.hid hE
    clear hw hJ hY hj hE
    refine callsIn_of_wp Tryz.func76 rfl trivial ?_ rfl
    simp only [Tryz.ntmps76, List.size_toArray, List.length_cons, List.length_nil, Nat.reduceAdd, Nat.reduceSub, Array.replicate_succ, Array.replicate_zero, List.push_toArray, List.append_toArray, List.nil_append, List.cons_append]
    gi_wp2_with fail
    have HK2 : Hid (∀ w1 : World, Below W.drew.heap.size W.drew w1 → w1.cell? ⟨s, 0, none⟩ = some (.func (.yield l) #[] #[])) := fun w1 hb => (hb.cell (p := ⟨s, 0, none⟩) (block_lt_of_cell c2)).trans c2
    have HYs : Hid (∀ w1 gc cap, Below W.drew.heap.size W.drew w1 → OI w1 W.drew.heap.size (.slice (some ⟨gc, 0, none⟩) v cap) cs → YieldAt Fence.wide (N - 1) Tryz.prog l #[.slice (some ⟨gc, 0, none⟩) v cap] w1 fun e W' => ∃ bb, e = .returned (.bool bb) ∧ ((bb = true ∧ J (pre ++ [(.slice (some ⟨gc, 0, none⟩) v cap, cs)]) W' ∧ LkK [G0, Q0, eb, s, s + 1, s + 2, s + 3] w1 W') ∨ (bb = false ∧ Jx (pre ++ [(.slice (some ⟨gc, 0, none⟩) v cap, cs)]) W'))) := by
      intro w1 gc cap hb ho
      have hfl := HW.out.f.lt
      refine (HY.out (N - 1) pre (.slice (some ⟨gc, 0, none⟩) v cap, cs) w1 (HJ.out _ _ _ HJW.out (((Fr.refl _ W).drewN 1).below hb)) ⟨OV.mono ho (by simp; omega), by have := hb.size; simp at this; omega, ?_⟩).mono ?_
      · obtain ⟨rest, h⟩ := HE.out
        exact ⟨rest, by simpa [enumF] using h⟩
      · rintro e W' (⟨rfl, h1, h2⟩ | ⟨rfl, h1⟩)
        · exact ⟨true, rfl, .inl ⟨rfl, h1, h2⟩⟩
        · exact ⟨false, rfl, .inr ⟨rfl, h1⟩⟩
    gi_region_with_o (first
      | (refine ⟨trivial, fun h => (by simp [Fence.wide] at h), (callsIn_wide.2 hCl.out).mono ?_⟩; rintro e w1 ⟨gc, cap, rfl, ho, hb⟩; have k2 := HK2.out w1 hb.out; obtain ⟨fn, tmps, assign, body, hy, hRd⟩ := HYs.out w1 gc cap hb.out ho.out; have HRd := Lib.hid hRd; clear hRd)
      | (refine ⟨fun h => (by simp [Fence.wide] at h), HRd.out.mono ?_⟩; rintro e W3 ⟨bb, rfl, hres⟩; have HRes := Lib.hid hres; clear hres hy))
    all_goals
      have HC1 := Lib.hid (HW.out.below ((Below.refl _ W).drew.trans hb.out))
      clear hb ho
      gi_wp2
      refine bodyPost_ret (results_tmp rfl _ _ _) rfl ?_
      rcases HRes.out with ⟨rfl, h1, h2⟩ | ⟨rfl, h1⟩
      · exact .inl ⟨rfl, [(.slice (some ⟨gc, 0, none⟩) v cap, cs)], by simp [enumF], h1, HC1.out.keep h2⟩
      · exact .inr ⟨rfl, _, h1⟩
  | succ m ih =>
    intro v hvn N cs pre W hcf hz hE hj hw
    have h6 := hr.n6
    have hvl : v < n := by omega
    have c1 := hw.g.cell 0
    have c4 := hw.k.cell 0
    have c5 := hw.f.cell 0
    have t1 : ((v : Int) == n) = false := by simp; omega
    have HW := Lib.hid hw
    have HJ := Lib.hid hJ
    have HY := Lib.hid hY
    have HJW := Lib.hid hj
    have HE := Lib.hid hE
    have HCf := Lib.hid hcf
    have HZ := Lib.hid hz
    have HIh := Lib.hid ih
    have HR := Lib.hid hr
    clear hw hJ hY hj hE hcf hz ih hr
    by_cases hvq : v = q
    · subst hvq
      have hi := HIh.out (v + 1) (by omega) (N - 1) cs pre W HCf.out (fun u hu => HZ.out u (by omega)) (by obtain ⟨rest, h⟩ := HE.out; exact ⟨rest, by simpa [enumF] using h⟩) HJW.out HW.out
      have HI := Lib.hid hi
      have HEn : Hid (enumF (tightB n v es) v (m + 1) v cs = enumF (tightB n v es) v m (v + 1) cs) := by show _ = _; simp [enumF]
      rw [HEn.out]
      rw [Int.natCast_succ] at HI
      clear hi
      refine callsIn_of_wp Tryz.func76 rfl trivial ?_ rfl
      simp only [Tryz.ntmps76, List.size_toArray, List.length_cons, List.length_nil, Nat.reduceAdd, Nat.reduceSub, Array.replicate_succ, Array.replicate_zero, List.push_toArray, List.append_toArray, List.nil_append, List.cons_append]
      gi_wp2_with fail
      refine ⟨trivial, fun h => (by simp [Fence.wide] at h), HI.out.mono ?_⟩
      rintro e W2 (⟨rfl, xs, hx, hj2, hc2⟩ | ⟨rfl, pre', hjx⟩)
      · have HX := Lib.hid hx
        have HJ2 := Lib.hid hj2
        have HC2 := Lib.hid hc2
        clear hx hj2 hc2
        gi_wp2
        refine bodyPost_ret (results_tmp rfl _ _ _) rfl ?_
        exact .inl ⟨rfl, xs, HX.out, HJ2.out, HC2.out⟩
      · have HJx := Lib.hid hjx
        clear hjx
        gi_wp2
        refine bodyPost_ret (results_tmp rfl _ _ _) rfl ?_
        exact .inr ⟨rfl, _, HJx.out⟩
    · have t2 : ((v : Int) == q) = false := by simp; omega
      have HEn : Hid (enumF (tightB n q es) q (m + 1) v cs = enumK (tightB n q es) (enumF (tightB n q es) q m (v + 1)) v cs 64 0) := by show _ = _; simp [enumF, hvq]
      have hset0 : cs.set v ((0 : Nat) : Int) = cs := by
        have h := HZ.out v (Nat.le_refl _) hvl
        have hlen : v < cs.length := by have := HCf.out.len; omega
        rw [List.getD_eq_getElem?_getD, List.getElem?_eq_getElem hlen] at h
        simp only [Option.getD_some] at h
        apply List.ext_getElem? ; intro i
        rw [List.getElem?_set]
        by_cases e : v = i
        · subst e; rw [if_pos rfl, if_pos hlen, List.getElem?_eq_getElem hlen, h]; rfl
        · rw [if_neg e]
      have HS0 := Lib.hid hset0
      clear hset0
      rw [HEn.out]
      refine callsIn_of_wp Tryz.func76 rfl trivial ?_ rfl
      simp only [Tryz.ntmps76, List.size_toArray, List.length_cons, List.length_nil, Nat.reduceAdd, Nat.reduceSub, Array.replicate_succ, Array.replicate_zero, List.push_toArray, List.append_toArray, List.nil_append, List.cons_append]
      gi_wp2_with fail
      clear c1 c4 c5
      gi_loopg [7] 64 (fun k x wr => ∃ (c : Nat) (ys : List (Value × List Int)), c + k = 64 ∧ x = .bool false ∧ Hid (ys.map (·.2) ++ enumK (tightB n q es) (enumF (tightB n q es) q m (v + 1)) v cs k c = enumK (tightB n q es) (enumF (tightB n q es) q m (v + 1)) v cs 64 0) ∧ Hid (J (pre ++ ys) wr) ∧ Hid (CfS G0 Q0 eb s n q l ve es (cs.set v (c : Int)) wr))
      case atStart => exact ⟨0, [], rfl, rfl, by simp [Hid], by simpa [Hid] using HJW.out, by rw [HS0.out]; exact HW.out⟩
      case round =>
        obtain ⟨c, ys, hck, rfl, hys, hj, hw⟩ := hrel
        obtain ⟨wo, rfl⟩ : ∃ wo : World, wo = wr := ⟨_, rfl⟩
        have hlen : v < cs.length := by have := HCf.out.len; omega
        have hget : ∀ u, (cs.set v (c : Int)).getD u 0 = if v = u then (c : Int) else cs.getD u 0 := fun u => getD_set_int cs v u _ hlen
        have hcf2 : Cf n q (cs.set v (c : Int)) := ⟨by rw [List.length_set]; exact HCf.out.len, fun u hu => by rw [hget]; split; omega; exact HCf.out.lo u hu, fun u hu => by rw [hget]; split; omega; exact HCf.out.hi u hu, by rw [hget, if_neg hvq]; exact HCf.out.own⟩
        have d0 := hw.out.g.cell 0
        have d1 := hw.out.g.cell 1
        have d2 := hw.out.k.cell 0
        have d3 := hw.out.b.cell 0
        have HC := Lib.hid (calm_any _ _ n q es _ wo (gv_of hw.out.e) HR.out hq (OV.rv hw.out.c) hcf2)
        have HCf2 := Lib.hid hcf2
        have HGet := Lib.hid hget
        clear hcf2 hget
        gi_wp2_with fail
        refine ⟨trivial, fun h => (by simp [Fence.wide] at h), (callsIn_wide.2 HC.out).mono ?_⟩
        rintro e w1 ⟨ok, rfl, hb1, hok⟩
        have hj1 := HJ.out _ _ _ hj.out ((Fr.refl [s + 1] wo).below hb1)
        have hw1 := hw.out.below hb1
        have HOk := Lib.hid hok
        clear hb1 hok d0 d1 d2 d3 HC
        have e3 := hw1.b.cell 0
        have e5 := hw1.f.cell 0
        cases ok
        · have htb : tightB n q es (cs.set v (c : Int)) = false := by
            rw [Bool.eq_false_iff]; intro h
            have := HOk.out.2 ((tightB_iff hq).1 h)
            cases this
          have hnil : enumK (tightB n q es) (enumF (tightB n q es) q m (v + 1)) v cs gk c = [] := by
            cases gk with
            | zero => rfl
            | succ k' => simp [enumK, htb]
          have HYs : Hid (ys.map (·.2) = enumK (tightB n q es) (enumF (tightB n q es) q m (v + 1)) v cs 64 0) := by
            have h := hys.out
            rw [hnil, List.append_nil] at h
            exact h
          obtain ⟨-, -, g1, g2, -⟩ := OI.at' hw1.c (k := v) (by rw [List.length_set]; exact hlen)
          have hw2 := hw1.set hG hQ he (v := v) (by rw [List.length_set]; exact hlen) 0
          rw [List.set_set, show cs.set v (0 : Int) = cs from HS0.out] at hw2
          have hj2 := HJ.out _ _ _ hj1 ((Fr.refl [s + 1] w1).setCell (p := ⟨s + 1, v, none⟩) (.inl (by simp)) (.int .i64 0))
          have HW2 := Lib.hid hw2
          have HJ2 := Lib.hid hj2
          clear hw2 hj2 hw1 hj1 htb hnil
          generalize (cs.set v (c : Int)).getD v 0 = cv at *
          gi_wp2
          refine bodyPost_ret (results_tmp rfl _ _ _) rfl ?_
          exact .inl ⟨rfl, ys, HYs.out, HJ2.out, HW2.out⟩
        · have htt := HOk.out.1 rfl
          have htb : tightB n q es (cs.set v (c : Int)) = true := (tightB_iff hq).2 htt
          have hc9 : (c : Int) < 9 := by
            have h := tight_lt HR.out htt hvl hvq
            rwa [HGet.out, if_pos rfl] at h
          obtain ⟨k', rfl⟩ : ∃ k', gk = k' + 1 := ⟨gk - 1, by omega⟩
          have HStep : Hid (enumK (tightB n q es) (enumF (tightB n q es) q m (v + 1)) v cs (k' + 1) c = enumF (tightB n q es) q m (v + 1) (cs.set v (c : Int)) ++ enumK (tightB n q es) (enumF (tightB n q es) q m (v + 1)) v cs k' (c + 1)) := by
            show _ = _; simp only [enumK, htb, if_true]
          have hi := HIh.out (v + 1) (by omega) (N - 1) (cs.set v (c : Int)) (pre ++ ys) w1 HCf2.out (fun u hu hun => by rw [HGet.out, if_neg (by omega)]; exact HZ.out u (by omega) hun) (by
            obtain ⟨rest, h⟩ := HE.out
            refine ⟨enumK (tightB n q es) (enumF (tightB n q es) q m (v + 1)) v cs k' (c + 1) ++ rest, ?_⟩
            rw [← h, HEn.out, ← hys.out, HStep.out]
            simp [List.append_assoc]) hj1 hw1
          rw [Int.natCast_succ] at hi
          have HI := Lib.hid hi
          clear hi htb htt hw1 hj1
          gi_wp2_with fail
          refine ⟨trivial, fun h => (by simp [Fence.wide] at h), HI.out.mono ?_⟩
          rintro e W2 (⟨rfl, xs, hx, hj2, hc2⟩ | ⟨rfl, pre', hjx⟩)
          · obtain ⟨-, -, g1, g2, -⟩ := OI.at' hc2.c (k := v) (by rw [List.length_set]; exact hlen)
            have f3 := hc2.b.cell 0
            have hw3 := hc2.set hG hQ he (v := v) (by rw [List.length_set]; exact hlen) ((c : Int) + 1)
            rw [List.set_set] at hw3
            have hj3 := HJ.out _ _ _ hj2 ((Fr.refl [s + 1] W2).setCell (p := ⟨s + 1, v, none⟩) (.inl (by simp)) (.int .i64 ((c : Int) + 1)))
            rw [HGet.out, if_pos rfl] at g1
            have HW3 := Lib.hid hw3
            have HJ3 := Lib.hid hj3
            have HX := Lib.hid hx
            clear hw3 hj3 hx hj2 hc2 e3 e5
            gi_wp2
            gi_roundg k'
            case measure => omega
            case rel => exact ⟨c + 1, ys ++ xs, by omega, rfl, by
              show _ = _
              rw [← hys.out, HStep.out, List.map_append, HX.out, List.append_assoc], by rw [← List.append_assoc]; exact HJ3.out, by
              have := HW3.out
              rwa [show ((c : Int) + 1) = ((c + 1 : Nat) : Int) by omega] at this⟩
          · have HJx := Lib.hid hjx
            clear hjx e3 e5
            gi_wp2
            refine bodyPost_ret (results_tmp rfl _ _ _) rfl ?_
            exact .inr ⟨rfl, _, HJx.out⟩
end Go.Proofs.YtjfggodnfoknfaaGreatDoor

namespace Go.Proofs.YtjfggodnfoknfaaGreatDoor
open Go.RowKit Go.Shelf
attribute [local go_sem] Oper.semAt_some

theorem run_store_func (P : Program) (w : World) (a : Addr) (m : Mode) (f : Fn) (b c : Array Value) : (store a (.func f b c) m).run P w = stored P w a (.func f b c) m := run_store P w a _ m rfl
attribute [local go_sem] run_store_func
def zerosL (n : Nat) : List Int := List.replicate n 0
theorem zerosL_get (n u : Nat) : (zerosL n).getD u 0 = 0 := by
  unfold zerosL
  rw [List.getD_eq_getElem?_getD, List.getElem?_replicate]; split <;> rfl
theorem cf_zeros (n q : Nat) : Cf n q (zerosL n) := ⟨by simp [zerosL], fun v _ => by rw [zerosL_get]; omega, fun v _ => by rw [zerosL_get]; omega, zerosL_get n q⟩
/-- All superstable configurations, in the order in which they come. -/
def confsL (n q : Nat) (es : List Tri) : List (List Int) := enumF (tightB n q es) q n 0 (zerosL n)
theorem configurations_any (g : Value) (n q : Nat) (es : List Tri) (w : World) (hg : GV w g n es) : Calls Tryz.prog 47 #[g, .int .i64 (q : Int)] w fun e w' =>
    e = .returned (.func (.func 75) #[] #[.pointer (some ⟨w.heap.size, 0, none⟩), .pointer (some ⟨w.heap.size + 1, 0, none⟩)]) ∧
      ∃ ve, g = .agg #[.int .i64 (n : Int), ve] ∧ (w.alloc (.cells #[.int .i64 (n : Int), ve] 24)).alloc (.cells #[.int .i64 (q : Int)] 3) = w' := by
  obtain ⟨A, c, rfl, -, -, -⟩ := hg.open_
  clear hg
  go_enter Tryz.func47, Tryz.ntmps47
  go_wp2
  go_ret
  exact ⟨rfl, _, rfl, rfl⟩
theorem conf_iter (G0 Q0 eb s n q : Nat) (ve : Value) (es : List Tri) (hr : Rt n es) (hq : q < n) (hG : G0 < s) (hQ : Q0 < s) (he : eb < s) :
    IterW Tryz.prog 75 #[.pointer (some ⟨G0, 0, none⟩), .pointer (some ⟨Q0, 0, none⟩)] (fun x : Value × List Int => #[x.1]) (CfIt s (confsL n q es)) (fun A B => Fr [s + 1] A B) (LkK [G0, Q0, eb, s, s + 1, s + 2, s + 3])
      (fun xs _ => xs.map (·.2) = confsL n q es) (fun _ _ => True) (fun W => W.heap.size = s ∧ BL W G0 24 [.int .i64 (n : Int), ve] ∧ EB W ve es eb ∧ BL W Q0 3 [.int .i64 (q : Int)]) := by
  rintro N l J Jx W ⟨hsz, hg, hE, hk⟩ hJ hJx hY h0
  have h6 := hr.n6
  have hmk := run_make_row' (P := Tryz.prog) 26 3 (.int .i64 0) 8 Tryz.underlying26 int_info rfl .i64 .i64 n (by omega) (by omega)
  have c0 := hg.cell 0
  obtain ⟨W1, hW1⟩ : ∃ W1, W1 = W.alloc (.cells #[.func (.yield l) #[] #[]] 51) := ⟨_, rfl⟩
  obtain ⟨W2, hW2⟩ : ∃ W2, W2 = W1.alloc (.cells (madeCells #[Value.int .i64 0] n) 3) := ⟨_, rfl⟩
  obtain ⟨W3, hW3⟩ : ∃ W3, W3 = W2.alloc (.cells #[.slice (some ⟨s + 1, 0, none⟩) n n] 26) := ⟨_, rfl⟩
  have hb1 : Below W.heap.size W W1 := by rw [hW1]; exact below_alloc W _
  have hb2 : Below W1.heap.size W1 W2 := by rw [hW2]; exact below_alloc W1 _
  have hb3 : Below W2.heap.size W2 W3 := by rw [hW3]; exact below_alloc W2 _
  have z1 : W1.heap.size = s + 1 := by rw [hW1]; simp; omega
  have z2 : W2.heap.size = s + 2 := by rw [hW2]; simp; omega
  have z3 : W3.heap.size = s + 3 := by rw [hW3]; simp; omega
  have o2 : OI W2 (s + 1) (.slice (some ⟨s + 1, 0, none⟩) n n) (zerosL n) := by
    have h := own_zeros W1 n (by omega)
    rw [← hW2, z1] at h
    exact h
  have y1 : BL W1 s 51 [.func (.yield l) #[] #[]] := by rw [hW1, ← hsz]; exact BL.new' W _ _
  have x3 : BL W3 (s + 2) 26 [.slice (some ⟨s + 1, 0, none⟩) n n] := by rw [hW3, ← z2]; exact BL.new' W2 _ _
  obtain ⟨fv, hfv⟩ : ∃ fv : Value, fv = .func (.func 76) #[] #[.pointer (some ⟨G0, 0, none⟩), .pointer (some ⟨s, 0, none⟩), .pointer (some ⟨s + 2, 0, none⟩), .pointer (some ⟨Q0, 0, none⟩), .pointer (some ⟨s + 3, 0, none⟩)] := ⟨_, rfl⟩
  obtain ⟨W4, hW4⟩ : ∃ W4, W4 = W3.alloc (.cells #[fv] 72) := ⟨_, rfl⟩
  have hb4 : Below W3.heap.size W3 W4 := by rw [hW4]; exact below_alloc W3 _
  have x4 : BL W4 (s + 3) 72 [fv] := by rw [hW4, ← z3]; exact BL.new' W3 _ _
  have hbW : Below W.heap.size W W4 := hb1.trans ((hb2.trans ((hb3.trans (hb4.mono hb3.size)).mono hb2.size)).mono hb1.size)
  have hJ5 := hJ _ _ _ h0 ((Fr.refl [s + 1] W).below hbW)
  have hC5 : CfS G0 Q0 eb s n q l ve es (zerosL n) W4 :=
    ⟨hg.bel hbW, hE.below hbW, hk.bel hbW, ((y1.bel hb2).bel hb3).bel hb4, OI.below (OI.below o2 hb3) hb4, x3.bel hb4, by rw [← hfv]; exact x4⟩
  have hFr := fun N' => from_any G0 Q0 eb s n q l ve es hr hq hG hQ he (confsL n q es) J Jx hJ (fun N'' pre x W1 h1 h2 => yieldAt_any (hY pre x W1 h1 h2)) n 0 (by omega) N' (zerosL n) [] _ (cf_zeros n q) (fun u _ _ => zerosL_get n u) ⟨[], by simp [confsL]⟩ hJ5 hC5
  have HFr := Lib.hid hFr
  have HW4 : Hid (W4 = (((W.alloc (.cells #[.func (.yield l) #[] #[]] 51)).alloc (.cells (madeCells #[Value.int .i64 0] n) 3)).alloc (.cells #[.slice (some ⟨s + 1, 0, none⟩) n n] 26)).alloc (.cells #[fv] 72)) := by show _ = _; rw [hW4, hW3, hW2, hW1]
  have HFv := Lib.hid hfv
  rw [HFv.out] at HW4
  clear hg hE hk y1 o2 x3 x4 hJ5 hC5 hFr hJ hY hJx h0 hb1 hb2 hb3 hb4 hbW hW1 hW2 hW3 hW4 z1 z2 z3 hr hfv
  subst hsz
  refine callsIn_of_wp Tryz.func75 rfl trivial ?_ rfl
  simp only [Tryz.ntmps75, List.size_toArray, List.length_cons, List.length_nil, Nat.reduceAdd, Nat.reduceSub, Array.replicate_succ, Array.replicate_zero, List.push_toArray, List.append_toArray, List.nil_append, List.cons_append]
  gi_wp2_with fail
  rw [← HW4.out]
  refine ⟨trivial, fun h => (by simp [Fence.wide] at h), (HFr.out (N - 1)).mono ?_⟩
  rintro e W5 (⟨rfl, xs, hx, hj, -⟩ | ⟨rfl, pre', hjx⟩)
  · have HX := Lib.hid hx
    have HJ5 := Lib.hid hj
    clear hx hj
    gi_wp2
    refine bodyPost_end (results_none rfl _ _ _) rfl ?_
    exact ⟨⟨_, rfl⟩, .inl ⟨xs, HX.out, by simpa using HJ5.out⟩⟩
  · have HJx := Lib.hid hjx
    clear hjx
    gi_wp2
    refine bodyPost_end (results_none rfl _ _ _) rfl ?_
    exact ⟨⟨_, rfl⟩, .inr ⟨pre', trivial, HJx.out⟩⟩
end Go.Proofs.YtjfggodnfoknfaaGreatDoor

