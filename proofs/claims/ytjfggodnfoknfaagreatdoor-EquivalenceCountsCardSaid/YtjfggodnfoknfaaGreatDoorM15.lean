/- Contract of burning's kindled.
   A range over a function whose iterator says what it leaves in its own memory.
   Contract of burning's fire: the iterator of a wood that burns.
   Contracts of burning: fire, unburnt. -/
import Derived.Test.YtjfggodnfoknfaaGreatDoorM14
set_option maxRecDepth 100000
set_option maxHeartbeats 16000000
namespace Go.Proofs.YtjfggodnfoknfaaGreatDoor
open Go.RowKit Go.Shelf

theorem wgt_snoc (es : List Tri) (t : Tri) (v u : Nat) : wgt (es ++ [t]) v u = wgt es v u + ew t v u := by
  induction es with
  | nil => simp [wgt]
  | cons x r ih => simp only [List.cons_append, wgt, ih]; omega
theorem wgt_new {n : Nat} {es : List Tri} (hE : Edges n es) {k : Nat} {t : Tri} (ht : es[k]? = some t) (a b : Nat) (hab : (t.1 = a ∧ t.2.1 = b) ∨ (t.1 = b ∧ t.2.1 = a)) : wgt (es.take k) a b = 0 := by
  have hw : 0 ≤ wgt (es.take k) a b := wgt_nonneg (fun s hs => hE.pos s (List.mem_of_mem_take hs)) a b
  apply Classical.byContradiction
  intro hne
  obtain ⟨s, hs, hsn, hh⟩ := wgt_pos_mem (show 0 < wgt (es.take k) a b by omega)
  obtain ⟨i, hi, hsi⟩ := List.getElem_of_mem hs
  simp only [List.length_take] at hi
  rw [List.getElem_take] at hsi
  obtain ⟨hkl, hkt⟩ := List.getElem?_eq_some_iff.1 ht
  have hlt := List.pairwise_iff_getElem.1 hE.ord i k (by omega) hkl (by omega)
  rw [hsi, hkt] at hlt
  have h1 := hE.lo s (List.mem_of_mem_take hs)
  have h2 := hE.lo t (List.mem_of_getElem? ht)
  unfold LexLt at hlt
  omega
theorem tt_skip {n : Nat} {es : List Tri} {k : Nat} {t : Tri} {tl : List Int} (ht : es[k]? = some t) (h : TT n (es.take k) tl) (he : t.1 = t.2.1) : TT n (es.take (k + 1)) tl := by
  intro a b ha hb
  rw [List.take_add_one, ht, Option.toList_some, wgt_snoc, h a b ha hb]
  unfold ew
  rw [if_neg fun hh => hh.1 he]; omega
theorem tt_step {n : Nat} {es : List Tri} (hE : Edges n es) (hn : n ≤ 12) {k x y : Nat} {m : Int} {tl : List Int} (ht : es[k]? = some ((x : Int), (y : Int), m)) (h : TT n (es.take k) tl) (hl : tl.length = 144) (hxy : x ≠ y) (hx : x < n) (hy : y < n) :
    TT n (es.take (k + 1)) ((tl.set (x * 12 + y) m).set (y * 12 + x) m) := by
  intro a b ha hb
  rw [List.take_add_one, ht, Option.toList_some, wgt_snoc]
  rw [getD_set_int _ _ _ _ (by simp [hl]; omega), getD_set_int _ _ _ _ (by rw [hl]; omega)]
  unfold ew
  simp only
  by_cases c1 : y * 12 + x = a * 12 + b
  · rw [if_pos c1, if_pos ⟨by omega, .inr ⟨by omega, by omega⟩⟩, wgt_new hE ht a b (.inr ⟨by simp only; omega, by simp only; omega⟩)]; omega
  · rw [if_neg c1]
    by_cases c2 : x * 12 + y = a * 12 + b
    · rw [if_pos c2, if_pos ⟨by omega, .inl ⟨by omega, by omega⟩⟩, wgt_new hE ht a b (.inl ⟨by simp only; omega, by simp only; omega⟩)]; omega
    · rw [if_neg c2, h a b ha hb, if_neg fun hh => by omega]; omega
theorem RV.two {w : World} {g n cap : Nat} {us : List Value} {p p' : Addr} (h : RV w (.slice (some ⟨g, 0, none⟩) n cap) us) (hp : ∀ g', Value.slice (some ⟨g, 0, none⟩) n cap = .slice (some ⟨g', 0, none⟩) n cap → g' ≠ p.block ∧ g' ≠ p'.block) (x y : Value) : RV ((w.setCell p x).setCell p' y) (.slice (some ⟨g, 0, none⟩) n cap) us := by
  obtain ⟨h1, h2⟩ := hp g rfl
  obtain ⟨A, c, he, h3, h4, h5⟩ := h
  refine ⟨A, c, he, h3, h4, fun k hk => ?_⟩
  obtain ⟨ad, rfl, hb, hc⟩ := h5 k hk
  simp only [Value.slice.injEq, Option.some.injEq] at he
  obtain ⟨rfl, -⟩ := he
  refine ⟨_, rfl, by simpa using hb, ?_⟩
  rw [World.cell?_of_block (w := w) ((heap_setCell_other _ p' _ y (by rw [block_of_add]; exact h2)).trans (heap_setCell_other w p _ x (by rw [block_of_add]; exact h1)))]
  exact hc
theorem RV.keep1 {w : World} {g n cap : Nat} {us : List Value} {p : Addr} (h : RV w (.slice (some ⟨g, 0, none⟩) n cap) us) (hp : g ≠ p.block) (x : Value) : RV (w.setCell p x) (.slice (some ⟨g, 0, none⟩) n cap) us := by
  obtain ⟨A, c, he, h3, h4, h5⟩ := h
  refine ⟨A, c, he, h3, h4, fun k hk => ?_⟩
  obtain ⟨ad, rfl, hb, hc⟩ := h5 k hk
  simp only [Value.slice.injEq, Option.some.injEq] at he
  obtain ⟨rfl, -⟩ := he
  refine ⟨_, rfl, by simpa using hb, ?_⟩
  rw [World.cell?_of_block (w := w) (heap_setCell_other w p _ x (by rw [block_of_add]; exact hp))]
  exact hc
theorem RI.two {w : World} {g n cap : Nat} {zs : List Int} {p p' : Addr} (h : RI w (.slice (some ⟨g, 0, none⟩) n cap) zs) (hp : ∀ g', Value.slice (some ⟨g, 0, none⟩) n cap = .slice (some ⟨g', 0, none⟩) n cap → g' ≠ p.block ∧ g' ≠ p'.block) (x y : Value) : RI ((w.setCell p x).setCell p' y) (.slice (some ⟨g, 0, none⟩) n cap) zs := RV.two h hp x y
theorem tt_zero (n : Nat) (hn : n ≤ 12) : TT n [] (List.replicate 144 0) := by
  intro a b ha hb
  rw [List.getD_eq_getElem?_getD, List.getElem?_replicate, if_pos (by omega)]; rfl
theorem wood_zero : Tryz.zeroCells253.toList = .int .i64 0 :: (List.replicate 144 (Value.int .i64 0) ++ (Value.slice none 0 0 :: List.replicate 12 (Value.bool false))) := by kernel_rfl
theorem wood_new (n : Int) (ch : Value) : ((Tryz.zeroCells253.setIfInBounds 0 (.int .i64 n)).setIfInBounds 145 ch).toList = WU n (List.replicate 144 0) ch (List.replicate 12 false) := by
  rw [Array.toList_setIfInBounds, Array.toList_setIfInBounds, wood_zero]
  unfold WU
  rw [List.set_cons_zero, List.set_cons_succ, List.set_append_right _ _ (by simp)]
  simp only [List.length_replicate, List.map_replicate, Nat.sub_self, List.set_cons_zero]
theorem kindled_any (g d : Value) (n q : Nat) (es : List Tri) (cs : List Int) (w : World) (hg : GV w g n es) (hr : Rt n es) (hq : q < n) (hd : RI w d cs) (hcl : cs.length = n) :
    Calls Tryz.prog 172 #[g, .int .i64 (q : Int), d] w fun e w' => ∃ b tl gd cap, e = .returned (.pointer (some ⟨b, 0, none⟩)) ∧ w.heap.size ≤ b ∧ gd < b ∧ WD w' b n tl (.slice (some ⟨gd, 0, none⟩) n cap) ((List.replicate 12 false).set q true) ∧ TT n es tl ∧ RI w' (.slice (some ⟨gd, 0, none⟩) n cap) cs ∧ Below w.heap.size w w' := by
  obtain ⟨A, c, rfl, hlc, hc, hcell⟩ := hg.open_
  have HCe := Lib.hid hcell
  obtain ⟨A2, c2, rfl, -, -, -⟩ := hd.open_
  clear hcell
  obtain ⟨W0, hW0⟩ : ∃ W0, W0 = w.alloc (.cells #[.int .i64 (n : Int), .slice A es.length c] 24) := ⟨_, rfl⟩
  have hb0 : Below w.heap.size w W0 := by rw [hW0]; exact below_alloc w _
  have hz0 : W0.heap.size = w.heap.size + 1 := by rw [hW0]; simp
  have hbx : BL W0 w.heap.size 24 [.int .i64 (n : Int), .slice A es.length c] := by rw [hW0]; exact BL.new' w _ _
  have c0 := hbx.cell 0
  have h6 := hr.n6
  have h1 := hr.n1
  have HD0 := Lib.hid (hd.below hb0)
  have HG0 := Lib.hid (hg.below hb0)
  have HX0 := Lib.hid hbx
  have hcA := Lib.hid (clone_shape _ cs W0.drew HD0.out n hcl h1)
  have CA : Hid (∀ w1 : World, Below W0.drew.heap.size W0.drew w1 → w1.cell? ⟨w.heap.size, 0, none⟩ = some (.int .i64 (n : Int))) := fun w1 hb => (hb.cell (p := ⟨w.heap.size, 0, none⟩) (by simp; omega)).trans c0
  have HB0 := Lib.hid hb0
  have HW0 := Lib.hid hW0
  have HCl := Lib.hid hcl
  have HR := Lib.hid hr
  clear hg hd hb0 hW0 hbx hcl hr
  go_enter Tryz.func172, Tryz.ntmps172
  go_wp2_with fail
  rw [← HW0.out]
  go_region_with (go_at_call 49; refine hcA.out.mono ?_; rintro e w1 ⟨gd, cap, rfl, ho, hb⟩; have k0 := CA.out w1 hb.out; have kz : w.heap.size < w1.heap.size := block_lt_of_cell k0)
  all_goals
    obtain ⟨W2, hW2⟩ : ∃ W2, W2 = w1.alloc (.cells ((Tryz.zeroCells253.setIfInBounds 0 (.int .i64 (n : Int))).setIfInBounds 145 (.slice (some ⟨gd, 0, none⟩) n cap)) 253) := ⟨_, rfl⟩
    have hb2 : Below w1.heap.size w1 W2 := by rw [hW2]; exact below_alloc w1 _
    have hbw1 : Below w.heap.size w w1 := (HB0.out.drew).trans (hb.out.mono (by simp; omega))
    have HWD : Hid (WD W2 w1.heap.size n (List.replicate 144 0) (.slice (some ⟨gd, 0, none⟩) n cap) (List.replicate 12 false)) := by
      refine ⟨?_, by simp, by simp⟩
      rw [hW2, ← wood_new]
      exact BL.new' w1 _ _
    have HO2 : Hid (RI W2 (.slice (some ⟨gd, 0, none⟩) n cap) cs) := OV.rv (OV.below ho.out hb2)
    have HBe := Lib.hid (hbw1.trans (hb2.mono hbw1.size))
    have k1 : w1.cell? ⟨w.heap.size, 1, none⟩ = some (.slice A es.length c) := ((hb.out.cell (p := ⟨w.heap.size, 1, none⟩) (by simp; omega)).trans (HX0.out.cell 1))
    have HW2 := Lib.hid hW2
    have hzz := hbw1.size
    clear hW2 hb2 hbw1 k0
    go_wp2_with fail
    rw [← HW2.out]
    clear k1 kz hb
    have HT0 : Hid (TT n (es.take 0) (List.replicate 144 0)) := tt_zero n (by omega)
    go_loopw [19] (fun i wr => ∃ (k : Nat) (tl : List Int), k ≤ es.length ∧ i = .int .i64 (k : Int) ∧ Hid (WD wr w1.heap.size n tl (.slice (some ⟨gd, 0, none⟩) n cap) (List.replicate 12 false)) ∧ Hid (TT n (es.take k) tl) ∧ Hid (RI wr (.slice (some ⟨gd, 0, none⟩) n cap) cs) ∧ Hid (gd < w1.heap.size) ∧ Hid (Below w.heap.size w wr)) (fun i _ => es.length - (intOf i).toNat)
    case atStart => exact ⟨0, _, Nat.zero_le _, rfl, HWD.out, HT0.out, HO2.out, (ho.out.1.lt gd rfl).2, HBe.out⟩
    case round =>
      obtain ⟨k, tl, hk, rfl, hw, ht, ho2, hgd, hbe⟩ := hrel
      have hbl := hw.out.1.lt
      by_cases hlt : k < es.length
      · obtain ⟨ad, a, a2, m, rfl, hab, ht3, e1, e2, e3⟩ := HCe.out k hlt
        have hlo := HR.out.ed.lo _ (List.mem_of_getElem? ht3.out)
        have hmu := HR.out.ed.mult _ (List.mem_of_getElem? ht3.out)
        simp only at hlo hmu
        obtain ⟨x, rfl⟩ := Int.eq_ofNat_of_zero_le hlo.1
        obtain ⟨y, rfl⟩ := Int.eq_ofNat_of_zero_le (show 0 ≤ a2 by omega)
        have f1 := (hbe.out.cell (p := ad.add (k * 3)) (by rw [block_of_add]; exact hab)).trans e1
        have f2 := (hbe.out.cell (p := ⟨(ad.add (k * 3)).block, (ad.add (k * 3)).off + 1, none⟩) (by rw [block_of_add]; exact hab)).trans e2
        have f3 := (hbe.out.cell (p := ⟨(ad.add (k * 3)).block, (ad.add (k * 3)).off + 2, none⟩) (by rw [block_of_add]; exact hab)).trans e3
        clear e1 e2 e3
        by_cases hxy : x = y
        · subst hxy
          have t1 : ((x : Int) != x) = false := by simp
          have HT1 := Lib.hid (tt_skip ht3.out ht.out rfl)
          clear ht3
          go_wp2
          go_roundw
          case rel => exact ⟨k + 1, tl, by omega, by go_num, hw.out.bel (below_alloc _ _), HT1.out, RI.below ho2.out (below_alloc _ _), hgd.out, hbe.out.alloc hbe.out.size _⟩
          case measure => simp [intOf]; omega
        · have t1 : ((x : Int) != y) = true := by simp; omega
          have HT1 := Lib.hid (tt_step HR.out.ed (by omega) ht3.out ht.out hw.out.2.1 hxy (by omega) (by omega))
          obtain ⟨W3, hW3⟩ : ∃ W3, W3 = wr.alloc (.cells #[.int .i64 (x : Int), .int .i64 (y : Int), .int .i64 m] 54) := ⟨_, rfl⟩
          have hb3 : Below wr.heap.size wr W3 := by rw [hW3]; exact below_alloc wr _
          have hbx3 : BL W3 wr.heap.size 54 [.int .i64 (x : Int), .int .i64 (y : Int), .int .i64 m] := by rw [hW3]; exact BL.new' wr _ _
          have hw3 := hw.out.bel hb3
          have hz3 := hb3.size
          have g0 := hbx3.cell 0
          have g1 := hbx3.cell 1
          have g2 := hbx3.cell 2
          have d0 : W3.cell? ⟨wr.heap.size, 0, none⟩ = some (.int .i64 (x : Int)) := g0
          have d1 : W3.cell? ⟨wr.heap.size, 1, none⟩ = some (.int .i64 (y : Int)) := g1
          have d2 : W3.cell? ⟨wr.heap.size, 2, none⟩ = some (.int .i64 m) := g2
          have q1 := hw3.time (i := x * 12 + y) (by omega)
          have p1 : W3.frozen? ⟨w1.heap.size, 1 + (x * 12 + y), none⟩ = false := hw3.1.frozen _
          have hw4 := hw3.setT (i := x * 12 + y) (by omega) m
          have q2 := hw4.time (i := y * 12 + x) (by omega)
          have p2 : (W3.setCell ⟨w1.heap.size, 1 + (x * 12 + y), none⟩ (.int .i64 m)).frozen? ⟨w1.heap.size, 1 + (y * 12 + x), none⟩ = false := hw4.1.frozen _
          have hw5 := hw4.setT (i := y * 12 + x) (by omega) m
          have ho5 : RI ((W3.setCell ⟨w1.heap.size, 1 + (x * 12 + y), none⟩ (.int .i64 m)).setCell ⟨w1.heap.size, 1 + (y * 12 + x), none⟩ (.int .i64 m)) (.slice (some ⟨gd, 0, none⟩) n cap) cs := by
            exact (RI.below ho2.out hb3).two (fun g hg => by cases hg; exact ⟨by simp; have := hgd.out; omega, by simp; have := hgd.out; omega⟩) _ _
          have hbe5 : Below w.heap.size w ((W3.setCell ⟨w1.heap.size, 1 + (x * 12 + y), none⟩ (.int .i64 m)).setCell ⟨w1.heap.size, 1 + (y * 12 + x), none⟩ (.int .i64 m)) :=
            ((hbe.out.trans (hb3.mono hbe.out.size)).setCell (p := ⟨w1.heap.size, 1 + (x * 12 + y), none⟩) (by simp; omega) _).setCell (p := ⟨w1.heap.size, 1 + (y * 12 + x), none⟩) (by simp; omega) _
          rw [← Nat.add_assoc] at q1 p1 q2 p2 hw5 ho5 hbe5
          rw [← Nat.add_assoc] at q2 p2 hw5 ho5 hbe5
          have i1 : (0 : Int) ≤ (x : Int) := by omega
          have i2 : (x : Int) < 12 := by omega
          have i3 : (0 : Int) ≤ (y : Int) := by omega
          have i4 : (y : Int) < 12 := by omega
          have HS0 : Hid (W3.drew.cell? ⟨wr.heap.size, 0, none⟩ = some (.int .i64 (x : Int)) ∧ W3.drew.cell? ⟨wr.heap.size, 1, none⟩ = some (.int .i64 (y : Int)) ∧ W3.drew.cell? ⟨wr.heap.size, 2, none⟩ = some (.int .i64 m)) := ⟨d0, d1, d2⟩
          have hx4 := hbx3.set_other (a := ⟨w1.heap.size, 1 + x * 12 + y, none⟩) (by simp; omega) (.int .i64 m)
          have hx5 := hx4.set_other (a := ⟨w1.heap.size, 1 + y * 12 + x, none⟩) (by simp; omega) (.int .i64 m)
          have HS1 : Hid ((W3.drew.setCell ⟨w1.heap.size, 1 + x * 12 + y, none⟩ (.int .i64 m)).cell? ⟨wr.heap.size, 0, none⟩ = some (.int .i64 (x : Int)) ∧ (W3.drew.setCell ⟨w1.heap.size, 1 + x * 12 + y, none⟩ (.int .i64 m)).cell? ⟨wr.heap.size, 1, none⟩ = some (.int .i64 (y : Int)) ∧ (W3.drew.setCell ⟨w1.heap.size, 1 + x * 12 + y, none⟩ (.int .i64 m)).cell? ⟨wr.heap.size, 2, none⟩ = some (.int .i64 m)) := ⟨hx4.cell 0, hx4.cell 1, hx4.cell 2⟩
          have HS2 : Hid (((W3.drew.setCell ⟨w1.heap.size, 1 + x * 12 + y, none⟩ (.int .i64 m)).setCell ⟨w1.heap.size, 1 + y * 12 + x, none⟩ (.int .i64 m)).cell? ⟨wr.heap.size, 0, none⟩ = some (.int .i64 (x : Int)) ∧ ((W3.drew.setCell ⟨w1.heap.size, 1 + x * 12 + y, none⟩ (.int .i64 m)).setCell ⟨w1.heap.size, 1 + y * 12 + x, none⟩ (.int .i64 m)).cell? ⟨wr.heap.size, 1, none⟩ = some (.int .i64 (y : Int)) ∧ ((W3.drew.setCell ⟨w1.heap.size, 1 + x * 12 + y, none⟩ (.int .i64 m)).setCell ⟨w1.heap.size, 1 + y * 12 + x, none⟩ (.int .i64 m)).cell? ⟨wr.heap.size, 2, none⟩ = some (.int .i64 m)) := ⟨hx5.cell 0, hx5.cell 1, hx5.cell 2⟩
          clear hx4 hx5
          have HW3 := Lib.hid hW3
          have HW5 := Lib.hid hw5
          have HO5 := Lib.hid ho5
          have HBe5 := Lib.hid hbe5
          clear hb3 hbx3 hw3 hw4 hw5 ho5 hbe5 ht3
          rw [hW3] at g0 g1 g2
          clear hW3
          go_wp2_with fail
          rw [← HW3.out]
          go_region_held3 (fun W' : World => W'.cell? ⟨wr.heap.size, 0, none⟩ = some (.int .i64 (x : Int)) ∧ W'.cell? ⟨wr.heap.size, 1, none⟩ = some (.int .i64 (y : Int)) ∧ W'.cell? ⟨wr.heap.size, 2, none⟩ = some (.int .i64 m)) (first | exact HS0.out | exact HS1.out | exact HS2.out) (fail)
          all_goals
            go_wp2
            go_roundw
            case rel => exact ⟨k + 1, _, by omega, by go_num, HW5.out, HT1.out, HO5.out, hgd.out, HBe5.out.drew⟩
            case measure => simp [intOf]; omega
      · obtain rfl : k = es.length := by omega
        have q1 : wr.cell? ⟨w1.heap.size, 146 + q, none⟩ = some (.bool (fnB (List.replicate 12 false) q)) := hw.out.burnt (by omega)
        have p1 : wr.frozen? ⟨w1.heap.size, 146 + q, none⟩ = false := hw.out.1.frozen _
        have hw5 := hw.out.setB (j := q) (by omega) true
        have ho5 : RI ((wr.setCell ⟨w1.heap.size, 146 + q, none⟩ (.bool true))) (.slice (some ⟨gd, 0, none⟩) n cap) cs := RV.keep1 ho2.out (by simp; have := hgd.out; omega) _
        have hbe5 : Below w.heap.size w (wr.setCell ⟨w1.heap.size, 146 + q, none⟩ (.bool true)) := hbe.out.setCell (p := ⟨w1.heap.size, 146 + q, none⟩) (by simp; omega) _
        have HW5 := Lib.hid hw5
        have HO5 := Lib.hid ho5
        have HBe5 := Lib.hid hbe5
        have hTT := ht.out
        rw [List.take_of_length_le (Nat.le_refl _)] at hTT
        have HTT := Lib.hid hTT
        clear hw5 ho5 hbe5 hTT
        go_wp2
        go_ret
        exact ⟨w1.heap.size, tl, gd, cap, rfl, hzz, hgd.out, HW5.out, HTT.out, HO5.out, HBe5.out⟩
end Go.Proofs.YtjfggodnfoknfaaGreatDoor

namespace Go.Proofs.YtjfggodnfoknfaaGreatDoor
open Go.RowKit Go.Shelf

/-- The contract of an iterator, with a word on the world that it leaves: whatever is said of the items that have come abides its own steps R; a round that goes on keeps Kp. -/
def IterW {α : Type} (P : Program) (gf : FuncId) (lb : Array Value) (encs : α → Array Value) (It : List α → α → World → Prop) (R Kp : World → World → Prop) (S Sp : List α → World → Prop) (Pre : World → Prop) : Prop :=
  ∀ (n l : Nat) (J Jx : List α → World → Prop) (W : World), Pre W → (∀ pre A B, J pre A → R A B → J pre B) → (∀ pre A B, Jx pre A → R A B → Jx pre B) →
    (∀ pre x W1, J pre W1 → It pre x W1 → YieldAt Fence.wide (n - 1) P l (encs x) W1 fun e W' =>
      (e = .returned (.bool true) ∧ J (pre ++ [x]) W' ∧ Kp W1 W') ∨ (e = .returned (.bool false) ∧ Jx (pre ++ [x]) W')) →
    J [] W →
    CallsIn Fence.wide n P gf (#[.func (.yield l) #[] #[]] ++ lb) W fun e W' => (∃ v, e = .returned v) ∧ ((∃ xs, S xs W' ∧ J xs W') ∨ (∃ pre, Sp pre W' ∧ Jx pre W'))

variable {P : Program}
theorem wpIn_rangeFunc_iterW {α : Type} {g : Operand} {ps : Array Tmp} {assign body : Code} {Q : Exit → Act → World → Prop} {a : Act} {w : World} {n : Nat}
    {gf : Nat} {lb : Array Value} (hg : a.eval g = .func (.func gf) #[] lb) (eg : ∀ args w, (callFunc gf args).run P w = .ok (.enter gf args) w)
    {encs : α → Array Value} {It : List α → α → World → Prop} {R Kp : World → World → Prop} {S Sp : List α → World → Prop} {Pre : World → Prop}
    (hseq : IterW P gf lb encs It R Kp S Sp Pre) (hps : ∀ x, (encs x).size = ps.size)
    (hR : ∀ A B, R A B → A.heap.size ≥ w.heap.size + 2 → KeepLD w.heap.size A B)
    (hKt : ∀ A B C, Kp A B → Kp B C → Kp A C) (hKp : ∀ (W : World) (r : Loop) (o : Obj), W.heap[w.heap.size + 1]? = some (.loop r) → Kp W (W.putObj (w.heap.size + 1) o))
    (hIt : ∀ pre x (W : World) (r : Loop) (o : Obj), It pre x W → W.heap[w.heap.size + 1]? = some (.loop r) → It pre x (W.putObj (w.heap.size + 1) o))
    (hSk : ∀ xs (W : World) (r : Loop) (o : Obj), S xs W → W.heap[w.heap.size + 1]? = some (.loop r) → S xs (W.putObj (w.heap.size + 1) o))
    (hSpk : ∀ xs (W : World) (r : Loop) (o : Obj), Sp xs W → W.heap[w.heap.size + 1]? = some (.loop r) → Sp xs (W.putObj (w.heap.size + 1) o))
    (I : List α → World → Prop) (Ix : Code → List α → World → Prop)
    (hI : ∀ pre (W : World) (r : Loop) (o : Obj), I pre W → W.heap[w.heap.size + 1]? = some (.loop r) → I pre (W.putObj (w.heap.size + 1) o))
    (hIx : ∀ c pre (W : World) (r : Loop) (o : Obj), Ix c pre W → W.heap[w.heap.size + 1]? = some (.loop r) → Ix c pre (W.putObj (w.heap.size + 1) o))
    (hIR : ∀ pre A B, I pre A → R A B → I pre B) (hIxR : ∀ c pre A B, Ix c pre A → R A B → Ix c pre B)
    (hpre : ∀ r, Pre ((w.alloc (.deferred (some []))).alloc (.loop r))) (h0 : ∀ r, I [] ((w.alloc (.deferred (some []))).alloc (.loop r))) (a₁ : α → Act)
    (hassign : ∀ (l : Nat) (x : α) (W : World) (K : Act → World → Prop), K (a₁ x) W →
      assign.wpIn (Fence.wide.inRound l) (n - 1 - 1) P (Exit.then K (fun _ _ _ => False)) { tmps := (ps.zip (encs x)).foldl (fun t (p, v) => t.setIfInBounds p v) a.tmps, defers := [] } W)
    (hbody : ∀ (l : Nat) (pre : List α) (x : α) (W : World) (r : Loop), I pre W → It pre x W → W.heap[w.heap.size + 1]? = some (.loop r) → W.heap[w.heap.size]? = some (.deferred (some [])) →
      body.wpIn (Fence.wide.inRound l) (n - 1 - 1) P (iterPost w.heap.size Kp I Ix (pre ++ [x]) W) (a₁ x) W)
    (hdone : ∀ (xs : List α) (W : World), S xs W → I xs W → W.heap[w.heap.size]? = some (.deferred (some [])) → Q .normal { a with defers := { target := .collected w.heap.size, args := #[] } :: a.defers } W)
    (hstop : ∀ (c : Code) (pre : List α) (W : World), Sp pre W → Ix c pre W → W.heap[w.heap.size]? = some (.deferred (some [])) → c.wpIn Fence.wide n P Q { a with defers := { target := .collected w.heap.size, args := #[] } :: a.defers } W) :
    (Code.rangeFunc g ps assign body).wpIn Fence.wide n P Q a w := by
  refine wpIn_rangeFunc ?_
  intro fn _
  obtain ⟨rec, hrec⟩ : ∃ rec : LoopState → Option Code → Loop, rec = fun st pe => { state := st, pending := pe, fn, tmps := a.tmps, params := ps, assign, body, defers := w.heap.size } := ⟨_, rfl⟩
  obtain ⟨W1, hW1⟩ : ∃ W1, (w.alloc (.deferred (some []))).alloc (.loop (rec .ready none)) = W1 := ⟨_, rfl⟩
  have hL1 : W1.heap[w.heap.size + 1]? = some (.loop (rec .ready none)) := by
    rw [← hW1]; have := World.alloc_heap_new (w.alloc (.deferred (some []))) (.loop (rec .ready none)); rwa [World.size_alloc] at this
  have hK1 : W1.heap[w.heap.size]? = some (.deferred (some [])) := by
    rw [← hW1]; exact (Below.heap_alloc _ _ _ (by simp)).trans (World.alloc_heap_new w _)
  refine ⟨w.heap.size + 1, [{ target := .collected w.heap.size, args := #[] }], W1, { target := .fn (.func gf) lb, args := #[.func (.yield (w.heap.size + 1)) #[] #[]] }, W1, gf,
    #[.func (.yield (w.heap.size + 1)) #[] #[]] ++ lb, W1, ?_, ?_, ?_, ?_, ?_, ?_⟩
  · rw [← hW1, hrec]; exact run_enterLoop_outer _ _ _ _ _
  · simp only [resolve, hg]
    simp [go_sem]
  · intro f' _; trivial
  · simp [invoke, go_sem, eg]
  · intro h; simp [Fence.wide] at h
  · refine (hseq (n - 1) (w.heap.size + 1)
      (fun pre W => I pre W ∧ W.heap[w.heap.size + 1]? = some (.loop (rec .ready none)) ∧ W.heap[w.heap.size]? = some (.deferred (some [])))
      (fun pre W => ∃ c, Ix c pre W ∧ W.heap[w.heap.size + 1]? = some (.loop (rec .done (some c))) ∧ W.heap[w.heap.size]? = some (.deferred (some [])))
      W1 (hW1 ▸ hpre _) ?_ ?_ ?_ ⟨hW1 ▸ h0 _, hL1, hK1⟩).mono ?_
    · rintro pre A B ⟨hi, hl, hk⟩ hr
      have := hR A B hr (by have := (Array.getElem?_eq_some_iff.1 hl).1; omega)
      exact ⟨hIR _ _ _ hi hr, this.2.trans hl, this.1.trans hk⟩
    · rintro pre A B ⟨c, hi, hl, hk⟩ hr
      have := hR A B hr (by have := (Array.getElem?_eq_some_iff.1 hl).1; omega)
      exact ⟨c, hIxR _ _ _ _ hi hr, this.2.trans hl, this.1.trans hk⟩
    · rintro pre x W ⟨hi, hl, hk⟩ hit
      have hlt : w.heap.size + 1 < W.heap.size := (Array.getElem?_eq_some_iff.1 hl).1
      have hy := run_yield (P := P) (args := encs x) hl (by rw [hrec]; exact hps x)
      rw [hrec] at hy
      refine ⟨fn, _, assign, body, hy, roundIn_of_wpIn trivial (hassign _ x W _ ⟨_, run_beginRound hl (by rw [hrec]), ?_⟩)⟩
      have hl2 : (W.putObj (w.heap.size + 1) (.loop { rec .ready none with state := .busy })).heap[w.heap.size + 1]? = some (.loop { rec .ready none with state := .busy }) := World.putObj_heap_same hlt
      have hk2 : (W.putObj (w.heap.size + 1) (.loop { rec .ready none with state := .busy })).heap[w.heap.size]? = some (.deferred (some [])) := (World.putObj_heap_other (by omega)).trans hk
      have hw2 : Kp W (W.putObj (w.heap.size + 1) (.loop { rec .ready none with state := .busy })) := hKp _ _ _ hl
      refine wpIn_mono (hbody _ pre x _ _ (hI _ _ _ _ hi hl) (hIt _ _ _ _ _ hit hl) hl2 hk2) ?_
      have fin : ∀ (jump : Option Code) (W3 : World), KeepLD w.heap.size (W.putObj (w.heap.size + 1) (.loop { rec .ready none with state := .busy })) W3 →
          (Instr.endRound (w.heap.size + 1) jump).run P W3 = .ok (.bool jump.isNone) (W3.putObj (w.heap.size + 1) (.loop (rec (if jump.isNone then .ready else .done) jump))) ∧
          W3.heap[w.heap.size + 1]? = some (.loop { rec .ready none with state := .busy }) ∧
          (W3.putObj (w.heap.size + 1) (.loop (rec (if jump.isNone then .ready else .done) jump))).heap[w.heap.size + 1]? = some (.loop (rec (if jump.isNone then .ready else .done) jump)) ∧
          (W3.putObj (w.heap.size + 1) (.loop (rec (if jump.isNone then .ready else .done) jump))).heap[w.heap.size]? = some (.deferred (some [])) := fun jump W3 hk3 => by
        have hl3 := hk3.2.trans hl2
        have := run_endRound (P := P) jump hl3
        rw [hrec] at this ⊢
        exact ⟨this, by rw [hrec] at hl3; exact hl3, World.putObj_heap_same (Array.getElem?_eq_some_iff.1 hl3).1, (World.putObj_heap_other (by omega)).trans (hk3.1.trans hk2)⟩
      rintro e a3 W3 hp
      cases e with
      | normal =>
        obtain ⟨hk3, hkp3, hi3⟩ := hp
        obtain ⟨hr, hl3, hl4, hk4⟩ := fin none W3 hk3
        exact ⟨_, _, hr, .inl ⟨rfl, ⟨hI _ _ _ _ hi3 hl3, hl4, hk4⟩, hKt _ _ _ (hKt _ _ _ hw2 hkp3) (hKp _ _ _ hl3)⟩⟩
      | ret =>
        obtain ⟨hk3, hi3⟩ := hp
        obtain ⟨hr, hl3, hl4, hk4⟩ := fin (some .ret) W3 hk3
        exact ⟨_, _, hr, .inr ⟨rfl, .ret, hIx _ _ _ _ _ hi3 hl3, hl4, hk4⟩⟩
      | exit id =>
        obtain ⟨hk3, hi3⟩ := hp
        obtain ⟨hr, hl3, hl4, hk4⟩ := fin (some (.exit id)) W3 hk3
        exact ⟨_, _, hr, .inr ⟨rfl, .exit id, hIx _ _ _ _ _ hi3 hl3, hl4, hk4⟩⟩
      | goto t =>
        obtain ⟨hk3, hi3⟩ := hp
        obtain ⟨hr, hl3, hl4, hk4⟩ := fin (some (.goto t)) W3 hk3
        exact ⟨_, _, hr, .inr ⟨rfl, .goto t, hIx _ _ _ _ _ hi3 hl3, hl4, hk4⟩⟩
      | panic ch => exact hp.elim
      | outgrown => exact hp.elim
    · rintro e W2 ⟨⟨v, rfl⟩, (⟨xs, hS, hi, hl, hk⟩ | ⟨pre, hSp, c, hi, hl, hk⟩)⟩
      · exact ⟨none, _, by have := run_endLoop (P := P) hl (by rw [hrec]; simp); rw [hrec] at this; exact this, hdone xs _ (hSk _ _ _ _ hS hl) (hI _ _ _ _ hi hl) ((World.putObj_heap_other (by omega)).trans hk)⟩
      · exact ⟨some c, _, by have := run_endLoop (P := P) hl (by rw [hrec]; simp); rw [hrec] at this; exact this, hstop c pre _ (hSpk _ _ _ _ hSp hl) (hIx _ _ _ _ _ hi hl) ((World.putObj_heap_other (by omega)).trans hk)⟩
end Go.Proofs.YtjfggodnfoknfaaGreatDoor

namespace Go.Proofs.YtjfggodnfoknfaaGreatDoor
open Go.RowKit Go.Shelf
attribute [local go_sem] Oper.semAt_some

theorem RV.keepG {w w' : World} {g n cap : Nat} {us : List Value} (h : RV w (.slice (some ⟨g, 0, none⟩) n cap) us) (hs : w.heap.size ≤ w'.heap.size) (hk : w'.heap[g]? = w.heap[g]?) : RV w' (.slice (some ⟨g, 0, none⟩) n cap) us := by
  obtain ⟨A, c, he, h3, h4, h5⟩ := h
  refine ⟨A, c, he, h3, h4, fun k hkl => ?_⟩
  obtain ⟨ad, rfl, hb, hc⟩ := h5 k hkl
  simp only [Value.slice.injEq, Option.some.injEq] at he
  obtain ⟨rfl, -⟩ := he
  refine ⟨_, rfl, by omega, ?_⟩
  rw [World.cell?_of_block (w := w) (by rw [block_of_add]; exact hk)]
  exact hc
/-- The wood that the iterator has captured. -/
def WS (hb b gd cap n : Nat) (tl cs : List Int) (bl : List Bool) (W : World) : Prop :=
  BL W hb 230 [.pointer (some ⟨b, 0, none⟩)] ∧ WD W b n tl (.slice (some ⟨gd, 0, none⟩) n cap) bl ∧ RI W (.slice (some ⟨gd, 0, none⟩) n cap) cs
theorem WS.keep {hb b gd cap n : Nat} {tl cs : List Int} {bl : List Bool} {W W' : World} (h : WS hb b gd cap n tl cs bl W) (hk : LkK [hb, b, gd] W W') : WS hb b gd cap n tl cs bl W' :=
  ⟨(hk.2 hb (by simp)).trans h.1, h.2.1.keep (hk.2 b (by simp)), RV.keepG h.2.2 hk.1 (hk.2 gd (by simp))⟩
theorem WS.below {hb b gd cap n : Nat} {tl cs : List Int} {bl : List Bool} {W W' : World} (h : WS hb b gd cap n tl cs bl W) (hw : Below W.heap.size W W') : WS hb b gd cap n tl cs bl W' :=
  ⟨h.1.bel hw, h.2.1.bel hw, RI.below h.2.2 hw⟩
theorem WS.ne {hb b gd cap n : Nat} {tl cs : List Int} {bl : List Bool} {W : World} (h : WS hb b gd cap n tl cs bl W) : hb ≠ b := by
  rintro rfl
  have h1 := h.1
  have h2 := h.2.1.1
  unfold BL at h1 h2
  rw [h1] at h2
  simp only [Option.some.injEq, Obj.cells.injEq] at h2
  exact absurd h2.2.1 (by decide)
theorem WS.set {hb b gd cap n : Nat} {tl cs : List Int} {bl : List Bool} {W : World} (h : WS hb b gd cap n tl cs bl W) (hg : gd ≠ b) {j : Nat} (hj : j < 12) (x : Bool) : WS hb b gd cap n tl cs (bl.set j x) (W.setCell ⟨b, 146 + j, none⟩ (.bool x)) :=
  ⟨h.1.set_other h.ne _, h.2.1.setB hj x, RV.keep1 h.2.2 hg _⟩
/-- What burns when the vertices xs have caught fire. -/
def blOf (q : Nat) (xs : List Nat) : List Bool := xs.foldl (fun bl v => bl.set v true) ((List.replicate 12 false).set q true)
theorem blOf_snoc (q : Nat) (xs : List Nat) (v : Nat) : blOf q (xs ++ [v]) = (blOf q xs).set v true := by simp [blOf]
theorem fnB_set12 {bl : List Bool} (hl : bl.length = 12) {v : Nat} (hv : v < 12) (u : Nat) : fnB (bl.set v true) u = if v = u then true else fnB bl u := by
  unfold fnB
  rw [List.getD_eq_getElem?_getD, List.getElem?_set, List.getD_eq_getElem?_getD]
  by_cases e : v = u
  · subst e; rw [if_pos rfl, if_pos rfl, if_pos (by omega)]; rfl
  · rw [if_neg e, if_neg e]
/-- What burns can't be in a part that can fire. -/
def BurnW (n q : Nat) (es : List Tri) (cs : List Int) (bl : List Bool) : Prop :=
  bl.length = 12 ∧ fnB bl q = true ∧ ∀ A : Nat → Bool, A q = false → Legal n (wgt es) (fnD cs) A → ∀ v, v < n → fnB bl v = true → A v = false
theorem burnw_start {n q : Nat} {es : List Tri} {cs : List Int} (hq : q < 12) : BurnW n q es cs (blOf q []) := by
  have e : blOf q [] = (List.replicate 12 false).set q true := rfl
  rw [e]
  refine ⟨by simp, by rw [fnB_set12 (by simp) hq, if_pos rfl], fun A hA _ v _ hb => ?_⟩
  rw [fnB_set12 (by simp) hq] at hb
  by_cases e : q = v
  · subst e; exact hA
  · rw [if_neg e] at hb
    unfold fnB at hb
    rw [List.getD_eq_getElem?_getD, List.getElem?_replicate] at hb
    split at hb <;> cases hb
theorem burnw_step {n q v : Nat} {es : List Tri} {cs : List Int} {bl : List Bool} (hr : Rt n es) (h : BurnW n q es cs bl) (hv : v < n) (hc : catchB n es cs bl v = true) : BurnW n q es cs (bl.set v true) := by
  have h6 := hr.n6
  unfold catchB at hc
  simp only [Bool.and_eq_true, Bool.not_eq_true', decide_eq_true_eq] at hc
  refine ⟨by simpa using h.1, by rw [fnB_set12 h.1 (by omega)]; split; rfl; exact h.2.1, fun A hA hl u hu hb => ?_⟩
  rw [fnB_set12 h.1 (by omega)] at hb
  by_cases e : v = u
  · subst e
    exact burn_step (wgt_nonneg hr.ed.pos) hl (fun u hu hb => h.2.2 A hA hl u hu hb) hv hc.2
  · rw [if_neg e] at hb
    exact h.2.2 A hA hl u hu hb
def unb (n : Nat) (bl : List Bool) : Nat := countN n fun u => !fnB bl u
theorem unb_set {n v : Nat} {bl : List Bool} (hl : bl.length = 12) (hv : v < n) (hn : n ≤ 12) (hb : fnB bl v = false) : unb n (bl.set v true) + 1 = unb n bl :=
  countN_drop hv (by simp [hb]) (by simp [fnB_set12 hl (show v < 12 by omega)]) (fun u _ hne => by simp only [fnB_set12 hl (show v < 12 by omega)]; rw [if_neg (fun e => hne e.symm)])
theorem fire1_iter (hb b gd cap n q : Nat) (tl cs : List Int) (es : List Tri) (hr : Rt n es) (hT : TT n es tl) (hq : q < n) (hcl : cs.length = n) (hgb : gd ≠ b) :
    IterW Tryz.prog 192 #[.pointer (some ⟨hb, 0, none⟩)] (fun x : Nat => #[.int .i64 (x : Int)]) (fun pre x _ => x < n ∧ pre.length ≤ 12) (fun A B => Fr [b] A B) (LkK [hb, b, gd])
      (fun xs W => WS hb b gd cap n tl cs (blOf q xs) W ∧ BurnW n q es cs (blOf q xs) ∧ ∀ u, u < n → catchB n es cs (blOf q xs) u = false) (fun _ _ => True) (fun W => WS hb b gd cap n tl cs (blOf q []) W) := by
  intro N l J Jx W hpre hJ hJx hY h0
  have HJ := Lib.hid hJ
  have HY := Lib.hid hY
  have HP := Lib.hid hpre
  have HR := Lib.hid hr
  have HT := Lib.hid hT
  have h6 := hr.n6
  have H0 := Lib.hid h0
  clear hJ hY hpre hJx hr hT h0
  refine callsIn_of_wp Tryz.func192 rfl trivial ?_ rfl
  simp only [Tryz.ntmps192, List.size_toArray, List.length_cons, List.length_nil, Nat.reduceAdd, Nat.reduceSub, Array.replicate_succ, Array.replicate_zero, List.push_toArray, List.append_toArray, List.nil_append, List.cons_append]
  gi_wp2_with fail
  gi_loopg [3] (unb n (blOf q []) * (n + 1) + n) (fun k i wr => ∃ (v : Nat) (pre : List Nat), v ≤ n ∧ i = .int .i64 (v : Int) ∧ Hid (k = unb n (blOf q pre) * (n + 1) + (n - v)) ∧ Hid (J pre wr) ∧ Hid (WS hb b gd cap n tl cs (blOf q pre) wr) ∧ Hid (BurnW n q es cs (blOf q pre)) ∧ Hid (∀ u, u < v → catchB n es cs (blOf q pre) u = false) ∧ Hid (pre.length + unb n (blOf q pre) ≤ n))
  case atStart => exact ⟨0, [], Nat.zero_le _, rfl, by show _ = _; omega, H0.out, HP.out, burnw_start (by omega), fun u hu => by omega, by have := countN_le n fun u => !fnB (blOf q []) u; show _ ≤ _; unfold unb; simp; omega⟩
  case round =>
    obtain ⟨v, pre, hv, rfl, hk, hj, hw, hbu, hno, hpl⟩ := hrel
    obtain ⟨wo, rfl⟩ : ∃ wo : World, wo = wr := ⟨_, rfl⟩
    have a0 := hw.out.1.cell 0
    have a1 := hw.out.2.1.n
    by_cases hlt : v < n
    · have HC := Lib.hid (catches_any b n v es tl _ cs (blOf q pre) wo HR.out hw.out.2.1 HT.out hlt hw.out.2.2 hcl)
      obtain ⟨cb, hcb⟩ : ∃ cb, cb = catchB n es cs (blOf q pre) v := ⟨_, rfl⟩
      rw [← hcb] at HC
      have HCB := Lib.hid hcb
      clear hcb
      gi_wp2_with fail
      refine ⟨trivial, fun h => (by simp [Fence.wide] at h), (callsIn_wide.2 HC.out).mono ?_⟩
      rintro e w1 ⟨rfl, j, rfl⟩
      have hj1 := HJ.out pre wo _ hj.out ((Fr.refl [b] wo).drewN j)
      have hw1 : WS hb b gd cap n tl cs (blOf q pre) (wo.drewN j) := hw.out.below (below_drewN (Below.refl _ _) j)
      clear a0 a1 HC
      generalize wo.drewN j = wa at *
      have b0 := hw1.1.cell 0
      cases cb
      · have HJ1 := Lib.hid hj1
        have HW1 := Lib.hid hw1
        clear hj1 hw1
        gi_wp2
        gi_roundg (unb n (blOf q pre) * (n + 1) + (n - (v + 1)))
        case measure => rw [hk.out]; omega
        case rel => exact ⟨v + 1, pre, by omega, by go_num, rfl, HJ1.out, HW1.out, hbu.out, fun u hu => by
          by_cases e : u = v
          · subst e; exact HCB.out.symm
          · exact hno.out u (by omega), hpl.out⟩
      · have q1 := hw1.2.1.burnt (j := v) (by omega)
        have p1 : wa.frozen? ⟨b, 146 + v, none⟩ = false := hw1.2.1.1.frozen _
        have hw2 := hw1.set hgb (j := v) (by omega) true
        rw [← blOf_snoc] at hw2
        have hj2 := HJ.out pre wa _ hj1 ((Fr.refl [b] wa).setCell (p := ⟨b, 146 + v, none⟩) (.inl (by simp)) (.bool true))
        obtain ⟨W2, hW2⟩ : ∃ W2, W2 = wa.setCell ⟨b, 146 + v, none⟩ (.bool true) := ⟨_, rfl⟩
        rw [← hW2] at hw2 hj2
        have hbu2 := burnw_step HR.out hbu.out hlt HCB.out.symm
        rw [← blOf_snoc] at hbu2
        have hun : unb n (blOf q (pre ++ [v])) + 1 = unb n (blOf q pre) := by
          rw [blOf_snoc]
          refine unb_set hbu.out.1 hlt (by omega) ?_
          have := HCB.out.symm
          unfold catchB at this
          simp only [Bool.and_eq_true, Bool.not_eq_true'] at this
          exact this.1
        obtain ⟨fn, tmps, assign, body, hy, hRd⟩ := HY.out pre v W2 hj2 ⟨hlt, by have := hpl.out; omega⟩
        (try dsimp only at hy hRd)
        have HRd := Lib.hid hRd
        have HW2 := Lib.hid hw2
        have HEq := Lib.hid hW2
        have HBu2 := Lib.hid hbu2
        have HUn := Lib.hid hun
        clear hRd hj2 hw2 hW2 hbu2 hj1 hw1 hun
        rw [HEq.out] at hy
        gi_wp2_with fail
        rw [← HEq.out]
        refine ⟨fun h => (by simp [Fence.wide] at h), HRd.out.mono ?_⟩
        rintro e W3 (⟨rfl, hJ3, hk3⟩ | ⟨rfl, hJx3⟩)
        · have HJ3 := Lib.hid hJ3
          have HW3 := Lib.hid (HW2.out.keep hk3)
          clear hJ3 hk3 hy
          gi_wp2
          gi_roundg (unb n (blOf q (pre ++ [v])) * (n + 1) + n)
          case measure =>
            have h1 := HUn.out
            have h2 := hk.out
            have h3 : unb n (blOf q pre) * (n + 1) = unb n (blOf q (pre ++ [v])) * (n + 1) + (n + 1) := by rw [← h1, Nat.add_mul, Nat.one_mul]
            omega
          case rel => exact ⟨0, pre ++ [v], by omega, rfl, by show _ = _; omega, HJ3.out, HW3.out, HBu2.out, fun u hu => by omega, by have := hpl.out; have := HUn.out; show _ ≤ _; rw [List.length_append, List.length_singleton]; omega⟩
        · clear hy
          gi_wp2
          refine bodyPost_ret (results_none rfl _ _ _) rfl ?_
          exact ⟨⟨_, rfl⟩, .inr ⟨pre ++ [v], trivial, hJx3⟩⟩
    · obtain rfl : v = n := by omega
      gi_wp2
      refine bodyPost_end (results_none rfl _ _ _) rfl ?_
      exact ⟨⟨_, rfl⟩, .inl ⟨pre, ⟨hw.out, hbu.out, hno.out⟩, hj.out⟩⟩
end Go.Proofs.YtjfggodnfoknfaaGreatDoor

namespace Go.Proofs.YtjfggodnfoknfaaGreatDoor
open Go.RowKit Go.Shelf

theorem fireF_any (b : Nat) (w : World) : Calls Tryz.prog 173 #[.pointer (some ⟨b, 0, none⟩)] w fun e w' =>
    e = .returned (.func (.func 192) #[] #[.pointer (some ⟨w.heap.size, 0, none⟩)]) ∧ w.alloc (.cells #[.pointer (some ⟨b, 0, none⟩)] 230) = w' := by
  go_enter Tryz.func173, Tryz.ntmps173
  go_wp2
  go_ret
  exact ⟨rfl, rfl⟩
/-- The vertices below k that are not burnt. -/
def leftV (bl : List Bool) (k : Nat) : List Int := ((List.range k).filter fun u => !fnB bl u).map fun u : Nat => (u : Int)
theorem leftV_succ (bl : List Bool) (k : Nat) : leftV bl (k + 1) = if fnB bl k = true then leftV bl k else leftV bl k ++ [(k : Int)] := by
  unfold leftV
  rw [List.range_succ, List.filter_append, List.map_append]
  cases h : fnB bl k <;> simp [h]
theorem leftV_len (bl : List Bool) (k : Nat) : (leftV bl k).length ≤ k := by
  unfold leftV
  rw [List.length_map]
  exact Nat.le_trans (List.length_filter_le _ _) (by simp)
theorem leftV_nil {bl : List Bool} {k : Nat} : leftV bl k = [] ↔ ∀ u, u < k → fnB bl u = true := by
  unfold leftV
  rw [List.map_eq_nil_iff, List.filter_eq_nil_iff]
  simp
theorem one_ones {u : Value} (h : u.oneCell' = true) : ∀ x ∈ [u], x.oneCell' = true := by simp [h]
theorem RV.ones (w : World) (u : Value) (e : TypeId) : RV (w.alloc (.cells #[u] e)) (.slice (some ⟨w.heap.size, 0, none⟩) 1 1) [u] := RV.lit w #[u] e 1 rfl (by omega)
theorem unburntW_any (b n : Nat) (tl : List Int) (ch : Value) (bl : List Bool) (w : World) (hn : n ≤ 12) (hw : WD w b n tl ch bl) :
    Calls Tryz.prog 174 #[.pointer (some ⟨b, 0, none⟩)] w fun e w' => ∃ v, e = .returned v ∧ OI w' w.heap.size v (leftV bl n) ∧ Below w.heap.size w w' := by
  obtain ⟨i0, hi, hz0, hz1, hz2⟩ := info_parts int_info
  have HW := Lib.hid hw
  have c0 := hw.n
  have hbl := hw.1.lt
  clear hw
  go_enter Tryz.func174, Tryz.ntmps174
  go_wp2
  go_loopw [3, 9] (fun vs i wr => ∃ k : Nat, k ≤ n ∧ i = .int .i64 (k : Int) ∧ Hid (OI wr w.heap.size vs (leftV bl k)) ∧ Hid (Below w.heap.size w wr)) (fun _ i _ => n - (intOf i).toNat)
  case atStart => exact ⟨0, Nat.zero_le _, rfl, OI.nil_ _ _, Below.refl _ _⟩
  case round =>
    obtain ⟨k, hk, rfl, ho, hbe⟩ := hrel
    rename_i vs _ _
    by_cases hlt : k < n
    · have cb := (HW.out.bel hbe.out).burnt (j := k) (by omega)
      have HS := Lib.hid (leftV_succ bl k)
      have hll := leftV_len bl k
      have hsz := hbe.out.size
      cases hb : fnB bl k
      · rw [hb] at cb HS
        rw [if_neg (by simp)] at HS
        have h1 := Lib.hid (RV.ones wr (.int .i64 (k : Int)) 3)
        have ho1 := Lib.hid (OV.below ho.out (below_alloc wr (.cells #[.int .i64 (k : Int)] 3)))
        clear hb
        go_wp2_with (at_builtin; refine wpList_appendV _ rfl _ _ _ rfl 3 i0 _ 8 Tryz.underlying25 hi hz0 hz1 hz2 rfl w.heap.size _ _ rfl ho1.out _ _ rfl h1.out (one_ones rfl) (by simp; omega) (by simp; omega) (by simp; omega) ?_; intro v1 w1 hown1 hg1 hat1)
        have HO := Lib.hid hown1
        clear hown1
        go_wp2
        go_roundw
        case rel => exact ⟨k + 1, by omega, by go_num, by rw [HS.out]; show OI _ _ _ _; simpa [OI] using HO.out, below_own (hbe.out.trans ((below_alloc wr _).mono hbe.out.size)) (by simp; omega) ho1.out hg1⟩
        case measure => simp [intOf]; omega
      · rw [hb] at cb HS
        rw [if_pos rfl] at HS
        clear hb
        go_wp2
        go_roundw
        case rel => exact ⟨k + 1, by omega, by go_num, by rw [HS.out]; exact ho.out, hbe.out⟩
        case measure => simp [intOf]; omega
    · obtain rfl : k = n := by omega
      go_wp2
      go_ret
      exact ⟨_, rfl, ho.out, hbe.out⟩
end Go.Proofs.YtjfggodnfoknfaaGreatDoor

