/- Contract of burning's kindled.
   A range over a function whose iterator says what it leaves in its own memory.
   Contract of burning's fire: the iterator of a wood that burns.
   Contracts of burning: fire, unburnt.
   Contracts of burning: Burn, Superstable; superstable's calm.
   Contract of superstable's configurations: the iterator.
   Contract of superstable's All.
   What Equivalent and Classes answer, in plain words.
   Lists of decimal digits, the last digit first, and what they are worth. No program in sight.
   Contracts of the references' cut, digit, digits, order of decimal digits.
   Contracts of the references' order, added and taken.
   Contracts of the references' added and taken of decimal digits. -/
import Derived.Test.YteamhbohgoclgaaGreatDoorP11
import Derived.Deep.DeepCutAuto
set_option maxRecDepth 100000
set_option maxHeartbeats 16000000
namespace Go.Proofs.YteamhbohgoclgaaGreatDoor
open Go.RowKit Go.Shelf

theorem wgt_snoc (es : List Tri) (t : Tri) (v u : Nat) : wgt (es ++ [t]) v u = wgt es v u + ew t v u := by
  induction es with
  | nil => simp [wgt]
  | cons x r ih => simp only [List.cons_append, wgt, ih]; omega
theorem wgt_new {n : Nat} {es : List Tri} (hE : Edges n es) {k : Nat} {t : Tri} (ht : es[k]? = some t) (a b : Nat) (hab : (t.1 = a ∧ t.2.1 = b) ∨ (t.1 = b ∧ t.2.1 = a)) : wgt (es.take k) a b = 0 := by
  have hw : 0 ≤ wgt (es.take k) a b := wgt_nonneg (fun s hs => hE.pos s (List.mem_of_mem_take hs)) a b
  apply Classical.byContradiction
  intro hne
  obtain ⟨s, hs, hsn, hh⟩ := wgt_pos_mem (show 0 < wgt (es.take k) a b by omega)
  obtain ⟨i, hi, hsi⟩ := List.getElem_of_mem hs
  simp only [List.length_take] at hi
  rw [List.getElem_take] at hsi
  obtain ⟨hkl, hkt⟩ := List.getElem?_eq_some_iff.1 ht
  have hlt := List.pairwise_iff_getElem.1 hE.ord i k (by omega) hkl (by omega)
  rw [hsi, hkt] at hlt
  have h1 := hE.lo s (List.mem_of_mem_take hs)
  have h2 := hE.lo t (List.mem_of_getElem? ht)
  unfold LexLt at hlt
  omega
theorem tt_skip {n : Nat} {es : List Tri} {k : Nat} {t : Tri} {tl : List Int} (ht : es[k]? = some t) (h : TT n (es.take k) tl) (he : t.1 = t.2.1) : TT n (es.take (k + 1)) tl := by
  intro a b ha hb
  rw [List.take_add_one, ht, Option.toList_some, wgt_snoc, h a b ha hb]
  unfold ew
  rw [if_neg fun hh => hh.1 he]; omega
theorem tt_step {n : Nat} {es : List Tri} (hE : Edges n es) (hn : n ≤ 12) {k x y : Nat} {m : Int} {tl : List Int} (ht : es[k]? = some ((x : Int), (y : Int), m)) (h : TT n (es.take k) tl) (hl : tl.length = 144) (hxy : x ≠ y) (hx : x < n) (hy : y < n) :
    TT n (es.take (k + 1)) ((tl.set (x * 12 + y) m).set (y * 12 + x) m) := by
  intro a b ha hb
  rw [List.take_add_one, ht, Option.toList_some, wgt_snoc]
  rw [getD_set_int _ _ _ _ (by simp [hl]; omega), getD_set_int _ _ _ _ (by rw [hl]; omega)]
  unfold ew
  simp only
  by_cases c1 : y * 12 + x = a * 12 + b
  · rw [if_pos c1, if_pos ⟨by omega, .inr ⟨by omega, by omega⟩⟩, wgt_new hE ht a b (.inr ⟨by simp only; omega, by simp only; omega⟩)]; omega
  · rw [if_neg c1]
    by_cases c2 : x * 12 + y = a * 12 + b
    · rw [if_pos c2, if_pos ⟨by omega, .inl ⟨by omega, by omega⟩⟩, wgt_new hE ht a b (.inl ⟨by simp only; omega, by simp only; omega⟩)]; omega
    · rw [if_neg c2, h a b ha hb, if_neg fun hh => by omega]; omega
theorem RV.two {w : World} {g n cap : Nat} {us : List Value} {p p' : Addr} (h : RV w (.slice (some ⟨g, 0, none⟩) n cap) us) (hp : ∀ g', Value.slice (some ⟨g, 0, none⟩) n cap = .slice (some ⟨g', 0, none⟩) n cap → g' ≠ p.block ∧ g' ≠ p'.block) (x y : Value) : RV ((w.setCell p x).setCell p' y) (.slice (some ⟨g, 0, none⟩) n cap) us := by
  obtain ⟨h1, h2⟩ := hp g rfl
  obtain ⟨A, c, he, h3, h4, h5⟩ := h
  refine ⟨A, c, he, h3, h4, fun k hk => ?_⟩
  obtain ⟨ad, rfl, hb, hc⟩ := h5 k hk
  simp only [Value.slice.injEq, Option.some.injEq] at he
  obtain ⟨rfl, -⟩ := he
  refine ⟨_, rfl, by simpa using hb, ?_⟩
  rw [World.cell?_of_block (w := w) ((heap_setCell_other _ p' _ y (by rw [block_of_add]; exact h2)).trans (heap_setCell_other w p _ x (by rw [block_of_add]; exact h1)))]
  exact hc
theorem RV.keep1 {w : World} {g n cap : Nat} {us : List Value} {p : Addr} (h : RV w (.slice (some ⟨g, 0, none⟩) n cap) us) (hp : g ≠ p.block) (x : Value) : RV (w.setCell p x) (.slice (some ⟨g, 0, none⟩) n cap) us := by
  obtain ⟨A, c, he, h3, h4, h5⟩ := h
  refine ⟨A, c, he, h3, h4, fun k hk => ?_⟩
  obtain ⟨ad, rfl, hb, hc⟩ := h5 k hk
  simp only [Value.slice.injEq, Option.some.injEq] at he
  obtain ⟨rfl, -⟩ := he
  refine ⟨_, rfl, by simpa using hb, ?_⟩
  rw [World.cell?_of_block (w := w) (heap_setCell_other w p _ x (by rw [block_of_add]; exact hp))]
  exact hc
theorem RI.two {w : World} {g n cap : Nat} {zs : List Int} {p p' : Addr} (h : RI w (.slice (some ⟨g, 0, none⟩) n cap) zs) (hp : ∀ g', Value.slice (some ⟨g, 0, none⟩) n cap = .slice (some ⟨g', 0, none⟩) n cap → g' ≠ p.block ∧ g' ≠ p'.block) (x y : Value) : RI ((w.setCell p x).setCell p' y) (.slice (some ⟨g, 0, none⟩) n cap) zs := RV.two h hp x y
theorem tt_zero (n : Nat) (hn : n ≤ 12) : TT n [] (List.replicate 144 0) := by
  intro a b ha hb
  rw [List.getD_eq_getElem?_getD, List.getElem?_replicate, if_pos (by omega)]; rfl
theorem wood_zero : Tryz.zeroCells301.toList = .int .i64 0 :: (List.replicate 144 (Value.int .i64 0) ++ (Value.slice none 0 0 :: List.replicate 12 (Value.bool false))) := by kernel_rfl
theorem wood_new (n : Int) (ch : Value) : ((Tryz.zeroCells301.setIfInBounds 0 (.int .i64 n)).setIfInBounds 145 ch).toList = WU n (List.replicate 144 0) ch (List.replicate 12 false) := by
  rw [Array.toList_setIfInBounds, Array.toList_setIfInBounds, wood_zero]
  unfold WU
  rw [List.set_cons_zero, List.set_cons_succ, List.set_append_right _ _ (by simp)]
  simp only [List.length_replicate, List.map_replicate, Nat.sub_self, List.set_cons_zero]
theorem kindled_any (g d : Value) (n q : Nat) (es : List Tri) (cs : List Int) (w : World) (hg : GV w g n es) (hr : Rt n es) (hq : q < n) (hd : RI w d cs) (hcl : cs.length = n) :
    Calls Tryz.prog 166 #[g, .int .i64 (q : Int), d] w fun e w' => ∃ b tl gd cap, e = .returned (.pointer (some ⟨b, 0, none⟩)) ∧ w.heap.size ≤ b ∧ gd < b ∧ WD w' b n tl (.slice (some ⟨gd, 0, none⟩) n cap) ((List.replicate 12 false).set q true) ∧ TT n es tl ∧ RI w' (.slice (some ⟨gd, 0, none⟩) n cap) cs ∧ Below w.heap.size w w' := by
  obtain ⟨A, c, rfl, hlc, hc, hcell⟩ := hg.open_
  have HCe := Hd hcell
  obtain ⟨A2, c2, rfl, -, -, -⟩ := hd.open_
  clear hcell
  obtain ⟨W0, hW0⟩ : ∃ W0, W0 = w.alloc (.cells #[.int .i64 (n : Int), .slice A es.length c] 25) := ⟨_, rfl⟩
  have hb0 : Below w.heap.size w W0 := by rw [hW0]; exact below_alloc w _
  have hz0 : W0.heap.size = w.heap.size + 1 := by rw [hW0]; simp
  have hbx : BL W0 w.heap.size 25 [.int .i64 (n : Int), .slice A es.length c] := by rw [hW0]; exact BL.new' w _ _
  have c0 := hbx.cell 0
  have h6 := hr.n6
  have h1 := hr.n1
  have HD0 := Hd (hd.below hb0)
  have HG0 := Hd (hg.below hb0)
  have HX0 := Hd hbx
  have hcA := Hd (clone_shape _ cs W0.drew HD0.out n hcl h1)
  have CA : Hid (∀ w1 : World, Below W0.drew.heap.size W0.drew w1 → w1.cell? ⟨w.heap.size, 0, none⟩ = some (.int .i64 (n : Int))) := fun w1 hb => (hb.cell (p := ⟨w.heap.size, 0, none⟩) (by simp; omega)).trans c0
  have HB0 := Hd hb0
  have HW0 := Hd hW0
  have HCl := Hd hcl
  have HR := Hd hr
  clear hg hd hb0 hW0 hbx hcl hr
  go_enter Tryz.func166, Tryz.ntmps166
  go_wp2_with fail
  rw [← HW0.out]
  go_region_with (go_at_call 115; refine hcA.out.mono ?_; rintro e w1 ⟨gd, cap, rfl, ho, hb⟩; have k0 := CA.out w1 hb.out; have kz : w.heap.size < w1.heap.size := block_lt_of_cell k0)
  all_goals
    obtain ⟨W2, hW2⟩ : ∃ W2, W2 = w1.alloc (.cells ((Tryz.zeroCells301.setIfInBounds 0 (.int .i64 (n : Int))).setIfInBounds 145 (.slice (some ⟨gd, 0, none⟩) n cap)) 301) := ⟨_, rfl⟩
    have hb2 : Below w1.heap.size w1 W2 := by rw [hW2]; exact below_alloc w1 _
    have hbw1 : Below w.heap.size w w1 := (HB0.out.drew).trans (hb.out.mono (by simp; omega))
    have HWD : Hid (WD W2 w1.heap.size n (List.replicate 144 0) (.slice (some ⟨gd, 0, none⟩) n cap) (List.replicate 12 false)) := by
      refine ⟨?_, by simp, by simp⟩
      rw [hW2, ← wood_new]
      exact BL.new' w1 _ _
    have HO2 : Hid (RI W2 (.slice (some ⟨gd, 0, none⟩) n cap) cs) := OV.rv (OV.below ho.out hb2)
    have HBe := Hd (hbw1.trans (hb2.mono hbw1.size))
    have k1 : w1.cell? ⟨w.heap.size, 1, none⟩ = some (.slice A es.length c) := ((hb.out.cell (p := ⟨w.heap.size, 1, none⟩) (by simp; omega)).trans (HX0.out.cell 1))
    have HW2 := Hd hW2
    have hzz := hbw1.size
    clear hW2 hb2 hbw1 k0
    go_wp2_with fail
    rw [← HW2.out]
    clear k1 kz hb
    have HT0 : Hid (TT n (es.take 0) (List.replicate 144 0)) := tt_zero n (by omega)
    go_loopw [19] (fun i wr => ∃ (k : Nat) (tl : List Int), k ≤ es.length ∧ i = .int .i64 (k : Int) ∧ Hid (WD wr w1.heap.size n tl (.slice (some ⟨gd, 0, none⟩) n cap) (List.replicate 12 false)) ∧ Hid (TT n (es.take k) tl) ∧ Hid (RI wr (.slice (some ⟨gd, 0, none⟩) n cap) cs) ∧ Hid (gd < w1.heap.size) ∧ Hid (Below w.heap.size w wr)) (fun i _ => es.length - (intOf i).toNat)
    case atStart => exact ⟨0, _, Nat.zero_le _, rfl, HWD.out, HT0.out, HO2.out, (ho.out.1.lt gd rfl).2, HBe.out⟩
    case round =>
      obtain ⟨k, tl, hk, rfl, hw, ht, ho2, hgd, hbe⟩ := hrel
      have hbl := hw.out.1.lt
      by_cases hlt : k < es.length
      · obtain ⟨ad, a, a2, m, rfl, hab, ht3, e1, e2, e3⟩ := HCe.out k hlt
        have hlo := HR.out.ed.lo _ (List.mem_of_getElem? ht3.out)
        have hmu := HR.out.ed.mult _ (List.mem_of_getElem? ht3.out)
        simp only at hlo hmu
        obtain ⟨x, rfl⟩ := Int.eq_ofNat_of_zero_le hlo.1
        obtain ⟨y, rfl⟩ := Int.eq_ofNat_of_zero_le (show 0 ≤ a2 by omega)
        have f1 := (hbe.out.cell (p := ad.add (k * 3)) (by rw [block_of_add]; exact hab)).trans e1
        have f2 := (hbe.out.cell (p := ⟨(ad.add (k * 3)).block, (ad.add (k * 3)).off + 1, none⟩) (by rw [block_of_add]; exact hab)).trans e2
        have f3 := (hbe.out.cell (p := ⟨(ad.add (k * 3)).block, (ad.add (k * 3)).off + 2, none⟩) (by rw [block_of_add]; exact hab)).trans e3
        clear e1 e2 e3
        by_cases hxy : x = y
        · subst hxy
          have t1 : ((x : Int) != x) = false := by simp
          have HT1 := Hd (tt_skip ht3.out ht.out rfl)
          clear ht3
          go_wp2
          go_roundw
          case rel => exact ⟨k + 1, tl, by omega, by go_num, hw.out.bel (below_alloc _ _), HT1.out, RI.below ho2.out (below_alloc _ _), hgd.out, hbe.out.alloc hbe.out.size _⟩
          case measure => simp [intOf]; omega
        · have t1 : ((x : Int) != y) = true := by simp; omega
          have HT1 := Hd (tt_step HR.out.ed (by omega) ht3.out ht.out hw.out.2.1 hxy (by omega) (by omega))
          obtain ⟨W3, hW3⟩ : ∃ W3, W3 = wr.alloc (.cells #[.int .i64 (x : Int), .int .i64 (y : Int), .int .i64 m] 68) := ⟨_, rfl⟩
          have hb3 : Below wr.heap.size wr W3 := by rw [hW3]; exact below_alloc wr _
          have hbx3 : BL W3 wr.heap.size 68 [.int .i64 (x : Int), .int .i64 (y : Int), .int .i64 m] := by rw [hW3]; exact BL.new' wr _ _
          have hw3 := hw.out.bel hb3
          have hz3 := hb3.size
          have g0 := hbx3.cell 0
          have g1 := hbx3.cell 1
          have g2 := hbx3.cell 2
          have d0 : W3.cell? ⟨wr.heap.size, 0, none⟩ = some (.int .i64 (x : Int)) := g0
          have d1 : W3.cell? ⟨wr.heap.size, 1, none⟩ = some (.int .i64 (y : Int)) := g1
          have d2 : W3.cell? ⟨wr.heap.size, 2, none⟩ = some (.int .i64 m) := g2
          have q1 := hw3.time (i := x * 12 + y) (by omega)
          have p1 : W3.frozen? ⟨w1.heap.size, 1 + (x * 12 + y), none⟩ = false := hw3.1.frozen _
          have hw4 := hw3.setT (i := x * 12 + y) (by omega) m
          have q2 := hw4.time (i := y * 12 + x) (by omega)
          have p2 : (W3.setCell ⟨w1.heap.size, 1 + (x * 12 + y), none⟩ (.int .i64 m)).frozen? ⟨w1.heap.size, 1 + (y * 12 + x), none⟩ = false := hw4.1.frozen _
          have hw5 := hw4.setT (i := y * 12 + x) (by omega) m
          have ho5 : RI ((W3.setCell ⟨w1.heap.size, 1 + (x * 12 + y), none⟩ (.int .i64 m)).setCell ⟨w1.heap.size, 1 + (y * 12 + x), none⟩ (.int .i64 m)) (.slice (some ⟨gd, 0, none⟩) n cap) cs := by
            exact (RI.below ho2.out hb3).two (fun g hg => by cases hg; exact ⟨by simp; have := hgd.out; omega, by simp; have := hgd.out; omega⟩) _ _
          have hbe5 : Below w.heap.size w ((W3.setCell ⟨w1.heap.size, 1 + (x * 12 + y), none⟩ (.int .i64 m)).setCell ⟨w1.heap.size, 1 + (y * 12 + x), none⟩ (.int .i64 m)) :=
            ((hbe.out.trans (hb3.mono hbe.out.size)).setCell (p := ⟨w1.heap.size, 1 + (x * 12 + y), none⟩) (by simp; omega) _).setCell (p := ⟨w1.heap.size, 1 + (y * 12 + x), none⟩) (by simp; omega) _
          rw [← Nat.add_assoc] at q1 p1 q2 p2 hw5 ho5 hbe5
          rw [← Nat.add_assoc] at q2 p2 hw5 ho5 hbe5
          have i1 : (0 : Int) ≤ (x : Int) := by omega
          have i2 : (x : Int) < 12 := by omega
          have i3 : (0 : Int) ≤ (y : Int) := by omega
          have i4 : (y : Int) < 12 := by omega
          have HS0 : Hid (W3.drew.cell? ⟨wr.heap.size, 0, none⟩ = some (.int .i64 (x : Int)) ∧ W3.drew.cell? ⟨wr.heap.size, 1, none⟩ = some (.int .i64 (y : Int)) ∧ W3.drew.cell? ⟨wr.heap.size, 2, none⟩ = some (.int .i64 m)) := ⟨d0, d1, d2⟩
          have hx4 := hbx3.set_other (a := ⟨w1.heap.size, 1 + x * 12 + y, none⟩) (by simp; omega) (.int .i64 m)
          have hx5 := hx4.set_other (a := ⟨w1.heap.size, 1 + y * 12 + x, none⟩) (by simp; omega) (.int .i64 m)
          have HS1 : Hid ((W3.drew.setCell ⟨w1.heap.size, 1 + x * 12 + y, none⟩ (.int .i64 m)).cell? ⟨wr.heap.size, 0, none⟩ = some (.int .i64 (x : Int)) ∧ (W3.drew.setCell ⟨w1.heap.size, 1 + x * 12 + y, none⟩ (.int .i64 m)).cell? ⟨wr.heap.size, 1, none⟩ = some (.int .i64 (y : Int)) ∧ (W3.drew.setCell ⟨w1.heap.size, 1 + x * 12 + y, none⟩ (.int .i64 m)).cell? ⟨wr.heap.size, 2, none⟩ = some (.int .i64 m)) := ⟨hx4.cell 0, hx4.cell 1, hx4.cell 2⟩
          have HS2 : Hid (((W3.drew.setCell ⟨w1.heap.size, 1 + x * 12 + y, none⟩ (.int .i64 m)).setCell ⟨w1.heap.size, 1 + y * 12 + x, none⟩ (.int .i64 m)).cell? ⟨wr.heap.size, 0, none⟩ = some (.int .i64 (x : Int)) ∧ ((W3.drew.setCell ⟨w1.heap.size, 1 + x * 12 + y, none⟩ (.int .i64 m)).setCell ⟨w1.heap.size, 1 + y * 12 + x, none⟩ (.int .i64 m)).cell? ⟨wr.heap.size, 1, none⟩ = some (.int .i64 (y : Int)) ∧ ((W3.drew.setCell ⟨w1.heap.size, 1 + x * 12 + y, none⟩ (.int .i64 m)).setCell ⟨w1.heap.size, 1 + y * 12 + x, none⟩ (.int .i64 m)).cell? ⟨wr.heap.size, 2, none⟩ = some (.int .i64 m)) := ⟨hx5.cell 0, hx5.cell 1, hx5.cell 2⟩
          clear hx4 hx5
          have HW3 := Hd hW3
          have HW5 := Hd hw5
          have HO5 := Hd ho5
          have HBe5 := Hd hbe5
          clear hb3 hbx3 hw3 hw4 hw5 ho5 hbe5 ht3
          rw [hW3] at g0 g1 g2
          clear hW3
          go_wp2_with fail
          rw [← HW3.out]
          go_region_held3 (fun W' : World => W'.cell? ⟨wr.heap.size, 0, none⟩ = some (.int .i64 (x : Int)) ∧ W'.cell? ⟨wr.heap.size, 1, none⟩ = some (.int .i64 (y : Int)) ∧ W'.cell? ⟨wr.heap.size, 2, none⟩ = some (.int .i64 m)) (first | exact HS0.out | exact HS1.out | exact HS2.out) (fail)
          all_goals
            go_wp2
            go_roundw
            case rel => exact ⟨k + 1, _, by omega, by go_num, HW5.out, HT1.out, HO5.out, hgd.out, HBe5.out.drew⟩
            case measure => simp [intOf]; omega
      · obtain rfl : k = es.length := by omega
        have q1 : wr.cell? ⟨w1.heap.size, 146 + q, none⟩ = some (.bool (fnB (List.replicate 12 false) q)) := hw.out.burnt (by omega)
        have p1 : wr.frozen? ⟨w1.heap.size, 146 + q, none⟩ = false := hw.out.1.frozen _
        have hw5 := hw.out.setB (j := q) (by omega) true
        have ho5 : RI ((wr.setCell ⟨w1.heap.size, 146 + q, none⟩ (.bool true))) (.slice (some ⟨gd, 0, none⟩) n cap) cs := RV.keep1 ho2.out (by simp; have := hgd.out; omega) _
        have hbe5 : Below w.heap.size w (wr.setCell ⟨w1.heap.size, 146 + q, none⟩ (.bool true)) := hbe.out.setCell (p := ⟨w1.heap.size, 146 + q, none⟩) (by simp; omega) _
        have HW5 := Hd hw5
        have HO5 := Hd ho5
        have HBe5 := Hd hbe5
        have hTT := ht.out
        rw [List.take_of_length_le (Nat.le_refl _)] at hTT
        have HTT := Hd hTT
        clear hw5 ho5 hbe5 hTT
        go_wp2
        go_ret
        exact ⟨w1.heap.size, tl, gd, cap, rfl, hzz, hgd.out, HW5.out, HTT.out, HO5.out, HBe5.out⟩
open Go.RowKit Go.Shelf

/-- The contract of an iterator, with a word on the world that it leaves: whatever is said of the items that have come abides its own steps R; a round that goes on keeps Kp. -/
def IterW {α : Type} (P : Program) (gf : FuncId) (lb : Array Value) (encs : α → Array Value) (It : List α → α → World → Prop) (R Kp : World → World → Prop) (S Sp : List α → World → Prop) (Pre : World → Prop) : Prop :=
  ∀ (n l : Nat) (J Jx : List α → World → Prop) (W : World), Pre W → (∀ pre A B, J pre A → R A B → J pre B) → (∀ pre A B, Jx pre A → R A B → Jx pre B) →
    (∀ pre x W1, J pre W1 → It pre x W1 → YieldAt Fence.wide (n - 1) P l (encs x) W1 fun e W' =>
      (e = .returned (.bool true) ∧ J (pre ++ [x]) W' ∧ Kp W1 W') ∨ (e = .returned (.bool false) ∧ Jx (pre ++ [x]) W')) →
    J [] W →
    CallsIn Fence.wide n P gf (#[.func (.yield l) #[] #[]] ++ lb) W fun e W' => (∃ v, e = .returned v) ∧ ((∃ xs, S xs W' ∧ J xs W') ∨ (∃ pre, Sp pre W' ∧ Jx pre W'))

variable {P : Program}
theorem wpIn_rangeFunc_iterW {α : Type} {g : Operand} {ps : Array Tmp} {assign body : Code} {Q : Exit → Act → World → Prop} {a : Act} {w : World} {n : Nat}
    {gf : Nat} {lb : Array Value} (hg : a.eval g = .func (.func gf) #[] lb) (eg : ∀ args w, (callFunc gf args).run P w = .ok (.enter gf args) w)
    {encs : α → Array Value} {It : List α → α → World → Prop} {R Kp : World → World → Prop} {S Sp : List α → World → Prop} {Pre : World → Prop}
    (hseq : IterW P gf lb encs It R Kp S Sp Pre) (hps : ∀ x, (encs x).size = ps.size)
    (hR : ∀ A B, R A B → A.heap.size ≥ w.heap.size + 2 → KeepLD w.heap.size A B)
    (hKt : ∀ A B C, Kp A B → Kp B C → Kp A C) (hKp : ∀ (W : World) (r : Loop) (o : Obj), W.heap[w.heap.size + 1]? = some (.loop r) → Kp W (W.putObj (w.heap.size + 1) o))
    (hIt : ∀ pre x (W : World) (r : Loop) (o : Obj), It pre x W → W.heap[w.heap.size + 1]? = some (.loop r) → It pre x (W.putObj (w.heap.size + 1) o))
    (hSk : ∀ xs (W : World) (r : Loop) (o : Obj), S xs W → W.heap[w.heap.size + 1]? = some (.loop r) → S xs (W.putObj (w.heap.size + 1) o))
    (hSpk : ∀ xs (W : World) (r : Loop) (o : Obj), Sp xs W → W.heap[w.heap.size + 1]? = some (.loop r) → Sp xs (W.putObj (w.heap.size + 1) o))
    (I : List α → World → Prop) (Ix : Code → List α → World → Prop)
    (hI : ∀ pre (W : World) (r : Loop) (o : Obj), I pre W → W.heap[w.heap.size + 1]? = some (.loop r) → I pre (W.putObj (w.heap.size + 1) o))
    (hIx : ∀ c pre (W : World) (r : Loop) (o : Obj), Ix c pre W → W.heap[w.heap.size + 1]? = some (.loop r) → Ix c pre (W.putObj (w.heap.size + 1) o))
    (hIR : ∀ pre A B, I pre A → R A B → I pre B) (hIxR : ∀ c pre A B, Ix c pre A → R A B → Ix c pre B)
    (hpre : ∀ r, Pre ((w.alloc (.deferred (some []))).alloc (.loop r))) (h0 : ∀ r, I [] ((w.alloc (.deferred (some []))).alloc (.loop r))) (a₁ : α → Act)
    (hassign : ∀ (l : Nat) (x : α) (W : World) (K : Act → World → Prop), K (a₁ x) W →
      assign.wpIn (Fence.wide.inRound l) (n - 1 - 1) P (Exit.then K (fun _ _ _ => False)) { tmps := (ps.zip (encs x)).foldl (fun t (p, v) => t.setIfInBounds p v) a.tmps, defers := [] } W)
    (hbody : ∀ (l : Nat) (pre : List α) (x : α) (W : World) (r : Loop), I pre W → It pre x W → W.heap[w.heap.size + 1]? = some (.loop r) → W.heap[w.heap.size]? = some (.deferred (some [])) →
      body.wpIn (Fence.wide.inRound l) (n - 1 - 1) P (iterPost w.heap.size Kp I Ix (pre ++ [x]) W) (a₁ x) W)
    (hdone : ∀ (xs : List α) (W : World), S xs W → I xs W → W.heap[w.heap.size]? = some (.deferred (some [])) → Q .normal { a with defers := { target := .collected w.heap.size, args := #[] } :: a.defers } W)
    (hstop : ∀ (c : Code) (pre : List α) (W : World), Sp pre W → Ix c pre W → W.heap[w.heap.size]? = some (.deferred (some [])) → c.wpIn Fence.wide n P Q { a with defers := { target := .collected w.heap.size, args := #[] } :: a.defers } W) :
    (Code.rangeFunc g ps assign body).wpIn Fence.wide n P Q a w := by
  refine wpIn_rangeFunc ?_
  intro fn _
  obtain ⟨rec, hrec⟩ : ∃ rec : LoopState → Option Code → Loop, rec = fun st pe => { state := st, pending := pe, fn, tmps := a.tmps, params := ps, assign, body, defers := w.heap.size } := ⟨_, rfl⟩
  obtain ⟨W1, hW1⟩ : ∃ W1, (w.alloc (.deferred (some []))).alloc (.loop (rec .ready none)) = W1 := ⟨_, rfl⟩
  have hL1 : W1.heap[w.heap.size + 1]? = some (.loop (rec .ready none)) := by
    rw [← hW1]; have := World.alloc_heap_new (w.alloc (.deferred (some []))) (.loop (rec .ready none)); rwa [World.size_alloc] at this
  have hK1 : W1.heap[w.heap.size]? = some (.deferred (some [])) := by
    rw [← hW1]; exact (Below.heap_alloc _ _ _ (by simp)).trans (World.alloc_heap_new w _)
  refine ⟨w.heap.size + 1, [{ target := .collected w.heap.size, args := #[] }], W1, { target := .fn (.func gf) lb, args := #[.func (.yield (w.heap.size + 1)) #[] #[]] }, W1, gf,
    #[.func (.yield (w.heap.size + 1)) #[] #[]] ++ lb, W1, ?_, ?_, ?_, ?_, ?_, ?_⟩
  · rw [← hW1, hrec]; exact run_enterLoop_outer _ _ _ _ _
  · simp only [resolve, hg]
    simp [go_sem]
  · intro f' _; trivial
  · simp [invoke, go_sem, eg]
  · intro h; simp [Fence.wide] at h
  · refine (hseq (n - 1) (w.heap.size + 1)
      (fun pre W => I pre W ∧ W.heap[w.heap.size + 1]? = some (.loop (rec .ready none)) ∧ W.heap[w.heap.size]? = some (.deferred (some [])))
      (fun pre W => ∃ c, Ix c pre W ∧ W.heap[w.heap.size + 1]? = some (.loop (rec .done (some c))) ∧ W.heap[w.heap.size]? = some (.deferred (some [])))
      W1 (hW1 ▸ hpre _) ?_ ?_ ?_ ⟨hW1 ▸ h0 _, hL1, hK1⟩).mono ?_
    · rintro pre A B ⟨hi, hl, hk⟩ hr
      have := hR A B hr (by have := (Array.getElem?_eq_some_iff.1 hl).1; omega)
      exact ⟨hIR _ _ _ hi hr, this.2.trans hl, this.1.trans hk⟩
    · rintro pre A B ⟨c, hi, hl, hk⟩ hr
      have := hR A B hr (by have := (Array.getElem?_eq_some_iff.1 hl).1; omega)
      exact ⟨c, hIxR _ _ _ _ hi hr, this.2.trans hl, this.1.trans hk⟩
    · rintro pre x W ⟨hi, hl, hk⟩ hit
      have hlt : w.heap.size + 1 < W.heap.size := (Array.getElem?_eq_some_iff.1 hl).1
      have hy := run_yield (P := P) (args := encs x) hl (by rw [hrec]; exact hps x)
      rw [hrec] at hy
      refine ⟨fn, _, assign, body, hy, roundIn_of_wpIn trivial (hassign _ x W _ ⟨_, run_beginRound hl (by rw [hrec]), ?_⟩)⟩
      have hl2 : (W.putObj (w.heap.size + 1) (.loop { rec .ready none with state := .busy })).heap[w.heap.size + 1]? = some (.loop { rec .ready none with state := .busy }) := World.putObj_heap_same hlt
      have hk2 : (W.putObj (w.heap.size + 1) (.loop { rec .ready none with state := .busy })).heap[w.heap.size]? = some (.deferred (some [])) := (World.putObj_heap_other (by omega)).trans hk
      have hw2 : Kp W (W.putObj (w.heap.size + 1) (.loop { rec .ready none with state := .busy })) := hKp _ _ _ hl
      refine wpIn_mono (hbody _ pre x _ _ (hI _ _ _ _ hi hl) (hIt _ _ _ _ _ hit hl) hl2 hk2) ?_
      have fin : ∀ (jump : Option Code) (W3 : World), KeepLD w.heap.size (W.putObj (w.heap.size + 1) (.loop { rec .ready none with state := .busy })) W3 →
          (Instr.endRound (w.heap.size + 1) jump).run P W3 = .ok (.bool jump.isNone) (W3.putObj (w.heap.size + 1) (.loop (rec (if jump.isNone then .ready else .done) jump))) ∧
          W3.heap[w.heap.size + 1]? = some (.loop { rec .ready none with state := .busy }) ∧
          (W3.putObj (w.heap.size + 1) (.loop (rec (if jump.isNone then .ready else .done) jump))).heap[w.heap.size + 1]? = some (.loop (rec (if jump.isNone then .ready else .done) jump)) ∧
          (W3.putObj (w.heap.size + 1) (.loop (rec (if jump.isNone then .ready else .done) jump))).heap[w.heap.size]? = some (.deferred (some [])) := fun jump W3 hk3 => by
        have hl3 := hk3.2.trans hl2
        have := run_endRound (P := P) jump hl3
        rw [hrec] at this ⊢
        exact ⟨this, by rw [hrec] at hl3; exact hl3, World.putObj_heap_same (Array.getElem?_eq_some_iff.1 hl3).1, (World.putObj_heap_other (by omega)).trans (hk3.1.trans hk2)⟩
      rintro e a3 W3 hp
      cases e with
      | normal =>
        obtain ⟨hk3, hkp3, hi3⟩ := hp
        obtain ⟨hr, hl3, hl4, hk4⟩ := fin none W3 hk3
        exact ⟨_, _, hr, .inl ⟨rfl, ⟨hI _ _ _ _ hi3 hl3, hl4, hk4⟩, hKt _ _ _ (hKt _ _ _ hw2 hkp3) (hKp _ _ _ hl3)⟩⟩
      | ret =>
        obtain ⟨hk3, hi3⟩ := hp
        obtain ⟨hr, hl3, hl4, hk4⟩ := fin (some .ret) W3 hk3
        exact ⟨_, _, hr, .inr ⟨rfl, .ret, hIx _ _ _ _ _ hi3 hl3, hl4, hk4⟩⟩
      | exit id =>
        obtain ⟨hk3, hi3⟩ := hp
        obtain ⟨hr, hl3, hl4, hk4⟩ := fin (some (.exit id)) W3 hk3
        exact ⟨_, _, hr, .inr ⟨rfl, .exit id, hIx _ _ _ _ _ hi3 hl3, hl4, hk4⟩⟩
      | goto t =>
        obtain ⟨hk3, hi3⟩ := hp
        obtain ⟨hr, hl3, hl4, hk4⟩ := fin (some (.goto t)) W3 hk3
        exact ⟨_, _, hr, .inr ⟨rfl, .goto t, hIx _ _ _ _ _ hi3 hl3, hl4, hk4⟩⟩
      | panic ch => exact hp.elim
      | outgrown => exact hp.elim
    · rintro e W2 ⟨⟨v, rfl⟩, (⟨xs, hS, hi, hl, hk⟩ | ⟨pre, hSp, c, hi, hl, hk⟩)⟩
      · exact ⟨none, _, by have := run_endLoop (P := P) hl (by rw [hrec]; simp); rw [hrec] at this; exact this, hdone xs _ (hSk _ _ _ _ hS hl) (hI _ _ _ _ hi hl) ((World.putObj_heap_other (by omega)).trans hk)⟩
      · exact ⟨some c, _, by have := run_endLoop (P := P) hl (by rw [hrec]; simp); rw [hrec] at this; exact this, hstop c pre _ (hSpk _ _ _ _ hSp hl) (hIx _ _ _ _ _ hi hl) ((World.putObj_heap_other (by omega)).trans hk)⟩
end Go.Proofs.YteamhbohgoclgaaGreatDoor

namespace Go.Proofs.YteamhbohgoclgaaGreatDoor
open Go.RowKit Go.Shelf
attribute [local go_sem] Oper.semAt_some

theorem RV.keepG {w w' : World} {g n cap : Nat} {us : List Value} (h : RV w (.slice (some ⟨g, 0, none⟩) n cap) us) (hs : w.heap.size ≤ w'.heap.size) (hk : w'.heap[g]? = w.heap[g]?) : RV w' (.slice (some ⟨g, 0, none⟩) n cap) us := by
  obtain ⟨A, c, he, h3, h4, h5⟩ := h
  refine ⟨A, c, he, h3, h4, fun k hkl => ?_⟩
  obtain ⟨ad, rfl, hb, hc⟩ := h5 k hkl
  simp only [Value.slice.injEq, Option.some.injEq] at he
  obtain ⟨rfl, -⟩ := he
  refine ⟨_, rfl, by omega, ?_⟩
  rw [World.cell?_of_block (w := w) (by rw [block_of_add]; exact hk)]
  exact hc
/-- The wood that the iterator has captured. -/
def WS (hb b gd cap n : Nat) (tl cs : List Int) (bl : List Bool) (W : World) : Prop :=
  BL W hb 225 [.pointer (some ⟨b, 0, none⟩)] ∧ WD W b n tl (.slice (some ⟨gd, 0, none⟩) n cap) bl ∧ RI W (.slice (some ⟨gd, 0, none⟩) n cap) cs
theorem WS.keep {hb b gd cap n : Nat} {tl cs : List Int} {bl : List Bool} {W W' : World} (h : WS hb b gd cap n tl cs bl W) (hk : LkK [hb, b, gd] W W') : WS hb b gd cap n tl cs bl W' :=
  ⟨(hk.2 hb (by simp)).trans h.1, h.2.1.keep (hk.2 b (by simp)), RV.keepG h.2.2 hk.1 (hk.2 gd (by simp))⟩
theorem WS.below {hb b gd cap n : Nat} {tl cs : List Int} {bl : List Bool} {W W' : World} (h : WS hb b gd cap n tl cs bl W) (hw : Below W.heap.size W W') : WS hb b gd cap n tl cs bl W' :=
  ⟨h.1.bel hw, h.2.1.bel hw, RI.below h.2.2 hw⟩
theorem WS.ne {hb b gd cap n : Nat} {tl cs : List Int} {bl : List Bool} {W : World} (h : WS hb b gd cap n tl cs bl W) : hb ≠ b := by
  rintro rfl
  have h1 := h.1
  have h2 := h.2.1.1
  unfold BL at h1 h2
  rw [h1] at h2
  simp only [Option.some.injEq, Obj.cells.injEq] at h2
  exact absurd h2.2.1 (by decide)
theorem WS.set {hb b gd cap n : Nat} {tl cs : List Int} {bl : List Bool} {W : World} (h : WS hb b gd cap n tl cs bl W) (hg : gd ≠ b) {j : Nat} (hj : j < 12) (x : Bool) : WS hb b gd cap n tl cs (bl.set j x) (W.setCell ⟨b, 146 + j, none⟩ (.bool x)) :=
  ⟨h.1.set_other h.ne _, h.2.1.setB hj x, RV.keep1 h.2.2 hg _⟩
/-- What burns when the vertices xs have caught fire. -/
def blOf (q : Nat) (xs : List Nat) : List Bool := xs.foldl (fun bl v => bl.set v true) ((List.replicate 12 false).set q true)
theorem blOf_snoc (q : Nat) (xs : List Nat) (v : Nat) : blOf q (xs ++ [v]) = (blOf q xs).set v true := by simp [blOf]
theorem blOf_len (q : Nat) (xs : List Nat) : (blOf q xs).length = 12 := by
  unfold blOf
  have : ∀ (l : List Nat) (bl : List Bool), (l.foldl (fun bl v => bl.set v true) bl).length = bl.length := fun l => by
    induction l with
    | nil => intro bl; rfl
    | cons x r ih => intro bl; simp [ih]
  rw [this]; simp
theorem fnB_set12 {bl : List Bool} (hl : bl.length = 12) {v : Nat} (hv : v < 12) (u : Nat) : fnB (bl.set v true) u = if v = u then true else fnB bl u := by
  unfold fnB
  rw [List.getD_eq_getElem?_getD, List.getElem?_set, List.getD_eq_getElem?_getD]
  by_cases e : v = u
  · subst e; rw [if_pos rfl, if_pos rfl, if_pos (by omega)]; rfl
  · rw [if_neg e, if_neg e]
/-- What burns can't be in a part that can fire. -/
def BurnW (n q : Nat) (es : List Tri) (cs : List Int) (bl : List Bool) : Prop :=
  bl.length = 12 ∧ fnB bl q = true ∧ ∀ A : Nat → Bool, A q = false → Legal n (wgt es) (fnD cs) A → ∀ v, v < n → fnB bl v = true → A v = false
theorem burnw_start {n q : Nat} {es : List Tri} {cs : List Int} (hq : q < 12) : BurnW n q es cs (blOf q []) := by
  have e : blOf q [] = (List.replicate 12 false).set q true := rfl
  rw [e]
  refine ⟨by simp, by rw [fnB_set12 (by simp) hq, if_pos rfl], fun A hA _ v _ hb => ?_⟩
  rw [fnB_set12 (by simp) hq] at hb
  by_cases e : q = v
  · subst e; exact hA
  · rw [if_neg e] at hb
    unfold fnB at hb
    rw [List.getD_eq_getElem?_getD, List.getElem?_replicate] at hb
    split at hb <;> cases hb
theorem burnw_step {n q v : Nat} {es : List Tri} {cs : List Int} {bl : List Bool} (hr : Rt n es) (h : BurnW n q es cs bl) (hv : v < n) (hc : catchB n es cs bl v = true) : BurnW n q es cs (bl.set v true) := by
  have h6 := hr.n6
  unfold catchB at hc
  simp only [Bool.and_eq_true, Bool.not_eq_true', decide_eq_true_eq] at hc
  refine ⟨by simpa using h.1, by rw [fnB_set12 h.1 (by omega)]; split; rfl; exact h.2.1, fun A hA hl u hu hb => ?_⟩
  rw [fnB_set12 h.1 (by omega)] at hb
  by_cases e : v = u
  · subst e
    exact burn_step (wgt_nonneg hr.ed.pos) hl (fun u hu hb => h.2.2 A hA hl u hu hb) hv hc.2
  · rw [if_neg e] at hb
    exact h.2.2 A hA hl u hu hb
def unb (n : Nat) (bl : List Bool) : Nat := countN n fun u => !fnB bl u
theorem unb_set {n v : Nat} {bl : List Bool} (hl : bl.length = 12) (hv : v < n) (hn : n ≤ 12) (hb : fnB bl v = false) : unb n (bl.set v true) + 1 = unb n bl :=
  countN_drop hv (by simp [hb]) (by simp [fnB_set12 hl (show v < 12 by omega)]) (fun u _ hne => by simp only [fnB_set12 hl (show v < 12 by omega)]; rw [if_neg (fun e => hne e.symm)])
end Go.Proofs.YteamhbohgoclgaaGreatDoor

namespace Go.Proofs.YteamhbohgoclgaaGreatDoor
open Go.RowKit Go.Shelf

theorem fireF_any (b : Nat) (w : World) : Calls Tryz.prog 167 #[.pointer (some ⟨b, 0, none⟩)] w fun e w' =>
    e = .returned (.func (.func 215) #[] #[.pointer (some ⟨w.heap.size, 0, none⟩)]) ∧ w.alloc (.cells #[.pointer (some ⟨b, 0, none⟩)] 225) = w' := by
  go_enter Tryz.func167, Tryz.ntmps167
  go_wp2
  go_ret
  exact ⟨rfl, rfl⟩
/-- The vertices below k that are not burnt. -/
def leftV (bl : List Bool) (k : Nat) : List Int := ((List.range k).filter fun u => !fnB bl u).map fun u : Nat => (u : Int)
theorem leftV_succ (bl : List Bool) (k : Nat) : leftV bl (k + 1) = if fnB bl k = true then leftV bl k else leftV bl k ++ [(k : Int)] := by
  unfold leftV
  rw [List.range_succ, List.filter_append, List.map_append]
  cases h : fnB bl k <;> simp [h]
theorem leftV_len (bl : List Bool) (k : Nat) : (leftV bl k).length ≤ k := by
  unfold leftV
  rw [List.length_map]
  exact Nat.le_trans (List.length_filter_le _ _) (by simp)
theorem leftV_nil {bl : List Bool} {k : Nat} : leftV bl k = [] ↔ ∀ u, u < k → fnB bl u = true := by
  unfold leftV
  rw [List.map_eq_nil_iff, List.filter_eq_nil_iff]
  simp
theorem one_ones {u : Value} (h : u.oneCell' = true) : ∀ x ∈ [u], x.oneCell' = true := by simp [h]
theorem RV.ones (w : World) (u : Value) (e : TypeId) : RV (w.alloc (.cells #[u] e)) (.slice (some ⟨w.heap.size, 0, none⟩) 1 1) [u] := RV.lit w #[u] e 1 rfl (by omega)
theorem unburntW_any (b n : Nat) (tl : List Int) (ch : Value) (bl : List Bool) (w : World) (hn : n ≤ 12) (hw : WD w b n tl ch bl) :
    Calls Tryz.prog 168 #[.pointer (some ⟨b, 0, none⟩)] w fun e w' => ∃ v, e = .returned v ∧ OI w' w.heap.size v (leftV bl n) ∧ Below w.heap.size w w' := by
  obtain ⟨i0, hi, hz0, hz1, hz2⟩ := info_parts int_info
  have HW := Hd hw
  have c0 := hw.n
  have hbl := hw.1.lt
  clear hw
  go_enter Tryz.func168, Tryz.ntmps168
  go_wp2
  go_loopw [3, 9] (fun vs i wr => ∃ k : Nat, k ≤ n ∧ i = .int .i64 (k : Int) ∧ Hid (OI wr w.heap.size vs (leftV bl k)) ∧ Hid (Below w.heap.size w wr)) (fun _ i _ => n - (intOf i).toNat)
  case atStart => exact ⟨0, Nat.zero_le _, rfl, OI.nil_ _ _, Below.refl _ _⟩
  case round =>
    obtain ⟨k, hk, rfl, ho, hbe⟩ := hrel
    rename_i vs _ _
    by_cases hlt : k < n
    · have cb := (HW.out.bel hbe.out).burnt (j := k) (by omega)
      have HS := Hd (leftV_succ bl k)
      have hll := leftV_len bl k
      have hsz := hbe.out.size
      cases hb : fnB bl k
      · rw [hb] at cb HS
        rw [if_neg (by simp)] at HS
        have h1 := Hd (RV.ones wr (.int .i64 (k : Int)) 3)
        have ho1 := Hd (OV.below ho.out (below_alloc wr (.cells #[.int .i64 (k : Int)] 3)))
        clear hb
        go_wp2_with (at_builtin; refine wpList_appendV _ rfl _ _ _ rfl 3 i0 _ 8 Tryz.underlying37 hi hz0 hz1 hz2 rfl w.heap.size _ _ rfl ho1.out _ _ rfl h1.out (one_ones rfl) (by simp; omega) (by simp; omega) (by simp; omega) ?_; intro v1 w1 hown1 hg1 hat1)
        have HO := Hd hown1
        clear hown1
        go_wp2
        go_roundw
        case rel => exact ⟨k + 1, by omega, by go_num, by rw [HS.out]; show OI _ _ _ _; simpa [OI] using HO.out, below_own (hbe.out.trans ((below_alloc wr _).mono hbe.out.size)) (by simp; omega) ho1.out hg1⟩
        case measure => simp [intOf]; omega
      · rw [hb] at cb HS
        rw [if_pos rfl] at HS
        clear hb
        go_wp2
        go_roundw
        case rel => exact ⟨k + 1, by omega, by go_num, by rw [HS.out]; exact ho.out, hbe.out⟩
        case measure => simp [intOf]; omega
    · obtain rfl : k = n := by omega
      go_wp2
      go_ret
      exact ⟨_, rfl, ho.out, hbe.out⟩
open Go.RowKit Go.Shelf
attribute [local go_sem] Oper.semAt_some

theorem burnw_tight {n q : Nat} {es : List Tri} {cs : List Int} {bl : List Bool} (hb : BurnW n q es cs bl) (hc : ∀ u, u < n → catchB n es cs bl u = false) : leftV bl n = [] ↔ Tight n (wgt es) q (fnD cs) := by
  rw [leftV_nil]
  constructor
  · intro hall
    exact tight_of_burnt fun A hA hl v hv => hb.2.2 A hA hl v hv (hall v hv)
  · intro ht u hu
    apply Classical.byContradiction
    intro hne
    obtain ⟨v, hv, hA, hlt⟩ := ht (fun x => !fnB bl x) (by simp [hb.2.1]) ⟨u, hu, by simpa using hne⟩
    rw [outw_not] at hlt
    have h := hc v hv
    unfold catchB at h
    have hf : fnB bl v = false := by simpa using hA
    rw [hf] at h
    simp only [Bool.not_false, Bool.true_and, decide_eq_false_iff_not] at h
    exact h hlt
theorem Fr.grownG {Bs : List Nat} {w W W' : World} {row : Option Nat} (h : Fr Bs w W) (hg : W.grownBy W' row) (hr : ∀ k, row = some k → w.heap.size ≤ k) : Fr Bs w W' :=
  ⟨hg.os.trans h.os, hg.tape.trans h.tape, hg.output.trans h.output, Nat.le_trans h.size hg.size, fun k hk hn => (hg.block k (by have := h.size; omega) (fun e => by have := hr k e.symm; omega)).trans (h.block k hk hn)⟩
/-- What holds while the order of burning is written down. -/
def BnI (w0 : World) (B ob b hb gd q : Nat) (pre : List Nat) (W : World) : Prop :=
  ∃ g cap, BL W ob 37 [.slice (some ⟨g, 0, none⟩) (pre.length + 1) cap] ∧ OI W B (.slice (some ⟨g, 0, none⟩) (pre.length + 1) cap) ((q : Int) :: pre.map fun x : Nat => (x : Int)) ∧ (g ≠ hb ∧ g ≠ b ∧ g ≠ gd) ∧ Fr [b] w0 W
theorem BnI.fr {w0 : World} {B ob b hb gd q : Nat} {pre : List Nat} {A C : World} (h : BnI w0 B ob b hb gd q pre A) (hob : ob ≠ b) (hr : Fr [b] A C) : BnI w0 B ob b hb gd q pre C := by
  obtain ⟨g, cap, h1, h2, h3, h5⟩ := h
  exact ⟨g, cap, h1.fr hr (by simpa using hob), OV.fr h2 hr (fun g' hg => by simp only [Value.ownBlock, Option.some.injEq] at hg; subst hg; simpa using h3.2.1), h3, h5.trans hr⟩
theorem own_lit (w : World) (z : Int) : OI (w.alloc (.cells #[.int .i64 z] 3)) w.heap.size (.slice (some ⟨w.heap.size, 0, none⟩) 1 1) [z] := by
  refine ⟨⟨by simp, .inr ⟨w.heap.size, 1, #[.int .i64 z], by simp, Nat.le_refl _, heap_alloc_new w _, by simp, by unfold maxLen; omega, by simp, by simp⟩⟩, by simp⟩
/-- An own list with one more int behind it. -/
theorem run_append_one {P : Program} (w : World) (t ty e : TypeId) (i : TypeInfo) (z : Value) (ht : P.underlying t = some (.slice e)) (hi : P.info? e = some i) (hz : i.zero = some z)
    (hsize : i.size = 1) (hby : i.bytes = 8) (hzs : z.cells.size = 1) (B : Nat) (v : Value) (us : List Value) (hown : OV w B e v us) (u : Value) (h1 : u.oneCell' = true) (hb : us.length ≤ 1000) (hB : B ≤ w.heap.size) :
    ∃ g cap w', (Builtin.append_ #[t, t] ty #[v, .slice (some ⟨w.heap.size, 0, none⟩) 1 1]).run P (w.alloc (.cells #[u] e)) = .ok (.slice (some ⟨g, 0, none⟩) (us.length + 1) cap) w' ∧
      OV w' B e (.slice (some ⟨g, 0, none⟩) (us.length + 1) cap) (us ++ [u]) ∧ (w.alloc (.cells #[u] e)).grownBy w' v.ownBlock ∧ (v.ownBlock = some g ∨ g = w.heap.size + 1) := by
  obtain ⟨v', w', hrun, ho, hg, hat⟩ := run_appendV (P := P) (w.alloc (.cells #[u] e)) t ty e i z 8 ht hi hz hsize hby hzs B v us (OV.below hown (below_alloc w _)) _ [u] (RV.ones w u e) (one_ones h1) (by simp; omega) (by simp; omega) (by simp; omega)
  obtain ⟨g, cap, rfl, -, -⟩ := OV.shape ho (by simp)
  refine ⟨g, cap, w', by simpa using hrun, by simpa using ho, hg, ?_⟩
  rcases hat with h | h
  · exact .inl (by rw [← h]; rfl)
  · right
    simp only [Value.ownBlock, World.size_alloc, Option.some.injEq] at h
    exact h
end Go.Proofs.YteamhbohgoclgaaGreatDoor

namespace Go.Proofs.YteamhbohgoclgaaGreatDoor
open Go.RowKit Go.Shelf
attribute [local go_sem] Oper.semAt_some

theorem run_store_func (P : Program) (w : World) (a : Addr) (m : Mode) (f : Fn) (b c : Array Value) : (store a (.func f b c) m).run P w = stored P w a (.func f b c) m := run_store P w a _ m rfl
attribute [local go_sem] run_store_func
end Go.Proofs.YteamhbohgoclgaaGreatDoor

namespace Go.Proofs.YteamhbohgoclgaaGreatDoor
open Go.RowKit Go.Shelf
attribute [local go_sem] Oper.semAt_some run_store_func

theorem run_loadVar_cell1 {P : Program} (w : World) (t : TypeId) (a : Addr) (v : Value) (d : TypeDesc) (hu : P.underlying t = some d) (hd : (match d with | .struct _ | .array _ _ => true | _ => false) = false)
    (hc : w.cell? a = some v) : (loadVar t a).run P w = .ok v w := by
  have hagg : (isAgg t).run P w = .ok false w := by
    unfold isAgg
    rw [Sem.run_bind, run_underlying hu w]
    cases d <;> simp_all
  simp [loadVar, Sem.run_bind, hagg, go_sem, hc]
/-- Two results in cells. -/
theorem results_cell2 {P : Program} {fn : Func} {p u : Tmp} {t1 t2 : TypeId} (h : fn.results = #[.cell p t1, .cell u t2]) (tmps : Array Value) (w : World) (d1 d2 : TypeDesc) (b1 b2 : Nat) (v1 v2 : Value)
    (hp : tmps.getD p undef = .pointer (some ⟨b1, 0, none⟩)) (hq : tmps.getD u undef = .pointer (some ⟨b2, 0, none⟩))
    (hu1 : P.underlying t1 = some d1) (hu2 : P.underlying t2 = some d2) (hd1 : (match d1 with | .struct _ | .array _ _ => true | _ => false) = false) (hd2 : (match d2 with | .struct _ | .array _ _ => true | _ => false) = false)
    (h1 : w.cell? ⟨b1, 0, none⟩ = some v1) (h2 : w.cell? ⟨b2, 0, none⟩ = some v2) :
    (results fn tmps).run P w = .ok (.tuple #[v1, v2]) w := by
  have hp' : tmps[p]?.getD undef = .pointer (some ⟨b1, 0, none⟩) := by simpa using hp
  have hq' : tmps[u]?.getD undef = .pointer (some ⟨b2, 0, none⟩) := by simpa using hq
  simp [results, h, hp', hq', asAddr, run_loadVar_cell1 w t1 _ v1 d1 hu1 hd1 h1, run_loadVar_cell1 w t2 _ v2 d2 hu2 hd2 h2]
end Go.Proofs.YteamhbohgoclgaaGreatDoor

namespace Go.Proofs.YteamhbohgoclgaaGreatDoor
open Go.RowKit Go.Shelf

def es3 : List Tri := [(0, 1, 1), (0, 2, 1), (1, 2, 1)]
open Go.RowKit Go.Shelf

def p10 : Nat → Int
  | 0 => 1
  | k + 1 => 10 * p10 k
theorem p10_pos (k : Nat) : 1 ≤ p10 k := by
  induction k with
  | zero => simp [p10]
  | succ k ih => rw [p10]; omega
theorem p10_mono {a b : Nat} (h : a ≤ b) : p10 a ≤ p10 b := by
  induction b with
  | zero => rw [show a = 0 by omega]; exact Int.le_refl _
  | succ b ih =>
    by_cases e : a = b + 1
    · rw [e]; exact Int.le_refl _
    · have := ih (by omega)
      have := p10_pos b
      rw [p10]; omega
def dval : List Int → Int
  | [] => 0
  | d :: r => d + 10 * dval r
def Dig (l : List Int) : Prop := ∀ k, 0 ≤ l.getD k 0 ∧ l.getD k 0 ≤ 9
def Can (l : List Int) : Prop := l = [] ∨ l.getD (l.length - 1) 0 ≠ 0
theorem Dig.tail {d : Int} {r : List Int} (h : Dig (d :: r)) : (0 ≤ d ∧ d ≤ 9) ∧ Dig r := ⟨by simpa using h 0, fun k => by simpa using h (k + 1)⟩
theorem dig_nil : Dig [] := fun k => by simp
theorem Dig.snoc {l : List Int} {d : Int} (h : Dig l) (h0 : 0 ≤ d) (h9 : d ≤ 9) : Dig (l ++ [d]) := fun k => by
  rcases Nat.lt_trichotomy k l.length with c | c | c
  · rw [List.getD_eq_getElem?_getD, List.getElem?_append_left c, ← List.getD_eq_getElem?_getD]; exact h k
  · rw [List.getD_eq_getElem?_getD, List.getElem?_append_right (by omega), c]; simp; omega
  · rw [List.getD_eq_getElem?_getD, List.getElem?_append_right (by omega), List.getElem?_eq_none (by simp; omega)]; simp
theorem Dig.take {l : List Int} (h : Dig l) (n : Nat) : Dig (l.take n) := fun k => by
  by_cases c : k < n
  · rw [List.getD_eq_getElem?_getD, List.getElem?_take_of_lt c, ← List.getD_eq_getElem?_getD]; exact h k
  · rw [List.getD_eq_getElem?_getD, List.getElem?_eq_none (by simp; omega)]; simp
theorem dval_bd {l : List Int} (h : Dig l) : 0 ≤ dval l ∧ dval l < p10 l.length := by
  induction l with
  | nil => simp [dval, p10]
  | cons d r ih =>
    obtain ⟨h1, h2⟩ := h.tail
    have := ih h2
    simp only [dval, List.length_cons, p10]
    omega
theorem dval_append (a b : List Int) : dval (a ++ b) = dval a + p10 a.length * dval b := by
  induction a with
  | nil => simp [dval, p10]
  | cons d r ih => simp only [List.cons_append, dval, ih, List.length_cons, p10]; grind
theorem dval_snoc (l : List Int) (d : Int) : dval (l ++ [d]) = dval l + p10 l.length * d := by rw [dval_append]; simp [dval]
theorem dval_split (l : List Int) {k : Nat} (hk : k ≤ l.length) : dval l = dval (l.take k) + p10 k * dval (l.drop k) := by
  have := dval_append (l.take k) (l.drop k)
  rw [List.take_append_drop, List.length_take, Nat.min_eq_left hk] at this
  exact this
theorem can_ge {l : List Int} (h : Dig l) (hc : Can l) (hl : l ≠ []) : p10 (l.length - 1) ≤ dval l := by
  have hlen : 0 < l.length := List.length_pos_iff.2 hl
  have h1 := dval_split l (k := l.length - 1) (by omega)
  have h2 := (dval_bd (h.take (l.length - 1))).1
  have h3 : l.drop (l.length - 1) = [l.getD (l.length - 1) 0] := by
    rw [List.drop_eq_getElem_cons (by omega), List.drop_eq_nil_of_le (by omega), List.getD_eq_getElem?_getD, List.getElem?_eq_getElem (by omega)]; rfl
  have h4 := h (l.length - 1)
  have h5 : l.getD (l.length - 1) 0 ≠ 0 := by
    rcases hc with hc | hc
    · exact absurd hc hl
    · exact hc
  rw [h3] at h1
  simp only [dval] at h1
  generalize l.getD (l.length - 1) 0 = z at *
  have h6 := Int.mul_le_mul_of_nonneg_left (show (1 : Int) ≤ z + 10 * 0 by omega) (show 0 ≤ p10 (l.length - 1) by have := p10_pos (l.length - 1); omega)
  omega
theorem can_len {l : List Int} (h : Dig l) (hc : Can l) {k : Nat} (hk : dval l < p10 k) : l.length ≤ k := by
  by_cases e : l = []
  · rw [e]; simp
  · have h1 := can_ge h hc e
    apply Classical.byContradiction
    intro hn
    have := p10_mono (a := k) (b := l.length - 1) (by omega)
    omega
/-- Text of digits. -/
def chrs (l : List Int) : List UInt8 := l.reverse.map fun d => UInt8.ofNat (48 + d).toNat
def textL (l : List Int) (m : Bool) : List UInt8 := if l = [] then [48] else if m then 45 :: chrs l else chrs l
def sgZ (l : List Int) (m : Bool) : Int := if m then - dval l else dval l
/-- A value that is the text of a canonical integer. -/
def ZS (v : Value) (z : Int) : Prop := ∃ (l : List Int) (m : Bool), v = .string ⟨(textL l m).toArray⟩ ∧ Dig l ∧ Can l ∧ (l = [] → m = false) ∧ z = sgZ l m
def B15 (z : Int) : Prop := -1000000000000000 < z ∧ z < 1000000000000000
theorem p15 : p10 15 = 1000000000000000 := by decide
theorem chr_nat {d : Int} (h0 : 0 ≤ d) (h9 : d ≤ 9) : (UInt8.ofNat (48 + d).toNat).toNat = (48 + d).toNat := by
  rw [UInt8.toNat_ofNat']; exact Nat.mod_eq_of_lt (by omega)
open Go.RowKit Go.Shelf

theorem OI.snoc {w W : World} {o : Value} {out : List Int} (h : OI W w.heap.size o out) (z : Int) (hb : Below w.heap.size w W) :
    OV (W.alloc (.cells #[.int .i64 z] 3)) w.heap.size 3 o (out.map (Value.int .i64)) ∧ RV (W.alloc (.cells #[.int .i64 z] 3)) (.slice (some ⟨W.heap.size, 0, none⟩) 1 1) [.int .i64 z] ∧
      ∀ v1 w3, OV w3 w.heap.size 3 v1 (out.map (Value.int .i64) ++ [.int .i64 z]) → (W.alloc (.cells #[.int .i64 z] 3)).grownBy w3 o.ownBlock → OI w3 w.heap.size v1 (out ++ [z]) ∧ Below w.heap.size w w3 := by
  have hba := below_alloc W (.cells #[.int .i64 z] 3)
  have hov := OV.below h hba
  refine ⟨hov, RV.ones W _ _, fun v1 w3 hown hg => ⟨?_, ?_⟩⟩
  · show OV _ _ _ _ _
    simpa using hown
  · exact below_own (hb.trans (hba.mono hb.size)) (by have := hb.size; have := hba.size; omega) hov hg
theorem len_append1 (out : List Int) (z : Int) : (out ++ [z]).length = out.length + 1 := by simp
open Go.RowKit Go.Shelf

theorem getD_of {a : List Int} {j : Nat} {x : Int} (h : a[j]? = some x) : a.getD j 0 = x := by rw [List.getD_eq_getElem?_getD, h]; rfl
open Go.RowKit Go.Shelf

theorem getD_snoc_last (l : List Int) (d : Int) : (l ++ [d]).getD l.length 0 = d := by rw [List.getD_eq_getElem?_getD, List.getElem?_append_right (Nat.le_refl _)]; simp
theorem rem_at {s : Int} (h : 0 ≤ s) : s.tmod 10 = s % 10 := Int.tmod_eq_emod_of_nonneg h
theorem quo_at {s : Int} (h : 0 ≤ s) : s.tdiv 10 = s / 10 := Int.tdiv_eq_ediv_of_nonneg h
end Go.Proofs.YteamhbohgoclgaaGreatDoor

