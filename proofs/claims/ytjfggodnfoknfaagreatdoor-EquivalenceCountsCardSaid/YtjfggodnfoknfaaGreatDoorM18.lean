/- Contract of stabilize.pileOf, as far as its shape.
   Contracts of stabilize.Maximal and superstable.first, as far as their shape; All.
   Contracts of cmp.Compare at ints, slices.Compare at divisors, and of the closure of Classes.
   equivalence's normal: the iterator of normal forms. -/
import Derived.Test.YtjfggodnfoknfaaGreatDoorM17
import Derived.Deep.DeepCutAuto
set_option maxRecDepth 100000
set_option maxHeartbeats 16000000
namespace Go.Proofs.YtjfggodnfoknfaaGreatDoor
open Go.RowKit Go.Shelf
attribute [local go_sem] Oper.semAt_some

theorem BL.newAt {X : World} {b : Nat} {us : Array Value} {T : TypeId} {l : List Value} (hb : b = X.heap.size) (hl : us.toList = l) : BL (X.alloc (.cells us T)) b T l := by subst hb; subst hl; exact BL.new' X us T
theorem IS.made0 {w : World} {B n : Nat} (hB : B ≤ w.heap.size) : IS (w.alloc (.cells (madeCells #[Value.int .i64 0] n) 3)) B (.slice (some ⟨w.heap.size, 0, none⟩) n n) n := IS.made rfl hB
theorem IS.made1 {w : World} {o : Obj} {B n : Nat} (hB : B ≤ w.heap.size) : IS ((w.alloc o).alloc (.cells (madeCells #[Value.int .i64 0] n) 3)) B (.slice (some ⟨w.heap.size + 1, 0, none⟩) n n) n := IS.made (by simp) (by simp; omega)
theorem SPil.alloc {W0 W : World} {x : Nat} {v : Value} {o : Obj} (hx : x < W0.heap.size) (h : W.cell? ⟨x, 0, none⟩ = some v ∧ Below W0.heap.size W0 W) : (W.alloc o).cell? ⟨x, 0, none⟩ = some v ∧ Below W0.heap.size W0 (W.alloc o) :=
  ⟨(World.cell?_alloc_lt _ _ _ (by have := h.2.size; show x < _; omega)).trans h.1, h.2.alloc h.2.size _⟩
theorem SPil.below {W0 W W' : World} {x : Nat} {v : Value} (hx : x < W0.heap.size) (h : W.cell? ⟨x, 0, none⟩ = some v ∧ Below W0.heap.size W0 W) (hb : Below W.heap.size W W') : W'.cell? ⟨x, 0, none⟩ = some v ∧ Below W0.heap.size W0 W' :=
  ⟨(hb.cell (p := ⟨x, 0, none⟩) (by have := h.2.size; show x < _; omega)).trans h.1, h.2.trans (hb.mono h.2.size)⟩
theorem pileOf_any (g vd : Value) (n : Nat) (es : List Tri) (q : Int) (zs : List Int) (w : World) (hg : GV w g n es) (hr : Rt n es) (hd : RI w vd zs) (hzl : zs.length = n) :
    Calls Tryz.prog 114 #[g, .int .i64 q, vd] w fun e w' => ∃ b, e = .returned (.tuple #[.pointer (some ⟨b, 0, none⟩), .int .i64 0]) ∧ PL w' w.heap.size b n q n ∧ Below w.heap.size w w' := by
  obtain ⟨A, c, rfl, -, -, -⟩ := hg.open_
  obtain ⟨A2, c2, rfl, -, -, -⟩ := hd.open_
  have hn1 := hr.n1
  have hn6 := hr.n6
  have hmk := run_make_row' (P := Tryz.prog) 25 3 (.int .i64 0) 8 Tryz.underlying25 int_info rfl .i64 .i64 n (by omega) (by omega)
  obtain ⟨W0, hW0⟩ : ∃ W0, W0 = w.alloc (.cells #[.int .i64 (n : Int), .slice A es.length c] 24) := ⟨_, rfl⟩
  have hb0 : Below w.heap.size w W0 := by rw [hW0]; exact below_alloc w _
  have hx0 : BL W0 w.heap.size 24 [.int .i64 (n : Int), .slice A es.length c] := by rw [hW0]; exact BL.new' w _ _
  have hz0 : W0.heap.size = w.heap.size + 1 := by rw [hW0]; simp
  have HCl : Hid (∀ W, Below W0.heap.size W0 W → Calls Tryz.prog 148 #[.slice A2 zs.length c2] W fun e w' => ∃ A6 c6, e = .returned (.slice A6 n c6) ∧ IS w' W0.heap.size (.slice A6 n c6) n ∧ Below W.heap.size W w') :=
    fun W hb => (CloneI_any _ zs W (RI.below (RI.below hd hb0) hb) (by omega)).mono fun e w' ⟨v, he, ho, hb'⟩ => by
      obtain ⟨A6, c6, hv6, -, -, -⟩ := OV.rv ho
      rw [List.length_map, hzl] at hv6
      subst hv6
      have := IS.ofOI ho (by omega)
      rw [hzl] at this
      obtain ⟨g, c, h1, h2, h3, h4⟩ := this
      exact ⟨A6, c6, he, ⟨g, c, h1, h2, by have := hb.size; omega, h4⟩, hb'⟩
  have HX0 := Lib.hid hx0
  have HB0 := Lib.hid hb0
  have HG0 := Lib.hid (hg.below hb0)
  have HZ0 := Lib.hid hz0
  have HW0 := Lib.hid hW0
  have HR := Lib.hid hr
  have HZl := Lib.hid hzl
  have c00 : W0.cell? ⟨w.heap.size, 0, none⟩ = some (.int .i64 (n : Int)) := hx0.cell 0
  have HC0 := Lib.hid c00
  clear hg hr hd hzl hb0 hx0 hz0 hW0 c00
  go_enter Tryz.func114, Tryz.ntmps114
  go_upto_region 1 with fail
  rw [← HW0.out]
  go_cut [8] from 16 to 26 (fun p wx => ∃ b, p = .pointer (some ⟨b, 0, none⟩) ∧ Hid (PL wx W0.heap.size b n q 0) ∧ Hid (Below W0.heap.size W0 wx))
  case first =>
    have HXl : Hid (w.heap.size < W0.heap.size) := by show _ < _; have := HZ0.out; omega
    have HS0 : Hid (W0.drew.cell? ⟨w.heap.size, 0, none⟩ = some (.int .i64 (n : Int)) ∧ Below W0.heap.size W0 W0.drew) := ⟨HC0.out, (Below.refl _ _).drew⟩
    go_region_held3 (fun W' : World => W'.cell? ⟨w.heap.size, 0, none⟩ = some (.int .i64 (n : Int)) ∧ Below W0.heap.size W0 W')
      (first | exact HS0.out
             | exact HSw.out
             | exact (show (_ ∧ Below W0.heap.size W0 _) from by assumption)
             | exact SPil.alloc HXl.out (by assumption))
      (first | (go_at_call 148; refine (HCl.out _ (And.right (a := _ = some (Value.int .i64 (n : Int))) (by assumption))).mono ?_; rintro e w6 ⟨A6, c6, rfl, ho6, hb6⟩; have HSw := Lib.hid (SPil.below HXl.out (by assumption) hb6); have HO6 := Lib.hid ho6; have HB6 := Lib.hid hb6; clear ho6 hb6))
    all_goals
      go_wp2_with fail
      go_meet
      have hz0 := HZ0.out
      have hs6 := HSw.out.2.size
      have hB6 : W0.heap.size ≤ w6.heap.size := by omega
      have hB0 : W0.heap.size ≤ W0.heap.size := by omega
      refine ⟨_, rfl, ⟨_, _, _, _, List.replicate 12 false, [], BL.newAt (by simp) rfl, rfl, ?_, ?_, ?_, rfl, OV.nil_ _ _ _, by simp⟩, ?_⟩
      · have := HSw.out.2.size; simp; omega
      · repeat (first | exact IS.made0 hB6 | exact IS.made1 hB6 | exact IS.made0 (w := W0.drew) hB0 | exact IS.made1 (w := W0.drew) hB0 | exact HO6.out | refine IS.alloc ?_ _ | refine IS.below ?_ HB6.out)
      · repeat (first | exact IS.made0 hB6 | exact IS.made1 hB6 | exact IS.made0 (w := W0.drew) hB0 | exact IS.made1 (w := W0.drew) hB0 | exact HO6.out | refine IS.alloc ?_ _ | refine IS.below ?_ HB6.out)
      · repeat (first | exact HSw.out.2 | refine Below.alloc ?_ (by have := HSw.out.2.size; simp; omega) _)
  case rest =>
    obtain ⟨b, rfl, hpl, hbw⟩ := hcut
    obtain ⟨ir, hir, hzr0, hzr1, hzr2⟩ := info_parts row_info
    have hz0 := HZ0.out
    have c0 : wc.cell? ⟨w.heap.size, 0, none⟩ = some (.int .i64 (n : Int)) := (hbw.out.cell (p := ⟨w.heap.size, 0, none⟩) (by show w.heap.size < _; omega)).trans HC0.out
    go_wp2_with fail
    clear c0
    go_loopw [29] (fun i wr => ∃ k : Nat, k ≤ n ∧ i = .int .i64 (k : Int) ∧ Hid (PL wr W0.heap.size b n q k) ∧ Hid (Below W0.heap.size W0 wr)) (fun i _ => n - (intOf i).toNat)
    case atStart => exact ⟨0, Nat.zero_le _, rfl, hpl.out, hbw.out⟩
    case round =>
      clear hpl hbw
      obtain ⟨k, hk, rfl, hpl, hbw⟩ := hrel
      have c0 : wr.cell? ⟨w.heap.size, 0, none⟩ = some (.int .i64 (n : Int)) := (hbw.out.cell (p := ⟨w.heap.size, 0, none⟩) (by show w.heap.size < _; omega)).trans HC0.out
      by_cases hlt : k < n
      · obtain ⟨vd, vr, vv, vf, bs, rs, h1, h2, h3, h4, h5, h6, h7, h8⟩ := hpl.out
        have hbs := hbw.out.size
        have c2 : wr.cell? ⟨b, 2, none⟩ = some vr := h1.cell 2
        obtain ⟨W1, hW1⟩ : ∃ W1, W1 = ((wr.alloc (.cells (madeCells #[Value.int .i64 0] n) 3)).alloc (.cells #[.slice (some ⟨wr.heap.size, 0, none⟩) n n] 25)).drew := ⟨_, rfl⟩
        have hb1 : Below wr.heap.size wr W1 := by rw [hW1]; exact (((Below.refl _ wr).alloc (Nat.le_refl _) _).alloc (by simp) _).drew
        have hnew : IS W1 W0.heap.size (.slice (some ⟨wr.heap.size, 0, none⟩) n n) n := by rw [hW1]; exact ((IS.made (w := wr) rfl hbs).alloc _).below (Below.refl _ _).drew
        have hz1 : W1.heap.size = wr.heap.size + 2 := by rw [hW1]; simp
        have hrv : RV W1 (.slice (some ⟨wr.heap.size + 1, 0, none⟩) 1 1) [.slice (some ⟨wr.heap.size, 0, none⟩) n n] := by
          rw [hW1]
          have := RV.ones (wr.alloc (.cells (madeCells #[Value.int .i64 0] n) 3)) (.slice (some ⟨wr.heap.size, 0, none⟩) n n) 25
          rw [World.size_alloc] at this
          exact this.below (Below.refl _ _).drew
        have hov1 := h7.below hb1
        have hbl1 := h1.bel hb1
        have hnb : ∀ g, vr.ownBlock = some g → g ≠ b ∧ (∀ g' us, BL W1 g' 3 us → g ≠ g') ∧ W0.heap.size ≤ g := by
          intro g hg
          obtain ⟨cc, hcc, hBg, _⟩ := hov1.block_ hg
          refine ⟨?_, fun g' us hu => ?_, hBg⟩
          · rintro rfl; unfold BL at hbl1; rw [hbl1] at hcc; simp only [Option.some.injEq, Obj.cells.injEq] at hcc; exact absurd hcc.2.1 (by decide)
          · rintro rfl; unfold BL at hu; rw [hu] at hcc; simp only [Option.some.injEq, Obj.cells.injEq] at hcc; exact absurd hcc.2.1 (by decide)
        have HFin : Hid (∀ g1 cap1 w1, OV w1 W0.heap.size 25 (.slice (some ⟨g1, 0, none⟩) (rs.length + 1) cap1) (rs ++ [.slice (some ⟨wr.heap.size, 0, none⟩) n n]) → W1.grownBy w1 vr.ownBlock →
            ((w1.cell? ⟨b, 2, none⟩ = some vr ∧ w1.frozen? ⟨b, 2, none⟩ = false) ∧ PL (w1.setCell ⟨b, 2, none⟩ (.slice (some ⟨g1, 0, none⟩) (rs.length + 1) cap1)) W0.heap.size b n q (k + 1) ∧ Below W0.heap.size W0 (w1.setCell ⟨b, 2, none⟩ (.slice (some ⟨g1, 0, none⟩) (rs.length + 1) cap1)))) := by
          intro g1 cap1 w1 ho1 hg1
          have hblw : BL w1 b 159 ([vd, .int .i64 q, vr, vv, vf, .int .i64 0] ++ bs.map .bool) := hbl1.grown hg1 (fun e => (hnb b e).1 rfl)
          have hkp : ∀ g' us, BL W1 g' 3 us → (w1.setCell ⟨b, 2, none⟩ (.slice (some ⟨g1, 0, none⟩) (rs.length + 1) cap1)).heap[g']? = W1.heap[g']? := fun g' us hu =>
            (heap_setCell_other w1 _ _ _ (by rintro rfl; exact absurd (bl_type hbl1 hu) (by decide))).trans (hg1.block g' hu.lt (fun e => (hnb g' e.symm).2.1 g' us hu rfl))
          have hg1b : g1 ≠ b := by
            rintro rfl
            obtain ⟨cc, hcc, _⟩ := ho1.block_ (g := g1) rfl
            unfold BL at hblw; rw [hblw] at hcc; simp only [Option.some.injEq, Obj.cells.injEq] at hcc; exact absurd hcc.2.1 (by decide)
          refine ⟨⟨hblw.cell 2, hblw.frozen 2⟩, ⟨vd, _, vv, vf, bs, rs ++ [.slice (some ⟨wr.heap.size, 0, none⟩) n n], hblw.set 2 _, h2, h3, (h4.below hb1).keepG hkp, (h5.below hb1).keepG hkp, by simp [h6], ho1.keepG fun g hg => ?_, fun r hr => ?_⟩, ?_⟩
          · simp only [Value.ownBlock, Option.some.injEq] at hg
            exact heap_setCell_other w1 _ _ _ (by simp; omega)
          · rcases List.mem_append.1 hr with hr | hr
            · exact ((h8 r hr).below hb1).keepG hkp
            · simp only [List.mem_singleton] at hr
              subst hr
              exact hnew.keepG hkp
          · exact (Below.grown (hbw.out.trans (hb1.mono hbs)) hg1 (by omega) (fun j hj => (hnb j hj).2.2)).setCell (p := ⟨b, 2, none⟩) h3 _
        have hlb := h1.lt
        have hlx : w.heap.size < wr.heap.size := by omega
        have c2a : (wr.alloc (.cells (madeCells #[Value.int .i64 0] n) 3)).drew.cell? ⟨b, 2, none⟩ = some vr := (h1.alloc _).cell 2
        have c2b : ((wr.alloc (.cells (madeCells #[Value.int .i64 0] n) 3)).alloc (.cells #[.slice (some ⟨wr.heap.size, 0, none⟩) n n] 25)).drew.cell? ⟨b, 2, none⟩ = some vr := ((h1.alloc _).alloc _).cell 2
        subst hW1
        have HRv := Lib.hid hrv
        have HOv := Lib.hid hov1
        have HK := Lib.hid h6
        have HZs : Hid (W0.heap.size ≤ ((wr.alloc (.cells (madeCells #[Value.int .i64 0] n) 3)).alloc (.cells #[.slice (some ⟨wr.heap.size, 0, none⟩) n n] 25)).drew.heap.size) := by show _ ≤ _; simp; omega
        clear hpl h1 h2 h3 h4 h5 h6 h7 h8 hbw hbs hb1 hnew hz1 hrv hov1 hbl1 hnb hz0
        go_wp2_with fail
        go_region_law (refine step_appendV _ rfl (.tmp 35) (.tmp 39) 102 rfl 25 ir _ 24 Tryz.underlying102 hir hzr0 hzr1 hzr2 rfl W0.heap.size vr rs (by simp [Act.eval]) HOv.out (.slice (some ⟨wr.heap.size + 1, 0, none⟩) 1 1) [.slice (some ⟨wr.heap.size, 0, none⟩) n n] (by simp [Act.eval]) HRv.out (by simp) (by simp [Value.oneCell']) (by have := HK.out; simp; omega) (by have := HK.out; simp; omega) HZs.out ?_; intro g1 cap1 w1 hown1 hg1 hat1; simp only [List.length_singleton] at hown1; have hf := HFin.out g1 cap1 w1 hown1 hg1; have e2 := hf.1.1; have f2 := hf.1.2; have HP2 := Lib.hid hf.2.1; have HB2 := Lib.hid hf.2.2; clear hf hown1 hg1 hat1)
        all_goals
         go_wp2
         go_roundw
         case rel => exact ⟨k + 1, by omega, by go_num, HP2.out, HB2.out⟩
         case measure => simp [intOf]; omega
      · obtain rfl : k = n := by omega
        have c1 : wr.cell? ⟨w.heap.size, 1, none⟩ = some (.slice A es.length c) := (hbw.out.cell (p := ⟨w.heap.size, 1, none⟩) (by show w.heap.size < _; have := HZ0.out; omega)).trans (HX0.out.cell 1)
        have HEn := Lib.hid (Ends_any _ k es wr (HG0.out.below hbw.out) HR.out.ed HR.out.gc (by have := sing_bd HR.out.ed HR.out.m9; omega))
        have hbs := hbw.out.size
        go_wp2_with fail
        refine HEn.out.mono ?_
        rintro e w4 ⟨ve, rfl, hop, hb4⟩
        obtain ⟨A4, c4, rfl⟩ := hop.shape
        have HQ4 : Hid (PQ W0 b k q (.slice A4 (singL es).length c4) (singL es) w4) := ⟨hpl.out.below hb4, OP.mono hop hbs, hbw.out.trans (hb4.mono hbs)⟩
        have h9 := sing_bd HR.out.ed HR.out.m9
        have HMem : Hid (∀ (j : Nat) (x y : Int), (singL es)[j]? = some (x, y) → 0 ≤ x ∧ x ≤ y ∧ y < k) := fun j x y hj => sing_mem HR.out.ed (List.mem_of_getElem? hj)
        obtain ⟨ps, hps⟩ : ∃ ps, ps = singL es := ⟨_, rfl⟩
        rw [← hps] at HQ4 h9 HMem ⊢
        clear hop hb4 hbs hpl hbw HEn c0 c1 hz0 hps
        go_wp2_with fail
        go_loopw [54] (fun i wr => ∃ j : Nat, j ≤ ps.length ∧ i = .int .i64 (j : Int) ∧ Hid (PQ W0 b k q (.slice A4 ps.length c4) ps wr)) (fun i _ => ps.length - (intOf i).toNat)
        case atStart => exact ⟨0, Nat.zero_le _, rfl, HQ4.out⟩
        case round =>
          obtain ⟨j, hj, rfl, hq⟩ := hrel
          by_cases hjl : j < ps.length
          · obtain ⟨g, rfl, hlc, x, y, hxy, e0, e1⟩ := hq.out.2.1.at_ hjl
            obtain ⟨hx0, hx1, hy1⟩ := HMem.out j x y hxy
            obtain ⟨x, rfl⟩ := Int.eq_ofNat_of_zero_le hx0
            obtain ⟨y, rfl⟩ := Int.eq_ofNat_of_zero_le (show 0 ≤ y by omega)
            obtain ⟨W5, hW5⟩ : ∃ W5, W5 = wr.alloc (.cells #[.int .i64 (x : Int), .int .i64 (y : Int)] 148) := ⟨_, rfl⟩
            have hb5 : Below wr.heap.size wr W5 := by rw [hW5]; exact below_alloc wr _
            have hx5 : BL W5 wr.heap.size 148 [.int .i64 (x : Int), .int .i64 (y : Int)] := by rw [hW5]; exact BL.new' wr _ _
            have f0 := hx5.cell 0
            have f1 := hx5.cell 1
            have HQ5 := Lib.hid (hq.out.below hb5)
            have HW5 := Lib.hid hW5
            clear hb5 hx5 hW5 hq hxy
            go_upto_region 12 with fail
            rw [← HW5.out]
            go_quiet (fail)
            have HQ6 := Lib.hid (HQ5.out.below (below_drewN (Below.refl _ _) nq))
            obtain ⟨W6, hW6⟩ : ∃ W6, W6 = W5.drewN nq := ⟨_, rfl⟩
            rw [← hW6] at HQ6 ⊢
            clear hW6
            by_cases hxy : x = y
            · subst hxy
              have t1 : ((x : Int) != x) = false := by simp
              go_wp2
              go_roundw
              case rel => exact ⟨j + 1, by omega, by go_num, HQ6.out⟩
              case measure => simp [intOf]; omega
            · have t1 : ((x : Int) != y) = true := by simp; omega
              have hxk : x < k := by omega
              have hyk : y < k := by omega
              go_upto_region 14 with fail
              go_cut [] from 65 to 76 (fun wx => Hid (PQ W0 b k q (.slice (some ⟨g, 0, none⟩) ps.length c4) ps wx))
              case first =>
                obtain ⟨gr, cr, ga, ca, r0, hcr, r1, hca, hBa, hib⟩ := HQ6.out.1.row hxk
                obtain ⟨z, z0, z1⟩ := hib.at_ hyk
                have HN : Hid (∀ z', PQ W0 b k q (.slice (some ⟨g, 0, none⟩) ps.length c4) ps (World.setCell _ ⟨ga, y, none⟩ (.int .i64 z'))) := fun z' => HQ6.out.setInt hib hBa y z'
                clear hib
                go_wp2_with fail
                go_meet
                exact HN.out _
              case rest =>
              have HQ7 := Lib.hid hcut.out
              clear hcut
              go_upto_region 15 with fail
              go_cut [] from 77 to 88 (fun wx => Hid (PQ W0 b k q (.slice (some ⟨g, 0, none⟩) ps.length c4) ps wx))
              case first =>
                obtain ⟨gr, cr, ga, ca, r0, hcr, r1, hca, hBa, hib⟩ := HQ7.out.1.row hyk
                obtain ⟨z, z0, z1⟩ := hib.at_ hxk
                have HN : Hid (∀ z', PQ W0 b k q (.slice (some ⟨g, 0, none⟩) ps.length c4) ps (World.setCell _ ⟨ga, x, none⟩ (.int .i64 z'))) := fun z' => HQ7.out.setInt hib hBa x z'
                clear hib
                go_wp2_with fail
                go_meet
                exact HN.out _
              case rest =>
              have HQ8 := Lib.hid hcut.out
              clear hcut
              go_upto_region 16 with fail
              go_cut [] from 89 to 97 (fun wx => Hid (PQ W0 b k q (.slice (some ⟨g, 0, none⟩) ps.length c4) ps wx))
              case first =>
                obtain ⟨ga, ca, r1, hca, hBa, hib⟩ := HQ8.out.1.val
                obtain ⟨z, z0, z1⟩ := hib.at_ hxk
                have HN : Hid (∀ z', PQ W0 b k q (.slice (some ⟨g, 0, none⟩) ps.length c4) ps (World.setCell _ ⟨ga, x, none⟩ (.int .i64 z'))) := fun z' => HQ8.out.setInt hib hBa x z'
                clear hib
                go_wp2_with fail
                go_meet
                exact HN.out _
              case rest =>
              have HQ9 := Lib.hid hcut.out
              clear hcut
              obtain ⟨ga, ca, r1, hca, hBa, hib⟩ := HQ9.out.1.val
              obtain ⟨z, z0, z1⟩ := hib.at_ hyk
              have HN : Hid (∀ z', PQ W0 b k q (.slice (some ⟨g, 0, none⟩) ps.length c4) ps (World.setCell _ ⟨ga, y, none⟩ (.int .i64 z'))) := fun z' => HQ9.out.setInt hib hBa y z'
              clear hib
              go_wp2
              go_roundw
              case rel => exact ⟨j + 1, by omega, by go_num, HN.out _⟩
              case measure => simp [intOf]; omega
          · obtain rfl : j = ps.length := by omega
            obtain ⟨gd, cd, c0, hcd⟩ := hq.out.1.dee
            go_wp2_with fail
            clear c0 hcd
            go_loopw [113] (fun i wr => ∃ j : Nat, j ≤ k ∧ i = .int .i64 (j : Int) ∧ Hid (PL wr W0.heap.size b k q k) ∧ Hid (Below W0.heap.size W0 wr)) (fun i _ => k - (intOf i).toNat)
            case atStart => exact ⟨0, Nat.zero_le _, rfl, hq.out.1, hq.out.2.2⟩
            case round =>
              clear hq
              obtain ⟨v, hv, rfl, hp, hb⟩ := hrel
              by_cases hvk : v < k
              · have HWa := Lib.hid (wait_any W0.heap.size b k v k q _ hp.out hvk (by omega))
                go_wp2_with fail
                refine HWa.out.mono ?_
                rintro e w5 ⟨⟨r5, rfl⟩, hp5, hb5⟩
                have HP5 := Lib.hid hp5
                have HB5 := Lib.hid (hb.out.trans hb5)
                clear hp5 hb5
                go_wp2
                go_roundw
                case rel => exact ⟨v + 1, by omega, by go_num, HP5.out, HB5.out⟩
                case measure => simp [intOf]; omega
              · obtain rfl : v = k := by omega
                go_wp2
                go_ret2
                refine ⟨b, rfl, hp.out.mono (by have := HZ0.out; omega), ?_⟩
                have h0 := HB0.out
                exact h0.trans (hb.out.mono (by have := HZ0.out; omega))
end Go.Proofs.YtjfggodnfoknfaaGreatDoor

namespace Go.Proofs.YtjfggodnfoknfaaGreatDoor
open Go.RowKit Go.Shelf
attribute [local go_sem] Oper.semAt_some

theorem SPil2.alloc {W0 W : World} {x : Nat} {v u : Value} {o : Obj} (hx : x < W0.heap.size) (h : W.cell? ⟨x, 0, none⟩ = some v ∧ W.cell? ⟨x, 1, none⟩ = some u ∧ Below W0.heap.size W0 W) : (W.alloc o).cell? ⟨x, 0, none⟩ = some v ∧ (W.alloc o).cell? ⟨x, 1, none⟩ = some u ∧ Below W0.heap.size W0 (W.alloc o) :=
  ⟨(World.cell?_alloc_lt _ _ _ (by have := h.2.2.size; show x < _; omega)).trans h.1, (World.cell?_alloc_lt _ _ _ (by have := h.2.2.size; show x < _; omega)).trans h.2.1, h.2.2.alloc h.2.2.size _⟩
theorem SPil2.below {W0 W W' : World} {x : Nat} {v u : Value} (hx : x < W0.heap.size) (h : W.cell? ⟨x, 0, none⟩ = some v ∧ W.cell? ⟨x, 1, none⟩ = some u ∧ Below W0.heap.size W0 W) (hb : Below W.heap.size W W') : W'.cell? ⟨x, 0, none⟩ = some v ∧ W'.cell? ⟨x, 1, none⟩ = some u ∧ Below W0.heap.size W0 W' :=
  ⟨(hb.cell (p := ⟨x, 0, none⟩) (by have := h.2.2.size; show x < _; omega)).trans h.1, (hb.cell (p := ⟨x, 1, none⟩) (by have := h.2.2.size; show x < _; omega)).trans h.2.1, h.2.2.trans (hb.mono h.2.2.size)⟩
theorem Maximal_any (g : Value) (n q : Nat) (es : List Tri) (w : World) (hg : GV w g n es) (hr : Rt n es) (hq : q < n) :
    Calls Tryz.prog 74 #[g, .int .i64 (q : Int)] w fun e w' => (∃ v, e = .returned (.tuple #[v, .int .i64 0])) ∧ Below w.heap.size w w' := by
  obtain ⟨A, c, rfl, -, -, -⟩ := hg.open_
  have hn1 := hr.n1
  have hn6 := hr.n6
  have hmk := run_make_row' (P := Tryz.prog) 25 3 (.int .i64 0) 8 Tryz.underlying25 int_info rfl .i64 .i64 n (by omega) (by omega)
  have hmk2 := run_make_row' (P := Tryz.prog) 26 3 (.int .i64 0) 8 Tryz.underlying26 int_info rfl .i64 .i64 n (by omega) (by omega)
  obtain ⟨W0, hW0⟩ : ∃ W0, W0 = w.alloc (.cells #[.int .i64 (n : Int), .slice A es.length c] 24) := ⟨_, rfl⟩
  have hb0 : Below w.heap.size w W0 := by rw [hW0]; exact below_alloc w _
  have hx0 : BL W0 w.heap.size 24 [.int .i64 (n : Int), .slice A es.length c] := by rw [hW0]; exact BL.new' w _ _
  have hz0 : W0.heap.size = w.heap.size + 1 := by rw [hW0]; simp
  have c0 := hx0.cell 0
  have c1 := hx0.cell 1
  have HRo := Lib.hid (rooted_ok _ n q es W0 (hg.below hb0) hr hq)
  have HPi : Hid (∀ W, Below W0.heap.size W0 W → Calls Tryz.prog 114 #[.agg #[.int .i64 (n : Int), .slice A es.length c], .int .i64 (q : Int), .slice (some ⟨W.heap.size, 0, none⟩) n n] (W.alloc (.cells (madeCells #[Value.int .i64 0] n) 3)) fun e w' => ∃ b, e = .returned (.tuple #[.pointer (some ⟨b, 0, none⟩), .int .i64 0]) ∧ PL w' W0.heap.size b n q n ∧ Below (W.heap.size + 1) (W.alloc (.cells (madeCells #[Value.int .i64 0] n) 3)) w') := by
    intro W hb
    have h := pileOf_any _ (.slice (some ⟨W.heap.size, 0, none⟩) n n) n es (q : Int) (List.replicate n 0) (W.alloc (.cells (madeCells #[Value.int .i64 0] n) 3)) ((hg.below hb0).below (hb.trans ((below_alloc W _).mono hb.size))) hr (OV.rv (own_zeros W n (by omega))) (by simp)
    refine h.mono fun e w' => ?_
    rintro ⟨b, h1, h2, h3⟩
    rw [World.size_alloc] at h3
    exact ⟨b, h1, h2.mono (by simp; have := hb.size; omega), h3⟩
  have HX0 := Lib.hid hx0
  have HB0 := Lib.hid hb0
  have HZ0 := Lib.hid hz0
  have HW0 := Lib.hid hW0
  rw [hW0] at c0 c1
  clear hg hr hq hb0 hx0 hz0 hW0
  go_enter Tryz.func74, Tryz.ntmps74
  go_wp2_with fail
  rw [← HW0.out]
  refine HRo.out.mono ?_
  rintro e w1 ⟨rfl, hb1⟩
  go_upto_region 4 with fail
  have HXl : Hid (w.heap.size < W0.heap.size) := by show _ < _; have := HZ0.out; omega
  have HS0 : Hid (w1.drew.cell? ⟨w.heap.size, 0, none⟩ = some (.int .i64 (n : Int)) ∧ w1.drew.cell? ⟨w.heap.size, 1, none⟩ = some (.slice A es.length c) ∧ Below W0.heap.size W0 w1.drew) := ⟨(HX0.out.bel hb1).cell 0, (HX0.out.bel hb1).cell 1, hb1.drew⟩
  have HB1 := Lib.hid hb1
  clear hb1 c0 c1
  go_cut [7, 8] from 18 to 26 (fun p z wx => ∃ b, p = .pointer (some ⟨b, 0, none⟩) ∧ z = .int .i64 0 ∧ Hid (PL wx W0.heap.size b n q n) ∧ Hid (Below W0.heap.size W0 wx))
  case first =>
    go_region_held3 (fun W' : World => W'.cell? ⟨w.heap.size, 0, none⟩ = some (.int .i64 (n : Int)) ∧ W'.cell? ⟨w.heap.size, 1, none⟩ = some (.slice A es.length c) ∧ Below W0.heap.size W0 W')
      (first | exact HS0.out | exact HSw.out | exact SPil2.alloc HXl.out (by assumption))
      (first | (go_at_call 114; refine (HPi.out _ HS0.out.2.2).mono ?_; rintro e w6 ⟨b, rfl, hp6, hb6⟩; have HSw := Lib.hid (SPil2.below (W := w1.drew.alloc (.cells (madeCells #[Value.int .i64 0] n) 3)) HXl.out (SPil2.alloc HXl.out HS0.out) (by simpa using hb6)); have HP6 := Lib.hid hp6; clear hp6 hb6))
    all_goals
      go_wp2_with fail
      go_meet
      exact ⟨b, rfl, rfl, HP6.out, HSw.out.2.2⟩
  case rest =>
    obtain ⟨b, rfl, rfl, hp, hb⟩ := hcut
    have c0 : wc.cell? ⟨w.heap.size, 0, none⟩ = some (.int .i64 (n : Int)) := (HX0.out.bel hb.out).cell 0
    obtain ⟨W5, hW5⟩ : ∃ W5, W5 = wc.alloc (.cells (madeCells #[Value.int .i64 0] n) 3) := ⟨_, rfl⟩
    have hb5 : Below wc.heap.size wc W5 := by rw [hW5]; exact below_alloc wc _
    have hi5 : IB W5 wc.heap.size n := by
      rw [hW5]
      obtain ⟨g, c, e, _, _, h⟩ := IS.made (w := wc) (B := 0) (n := n) rfl (by omega)
      simp only [Value.slice.injEq, Option.some.injEq, Addr.mk.injEq, and_true] at e
      rw [e.1]; exact h
    obtain ⟨gv, cv, d0, hcv, hBv, hiv⟩ := (hp.out.below hb5).val
    have hbs := hb.out.size
    have HI5 := Lib.hid hi5
    have HIv := Lib.hid hiv
    have HB5 := Lib.hid (hb.out.trans (hb5.mono hbs))
    have HCs : Hid (W0.heap.size ≤ wc.heap.size) := hbs
    rw [hW5] at d0
    have HW5 := Lib.hid hW5
    clear hb5 hi5 hiv hbs hp hb hW5
    go_wp2_with fail
    rw [← HW5.out]
    clear c0 d0
    go_loopw [38] (fun i wr => ∃ j : Nat, j ≤ n ∧ i = .int .i64 (j : Int) ∧ Hid (IB wr wc.heap.size n) ∧ Hid (IB wr gv n) ∧ Hid (Below W0.heap.size W0 wr)) (fun i _ => n - (intOf i).toNat)
    case atStart => exact ⟨0, Nat.zero_le _, rfl, HI5.out, HIv.out, HB5.out⟩
    case round =>
      obtain ⟨j, hj, rfl, h1, h2, h3⟩ := hrel
      by_cases hjn : j < n
      · obtain ⟨z, z0, z1⟩ := h2.out.at_ hjn
        obtain ⟨y, y0, y1⟩ := h1.out.at_ hjn
        by_cases hjq : j = q
        · subst hjq
          have t1 : ((j : Int) != j) = false := by simp
          go_wp2
          go_roundw
          case rel => exact ⟨j + 1, by omega, by go_num, h1.out, h2.out, h3.out⟩
          case measure => simp [intOf]; omega
        · have t1 : ((j : Int) != q) = true := by simp; omega
          have HN : Hid (∀ z', IB (wr.setCell ⟨wc.heap.size, j, none⟩ (.int .i64 z')) wc.heap.size n ∧ IB (wr.setCell ⟨wc.heap.size, j, none⟩ (.int .i64 z')) gv n ∧ Below W0.heap.size W0 (wr.setCell ⟨wc.heap.size, j, none⟩ (.int .i64 z'))) := fun z' =>
            ⟨h1.out.set h1.out j z', h2.out.set h1.out j z', h3.out.setCell (p := ⟨wc.heap.size, j, none⟩) HCs.out _⟩
          clear h1 h2 h3
          go_wp2
          go_roundw
          case rel => exact ⟨j + 1, by omega, by go_num, (HN.out _).1, (HN.out _).2.1, (HN.out _).2.2⟩
          case measure => simp [intOf]; omega
      · obtain rfl : j = n := by omega
        go_wp2
        go_ret2
        exact ⟨⟨_, rfl⟩, HB0.out.trans (h3.out.mono (by have := HZ0.out; omega))⟩
theorem first_any (g : Value) (n q : Nat) (es : List Tri) (w : World) (hg : GV w g n es) (hr : Rt n es) (hq : q < n) :
    Calls Tryz.prog 46 #[g, .int .i64 (q : Int)] w fun e w' => (∃ v, e = .returned (.tuple #[v, .int .i64 0])) ∧ Below w.heap.size w w' := by
  obtain ⟨A, c, rfl, -, -, -⟩ := hg.open_
  obtain ⟨W0, hW0⟩ : ∃ W0, W0 = w.alloc (.cells #[.int .i64 (n : Int), .slice A es.length c] 24) := ⟨_, rfl⟩
  have hb0 : Below w.heap.size w W0 := by rw [hW0]; exact below_alloc w _
  have hx0 : BL W0 w.heap.size 24 [.int .i64 (n : Int), .slice A es.length c] := by rw [hW0]; exact BL.new' w _ _
  have c0 := hx0.cell 0
  have c1 := hx0.cell 1
  have HM := Lib.hid (Maximal_any _ n q es W0 (hg.below hb0) hr hq)
  have HB0 := Lib.hid hb0
  have HW0 := Lib.hid hW0
  rw [hW0] at c0 c1
  clear hg hr hq hb0 hx0 hW0
  go_enter Tryz.func46, Tryz.ntmps46
  go_wp2_with fail
  rw [← HW0.out]
  refine HM.out.mono ?_
  rintro e w1 ⟨⟨v, rfl⟩, hb1⟩
  have HB1 := Lib.hid hb1
  clear hb1
  go_wp2
  go_ret2
  exact ⟨⟨_, rfl⟩, HB0.out.trans (HB1.out.mono HB0.out.size)⟩
theorem All_ok (g : Value) (n q : Nat) (es : List Tri) (w : World) (hg : GV w g n es) (hr : Rt n es) (hq : q < n) (hlen : (confsL n q es).length ≤ 16384) :
    Calls Tryz.prog 24 #[g, .int .i64 (q : Int)] w fun e w' => ∃ v, e = .returned (.tuple #[v, .int .i64 0]) ∧ RR w' v (confsL n q es) ∧ Below w.heap.size w w' :=
  All_any g n q es w hg hr hq hlen fun W hW => first_any g n q es W hW hr hq
end Go.Proofs.YtjfggodnfoknfaaGreatDoor

namespace Go.Proofs.YtjfggodnfoknfaaGreatDoor
open Go.RowKit Go.Shelf

/-- Lexicographic comparison. -/
def cmpL : List Int → List Int → Int
  | [], [] => 0
  | [], _ :: _ => -1
  | _ :: _, [] => 1
  | x :: xs, y :: ys => if cmpI x y ≠ 0 then cmpI x y else cmpL xs ys
theorem cmpL_drop {xs ys : List Int} {k : Nat} {x y : Int} (hx : xs[k]? = some x) (hy : ys[k]? = some y) : cmpL (xs.drop k) (ys.drop k) = if cmpI x y ≠ 0 then cmpI x y else cmpL (xs.drop (k + 1)) (ys.drop (k + 1)) := by
  obtain ⟨h1, rfl⟩ := List.getElem?_eq_some_iff.1 hx
  obtain ⟨h2, rfl⟩ := List.getElem?_eq_some_iff.1 hy
  rw [List.drop_eq_getElem_cons h1, List.drop_eq_getElem_cons h2, cmpL]
theorem cmpD_any (va vb : Value) (xs ys : List Int) (w : World) (ha : RI w va xs) (hb : RI w vb ys) :
    Calls Tryz.prog 12 #[va, vb] w fun e w' => e = .returned (.int .i64 (cmpL xs ys)) ∧ w = w' := by
  obtain ⟨A, c, rfl, hlc, hc, hcell⟩ := ha.open_
  obtain ⟨A', c', rfl, hlc', hc', hcell'⟩ := hb.open_
  have HA := Lib.hid hcell
  have HB := Lib.hid hcell'
  clear hcell hcell' ha hb
  go_enter Tryz.func12, Tryz.ntmps12
  go_wp2_with fail
  go_loop [11] (fun i => ∃ k : Nat, k ≤ xs.length ∧ k ≤ ys.length ∧ i = .int .i64 (k : Int) ∧ Hid (cmpL (xs.drop k) (ys.drop k) = cmpL xs ys)) (fun i => xs.length - (intOf i).toNat)
  case atStart => exact ⟨0, Nat.zero_le _, Nat.zero_le _, rfl, by simp [Hid]⟩
  case round =>
    obtain ⟨k, hk, hk', rfl, hE⟩ := hrel
    by_cases hlt : k < xs.length
    · obtain ⟨ad, z, rfl, hadb, hz, hcl⟩ := HA.out k hlt
      by_cases hlt' : k < ys.length
      · obtain ⟨ad', z', rfl, hadb', hz', hcl'⟩ := HB.out k hlt'
        have HD := Lib.hid (cmpL_drop hz.out hz'.out)
        by_cases h0 : cmpI z z' = 0
        · have t : ((0 : Int) != 0) = false := by simp
          have HC := cmp_any z z' w
          rw [h0] at HC
          have HC := Lib.hid HC
          have HE2 : Hid (cmpL (xs.drop (k + 1)) (ys.drop (k + 1)) = cmpL xs ys) := by
            show _ = _
            rw [← hE.out, HD.out, if_neg (by simpa using h0)]
          clear h0
          go_wp2_with (go_at_call 32; refine HC.out.mono ?_; rintro e w' ⟨rfl, rfl⟩)
          go_round
          case rel => exact ⟨k + 1, by omega, by omega, by go_num, HE2.out⟩
          case measure => simp [intOf]; omega
        · obtain ⟨r, hr⟩ : ∃ r, r = cmpI z z' := ⟨_, rfl⟩
          have HC := cmp_any z z' w
          rw [← hr] at HC h0
          have HC := Lib.hid HC
          have t : (r != 0) = true := by simpa using h0
          have HE2 : Hid (cmpL xs ys = r) := by
            show _ = _
            rw [← hE.out, HD.out, ← hr, if_pos (by simpa using h0)]
          clear h0 hr
          go_wp2_with (go_at_call 32; refine HC.out.mono ?_; rintro e w' ⟨rfl, rfl⟩)
          go_ret
          exact ⟨ret_i HE2.out.symm, rfl⟩
      · obtain rfl : k = ys.length := by omega
        have HE2 : Hid (cmpL xs ys = 1) := by
          show _ = _
          rw [← hE.out, List.drop_length, List.drop_eq_getElem_cons hlt, cmpL]
        go_wp2
        go_ret
        exact ⟨ret_i HE2.out.symm, rfl⟩
    · obtain rfl : k = xs.length := by omega
      by_cases hlt' : xs.length < ys.length
      · have HE2 : Hid (cmpL xs ys = -1) := by
          show _ = _
          rw [← hE.out, List.drop_length, List.drop_eq_getElem_cons hlt', cmpL]
        go_wp2
        go_ret
        exact ⟨ret_i HE2.out.symm, rfl⟩
      · have HE2 : Hid (cmpL xs ys = 0) := by
          show _ = _
          rw [← hE.out, List.drop_length, show xs.length = ys.length by omega, List.drop_length, cmpL]
        go_wp2
        go_ret
        exact ⟨ret_i HE2.out.symm, rfl⟩
theorem cmpC_any (va vb : Value) (xs ys : List Int) (w : World) (ha : RI w va xs) (hb : RI w vb ys) :
    Calls Tryz.prog 28 #[va, vb] w fun e w' => e = .returned (.int .i64 (cmpL xs ys)) ∧ w = w' := by
  obtain ⟨A, c, rfl, -⟩ := ha.open_
  obtain ⟨A', c', rfl, -⟩ := hb.open_
  have HC := Lib.hid (cmpD_any _ _ xs ys w ha hb)
  clear ha hb
  go_enter Tryz.func28, Tryz.ntmps28
  go_wp2_with (go_at_call 12; refine HC.out.mono ?_; rintro e w' ⟨rfl, rfl⟩)
  go_ret
  exact ⟨rfl, rfl⟩
end Go.Proofs.YtjfggodnfoknfaaGreatDoor

namespace Go.Proofs.YtjfggodnfoknfaaGreatDoor
open Go.RowKit Go.Shelf
attribute [local go_sem] Oper.semAt_some

/-- The divisor of some degree that belongs to a configuration at 0. -/
def nrm (deg : Int) : List Int → List Int
  | [] => []
  | _ :: t => (deg - t.sum) :: t
theorem nrm_len (deg : Int) (c : List Int) : (nrm deg c).length = c.length := by cases c <;> simp [nrm]
theorem sum_bd {t : List Int} {M : Int} (h : ∀ z ∈ t, -M ≤ z ∧ z ≤ M) (j : Nat) : -(M * t.length) ≤ (t.take j).sum ∧ (t.take j).sum ≤ M * t.length := by
  induction t generalizing j with
  | nil => simp
  | cons x r ih =>
    have hx := h x (by simp)
    have hM : 0 ≤ M := by omega
    cases j with
    | zero => simp only [List.take_zero, List.sum_nil, List.length_cons]; have : 0 ≤ M * ((r.length : Int) + 1) := Int.mul_nonneg hM (by omega); constructor <;> (push_cast; omega)
    | succ j =>
      have := ih (fun z hz => h z (List.mem_cons_of_mem _ hz)) j
      simp only [List.take_succ_cons, List.sum_cons, List.length_cons]
      rw [show (M * ((r.length + 1 : Nat) : Int)) = M * r.length + M by push_cast; rw [Int.mul_add, Int.mul_one]]
      omega
/-- All below the world W0 is as it was in it, and the box db holds a number. -/
structure NmPre (W0 : World) (db : Nat) (deg : Int) (W : World) : Prop where
  size : W0.heap.size ≤ W.heap.size
  old : ∀ k, k < W0.heap.size → W.heap[k]? = W0.heap[k]?
  box : BL W db 3 [.int .i64 deg]
def NmK (W0 : World) (db : Nat) (A C : World) : Prop := A.heap.size ≤ C.heap.size ∧ (∀ k, k < W0.heap.size → C.heap[k]? = A.heap[k]?) ∧ C.heap[db]? = A.heap[db]?
theorem NmK.trans_ {W0 : World} {db : Nat} (A B C : World) (h : NmK W0 db A B) (k : NmK W0 db B C) : NmK W0 db A C := ⟨Nat.le_trans h.1 k.1, fun x hx => (k.2.1 x hx).trans (h.2.1 x hx), k.2.2.trans h.2.2⟩
theorem NmPre.keep {W0 : World} {db : Nat} {deg : Int} {A C : World} (h : NmPre W0 db deg A) (k : NmK W0 db A C) : NmPre W0 db deg C := ⟨Nat.le_trans h.size k.1, fun x hx => (k.2.1 x hx).trans (h.old x hx), k.2.2.trans h.box⟩
theorem NmPre.below {W0 : World} {db : Nat} {deg : Int} {A C : World} (h : NmPre W0 db deg A) (hb : Below A.heap.size A C) : NmPre W0 db deg C :=
  ⟨Nat.le_trans h.size hb.size, fun x hx => (hb.block x (by have := h.size; omega)).trans (h.old x hx), h.box.bel hb⟩
theorem NmPre.cell {W0 : World} {db : Nat} {deg : Int} {W : World} (h : NmPre W0 db deg W) {p : Addr} (hp : p.block < W0.heap.size) : W.cell? p = W0.cell? p := World.cell?_of_block (h.old _ hp)
theorem NmPre.ri {W0 : World} {db : Nat} {deg : Int} {W : World} (h : NmPre W0 db deg W) {v : Value} {zs : List Int} (hr : RI W0 v zs) : RI W v zs := RV.keep hr h.size fun _ hp => h.cell hp
theorem normal_any (vl : Value) (L : List (List Int)) (deg : Int) (w : World) (hl : RR w vl L) : Calls Tryz.prog 25 #[vl, .int .i64 deg] w fun e w' =>
    e = .returned (.func (.func 48) #[] #[.pointer (some ⟨w.heap.size, 0, none⟩), .pointer (some ⟨w.heap.size + 1, 0, none⟩)]) ∧
      (w.alloc (.cells #[vl] 30)).alloc (.cells #[.int .i64 deg] 3) = w' := by
  obtain ⟨A, c, rfl, -⟩ := hl.open_
  clear hl
  go_enter Tryz.func25, Tryz.ntmps25
  go_wp2
  go_ret
  exact ⟨rfl, rfl⟩
theorem RI.atS {w : World} {ad : Addr} {l c : Nat} {zs : List Int} (h : RI w (.slice (some ad) l c) zs) {k : Nat} (hk : k < zs.length) : ∃ z, zs[k]? = some z ∧ ad.block < w.heap.size ∧ w.cell? (ad.add k) = some (.int .i64 z) := by
  obtain ⟨A, c', e, _, _, hc⟩ := RI.open_ h
  simp only [Value.slice.injEq] at e
  obtain ⟨ad', z, hA, hb, hz, hcl⟩ := hc k hk
  rw [← e.1] at hA
  simp only [Option.some.injEq] at hA
  subst hA
  exact ⟨z, hz, hb, hcl⟩
theorem normal1_iter (W0 : World) (lb db : Nat) (vl : Value) (L : List (List Int)) (deg : Int) (hL : RR W0 vl L) (hd : -1048576 ≤ deg ∧ deg ≤ 1048576) (hb : ∀ c ∈ L, 1 ≤ c.length ∧ c.length ≤ 12 ∧ ∀ z ∈ c, -1000 ≤ z ∧ z ≤ 1000) :
    IterC Tryz.prog 48 #[.pointer (some ⟨lb, 0, none⟩), .pointer (some ⟨db, 0, none⟩)] (fun x : Value × List Int => #[x.1]) (fun pre x W => OI W W0.heap.size x.1 x.2 ∧ ∃ rest, pre.map (·.2) ++ x.2 :: rest = L.map (nrm deg))
      (fun A B => Below A.heap.size A B) (NmK W0 db) (fun xs => xs.map (·.2) = L.map (nrm deg)) (fun _ => True) (fun W => NmPre W0 db deg W ∧ BL W lb 30 [vl]) := by
  rintro N l J Jx W ⟨hpre, hlb⟩ hJ hJx hY h0
  obtain ⟨A, c, rfl, hlc, hc, hcell⟩ := hL.open_
  have HCe := Lib.hid hcell
  have HJ := Lib.hid hJ
  have HY := Lib.hid hY
  have HP := Lib.hid hpre
  have HBd := Lib.hid hb
  have x0 : W.cell? ⟨lb, 0, none⟩ = some (.slice A L.length c) := hlb.cell 0
  clear hJ hY hpre hJx hcell hb hL hlb
  refine callsIn_of_wp Tryz.func48 rfl trivial ?_ rfl
  simp only [Tryz.ntmps48, List.size_toArray, List.length_cons, List.length_nil, Nat.reduceAdd, Nat.reduceSub, Array.replicate_succ, Array.replicate_zero, List.push_toArray, List.append_toArray, List.nil_append, List.cons_append]
  gi_wp2
  clear x0
  gi_loopg [11] L.length (fun k i wr => ∃ (j : Nat) (pre : List (Value × List Int)), j + k = L.length ∧ i = .int .i64 j ∧ Hid (J pre wr) ∧ Hid (pre.map (·.2) = (L.take j).map (nrm deg)) ∧ Hid (NmPre W0 db deg wr))
  case atStart => exact ⟨0, [], by omega, rfl, h0, rfl, HP.out⟩
  case round =>
    obtain ⟨j, pre, hjk, rfl, hj, hp, hpr⟩ := hrel
    by_cases hlt : j < L.length
    · obtain ⟨ad, zs, A1, c1, rfl, hab, hzs, hcl, hri⟩ := HCe.out j hlt
      have hcl1 : wr.cell? (ad.add j) = some (.slice A1 zs.length c1) := (hpr.out.cell (by rw [block_of_add]; exact hab)).trans hcl
      have hri1 := hpr.out.ri hri
      obtain ⟨hz1, hz12, hzb⟩ := HBd.out zs (List.mem_of_getElem? hzs.out)
      have HCl := Lib.hid (CloneD_any _ zs wr hri1 (by omega))
      have HRi := Lib.hid hri1
      have HZb := Lib.hid hzb
      have HZs := hzs
      have hablt : ad.block < wr.heap.size := by have := hpr.out.size; omega
      obtain ⟨K, hK⟩ : ∃ K, K = gk - 1 := ⟨_, rfl⟩
      clear hcl hri hri1 hzb hzs
      obtain ⟨wo, rfl⟩ : ∃ wo, wo = wr := ⟨wr, rfl⟩
      gi_wp2_with fail
      refine ⟨trivial, fun h => (by simp [Fence.wide] at h), (callsIn_wide.2 HCl.out).mono ?_⟩
      rintro e w1 ⟨v, rfl, ho, hb1⟩
      obtain ⟨z0, t, rfl⟩ : ∃ z0 t, zs = z0 :: t := by
        cases zs with
        | nil => simp at hz1
        | cons z0 t => exact ⟨z0, t, rfl⟩
      obtain ⟨g, cap, rfl, hgl, hgs⟩ := OV.shape ho (by simp)
      simp only [List.length_map, List.length_cons] at ho
      obtain ⟨-, -, d0, d1, d2⟩ := OI.at' ho (k := 0) (by simp)
      have HB1 := Lib.hid hb1
      have HRi1 := Lib.hid (RI.below HRi.out hb1)
      obtain ⟨A2, c2, he2, hlc2, -, hcell2⟩ := RI.open_ HRi1.out
      simp only [Value.slice.injEq, true_and] at he2
      obtain ⟨rfl, rfl⟩ := he2
      obtain ⟨ad1, _, rfl, -, -, -⟩ := hcell2 0 (by simp)
      simp only [List.length_cons] at hlc2
      have HS1 := Lib.hid (d2 deg).1
      have e0 : w1.cell? ⟨db, 0, none⟩ = some (.int .i64 deg) := (hpr.out.below hb1).box.cell 0
      have hdl : db < w1.heap.size := (hpr.out.below hb1).box.lt
      have hgB : wo.heap.size ≤ g := hgl
      have hB2 : Below wo.heap.size wo (w1.setCell ⟨g, 0, none⟩ (.int .i64 deg)) := hb1.setCell (p := ⟨g, 0, none⟩) hgl _
      have HB2 := Lib.hid hB2
      simp only [List.length_cons] at hz12
      clear ho d2 hb1 hcell2 hB2 hgs hgl
      simp only [List.length_map, List.length_cons]
      obtain ⟨B0, hB0⟩ : ∃ B0, B0 = wo.heap.size := ⟨_, rfl⟩
      have HS1' : Hid (OI (w1.setCell ⟨g, 0, none⟩ (.int .i64 deg)) B0 (.slice (some ⟨g, 0, none⟩) (t.length + 1) cap) (deg :: t)) := by show OI _ _ _ _; rw [hB0]; exact HS1.out
      have hB0g : B0 ≤ g := by omega
      clear HS1
      gi_wp2
      all_goals
        gi_loopg [23] t.length (fun k i w3 => ∃ m : Nat, m + k = t.length ∧ i = .int .i64 (m : Int) ∧ Hid (OI w3 B0 (.slice (some ⟨g, 0, none⟩) (t.length + 1) cap) ((deg - (t.take m).sum) :: t)) ∧ Hid (Below B0 wo w3))
        case atStart => exact ⟨0, by omega, rfl, by show OI _ _ _ _; simpa using HS1'.out, by rw [hB0]; exact HB2.out⟩
        case round =>
          obtain ⟨m, hmk, rfl, ho3, hb3⟩ := hrel
          by_cases hm : m < t.length
          · have hcm := RI.atS (RI.below HRi.out (hB0 ▸ hb3.out)) (k := m + 1) (by simp; omega)
            obtain ⟨y, hy, hadb, hcy⟩ := hcm
            have ea : (ad1.add (m + 1)) = ⟨ad1.block, ad1.off + (m + 1), none⟩ := by simp [Addr.add]
            rw [ea] at hcy
            have hcy2 : wr.cell? ⟨ad1.block, ad1.off + 1 + m, none⟩ = some (.int .i64 y) := by rw [show ad1.off + 1 + m = ad1.off + (m + 1) by omega]; exact hcy
            have hym : t[m]? = some y := by simpa using hy
            have hyb := HZb.out y (List.mem_cons_of_mem _ (List.mem_of_getElem? hym))
            have hsb := sum_bd (M := 1000) (t := t) (fun z hz => HZb.out z (List.mem_cons_of_mem _ hz)) m
            obtain ⟨S, hS⟩ : ∃ S, S = deg - (t.take m).sum := ⟨_, rfl⟩
            rw [← hS] at ho3
            have hS1 : -1100000 ≤ S ∧ S ≤ 1100000 := by omega
            have hS2 : Hid (deg - (t.take (m + 1)).sum = S - y) := by
              show _ = _
              rw [List.take_add_one, hym, hS]
              simp only [Option.toList_some, List.sum_append, List.sum_cons, List.sum_nil]
              omega
            obtain ⟨-, hgB, q0, q1, q2⟩ := OI.at' ho3.out (k := 0) (by simp)
            simp only [List.getD_cons_zero, List.set_cons_zero] at q0 q2
            have HQ := Lib.hid (q2 (S - y)).1
            have HBq := Lib.hid (hb3.out.setCell (p := ⟨g, 0, none⟩) hgB (.int .i64 (S - y)))
            clear hy hym hsb hS q2 ho3 hb3 hcy ea
            gi_wp2
            all_goals
             gi_roundg (gk - 1)
             case measure => omega
             case rel => exact ⟨m + 1, by omega, by go_num, by show OI _ _ _ _; rw [hS2.out]; exact HQ.out, HBq.out⟩
          · obtain rfl : m = t.length := by omega
            rw [List.take_length] at ho3
            have hj3 := HJ.out pre wo wr hj.out (hB0 ▸ hb3.out)
            have HP3 := Lib.hid (hpr.out.below (hB0 ▸ hb3.out))
            have ho4 : OI wr W0.heap.size (.slice (some ⟨g, 0, none⟩) (t.length + 1) cap) (nrm deg (z0 :: t)) := OV.mono ho3.out (by have := hpr.out.size; omega)
            have HE2 : Hid (∃ rest, pre.map (·.2) ++ nrm deg (z0 :: t) :: rest = L.map (nrm deg)) := by
              refine ⟨(L.drop (j + 1)).map (nrm deg), ?_⟩
              have e : L = L.take j ++ (z0 :: t) :: L.drop (j + 1) := by
                obtain ⟨h1, h2⟩ := List.getElem?_eq_some_iff.1 HZs.out
                rw [← h2, ← List.drop_eq_getElem_cons h1, List.take_append_drop]
              rw [hp.out]
              conv => rhs; rw [e]
              simp
            have HT1 : Hid (L.take (j + 1) = L.take j ++ [z0 :: t]) := by show _ = _; rw [List.take_add_one, HZs.out]; rfl
            obtain ⟨fn, tmps, assign, body, hy, hRd⟩ := HY.out pre (.slice (some ⟨g, 0, none⟩) (t.length + 1) cap, nrm deg (z0 :: t)) _ hj3 ⟨ho4, HE2.out⟩
            dsimp only at hy hRd
            have HR := Lib.hid hRd
            clear hRd hj3 ho4 HE2 ho3 hb3
            gi_wp2_with fail
            refine ⟨fun h => (by simp [Fence.wide] at h), HR.out.mono ?_⟩
            rintro e W2 (⟨rfl, hJ2, hk2⟩ | ⟨rfl, hJx2⟩)
            · have HJ2 := Lib.hid hJ2
              have HK2 := Lib.hid hk2
              clear hJ2 hk2 hy
              gi_wp2
              gi_roundg K
              case measure => omega
              case rel => exact ⟨j + 1, pre ++ [(Value.slice (some ⟨g, 0, none⟩) (t.length + 1) cap, nrm deg (z0 :: t))], by omega, by go_num, HJ2.out, by show _ = _; rw [HT1.out, List.map_append, List.map_append, hp.out]; rfl, HP3.out.keep HK2.out⟩
            · clear hy
              gi_wp2
              refine bodyPost_ret (results_none rfl _ _ _) rfl ?_
              exact ⟨⟨_, rfl⟩, .inr ⟨_, trivial, hJx2⟩⟩
    · have hje : L.take j = L := List.take_of_length_le (by omega)
      rw [hje] at hp
      have HPE := hp
      clear hje
      gi_wp2
      go_end0
      exact ⟨⟨_, rfl⟩, .inl ⟨pre, HPE.out, hj.out⟩⟩
end Go.Proofs.YtjfggodnfoknfaaGreatDoor

