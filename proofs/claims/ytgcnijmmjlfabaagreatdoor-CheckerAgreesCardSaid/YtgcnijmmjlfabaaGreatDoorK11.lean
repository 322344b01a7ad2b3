/- Contract of the checker's filled. -/
import Derived.Test.YtgcnijmmjlfabaaGreatDoorK10
set_option maxRecDepth 100000
set_option maxHeartbeats 16000000
namespace Go.Proofs.YtgcnijmmjlfabaaGreatDoor
open Go.RowKit Go.Shelf

/-- What is left of the numbers of a claim behind its vertex and its bound. -/
def l1L (q : Bool) (l : List Int) : List Int := if q then l.drop 1 else l
def l2L (q n : Bool) (l : List Int) : List Int := l1L n (l1L q l)
def fillE (m : Nat) (q n b f : Bool) (l : List Int) : Int :=
  if q = true ∧ l = [] then 8 else if n = true ∧ l1L q l = [] then 8
  else if f = true then (if l2L q n l = [] ∨ (l2L q n l).getD 0 0 ≠ ((l2L q n l).length : Int) - 1 then 8 else 0)
  else if b = true then (if ((l2L q n l).length : Int) ≠ 2 * m then 8 else 0)
  else if ((l2L q n l).length : Int) ≠ m then 8 else 0
def fQ (q : Bool) (l : List Int) : Int := if q then l.getD 0 0 else 0
def fA (m : Nat) (b f : Bool) (l2 : List Int) : List Int := if f then [] else if b then l2.take m else l2
def fB (m : Nat) (b f : Bool) (l2 : List Int) : List Int := if f then [] else if b then l2.drop m else []
def fF (f : Bool) (l2 : List Int) : List Int := if f then l2.drop 1 else []
theorem l1L_true {q : Bool} {l : List Int} (h : q = true) : l1L q l = l.drop 1 := by subst h; rfl
theorem l1L_false {q : Bool} {l : List Int} (h : q = false) : l1L q l = l := by subst h; rfl
theorem RI.suf' {w : World} {A : Option Addr} {n c : Nat} {l : List Int} (h : RI w (.slice A n c) l) (hl : 1 ≤ l.length) (i : Nat) (hi : i ≤ l.length) : ∃ ad, A = some ad ∧ n = l.length ∧ l.length ≤ c ∧ RI w (.slice (if c = i then some ad else some (ad.add i)) (l.length - i) (c - i)) (l.drop i) := by
  obtain ⟨A', c', he, hlc, hmx, hcell⟩ := h.open_
  simp only [Value.slice.injEq] at he
  obtain ⟨rfl, rfl, rfl⟩ := he
  obtain ⟨ad, -, rfl, -⟩ := hcell 0 (by omega)
  refine ⟨ad, rfl, rfl, hlc, ?_⟩
  split
  · exact RI.emp List.length_drop (by omega) (by omega)
  · exact RI.suf h hi
theorem results_row_tmp {P : Program} {fn : Func} {p u : Tmp} {ty : TypeId} (h : fn.results = #[.cell p ty, .tmp u]) (tmps : Array Value) (w : World) (g : Nat) (t : TypeId) (cs : Array Value) (fr : Nat × Nat) (d : TypeDesc)
    (hp : tmps.getD p undef = .pointer (some ⟨g, 0, none⟩)) (hg : w.heap[g]? = some (.cells cs t fr))
    (hu : P.underlying ty = some d) (hd : (match d with | .struct _ | .array _ _ => true | _ => false) = true) (hi : (P.info? ty).map (·.size) = some cs.size) :
    (results fn tmps).run P w = .ok (.tuple #[.agg cs, tmps.getD u undef]) w := by
  have hp' : tmps[p]?.getD undef = .pointer (some ⟨g, 0, none⟩) := by simpa using hp
  simp [results, h, hp', asAddr, run_loadVar_row w g t ty cs fr d hg hu hd hi]
theorem BL.set6 {w : World} {b : Nat} {T : TypeId} {u0 u1 u2 u3 u4 u5 : Value} (h : BL w b T [u0, u1, u2, u3, u4, u5]) (v0 v1 v2 v3 v4 v5 : Value) :
    BL ((((((w.setCell ⟨b, 0, none⟩ v0).setCell ⟨b, 1, none⟩ v1).setCell ⟨b, 2, none⟩ v2).setCell ⟨b, 3, none⟩ v3).setCell ⟨b, 4, none⟩ v4).setCell ⟨b, 5, none⟩ v5) b T [v0, v1, v2, v3, v4, v5] :=
  (((((h.set 0 v0).set 1 v1).set 2 v2).set 3 v3).set 4 v4).set 5 v5
theorem below6 {w W : World} {B b : Nat} (h : Below B w W) (hb : B ≤ b) (v0 v1 v2 v3 v4 v5 : Value) :
    Below B w ((((((W.setCell ⟨b, 0, none⟩ v0).setCell ⟨b, 1, none⟩ v1).setCell ⟨b, 2, none⟩ v2).setCell ⟨b, 3, none⟩ v3).setCell ⟨b, 4, none⟩ v4).setCell ⟨b, 5, none⟩ v5) :=
  (((((h.setCell (p := ⟨b, 0, none⟩) hb v0).setCell (p := ⟨b, 1, none⟩) hb v1).setCell (p := ⟨b, 2, none⟩) hb v2).setCell (p := ⟨b, 3, none⟩) hb v3).setCell (p := ⟨b, 4, none⟩) hb v4).setCell (p := ⟨b, 5, none⟩) hb v5
theorem heap6 (W : World) (b g : Nat) (hg : g ≠ b) (v0 v1 v2 v3 v4 v5 : Value) :
    ((((((W.setCell ⟨b, 0, none⟩ v0).setCell ⟨b, 1, none⟩ v1).setCell ⟨b, 2, none⟩ v2).setCell ⟨b, 3, none⟩ v3).setCell ⟨b, 4, none⟩ v4).setCell ⟨b, 5, none⟩ v5).heap[g]? = W.heap[g]? := by
  rw [heap_setCell_other _ _ g _ hg, heap_setCell_other _ _ g _ hg, heap_setCell_other _ _ g _ hg, heap_setCell_other _ _ g _ hg, heap_setCell_other _ _ g _ hg, heap_setCell_other _ _ g _ hg]
theorem claim_size : (Tryz.prog.info? 87).map (·.size) = some 6 := by kernel_rfl
theorem kFilled_any (gv vw va vl vp lv : Value) (m : Nat) (q n b f : Bool) (es : List Tri) (l : List Int) (w : World) (hg : GX w gv m es) (hl : RI w lv l) (hm : m ≤ 12) (hm1 : 1 ≤ m) (hll : l.length ≤ 100000) :
    Calls Tryz.prog 48 #[.agg #[vw, .bool q, .bool n, va, .bool b, .bool f, vl, vp], gv, lv] w fun e w' => ∃ c, e = .returned (.tuple #[c, .int .i64 (fillE m q n b f l)]) ∧
      (fillE m q n b f l = 0 → ∃ va vb vf, c = .agg #[.int .i64 (fQ q l), .int .i64 (fQ n (l1L q l)), va, vb, vf, .slice none 0 0] ∧ RI w' va (fA m b f (l2L q n l)) ∧ RI w' vb (fB m b f (l2L q n l)) ∧ RI w' vf (fF f (l2L q n l))) ∧ (fillE m q n b f l ≠ 0 → c = .agg #[.int .i64 0, .int .i64 0, .slice none 0 0, .slice none 0 0, .slice none 0 0, .slice none 0 0]) ∧ Below w.heap.size w w' := by
  obtain ⟨bg, vj, vv, rfl, hbg, -, -⟩ := id hg
  obtain ⟨W4, hW4⟩ : ∃ W4, W4 = (((w.alloc (.cells #[vw, .bool q, .bool n, va, .bool b, .bool f, vl, vp] 77)).alloc (.cells #[.int .i64 0, .int .i64 0, .slice none 0 0, .slice none 0 0, .slice none 0 0, .slice none 0 0] 87)).alloc (.cells #[.int .i64 0, .int .i64 0, .slice none 0 0, .slice none 0 0, .slice none 0 0, .slice none 0 0] 87)).alloc (.cells #[.bool q, .pointer (some ⟨w.heap.size + 1 + 1, 0, none⟩), .bool n, .pointer (some ⟨w.heap.size + 1 + 1, 1, none⟩)] 117) := ⟨_, rfl⟩
  have hb4 : Below w.heap.size w W4 := by rw [hW4]; exact (((below_alloc w _).alloc (by simp) _).alloc (by simp; omega) _).alloc (by simp; omega) _
  have hz4 : W4.heap.size = w.heap.size + 4 := by rw [hW4]; simp
  have hK : BL W4 w.heap.size 77 [vw, .bool q, .bool n, va, .bool b, .bool f, vl, vp] := by rw [hW4]; exact (((BL.new' w _ _).alloc _).alloc _).alloc _
  have hR : BL W4 (w.heap.size + 1) 87 [.int .i64 0, .int .i64 0, .slice none 0 0, .slice none 0 0, .slice none 0 0, .slice none 0 0] := by
    rw [hW4]
    have := BL.new' (w.alloc (.cells #[vw, .bool q, .bool n, va, .bool b, .bool f, vl, vp] 77)) #[.int .i64 0, .int .i64 0, .slice none 0 0, .slice none 0 0, .slice none 0 0, .slice none 0 0] 87
    rw [World.size_alloc] at this
    exact (this.alloc _).alloc _
  have hC : BL W4 (w.heap.size + 1 + 1) 87 [.int .i64 0, .int .i64 0, .slice none 0 0, .slice none 0 0, .slice none 0 0, .slice none 0 0] := by
    rw [hW4]
    have := BL.new' ((w.alloc (.cells #[vw, .bool q, .bool n, va, .bool b, .bool f, vl, vp] 77)).alloc (.cells #[.int .i64 0, .int .i64 0, .slice none 0 0, .slice none 0 0, .slice none 0 0, .slice none 0 0] 87)) #[.int .i64 0, .int .i64 0, .slice none 0 0, .slice none 0 0, .slice none 0 0, .slice none 0 0] 87
    rw [World.size_alloc, World.size_alloc] at this
    exact this.alloc _
  have hL : BL W4 (w.heap.size + 1 + 1 + 1) 117 [.bool q, .pointer (some ⟨w.heap.size + 1 + 1, 0, none⟩), .bool n, .pointer (some ⟨w.heap.size + 1 + 1, 1, none⟩)] := by
    rw [hW4]
    have := BL.new' (((w.alloc (.cells #[vw, .bool q, .bool n, va, .bool b, .bool f, vl, vp] 77)).alloc (.cells #[.int .i64 0, .int .i64 0, .slice none 0 0, .slice none 0 0, .slice none 0 0, .slice none 0 0] 87)).alloc (.cells #[.int .i64 0, .int .i64 0, .slice none 0 0, .slice none 0 0, .slice none 0 0, .slice none 0 0] 87)) #[.bool q, .pointer (some ⟨w.heap.size + 1 + 1, 0, none⟩), .bool n, .pointer (some ⟨w.heap.size + 1 + 1, 1, none⟩)] 117
    rw [World.size_alloc, World.size_alloc, World.size_alloc] at this
    exact this
  have HK := Lib.hid hK
  have HR := Lib.hid hR
  have HC := Lib.hid hC
  have HLt := Lib.hid hL
  have HB4 := Lib.hid hb4
  have HLw := Lib.hid hl
  have HG := Lib.hid hg
  have HW4 := Lib.hid hW4
  have HZ4 := Lib.hid hz4
  clear hW4 hK hR hC hL hb4 hl hg hbg hz4
  obtain ⟨lens, hlens⟩ : ∃ lens, lens = l.length := ⟨_, rfl⟩
  go_enter Tryz.func48, Tryz.ntmps48
  go_wp2_with fail
  rw [← HW4.out]
  go_loopw [2, 21] (fun lw i wr => ∃ (k : Nat) (cur : List Int) (x y : Int) (vo : Value), vo = lw ∧ k ≤ 2 ∧ i = .int .i64 (k : Int) ∧ Hid (cur = (if k = 0 then l else if k = 1 then l1L q l else l2L q n l)) ∧ Hid (x = if k = 0 then 0 else fQ q l) ∧ Hid (y = if k = 2 then fQ n (l1L q l) else 0) ∧
      Hid ((k = 0 ∨ ¬ (q = true ∧ l = [])) ∧ (k ≠ 2 ∨ ¬ (n = true ∧ l1L q l = []))) ∧ Hid (cur.length ≤ 100000) ∧ Hid (RI w vo cur) ∧ Hid (BL wr w.heap.size 77 [vw, .bool q, .bool n, va, .bool b, .bool f, vl, vp]) ∧ Hid (BL wr (w.heap.size + 1) 87 [.int .i64 0, .int .i64 0, .slice none 0 0, .slice none 0 0, .slice none 0 0, .slice none 0 0]) ∧ Hid (BL wr (w.heap.size + 1 + 1) 87 [.int .i64 x, .int .i64 y, .slice none 0 0, .slice none 0 0, .slice none 0 0, .slice none 0 0]) ∧ Hid (BL wr (w.heap.size + 1 + 1 + 1) 117 [.bool q, .pointer (some ⟨w.heap.size + 1 + 1, 0, none⟩), .bool n, .pointer (some ⟨w.heap.size + 1 + 1, 1, none⟩)]) ∧ Hid (Below w.heap.size w wr)) (fun _ i _ => 2 - (intOf i).toNat)
  case atStart => exact ⟨0, l, 0, 0, _, rfl, by omega, rfl, rfl, rfl, rfl, ⟨.inl rfl, .inl (by omega)⟩, hll, HLw.out, HK.out, HR.out, HC.out, HLt.out, HB4.out⟩
  case round =>
    obtain ⟨k, cur, x, y, vo, rfl, hk, rfl, hcur, hx, hy, hok, hcl, hri, hK, hR, hC, hL, hb⟩ := hrel
    obtain ⟨A, c, rfl, hlc, -⟩ := hri.out.open_
    rcases (by omega : k = 0 ∨ k = 1 ∨ k = 2) with rfl | rfl | rfl
    · skip
      obtain rfl : l = cur := hcur.out.symm
      obtain rfl : 0 = x := hx.out.symm
      obtain rfl : 0 = y := hy.out.symm
      have hlen1 : (l).length ≤ 100000 := hcl.out
      by_cases hfl : q = true
      · obtain ⟨W5, hW5⟩ : ∃ W5, W5 = wr.alloc (.cells #[.bool true, .pointer (some ⟨w.heap.size + 1 + 1, 0, none⟩)] 117) := ⟨_, rfl⟩
        have hb5 : Below wr.heap.size wr W5 := by rw [hW5]; exact below_alloc wr _
        have hx5 : BL W5 wr.heap.size 117 [.bool true, .pointer (some ⟨w.heap.size + 1 + 1, 0, none⟩)] := by rw [hW5]; exact BL.new' wr _ _
        have HW5 := Lib.hid hW5
        have HK5 := Lib.hid (hK.out.bel hb5)
        have HR5 := Lib.hid (hR.out.bel hb5)
        have HC5 := Lib.hid (hC.out.bel hb5)
        have HL5 := Lib.hid (hL.out.bel hb5)
        have HB5 := Lib.hid (hb.out.trans (hb5.mono hb.out.size))
        have HX5 := Lib.hid hx5
        have HRi5 := Lib.hid hri.out
        have a0 := hL.out.cell 0
        have a1 := hL.out.cell 1
        have hsb := hb.out.size
        rw [hfl] at a0
        clear hW5 hb5 hx5
        by_cases hne : l = []
        · have HRes : Hid (fillE m q n b f l = 8) := by
            show _ = _
            unfold fillE
            rw [if_pos ⟨hfl, hne⟩]
          have hl0 : (l).length = 0 := by rw [hne]; rfl
          have HR6 := Lib.hid (HR5.out.set6 (.int .i64 0) (.int .i64 0) (.slice none 0 0) (.slice none 0 0) (.slice none 0 0) (.slice none 0 0))
          have HB6 := Lib.hid (below6 HB5.out (show w.heap.size ≤ w.heap.size + 1 by omega) (.int .i64 0) (.int .i64 0) (.slice none 0 0) (.slice none 0 0) (.slice none 0 0) (.slice none 0 0))
          have f0 := HR5.out.frozen 0
          have f1 := HR5.out.frozen 1
          have f2 := HR5.out.frozen 2
          have f3 := HR5.out.frozen 3
          have f4 := HR5.out.frozen 4
          have f5 := HR5.out.frozen 5
          have c0 := HR5.out.cell 0
          have c1 := HR5.out.cell 1
          have c2 := HR5.out.cell 2
          have c3 := HR5.out.cell 3
          have c4 := HR5.out.cell 4
          have c5 := HR5.out.cell 5
          clear hcur hx hy hok hri hK hR hC hL hne hcl HK5 HC5 HL5 HX5 HRi5
          rw [HW5.out] at c0 c1 c2 c3 c4 c5 f0 f1 f2 f3 f4 f5
          go_wp2_with fail
          rw [← HW5.out]
          refine bodyPost_ret (results_row_tmp rfl _ _ (w.heap.size + 1) 87 #[.int .i64 0, .int .i64 0, .slice none 0 0, .slice none 0 0, .slice none 0 0, .slice none 0 0] (0, 0) _ rfl HR6.out Tryz.underlying87 rfl claim_size) rfl ?_
          exact ⟨_, by rw [HRes.out] <;> rfl, fun h => absurd (HRes.out.symm.trans h) (by decide), fun _ => rfl, HB6.out⟩
        · obtain ⟨ad, rfl, -, hcc, hsf⟩ := RI.suf' HRi5.out (List.length_pos_iff.2 hne) 1 (List.length_pos_iff.2 hne)
          obtain ⟨ad', z, hea, hzb, hz, hcz⟩ := (RI.open_ HRi5.out).elim fun A' h => h.elim fun c' h => by
            obtain ⟨he, -, -, hcell⟩ := h
            simp only [Value.slice.injEq] at he
            obtain ⟨rfl, -, rfl⟩ := he
            exact hcell 0 (List.length_pos_iff.2 hne)
          obtain rfl : ad = ad' := by simpa using hea
          have hpos : 0 < l.length := List.length_pos_iff.2 hne
          rw [add_zero'] at hcz
          have hcz5 := (HB5.out.cell (p := ad) hzb).trans hcz
          have hsf' : RI w (.slice (if c = 1 then some ad else some ⟨ad.block, ad.off + 1, none⟩) (l.length - 1) (c - 1)) (l1L q l) := by
            unfold l1L; rw [hfl]
            simpa [Addr.add] using hsf
          have hfz : fQ q l = z := by unfold fQ; rw [hfl, if_pos rfl, List.getD_eq_getElem?_getD, hz.out]; rfl
          have HRel : Hid ((l1L q l = (if 1 = 0 then l else if 1 = 1 then l1L q l else l2L q n l)) ∧ (z = if 1 = 0 then 0 else fQ q l) ∧ ((0 : Int) = if 1 = 2 then fQ n (l1L q l) else 0) ∧ ((1 = 0 ∨ ¬ (q = true ∧ l = [])) ∧ (1 ≠ 2 ∨ ¬ (n = true ∧ l1L q l = [])))) :=
            ⟨by rw [if_neg (by omega), if_pos rfl], by rw [if_neg (by omega)]; exact hfz.symm, rfl, .inr fun h => hne h.2, .inl (by omega)⟩
          have HCl : Hid ((l1L q l).length ≤ 100000) := by
            show _ ≤ _
            unfold l1L; rw [hfl, if_pos rfl, List.length_drop]; omega
          have HSf := Lib.hid hsf'
          have HFl := Lib.hid hfl
          have HNe := Lib.hid hne
          have x1 := HX5.out.cell 1
          have c0 := HC5.out.cell 0
          have f0 := HC5.out.frozen 0
          have HC6 := Lib.hid (HC5.out.set 0 (.int .i64 z))
          have HB6 := Lib.hid (HB5.out.setCell (p := ⟨w.heap.size + 1 + 1, 0, none⟩) (by dsimp only; omega) (.int .i64 z))
          have HK6 := Lib.hid (HK5.out.set_other (a := ⟨w.heap.size + 1 + 1, 0, none⟩) (by dsimp only; omega) (.int .i64 z))
          have HR6 := Lib.hid (HR5.out.set_other (a := ⟨w.heap.size + 1 + 1, 0, none⟩) (by dsimp only; omega) (.int .i64 z))
          have HL6 := Lib.hid (HL5.out.set_other (a := ⟨w.heap.size + 1 + 1, 0, none⟩) (by dsimp only; omega) (.int .i64 z))
          clear hcur hx hy hok hri hK hR hC hL hcl hsf hsf' hfz hfl hne hz hzb hcz hea
          go_wp2_with fail
          rw [← HW5.out]
          go_region
          generalize (if c = 1 then some ad else some ⟨ad.block, ad.off + 1, none⟩) = A1 at *
          generalize l.length - 1 = m1 at *
          generalize c - 1 = c1 at *
          go_wp2_with fail
          go_roundw
          case rel => exact ⟨1, _, _, _, _, rfl, by omega, by go_num, HRel.out.1, HRel.out.2.1, HRel.out.2.2.1, HRel.out.2.2.2, HCl.out, HSf.out, HK6.out, HR6.out, HC6.out, HL6.out, HB6.out.drew⟩
          case measure => simp [intOf]
      · have hfl : q = false := by simpa using hfl
        obtain ⟨W5, hW5⟩ : ∃ W5, W5 = wr.alloc (.cells #[.bool false, .pointer (some ⟨w.heap.size + 1 + 1, 0, none⟩)] 117) := ⟨_, rfl⟩
        have hb5 : Below wr.heap.size wr W5 := by rw [hW5]; exact below_alloc wr _
        have hx5 : BL W5 wr.heap.size 117 [.bool false, .pointer (some ⟨w.heap.size + 1 + 1, 0, none⟩)] := by rw [hW5]; exact BL.new' wr _ _
        have HW5 := Lib.hid hW5
        have HK5 := Lib.hid (hK.out.bel hb5)
        have HR5 := Lib.hid (hR.out.bel hb5)
        have HC5 := Lib.hid (hC.out.bel hb5)
        have HL5 := Lib.hid (hL.out.bel hb5)
        have HB5 := Lib.hid (hb.out.trans (hb5.mono hb.out.size))
        have HX5 := Lib.hid hx5
        have HRi5 := Lib.hid hri.out
        have a0 := hL.out.cell 0
        have a1 := hL.out.cell 1
        have hsb := hb.out.size
        rw [hfl] at a0
        clear hW5 hb5 hx5
        have hcb : l1L q l = l := by unfold l1L; rw [hfl]; rfl
        have hnx : fQ q l = 0 := by unfold fQ; rw [hfl]; rfl
        have HRel : Hid (l1L q l = (if 1 = 0 then l else if 1 = 1 then l1L q l else l2L q n l) ∧ (fQ q l = if 1 = 0 then 0 else fQ q l) ∧ (0 = if 1 = 2 then fQ n (l1L q l) else 0) ∧ ((1 = 0 ∨ ¬ (q = true ∧ l = [])) ∧ (1 ≠ 2 ∨ ¬ (n = true ∧ l1L q l = [])))) :=
          ⟨(show l1L q l = if 1 = 0 then l else if 1 = 1 then l1L q l else l2L q n l from by rw [if_neg (by omega)]; rw [if_pos rfl]), (show fQ q l = if 1 = 0 then 0 else fQ q l from by rw [if_neg (by omega)]), (show 0 = if 1 = 2 then fQ n (l1L q l) else 0 from rfl), ⟨.inr (fun h => by rw [hfl] at h; exact absurd h.1 (by simp)), .inl (by omega)⟩⟩
        have HCl : Hid ((l1L q l).length ≤ 100000) := by show _ ≤ _; rw [hcb]; exact hlen1
        have HRi6 : Hid (RI w (.slice A (l).length c) (l1L q l)) := by show RI _ _ _; rw [hcb]; exact HRi5.out
        have HC6 : Hid (BL W5 (w.heap.size + 1 + 1) 87 [.int .i64 (fQ q l), .int .i64 0, .slice none 0 0, .slice none 0 0, .slice none 0 0, .slice none 0 0]) := by show BL _ _ _ _; rw [hnx]; exact HC5.out
        clear hcur hx hy hok hri hK hR hC hL hcb hnx
        go_wp2_with fail
        rw [← HW5.out]
        go_roundw
        case rel => exact ⟨1, _, _, _, _, rfl, by omega, by go_num, HRel.out.1, HRel.out.2.1, HRel.out.2.2.1, HRel.out.2.2.2, HCl.out, HRi6.out, HK5.out, HR5.out, HC6.out, HL5.out, HB5.out⟩
        case measure => simp [intOf]
    · skip
      obtain rfl : l1L q l = cur := hcur.out.symm
      have hxq : x = fQ q l := hx.out
      obtain rfl : 0 = y := hy.out.symm
      have hlen1 : (l1L q l).length ≤ 100000 := hcl.out
      by_cases hfl : n = true
      · obtain ⟨W5, hW5⟩ : ∃ W5, W5 = wr.alloc (.cells #[.bool true, .pointer (some ⟨w.heap.size + 1 + 1, 1, none⟩)] 117) := ⟨_, rfl⟩
        have hb5 : Below wr.heap.size wr W5 := by rw [hW5]; exact below_alloc wr _
        have hx5 : BL W5 wr.heap.size 117 [.bool true, .pointer (some ⟨w.heap.size + 1 + 1, 1, none⟩)] := by rw [hW5]; exact BL.new' wr _ _
        have HW5 := Lib.hid hW5
        have HK5 := Lib.hid (hK.out.bel hb5)
        have HR5 := Lib.hid (hR.out.bel hb5)
        have HC5 := Lib.hid (hC.out.bel hb5)
        have HL5 := Lib.hid (hL.out.bel hb5)
        have HB5 := Lib.hid (hb.out.trans (hb5.mono hb.out.size))
        have HX5 := Lib.hid hx5
        have HRi5 := Lib.hid hri.out
        have a0 := hL.out.cell 2
        have a1 := hL.out.cell 3
        have hsb := hb.out.size
        rw [hfl] at a0
        clear hW5 hb5 hx5
        by_cases hne : l1L q l = []
        · have HRes : Hid (fillE m q n b f l = 8) := by
            show _ = _
            unfold fillE
            rw [if_neg (hok.out.1.resolve_left (by omega)), if_pos ⟨hfl, hne⟩]
          have hl0 : (l1L q l).length = 0 := by rw [hne]; rfl
          have HR6 := Lib.hid (HR5.out.set6 (.int .i64 0) (.int .i64 0) (.slice none 0 0) (.slice none 0 0) (.slice none 0 0) (.slice none 0 0))
          have HB6 := Lib.hid (below6 HB5.out (show w.heap.size ≤ w.heap.size + 1 by omega) (.int .i64 0) (.int .i64 0) (.slice none 0 0) (.slice none 0 0) (.slice none 0 0) (.slice none 0 0))
          have f0 := HR5.out.frozen 0
          have f1 := HR5.out.frozen 1
          have f2 := HR5.out.frozen 2
          have f3 := HR5.out.frozen 3
          have f4 := HR5.out.frozen 4
          have f5 := HR5.out.frozen 5
          have c0 := HR5.out.cell 0
          have c1 := HR5.out.cell 1
          have c2 := HR5.out.cell 2
          have c3 := HR5.out.cell 3
          have c4 := HR5.out.cell 4
          have c5 := HR5.out.cell 5
          clear hcur hx hy hok hri hK hR hC hL hne hcl HK5 HC5 HL5 HX5 HRi5
          rw [HW5.out] at c0 c1 c2 c3 c4 c5 f0 f1 f2 f3 f4 f5
          go_wp2_with fail
          rw [← HW5.out]
          refine bodyPost_ret (results_row_tmp rfl _ _ (w.heap.size + 1) 87 #[.int .i64 0, .int .i64 0, .slice none 0 0, .slice none 0 0, .slice none 0 0, .slice none 0 0] (0, 0) _ rfl HR6.out Tryz.underlying87 rfl claim_size) rfl ?_
          exact ⟨_, by rw [HRes.out] <;> rfl, fun h => absurd (HRes.out.symm.trans h) (by decide), fun _ => rfl, HB6.out⟩
        · obtain ⟨ad, rfl, -, hcc, hsf⟩ := RI.suf' HRi5.out (List.length_pos_iff.2 hne) 1 (List.length_pos_iff.2 hne)
          obtain ⟨ad', z, hea, hzb, hz, hcz⟩ := (RI.open_ HRi5.out).elim fun A' h => h.elim fun c' h => by
            obtain ⟨he, -, -, hcell⟩ := h
            simp only [Value.slice.injEq] at he
            obtain ⟨rfl, -, rfl⟩ := he
            exact hcell 0 (List.length_pos_iff.2 hne)
          obtain rfl : ad = ad' := by simpa using hea
          have hpos : 0 < (l1L q l).length := List.length_pos_iff.2 hne
          rw [add_zero'] at hcz
          have hcz5 := (HB5.out.cell (p := ad) hzb).trans hcz
          have hsf' : RI w (.slice (if c = 1 then some ad else some ⟨ad.block, ad.off + 1, none⟩) ((l1L q l).length - 1) (c - 1)) (l2L q n l) := by
            unfold l2L
            rw [l1L_true (q := n) hfl]
            simpa [Addr.add] using hsf
          have hfz : fQ n (l1L q l) = z := by unfold fQ; rw [hfl, if_pos rfl, List.getD_eq_getElem?_getD, hz.out]; rfl
          have HRel : Hid ((l2L q n l = (if 2 = 0 then l else if 2 = 1 then l1L q l else l2L q n l)) ∧ (x = if 2 = 0 then 0 else fQ q l) ∧ (z = if 2 = 2 then fQ n (l1L q l) else 0) ∧ ((2 = 0 ∨ ¬ (q = true ∧ l = [])) ∧ (2 ≠ 2 ∨ ¬ (n = true ∧ l1L q l = [])))) :=
            ⟨by rw [if_neg (by omega), if_neg (by omega)], by rw [if_neg (by omega)]; exact hxq, by rw [if_pos rfl]; exact hfz.symm, .inr (hok.out.1.resolve_left (by omega)), .inr fun h => hne h.2⟩
          have HCl : Hid ((l2L q n l).length ≤ 100000) := by
            show _ ≤ _
            unfold l2L
            rw [l1L_true (q := n) hfl, List.length_drop]; omega
          have HSf := Lib.hid hsf'
          have HFl := Lib.hid hfl
          have HNe := Lib.hid hne
          have x1 := HX5.out.cell 1
          have c0 := HC5.out.cell 1
          have f0 := HC5.out.frozen 1
          have HC6 := Lib.hid (HC5.out.set 1 (.int .i64 z))
          have HB6 := Lib.hid (HB5.out.setCell (p := ⟨w.heap.size + 1 + 1, 1, none⟩) (by dsimp only; omega) (.int .i64 z))
          have HK6 := Lib.hid (HK5.out.set_other (a := ⟨w.heap.size + 1 + 1, 1, none⟩) (by dsimp only; omega) (.int .i64 z))
          have HR6 := Lib.hid (HR5.out.set_other (a := ⟨w.heap.size + 1 + 1, 1, none⟩) (by dsimp only; omega) (.int .i64 z))
          have HL6 := Lib.hid (HL5.out.set_other (a := ⟨w.heap.size + 1 + 1, 1, none⟩) (by dsimp only; omega) (.int .i64 z))
          clear hcur hx hy hok hri hK hR hC hL hcl hsf hsf' hfz hfl hne hz hzb hcz hea
          go_wp2_with fail
          rw [← HW5.out]
          go_region
          generalize (if c = 1 then some ad else some ⟨ad.block, ad.off + 1, none⟩) = A1 at *
          generalize (l1L q l).length - 1 = m1 at *
          generalize c - 1 = c1 at *
          go_wp2_with fail
          go_roundw
          case rel => exact ⟨2, _, _, _, _, rfl, by omega, by go_num, HRel.out.1, HRel.out.2.1, HRel.out.2.2.1, HRel.out.2.2.2, HCl.out, HSf.out, HK6.out, HR6.out, HC6.out, HL6.out, HB6.out.drew⟩
          case measure => simp [intOf]
      · have hfl : n = false := by simpa using hfl
        obtain ⟨W5, hW5⟩ : ∃ W5, W5 = wr.alloc (.cells #[.bool false, .pointer (some ⟨w.heap.size + 1 + 1, 1, none⟩)] 117) := ⟨_, rfl⟩
        have hb5 : Below wr.heap.size wr W5 := by rw [hW5]; exact below_alloc wr _
        have hx5 : BL W5 wr.heap.size 117 [.bool false, .pointer (some ⟨w.heap.size + 1 + 1, 1, none⟩)] := by rw [hW5]; exact BL.new' wr _ _
        have HW5 := Lib.hid hW5
        have HK5 := Lib.hid (hK.out.bel hb5)
        have HR5 := Lib.hid (hR.out.bel hb5)
        have HC5 := Lib.hid (hC.out.bel hb5)
        have HL5 := Lib.hid (hL.out.bel hb5)
        have HB5 := Lib.hid (hb.out.trans (hb5.mono hb.out.size))
        have HX5 := Lib.hid hx5
        have HRi5 := Lib.hid hri.out
        have a0 := hL.out.cell 2
        have a1 := hL.out.cell 3
        have hsb := hb.out.size
        rw [hfl] at a0
        clear hW5 hb5 hx5
        have hcb : l2L q n l = l1L q l := l1L_false hfl
        have hnx : fQ n (l1L q l) = 0 := by unfold fQ; rw [hfl]; rfl
        have HRel : Hid ((l2L q n l = (if 2 = 0 then l else if 2 = 1 then l1L q l else l2L q n l)) ∧ (x = if 2 = 0 then 0 else fQ q l) ∧ (fQ n (l1L q l) = if 2 = 2 then fQ n (l1L q l) else 0) ∧ ((2 = 0 ∨ ¬ (q = true ∧ l = [])) ∧ (2 ≠ 2 ∨ ¬ (n = true ∧ l1L q l = [])))) :=
          ⟨by rw [if_neg (by omega), if_neg (by omega)], by rw [if_neg (by omega)]; exact hxq, by rw [if_pos rfl], .inr (hok.out.1.resolve_left (by omega)), .inr fun h => by rw [hfl] at h; exact absurd h.1 (by simp)⟩
        have HCl : Hid ((l2L q n l).length ≤ 100000) := by show _ ≤ _; rw [hcb]; exact hlen1
        have HRi6 : Hid (RI w (.slice A (l1L q l).length c) (l2L q n l)) := by show RI _ _ _; rw [hcb]; exact HRi5.out
        have HC6 : Hid (BL W5 (w.heap.size + 1 + 1) 87 [.int .i64 x, .int .i64 (fQ n (l1L q l)), .slice none 0 0, .slice none 0 0, .slice none 0 0, .slice none 0 0]) := by show BL _ _ _ _; rw [hnx]; exact HC5.out
        clear hcur hx hy hok hri hK hR hC hL hcb hnx
        go_wp2_with fail
        rw [← HW5.out]
        go_roundw
        case rel => exact ⟨2, _, _, _, _, rfl, by omega, by go_num, HRel.out.1, HRel.out.2.1, HRel.out.2.2.1, HRel.out.2.2.2, HCl.out, HRi6.out, HK5.out, HR5.out, HC6.out, HL5.out, HB5.out⟩
        case measure => simp [intOf]
    · skip
      have hcu : cur = l2L q n l := hcur.out
      have hxq : x = fQ q l := hx.out
      have hyq : y = fQ n (l1L q l) := hy.out
      have h1 := hok.out.1.resolve_left (by omega)
      have h2 := hok.out.2.resolve_left (by omega)
      have hfe : fillE m q n b f l = if f = true then (if cur = [] ∨ cur.getD 0 0 ≠ (cur.length : Int) - 1 then 8 else 0) else if b = true then (if (cur.length : Int) ≠ 2 * m then 8 else 0) else if (cur.length : Int) ≠ m then 8 else 0 := by
        unfold fillE
        rw [if_neg h1, if_neg h2, ← hcu]
      have HCu := Lib.hid hcu
      have HXq := Lib.hid hxq
      have HYq := Lib.hid hyq
      have HRw := Lib.hid hR.out
      have HCw := Lib.hid hC.out
      have HBw := Lib.hid hb.out
      have k4 := hK.out.cell 4
      have k5 := hK.out.cell 5
      have HRi := Lib.hid hri.out
      have hcl1 : cur.length ≤ 100000 := hcl.out
      have hgn : wr.cell? ⟨bg, 0, none⟩ = some (.int .i64 (m : Int)) := by
        obtain ⟨b', vj', vv', e, hbb, -, -⟩ := HG.out
        simp only [Value.pointer.injEq, Option.some.injEq, Addr.mk.injEq, and_true] at e
        subst e
        exact (hbb.bel hb.out).cell 0
      clear hcur hx hy hok hri hK hR hC hL hb hcu hxq hyq h1 h2 hcl
      by_cases hff : f = true
      · rw [if_pos hff] at hfe
        rw [hff] at k5
        have HFf := Lib.hid hff
        clear hff k4
        by_cases hc0 : cur = []
        · have HRes : Hid (fillE m q n b f l = 8) := by show _ = _; rw [hfe, if_pos (.inl hc0)]
          have hl0 : cur.length = 0 := by rw [hc0]; rfl
          clear hc0
          have HR6 := Lib.hid (HRw.out.set6 (.int .i64 0) (.int .i64 0) (.slice none 0 0) (.slice none 0 0) (.slice none 0 0) (.slice none 0 0))
          have HB6 := Lib.hid (below6 HBw.out (show w.heap.size ≤ w.heap.size + 1 by omega) (.int .i64 0) (.int .i64 0) (.slice none 0 0) (.slice none 0 0) (.slice none 0 0) (.slice none 0 0))
          have c0 := HRw.out.cell 0
          have f0 := HRw.out.frozen 0
          have c1 := HRw.out.cell 1
          have f1 := HRw.out.frozen 1
          have c2 := HRw.out.cell 2
          have f2 := HRw.out.frozen 2
          have c3 := HRw.out.cell 3
          have f3 := HRw.out.frozen 3
          have c4 := HRw.out.cell 4
          have f4 := HRw.out.frozen 4
          have c5 := HRw.out.cell 5
          have f5 := HRw.out.frozen 5
          clear hfe
          go_wp2_with fail
          refine bodyPost_ret (results_row_tmp rfl _ _ (w.heap.size + 1) 87 #[.int .i64 0, .int .i64 0, .slice none 0 0, .slice none 0 0, .slice none 0 0, .slice none 0 0] (0, 0) _ rfl HR6.out Tryz.underlying87 rfl claim_size) rfl ?_
          exact ⟨_, by rw [HRes.out] <;> rfl, fun h => absurd (HRes.out.symm.trans h) (by decide), fun _ => rfl, HB6.out⟩
        · obtain ⟨ad, rfl, -, hcc, hsf⟩ := RI.suf' HRi.out (List.length_pos_iff.2 hc0) 1 (List.length_pos_iff.2 hc0)
          obtain ⟨ad', z, hea, hzb, hz, hcz⟩ := (RI.open_ HRi.out).elim fun A' h => h.elim fun c' h => by
            obtain ⟨he, -, -, hcell⟩ := h
            simp only [Value.slice.injEq] at he
            obtain ⟨rfl, -, rfl⟩ := he
            exact hcell 0 (List.length_pos_iff.2 hc0)
          obtain rfl : ad = ad' := by simpa using hea
          have hpos : 0 < cur.length := List.length_pos_iff.2 hc0
          rw [add_zero'] at hcz
          have hcz5 := (HBw.out.cell (p := ad) hzb).trans hcz
          have hzz : cur.getD 0 0 = z := getD_of' hz.out
          rw [hzz] at hfe
          have HSf : Hid (RI w (.slice (if c = 1 then some ad else some ⟨ad.block, ad.off + 1, none⟩) (cur.length - 1) (c - 1)) (cur.drop 1)) := by
            show RI _ _ _
            simpa [Addr.add] using hsf
          by_cases hzl : z ≠ (cur.length : Int) - 1
          · have HRes : Hid (fillE m q n b f l = 8) := by show _ = _; rw [hfe, if_pos (.inr hzl)]
            have t1 : ((cur.length : Int) == 0) = false := by rw [beq_eq_false_iff_ne]; omega
            have t2 : (z != (cur.length : Int) - 1) = true := by simpa using hzl
            clear hc0 hsf hea hzb hz hcz hzz hzl
            have HR6 := Lib.hid (HRw.out.set6 (.int .i64 0) (.int .i64 0) (.slice none 0 0) (.slice none 0 0) (.slice none 0 0) (.slice none 0 0))
            have HB6 := Lib.hid (below6 HBw.out (show w.heap.size ≤ w.heap.size + 1 by omega) (.int .i64 0) (.int .i64 0) (.slice none 0 0) (.slice none 0 0) (.slice none 0 0) (.slice none 0 0))
            have c0 := HRw.out.cell 0
            have f0 := HRw.out.frozen 0
            have c1 := HRw.out.cell 1
            have f1 := HRw.out.frozen 1
            have c2 := HRw.out.cell 2
            have f2 := HRw.out.frozen 2
            have c3 := HRw.out.cell 3
            have f3 := HRw.out.frozen 3
            have c4 := HRw.out.cell 4
            have f4 := HRw.out.frozen 4
            have c5 := HRw.out.cell 5
            have f5 := HRw.out.frozen 5
            clear hfe
            go_wp2_with fail
            refine bodyPost_ret (results_row_tmp rfl _ _ (w.heap.size + 1) 87 #[.int .i64 0, .int .i64 0, .slice none 0 0, .slice none 0 0, .slice none 0 0, .slice none 0 0] (0, 0) _ rfl HR6.out Tryz.underlying87 rfl claim_size) rfl ?_
            exact ⟨_, by rw [HRes.out] <;> rfl, fun h => absurd (HRes.out.symm.trans h) (by decide), fun _ => rfl, HB6.out⟩
          · have HRes : Hid (fillE m q n b f l = 0) := by
              show _ = _
              rw [hfe, if_neg]
              rintro (h | h)
              · exact hc0 h
              · exact hzl h
            have t1 : ((cur.length : Int) == 0) = false := by rw [beq_eq_false_iff_ne]; omega
            have t2 : (z != (cur.length : Int) - 1) = false := by simp at hzl ⊢; omega
            clear hc0 hsf hea hzb hz hcz hzz hzl hfe
            have w4 := HCw.out.cell 4
            have v4 := HCw.out.frozen 4
            go_upto_region 14 with fail
            generalize (if c = 1 then some ad else some ⟨ad.block, ad.off + 1, none⟩) = A1 at *
            generalize cur.length - 1 = m1 at *
            generalize c - 1 = e1 at *
            have HCe := Lib.hid (HCw.out.set 4 (.slice A1 m1 e1))
            have HRe := Lib.hid (HRw.out.set_other (a := ⟨w.heap.size + 1 + 1, 4, none⟩) (by dsimp only; omega) (.slice A1 m1 e1))
            have HBe := Lib.hid (HBw.out.setCell (p := ⟨w.heap.size + 1 + 1, 4, none⟩) (by dsimp only; omega) (.slice A1 m1 e1))
            generalize wr.setCell ⟨w.heap.size + 1 + 1, 4, none⟩ (.slice A1 m1 e1) = We at *
            have HR6 := Lib.hid (HRe.out.set6 (.int .i64 x) (.int .i64 y) (.slice none 0 0) (.slice none 0 0) (.slice A1 m1 e1) (.slice none 0 0))
            have HB6 := Lib.hid (below6 HBe.out (show w.heap.size ≤ w.heap.size + 1 by omega) (.int .i64 x) (.int .i64 y) (.slice none 0 0) (.slice none 0 0) (.slice A1 m1 e1) (.slice none 0 0))
            have c0 := HRe.out.cell 0
            have f0 := HRe.out.frozen 0
            have c1 := HRe.out.cell 1
            have f1 := HRe.out.frozen 1
            have c2 := HRe.out.cell 2
            have f2 := HRe.out.frozen 2
            have c3 := HRe.out.cell 3
            have f3 := HRe.out.frozen 3
            have c4 := HRe.out.cell 4
            have f4 := HRe.out.frozen 4
            have c5 := HRe.out.cell 5
            have f5 := HRe.out.frozen 5
            have u0 := HCe.out.cell 0
            have u1 := HCe.out.cell 1
            have u2 := HCe.out.cell 2
            have u3 := HCe.out.cell 3
            have u4 := HCe.out.cell 4
            have u5 := HCe.out.cell 5
            go_wp2_with fail
            refine bodyPost_ret (results_row_tmp rfl _ _ (w.heap.size + 1) 87 #[.int .i64 x, .int .i64 y, .slice none 0 0, .slice none 0 0, .slice A1 m1 e1, .slice none 0 0] (0, 0) _ rfl HR6.out Tryz.underlying87 rfl claim_size) rfl ?_
            refine ⟨_, by rw [HRes.out] <;> rfl, fun _ => ⟨.slice none 0 0, .slice none 0 0, .slice A1 m1 e1, by rw [← HXq.out, ← HYq.out], RI.below ?_ HB6.out, RI.below ?_ HB6.out, RI.below ?_ HB6.out⟩, fun h => absurd HRes.out h, HB6.out⟩
            · rw [HFf.out]; exact RI.emp rfl rfl rfl
            · rw [HFf.out]; exact RI.emp rfl rfl rfl
            · rw [HFf.out]; unfold fF; rw [if_pos rfl, ← HCu.out]; exact HSf.out
      · have hff : f = false := by simpa using hff
        rw [hff] at k5
        rw [if_neg (by simp [hff])] at hfe
        have HFf := Lib.hid hff
        clear hff
        by_cases hbb : b = true
        · rw [if_pos hbb] at hfe
          rw [hbb] at k4
          have HBb := Lib.hid hbb
          clear hbb
          by_cases hcl2 : (cur.length : Int) ≠ 2 * m
          · have HRes : Hid (fillE m q n b f l = 8) := by show _ = _; rw [hfe, if_pos hcl2]
            have t1 : ((cur.length : Int) != 2 * (m : Int)) = true := by simpa using hcl2
            clear hcl2
            have HR6 := Lib.hid (HRw.out.set6 (.int .i64 0) (.int .i64 0) (.slice none 0 0) (.slice none 0 0) (.slice none 0 0) (.slice none 0 0))
            have HB6 := Lib.hid (below6 HBw.out (show w.heap.size ≤ w.heap.size + 1 by omega) (.int .i64 0) (.int .i64 0) (.slice none 0 0) (.slice none 0 0) (.slice none 0 0) (.slice none 0 0))
            have c0 := HRw.out.cell 0
            have f0 := HRw.out.frozen 0
            have c1 := HRw.out.cell 1
            have f1 := HRw.out.frozen 1
            have c2 := HRw.out.cell 2
            have f2 := HRw.out.frozen 2
            have c3 := HRw.out.cell 3
            have f3 := HRw.out.frozen 3
            have c4 := HRw.out.cell 4
            have f4 := HRw.out.frozen 4
            have c5 := HRw.out.cell 5
            have f5 := HRw.out.frozen 5
            clear hfe
            go_wp2_with fail
            refine bodyPost_ret (results_row_tmp rfl _ _ (w.heap.size + 1) 87 #[.int .i64 0, .int .i64 0, .slice none 0 0, .slice none 0 0, .slice none 0 0, .slice none 0 0] (0, 0) _ rfl HR6.out Tryz.underlying87 rfl claim_size) rfl ?_
            exact ⟨_, by rw [HRes.out] <;> rfl, fun h => absurd (HRes.out.symm.trans h) (by decide), fun _ => rfl, HB6.out⟩
          · have HRes : Hid (fillE m q n b f l = 0) := by show _ = _; rw [hfe, if_neg hcl2]
            have t1 : ((cur.length : Int) != 2 * (m : Int)) = false := by simpa using hcl2
            have hcm : cur.length = 2 * m := by omega
            obtain ⟨ad, rfl, -, hcc, hsf⟩ := RI.suf' HRi.out (by omega) m (by omega)
            have hpf := RI.pre HRi.out (j := m) (by omega)
            have HSf := Lib.hid hsf
            have HPf := Lib.hid hpf
            have m1 : m ≤ cur.length := by omega
            have m2 : (m : Int) ≤ (cur.length : Int) := by omega
            have m3 : m ≤ c := by omega
            clear hcl2 hfe hcm hsf hpf
            have w2 := HCw.out.cell 2
            have v2 := HCw.out.frozen 2
            have w3 := HCw.out.cell 3
            have v3 := HCw.out.frozen 3
            generalize hA1 : (if c = m then some ad else some (ad.add m)) = A1 at *
            generalize hm1' : cur.length - m = m1 at *
            generalize he1 : c - m = e1 at *
            obtain ⟨We, hWe⟩ : ∃ We, We = ((wr.setCell ⟨w.heap.size + 1 + 1, 2, none⟩ (.slice (some ad) m c)).setCell ⟨w.heap.size + 1 + 1, 3, none⟩ (.slice A1 m1 e1)).drew := ⟨_, rfl⟩
            have HCe : Hid (BL We (w.heap.size + 1 + 1) 87 [.int .i64 x, .int .i64 y, .slice (some ad) m c, .slice A1 m1 e1, .slice none 0 0, .slice none 0 0]) := by rw [hWe]; exact (HCw.out.set 2 (.slice (some ad) m c)).set 3 (.slice A1 m1 e1)
            have HRe : Hid (BL We (w.heap.size + 1) 87 [.int .i64 0, .int .i64 0, .slice none 0 0, .slice none 0 0, .slice none 0 0, .slice none 0 0]) := by rw [hWe]; exact (HRw.out.set_other (a := ⟨w.heap.size + 1 + 1, 2, none⟩) (by dsimp only; omega) (.slice (some ad) m c)).set_other (a := ⟨w.heap.size + 1 + 1, 3, none⟩) (by dsimp only; omega) (.slice A1 m1 e1)
            have HBe : Hid (Below w.heap.size w We) := by rw [hWe]; exact ((HBw.out.setCell (p := ⟨w.heap.size + 1 + 1, 2, none⟩) (by dsimp only; omega) (.slice (some ad) m c)).setCell (p := ⟨w.heap.size + 1 + 1, 3, none⟩) (by dsimp only; omega) (.slice A1 m1 e1)).drew
            have HG1 : Hid ((wr.setCell ⟨w.heap.size + 1 + 1, 2, none⟩ (.slice (some ad) m c)).cell? ⟨bg, 0, none⟩ = some (.int .i64 (m : Int))) := by
              have hne : bg ≠ w.heap.size + 1 + 1 := by
                obtain ⟨b', vj', vv', e, hbb, -, -⟩ := HG.out
                simp only [Value.pointer.injEq, Option.some.injEq, Addr.mk.injEq, and_true] at e
                subst e
                have := hbb.lt
                omega
              show _ = _
              rw [World.cell?_setCell_far _ _ _ _ (by dsimp only; omega)]
              exact hgn
            have HG2 : Hid (((wr.setCell ⟨w.heap.size + 1 + 1, 2, none⟩ (.slice (some ad) m c)).setCell ⟨w.heap.size + 1 + 1, 3, none⟩ (.slice A1 m1 e1)).cell? ⟨bg, 0, none⟩ = some (.int .i64 (m : Int))) := by
              have hne : bg ≠ w.heap.size + 1 + 1 := by
                obtain ⟨b', vj', vv', e, hbb, -, -⟩ := HG.out
                simp only [Value.pointer.injEq, Option.some.injEq, Addr.mk.injEq, and_true] at e
                subst e
                have := hbb.lt
                omega
              show _ = _
              rw [World.cell?_setCell_far _ _ _ _ (by dsimp only; omega)]
              exact HG1.out
            have HG0 : Hid (wr.cell? ⟨bg, 0, none⟩ = some (.int .i64 (m : Int))) := hgn
            have HSm : Hid (l2L q n l = cur) := HCu.out.symm
            go_wp2_with fail
            go_region_held3 (fun W' : World => W'.cell? ⟨bg, 0, none⟩ = some (.int .i64 (m : Int))) (first | exact HG0.out | exact HG1.out | exact HG2.out) (fail)
            rw [← hWe]
            have HWe := Lib.hid hWe
            clear hWe hgn w2 v2 w3 v3
            have HR6 := Lib.hid (HRe.out.set6 (.int .i64 x) (.int .i64 y) (.slice (some ad) m c) (.slice A1 m1 e1) (.slice none 0 0) (.slice none 0 0))
            have HB6 := Lib.hid (below6 HBe.out (show w.heap.size ≤ w.heap.size + 1 by omega) (.int .i64 x) (.int .i64 y) (.slice (some ad) m c) (.slice A1 m1 e1) (.slice none 0 0) (.slice none 0 0))
            have c0 := HRe.out.cell 0
            have f0 := HRe.out.frozen 0
            have c1 := HRe.out.cell 1
            have f1 := HRe.out.frozen 1
            have c2 := HRe.out.cell 2
            have f2 := HRe.out.frozen 2
            have c3 := HRe.out.cell 3
            have f3 := HRe.out.frozen 3
            have c4 := HRe.out.cell 4
            have f4 := HRe.out.frozen 4
            have c5 := HRe.out.cell 5
            have f5 := HRe.out.frozen 5
            have u0 := HCe.out.cell 0
            have u1 := HCe.out.cell 1
            have u2 := HCe.out.cell 2
            have u3 := HCe.out.cell 3
            have u4 := HCe.out.cell 4
            have u5 := HCe.out.cell 5
            go_wp2_with fail
            refine bodyPost_ret (results_row_tmp rfl _ _ (w.heap.size + 1) 87 #[.int .i64 x, .int .i64 y, .slice (some ad) m c, .slice A1 m1 e1, .slice none 0 0, .slice none 0 0] (0, 0) _ rfl HR6.out Tryz.underlying87 rfl claim_size) rfl ?_
            refine ⟨_, by rw [HRes.out] <;> rfl, fun _ => ⟨.slice (some ad) m c, .slice A1 m1 e1, .slice none 0 0, by rw [← HXq.out, ← HYq.out], RI.below ?_ HB6.out, RI.below ?_ HB6.out, RI.below ?_ HB6.out⟩, fun h => absurd HRes.out h, HB6.out⟩
            · rw [HFf.out, HBb.out]; show RI _ _ ((l2L q n l).take m); rw [← HCu.out]; exact HPf.out
            · rw [HFf.out, HBb.out]; show RI _ _ ((l2L q n l).drop m); rw [← HCu.out]; exact HSf.out
            · rw [HFf.out]; exact RI.emp rfl rfl rfl
        · have hbb : b = false := by simpa using hbb
          rw [hbb] at k4
          rw [if_neg (by simp [hbb])] at hfe
          have HBb := Lib.hid hbb
          clear hbb
          by_cases hcl2 : (cur.length : Int) ≠ m
          · have HRes : Hid (fillE m q n b f l = 8) := by show _ = _; rw [hfe, if_pos hcl2]
            have t1 : ((cur.length : Int) != (m : Int)) = true := by simpa using hcl2
            clear hcl2
            have HR6 := Lib.hid (HRw.out.set6 (.int .i64 0) (.int .i64 0) (.slice none 0 0) (.slice none 0 0) (.slice none 0 0) (.slice none 0 0))
            have HB6 := Lib.hid (below6 HBw.out (show w.heap.size ≤ w.heap.size + 1 by omega) (.int .i64 0) (.int .i64 0) (.slice none 0 0) (.slice none 0 0) (.slice none 0 0) (.slice none 0 0))
            have c0 := HRw.out.cell 0
            have f0 := HRw.out.frozen 0
            have c1 := HRw.out.cell 1
            have f1 := HRw.out.frozen 1
            have c2 := HRw.out.cell 2
            have f2 := HRw.out.frozen 2
            have c3 := HRw.out.cell 3
            have f3 := HRw.out.frozen 3
            have c4 := HRw.out.cell 4
            have f4 := HRw.out.frozen 4
            have c5 := HRw.out.cell 5
            have f5 := HRw.out.frozen 5
            clear hfe
            go_wp2_with fail
            refine bodyPost_ret (results_row_tmp rfl _ _ (w.heap.size + 1) 87 #[.int .i64 0, .int .i64 0, .slice none 0 0, .slice none 0 0, .slice none 0 0, .slice none 0 0] (0, 0) _ rfl HR6.out Tryz.underlying87 rfl claim_size) rfl ?_
            exact ⟨_, by rw [HRes.out] <;> rfl, fun h => absurd (HRes.out.symm.trans h) (by decide), fun _ => rfl, HB6.out⟩
          · have HRes : Hid (fillE m q n b f l = 0) := by show _ = _; rw [hfe, if_neg hcl2]
            have t1 : ((cur.length : Int) != (m : Int)) = false := by simpa using hcl2
            clear hcl2 hfe
            have w2 := HCw.out.cell 2
            have v2 := HCw.out.frozen 2
            go_upto_region 23 with fail
            generalize hm1' : cur.length = m1 at *
            have HCe := Lib.hid (HCw.out.set 2 (.slice A m1 c))
            have HRe := Lib.hid (HRw.out.set_other (a := ⟨w.heap.size + 1 + 1, 2, none⟩) (by dsimp only; omega) (.slice A m1 c))
            have HBe := Lib.hid (HBw.out.setCell (p := ⟨w.heap.size + 1 + 1, 2, none⟩) (by dsimp only; omega) (.slice A m1 c))
            generalize wr.setCell ⟨w.heap.size + 1 + 1, 2, none⟩ (.slice A m1 c) = We at *
            have HR6 := Lib.hid (HRe.out.set6 (.int .i64 x) (.int .i64 y) (.slice A m1 c) (.slice none 0 0) (.slice none 0 0) (.slice none 0 0))
            have HB6 := Lib.hid (below6 HBe.out (show w.heap.size ≤ w.heap.size + 1 by omega) (.int .i64 x) (.int .i64 y) (.slice A m1 c) (.slice none 0 0) (.slice none 0 0) (.slice none 0 0))
            have c0 := HRe.out.cell 0
            have f0 := HRe.out.frozen 0
            have c1 := HRe.out.cell 1
            have f1 := HRe.out.frozen 1
            have c2 := HRe.out.cell 2
            have f2 := HRe.out.frozen 2
            have c3 := HRe.out.cell 3
            have f3 := HRe.out.frozen 3
            have c4 := HRe.out.cell 4
            have f4 := HRe.out.frozen 4
            have c5 := HRe.out.cell 5
            have f5 := HRe.out.frozen 5
            have u0 := HCe.out.cell 0
            have u1 := HCe.out.cell 1
            have u2 := HCe.out.cell 2
            have u3 := HCe.out.cell 3
            have u4 := HCe.out.cell 4
            have u5 := HCe.out.cell 5
            go_wp2_with fail
            refine bodyPost_ret (results_row_tmp rfl _ _ (w.heap.size + 1) 87 #[.int .i64 x, .int .i64 y, .slice A m1 c, .slice none 0 0, .slice none 0 0, .slice none 0 0] (0, 0) _ rfl HR6.out Tryz.underlying87 rfl claim_size) rfl ?_
            refine ⟨_, by rw [HRes.out] <;> rfl, fun _ => ⟨.slice A m1 c, .slice none 0 0, .slice none 0 0, by rw [← HXq.out, ← HYq.out], RI.below ?_ HB6.out, RI.below ?_ HB6.out, RI.below ?_ HB6.out⟩, fun h => absurd HRes.out h, HB6.out⟩
            · rw [HFf.out, HBb.out]; show RI _ _ (l2L q n l); rw [← HCu.out]; exact HRi.out
            · rw [HFf.out, HBb.out]; exact RI.emp rfl rfl rfl
            · rw [HFf.out]; exact RI.emp rfl rfl rfl

end Go.Proofs.YtgcnijmmjlfabaaGreatDoor

