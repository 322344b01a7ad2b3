/- Contract of equivalence's Classes.
   What Equivalent and Classes answer, in plain words. -/
import Derived.Test.YtjfggodnfoknfaaGreatDoorM19
set_option maxRecDepth 100000
set_option maxHeartbeats 16000000
namespace Go.Proofs.YtjfggodnfoknfaaGreatDoor
open Go.RowKit Go.Shelf
attribute [local go_sem] Oper.semAt_some

/-- What is asked of the configurations: few, small. -/
def CfOk (m : Nat) (es : List Tri) : Prop := (confsL m 0 es).length ≤ 16384 ∧ confsL m 0 es ≠ [] ∧ ∀ c ∈ confsL m 0 es, 1 ≤ c.length ∧ c.length ≤ 12 ∧ ∀ z ∈ c, -1000 ≤ z ∧ z ≤ 1000
/-- The normal forms of a degree, not yet sorted. -/
def nrmL (m : Nat) (es : List Tri) (deg : Int) : List (List Int) := (confsL m 0 es).map (nrm deg)
/-- What Classes answers. -/
def ClsP (n : Int) (es : List Tri) (deg : Int) (u : List (List Int)) (er : Int) : Prop :=
  (eGiven n es [] ≠ 0 ∧ u = [] ∧ er = eGiven n es []) ∨ (eGiven n es [] = 0 ∧ ¬ (-1048576 ≤ deg ∧ deg ≤ 1048576) ∧ u = [] ∧ er = 2) ∨
    (eGiven n es [] = 0 ∧ (-1048576 ≤ deg ∧ deg ≤ 1048576) ∧ ∃ m : Nat, n = m ∧ Rt m es ∧ (((∃ d ∈ nrmL m es deg, checkE d n ≠ 0) ∧ u = [] ∧ er = 11) ∨
      ((∀ d ∈ nrmL m es deg, checkE d n = 0) ∧ er = 0 ∧ u.Perm (nrmL m es deg) ∧ ∀ (i j : Nat) (a b : List Int), i < j → u[i]? = some a → u[j]? = some b → ¬ cmpL b a < 0)))
/-- What holds while the normal forms are collected. -/
def ClI (w0 : World) (n : Int) (ob db : Nat) (gu : List Value) (deg : Int) (pre : List (Value × List Int)) (W : World) : Prop :=
  ∃ vo, BL W ob 30 [vo] ∧ OV W (ob + 1) 26 vo (pre.map (·.1)) ∧ (∀ x ∈ pre, OI W ob x.1 x.2) ∧ Below w0.heap.size w0 W ∧ BL W (w0.heap.size + 1) 30 [.slice none 0 0] ∧
    BL W (w0.heap.size + 1 + 1) 31 [.int .i64 0] ∧ BL W w0.heap.size 24 gu ∧ BL W db 3 [.int .i64 deg] ∧ ∀ x ∈ pre, checkE x.2 n = 0
theorem ClI.below {w0 : World} {n : Int} {ob db : Nat} {gu : List Value} {deg : Int} {pre : List (Value × List Int)} {A C : World} (h : ClI w0 n ob db gu deg pre A) (hb : Below A.heap.size A C) : ClI w0 n ob db gu deg pre C := by
  obtain ⟨vo, h1, h2, h3, h4, h5, h6, h7, h8, h9⟩ := h
  exact ⟨vo, h1.bel hb, h2.below hb, fun x hx => OV.below (h3 x hx) hb, h4.trans (hb.mono h4.size), h5.bel hb, h6.bel hb, h7.bel hb, h8.bel hb, h9⟩
theorem ClI.putLoop {w0 : World} {n : Int} {ob db : Nat} {gu : List Value} {deg : Int} {pre : List (Value × List Int)} {W : World} (h : ClI w0 n ob db gu deg pre W) {l : Nat} {r : Loop} (hl : W.heap[l]? = some (.loop r)) (o : Obj) (hw : w0.heap.size ≤ l) : ClI w0 n ob db gu deg pre (W.putObj l o) := by
  obtain ⟨vo, h1, h2, h3, h4, h5, h6, h7, h8, h9⟩ := h
  exact ⟨vo, h1.putLoop hl o, OV.putL h2 hl o, fun x hx => OV.putL (h3 x hx) hl o, below_putLoop h4 hw o, h5.putLoop hl o, h6.putLoop hl o, h7.putLoop hl o, h8.putLoop hl o, h9⟩
/-- The way out when a normal form is no divisor. -/
def ClX (w0 : World) (n : Int) (L : List (List Int)) (W : World) : Prop :=
  BL W (w0.heap.size + 1) 30 [.slice none 0 0] ∧ BL W (w0.heap.size + 1 + 1) 31 [.int .i64 11] ∧ Below w0.heap.size w0 W ∧ ∃ d ∈ L, checkE d n ≠ 0
theorem ClX.below {w0 : World} {n : Int} {L : List (List Int)} {A C : World} (h : ClX w0 n L A) (hb : Below A.heap.size A C) : ClX w0 n L C := ⟨h.1.bel hb, h.2.1.bel hb, h.2.2.1.trans (hb.mono h.2.2.1.size), h.2.2.2⟩
theorem ClX.putLoop {w0 : World} {n : Int} {L : List (List Int)} {W : World} (h : ClX w0 n L W) {l : Nat} {r : Loop} (hl : W.heap[l]? = some (.loop r)) (o : Obj) (hw : w0.heap.size ≤ l) : ClX w0 n L (W.putObj l o) :=
  ⟨h.1.putLoop hl o, h.2.1.putLoop hl o, below_putLoop h.2.2.1 hw o, h.2.2.2⟩
theorem RR.nilZ (w : World) : RR w (.slice none 0 0) [] := ⟨[], ⟨none, 0, rfl, by simp, by simp, fun k hk => by simp at hk⟩, rfl, fun k z h => by simp at h⟩
theorem st_res {w W : World} {x y : Value} (hb : Below w.heap.size w W) (h1 : BL W (w.heap.size + 1) 30 [x]) (h2 : BL W (w.heap.size + 1 + 1) 31 [y]) (v : Value) (er : Int) :
    (W.cell? ⟨w.heap.size + 1, 0, none⟩ = some x ∧ W.frozen? ⟨w.heap.size + 1, 0, none⟩ = false ∧ (W.setCell ⟨w.heap.size + 1, 0, none⟩ v).cell? ⟨w.heap.size + 1 + 1, 0, none⟩ = some y ∧ (W.setCell ⟨w.heap.size + 1, 0, none⟩ v).frozen? ⟨w.heap.size + 1 + 1, 0, none⟩ = false) ∧
      BL ((W.setCell ⟨w.heap.size + 1, 0, none⟩ v).setCell ⟨w.heap.size + 1 + 1, 0, none⟩ (.int .i64 er)) (w.heap.size + 1) 30 [v] ∧ BL ((W.setCell ⟨w.heap.size + 1, 0, none⟩ v).setCell ⟨w.heap.size + 1 + 1, 0, none⟩ (.int .i64 er)) (w.heap.size + 1 + 1) 31 [.int .i64 er] ∧
      Below w.heap.size w ((W.setCell ⟨w.heap.size + 1, 0, none⟩ v).setCell ⟨w.heap.size + 1 + 1, 0, none⟩ (.int .i64 er)) ∧
      ∀ k, k ≠ w.heap.size + 1 → k ≠ w.heap.size + 1 + 1 → ((W.setCell ⟨w.heap.size + 1, 0, none⟩ v).setCell ⟨w.heap.size + 1 + 1, 0, none⟩ (.int .i64 er)).heap[k]? = W.heap[k]? := by
  have hk7 : BL (W.setCell ⟨w.heap.size + 1, 0, none⟩ v) (w.heap.size + 1 + 1) 31 [y] := h2.set_other (by simp) _
  exact ⟨⟨h1.cell 0, h1.frozen 0, hk7.cell 0, hk7.frozen 0⟩, (h1.set 0 _).set_other (by simp) _, hk7.set 0 _, (hb.setCell (p := ⟨w.heap.size + 1, 0, none⟩) (by simp) _).setCell (p := ⟨w.heap.size + 1 + 1, 0, none⟩) (by simp; omega) _,
    fun k h h' => (heap_setCell_other _ _ k _ h').trans (heap_setCell_other W _ k _ h)⟩
theorem RV.shut {B : Nat} {w w' : World} {v : Value} {us : List Value} (h : RV w v us) (hs : Shut B w w') : RV w' v us := by
  obtain ⟨A, c, h1, h2, h3, h4⟩ := h
  refine ⟨A, c, h1, h2, h3, fun k hk => ?_⟩
  obtain ⟨ad, rfl, hb, hc⟩ := h4 k hk
  refine ⟨ad, rfl, by rw [hs.size]; exact hb, ?_⟩
  rcases hs.block (ad.add k).block with e | ⟨_, e⟩
  · exact (World.cell?_of_block e).trans hc
  · rw [List.getElem?_eq_getElem hk] at hc
    simp [World.cell?, e] at hc
theorem RV.keepS {w w' : World} {g n c : Nat} {us : List Value} (h : RV w (.slice (some ⟨g, 0, none⟩) n c) us) (hs : w.heap.size ≤ w'.heap.size) (hk : w'.heap[g]? = w.heap[g]?) : RV w' (.slice (some ⟨g, 0, none⟩) n c) us := by
  obtain ⟨A, c', h1, h2, h3, h4⟩ := h
  refine ⟨A, c', h1, h2, h3, fun k hk' => ?_⟩
  obtain ⟨ad, rfl, hb, hc⟩ := h4 k hk'
  simp only [Value.slice.injEq, Option.some.injEq] at h1
  obtain ⟨rfl, -, -⟩ := h1
  exact ⟨_, rfl, by omega, (World.cell?_of_block (by rw [block_of_add]; exact hk)).trans hc⟩
theorem Classes_any (g : Value) (n : Int) (es : List Tri) (deg : Int) (w : World) (hg : GV w g n es) (hs : Sm n es) (hcf : ∀ m : Nat, n = m → Rt m es → CfOk m es) :
    Calls Tryz.prog 7 #[g, .int .i64 deg] w fun e w' => ∃ v u er, e = .returned (.tuple #[v, .int .i64 er]) ∧ RR w' v u ∧ Below w.heap.size w w' ∧ ClsP n es deg u er := by
  obtain ⟨A, c, rfl, -, -, -⟩ := hg.open_
  obtain ⟨i1, hi1, hz01, hz11, hz21⟩ := info_parts div_info
  obtain ⟨W0, hW0⟩ : ∃ W0, W0 = ((w.alloc (.cells #[.int .i64 n, .slice A es.length c] 24)).alloc (.cells #[.slice none 0 0] 30)).alloc (.cells #[.int .i64 0] 31) := ⟨_, rfl⟩
  have hb0 : Below w.heap.size w W0 := by rw [hW0]; exact ((below_alloc w _).alloc (by simp) _).alloc (by simp; omega) _
  have hz0 : W0.heap.size = w.heap.size + 1 + 1 + 1 := by rw [hW0]; simp
  have hx0 : BL W0 w.heap.size 24 [.int .i64 n, .slice A es.length c] := by rw [hW0]; exact ((BL.new' w _ _).alloc _).alloc _
  have hr0 : BL W0 (w.heap.size + 1) 30 [.slice none 0 0] := by
    rw [hW0]
    have := BL.new' (w.alloc (.cells #[.int .i64 n, .slice A es.length c] 24)) #[.slice none 0 0] 30
    rw [World.size_alloc] at this
    exact this.alloc _
  have he0 : BL W0 (w.heap.size + 1 + 1) 31 [.int .i64 0] := by
    rw [hW0]
    have := BL.new' ((w.alloc (.cells #[.int .i64 n, .slice A es.length c] 24)).alloc (.cells #[.slice none 0 0] 30)) #[.int .i64 0] 31
    rw [World.size_alloc, World.size_alloc] at this
    exact this
  have c0 := hx0.cell 0
  have c1 := hx0.cell 1
  rw [hW0] at c0 c1
  have HG0 := Lib.hid (hg.below hb0)
  have hgi := eGiven_any _ (.slice none 0 0) n es [] W0 HG0.out (RR.nilZ W0)
  have HX0 := Lib.hid hx0
  have HR0 := Lib.hid hr0
  have HE0 := Lib.hid he0
  have HB0 := Lib.hid hb0
  have HW0 := Lib.hid hW0
  have HZ0 := Lib.hid hz0
  have HS := Lib.hid hs
  have HCf := Lib.hid hcf
  have HCl : Hid (∀ (W : World) (v : Value) (er : Int) (u : List (List Int)), Below w.heap.size w W → BL W (w.heap.size + 1) 30 [v] → BL W (w.heap.size + 1 + 1) 31 [.int .i64 er] → (∀ W' B, Shut B W W' → RR W' v u) → ClsP n es deg u er →
      ∀ (ds : List Deferred) (tmps : Array Value), tmps.getD 4 undef = .pointer (some ⟨w.heap.size + 1, 0, none⟩) → tmps.getD 5 undef = .pointer (some ⟨w.heap.size + 1 + 1, 0, none⟩) → Marks w.heap.size ds W →
      LeavesInM Fence.wide 3 Tryz.prog Tryz.f7 tmps (fun e w' => ∃ v u er, e = .returned (.tuple #[v, .int .i64 er]) ∧ RR w' v u ∧ Below w.heap.size w w' ∧ ClsP n es deg u er) ds .returning W) := by
    intro W v er u hb h1 h2 h3 h4 ds tmps t4 t5 hm
    exact leaves_marks (B := w.heap.size) ds W hm fun w' hs' => ⟨_, results_cell2 rfl _ _ _ _ (w.heap.size + 1) (w.heap.size + 1 + 1) _ _ t4 t5 Tryz.underlying30 Tryz.underlying31 rfl rfl ((h1.shut hs').cell 0) ((h2.shut hs').cell 0), v, u, er, rfl, h3 _ _ hs', Below.shut hb hs', h4⟩
  clear hg hx0 hr0 he0 hb0 hW0 hs hz0 hcf
  refine (callsIn_wide (n := 3)).1 ?_
  refine callsIn_of_wp_marks Tryz.func7 rfl trivial ?_ rfl
  refine wpIn_wide.2 ?_
  simp only [Tryz.ntmps7, List.size_toArray, List.length_cons, List.length_nil, Nat.reduceAdd, Nat.reduceSub, Array.replicate_succ, Array.replicate_zero, List.push_toArray, List.append_toArray, List.nil_append, List.cons_append]
  by_cases h0 : eGiven n es [] = 0
  · rw [h0] at hgi
    have HGi := Lib.hid hgi
    have H0 := Lib.hid h0
    clear hgi h0
    go_wp2_with fail
    rw [← HW0.out]
    refine HGi.out.mono ?_
    rintro e w1 ⟨rfl, hb1⟩
    have HB1 := Lib.hid (HB0.out.trans (hb1.mono HB0.out.size))
    have HX1 := Lib.hid (HX0.out.bel hb1)
    have HR1 := Lib.hid (HR0.out.bel hb1)
    have HE1 := Lib.hid (HE0.out.bel hb1)
    have HG1 := Lib.hid (HG0.out.below hb1)
    have HS1 := Lib.hid hb1.size
    clear hb1 c0 c1
    by_cases hd : -1048576 ≤ deg ∧ deg ≤ 1048576
    · obtain ⟨g1, g2, -⟩ := eGiven_ok H0.out
      obtain ⟨m, rfl, hrt⟩ := rt_of HS.out g1 g2
      have hcf := HCf.out m rfl hrt
      have hall : Calls Tryz.prog 24 #[.agg #[.int .i64 (m : Int), .slice A es.length c], .int .i64 0] w1 fun e w' => ∃ v, e = .returned (.tuple #[v, .int .i64 0]) ∧ RR w' v (confsL m 0 es) ∧ Below w1.heap.size w1 w' :=
        All_ok _ m 0 es w1 HG1.out hrt (by have := hrt.n1; omega) hcf.1
      have HAll := Lib.hid hall
      have HRt := Lib.hid hrt
      have HCk := Lib.hid hcf
      have d0 := HX1.out.cell 0
      have d1 := HX1.out.cell 1
      have t1 : decide (deg < -1048576) = false := by simp; omega
      have t2 : decide (1048576 < deg) = false := by simp; omega
      have HD := Lib.hid hd
      clear g1 g2 hrt hcf hall hd
      go_wp2_with fail
      refine HAll.out.mono ?_
      rintro e w2 ⟨vl, rfl, hrr, hb2⟩
      obtain ⟨L, hL⟩ : ∃ L, L = confsL m 0 es := ⟨_, rfl⟩
      have hnl : nrmL m es deg = L.map (nrm deg) := by rw [hL]; rfl
      have hck := HCk.out
      unfold CfOk at hck
      rw [← hL] at hrr hck
      obtain ⟨A2, c2, hvl, -⟩ := hrr.open_
      subst hvl
      obtain ⟨W3, hW3⟩ : ∃ W3, W3 = w2.alloc (.cells #[.slice none 0 0] 30) := ⟨_, rfl⟩
      have hb3 : Below w2.heap.size w2 W3 := by rw [hW3]; exact below_alloc w2 _
      have HO3 : Hid (BL W3 w2.heap.size 30 [.slice none 0 0]) := by show BL _ _ _ _; rw [hW3]; exact BL.new' w2 _ _
      have HNo := Lib.hid (normal_any _ L deg W3 (hrr.below hb3))
      have HZ3 : Hid (W3.heap.size = w2.heap.size + 1) := by show _ = _; rw [hW3]; simp
      have HS2 := Lib.hid hb2.size
      have HB3 := Lib.hid ((HB1.out.trans (hb2.mono HB1.out.size)).trans (hb3.mono (HB1.out.trans (hb2.mono HB1.out.size)).size))
      have HX3 := Lib.hid ((HX1.out.bel hb2).bel hb3)
      have HR3 := Lib.hid ((HR1.out.bel hb2).bel hb3)
      have HE3 := Lib.hid ((HE1.out.bel hb2).bel hb3)
      have HBz := Lib.hid hb3
      have HRR := Lib.hid hrr
      have HCk2 := Lib.hid hck
      have HNl := Lib.hid hnl
      have HW3 := Lib.hid hW3
      clear hb2 hb3 hW3 hrr hck hnl hL d0 d1
      go_wp2_with fail
      rw [← HW3.out]
      refine HNo.out.mono ?_
      rintro e w4 ⟨rfl, rfl⟩
      obtain ⟨W4, hW4⟩ : ∃ W4, W4 = (W3.alloc (.cells #[.slice A2 L.length c2] 30)).alloc (.cells #[.int .i64 deg] 3) := ⟨_, rfl⟩
      have hb4 : Below W3.heap.size W3 W4 := by rw [hW4]; exact (below_alloc W3 _).alloc (by simp) _
      have HLb : Hid (BL W4 W3.heap.size 30 [.slice A2 L.length c2]) := by show BL _ _ _ _; rw [hW4]; exact (BL.new' W3 _ _).alloc _
      have HDb : Hid (BL W4 (W3.heap.size + 1) 3 [.int .i64 deg]) := by
        show BL _ _ _ _
        rw [hW4]
        have := BL.new' (W3.alloc (.cells #[.slice A2 L.length c2] 30)) #[.int .i64 deg] 3
        rwa [World.size_alloc] at this
      have HZ4 : Hid (W4.heap.size = W3.heap.size + 2) := by show _ = _; rw [hW4]; simp
      have HNp : Hid (NmPre w2 (W3.heap.size + 1) deg W4) := ⟨by have := HZ3.out; have := HZ4.out; omega, fun k hk => (hb4.block k (by have := HZ3.out; omega)).trans (HBz.out.block k hk), HDb.out⟩
      have HB4 := Lib.hid (HB3.out.trans (hb4.mono HB3.out.size))
      have HI4 : Hid (ClI w m w2.heap.size (W3.heap.size + 1) [.int .i64 (m : Int), .slice A es.length c] deg [] W4) :=
        ⟨_, HO3.out.bel hb4, OV.nil_ _ _ _, fun x hx => (by cases hx), HB4.out, HR3.out.bel hb4, HE3.out.bel hb4, HX3.out.bel hb4, HDb.out, fun x hx => (by cases hx)⟩
      have HW4 := Lib.hid hW4
      clear hb4 hW4
      go_wp2
      rw [← HW4.out]
      refine (wpIn_wide (n := 3)).1 ?_
      refine wpIn_rangeFunc_iter (gf := 48) (lb := #[.pointer (some ⟨W3.heap.size, 0, none⟩), .pointer (some ⟨W3.heap.size + 1, 0, none⟩)]) rfl (enters_of Tryz.func48 (by kernel_rfl) rfl)
        (normal1_iter w2 W3.heap.size (W3.heap.size + 1) (.slice A2 L.length c2) L deg HRR.out HD.out HCk2.out.2.2) (fun _ => rfl) ?hR (NmK.trans_ (W0 := w2) (db := W3.heap.size + 1)) ?hKp ?hIt (ClI w m w2.heap.size (W3.heap.size + 1) [.int .i64 (m : Int), .slice A es.length c] deg) (fun cd _ W => cd = .ret ∧ ClX w m (L.map (nrm deg)) W) ?hI ?hIx ?hIR ?hIxR ?hpre ?h0
        ?a1 ?assign ?body ?done ?stop
      case assign =>
        intro l x W K' hK'
        gi_wp2
        exact hK'
      case hR => intro A' C h hs; exact ⟨h.block _ (by omega), h.block _ (by omega)⟩
      case hKp =>
        intro W r o hl
        have := HZ4.out
        have := HZ3.out
        exact ⟨by simp [World.putObj], fun k hk => World.putObj_heap_other (by omega), World.putObj_heap_other (by omega)⟩
      case hIt => rintro pre x W r o ⟨h1, h2⟩ hl; exact ⟨OV.putL h1 hl o, h2⟩
      case hI => intro pre W r o h hl; exact h.putLoop hl o (by have := HB4.out.size; omega)
      case hIx => rintro cd pre W r o ⟨h1, h2⟩ hl; exact ⟨h1, h2.putLoop hl o (by have := HB4.out.size; omega)⟩
      case hIR => intro pre A' C h hr; exact h.below hr
      case hIxR => rintro cd pre A' C ⟨h1, h2⟩ hr; exact ⟨h1, h2.below hr⟩
      case hpre =>
        intro r
        have hb := (below_alloc W4 (.deferred (some []))).alloc (by simp) (.loop r)
        exact ⟨HNp.out.below hb, HLb.out.bel hb⟩
      case h0 =>
        intro r
        exact HI4.out.below ((below_alloc W4 (.deferred (some []))).alloc (by simp) (.loop r))
      case stop =>
        rintro cd pre W _ ⟨rfl, h1, h2, h3, h4⟩ hD'
        have HP : Hid (ClsP m es deg [] 11) := .inr (.inr ⟨H0.out, HD.out, m, rfl, HRt.out, .inl ⟨by rw [HNl.out]; exact h4, rfl, rfl⟩⟩)
        have H1 := Lib.hid h1
        have H2 := Lib.hid h2
        have H3 := Lib.hid h3
        have HDf := Lib.hid hD'
        clear h1 h2 h3 h4 hD'
        gi_wp2
        exact HCl.out _ _ _ _ H3.out H1.out H2.out (fun W' B _ => RR.nilZ W') HP.out [_] _ rfl rfl ⟨⟨_, rfl, by have := HB4.out.size; omega, HDf.out, by simp⟩, trivial⟩
      case body =>
        rintro l pre ⟨xv, xl⟩ W r ⟨vo, k1, k2, k3, k4, k5, k6, k7, k8, k9⟩ ⟨hx, rest, hrest⟩ hl hd'
        dsimp only at hx hrest
        obtain ⟨A1, ca, hxv, -⟩ := hx.rv
        rw [List.length_map] at hxv
        subst hxv
        have g0 := k7.cell 0
        have hChk := check_any _ xl (m : Int) W hx.rv
        have hmem : xl ∈ L.map (nrm deg) := by rw [← hrest]; simp
        by_cases hc : checkE xl m = 0
        · rw [hc] at hChk
          have HChk := Lib.hid hChk
          have hpl : pre.length < 16384 := by
            have h := congrArg List.length hrest
            have := HCk2.out.1
            simp at h; omega
          obtain ⟨ln, hln⟩ : ∃ ln, ln = (pre.map (·.1)).length := ⟨_, rfl⟩
          have hlp : ln = pre.length := by rw [hln]; simp
          obtain ⟨A3, c3, rfl, -, -, -⟩ := k2.rv
          have hWs := k4.size
          have hz3 := HZ3.out
          have hz4 := HZ4.out
          have hlb := lt_of_block hl
          have hdb := lt_of_block hd'
          have hob := k1.lt
          have hs2 := HS2.out
          have hs1 := HS1.out
          have hz0 := HZ0.out
          obtain ⟨gg, cap2, w', hrun, hown, hgr, hat⟩ := run_append_oneV (P := Tryz.prog) W 30 30 26 i1 _ 24 Tryz.underlying30 hi1 hz01 hz11 hz21 (by omega) rfl (w2.heap.size + 1) _ _ k2 (.slice A1 xl.length ca) rfl (by simp; omega) (by omega)
          rw [← hln] at k1 k2 hrun hown hgr hat
          have hgo : ∀ j T us, BL W j T us → T ≠ 26 → (Value.slice A3 ln c3).ownBlock ≠ some j := by
            intro j T us hb hT hg
            obtain ⟨cc, hcc, _⟩ := k2.block_ hg
            unfold BL at hb; rw [hb] at hcc; simp only [Option.some.injEq, Obj.cells.injEq] at hcc; exact hT hcc.2.1
          have hgd : (Value.slice A3 ln c3).ownBlock ≠ some W4.heap.size := fun hg => by
            obtain ⟨cc, hcc, _⟩ := k2.block_ hg
            rw [hd'] at hcc; cases hcc
          have hgl : (Value.slice A3 ln c3).ownBlock ≠ some (W4.heap.size + 1) := fun hg => by
            obtain ⟨cc, hcc, _⟩ := k2.block_ hg
            rw [hl] at hcc; cases hcc
          have hgb : ∀ j, (Value.slice A3 ln c3).ownBlock = some j → w2.heap.size < j := fun j hg => (k2.own_lt hg).2
          have ho2 : w2.heap.size ≠ gg := by
            rcases hat with h | h
            · have := hgb _ h; omega
            · omega
          have hk1 : BL w' w2.heap.size 30 [.slice A3 ln c3] := BL.grown (k1.alloc _) hgr (hgo _ _ _ k1 (by decide))
          have c4 := k1.cell 0
          have c5 := hk1.cell 0
          have f5 := hk1.frozen 0
          have hfin : ∀ j, j < W.heap.size → (Value.slice A3 ln c3).ownBlock ≠ some j → j ≠ w2.heap.size → (w'.setCell ⟨w2.heap.size, 0, none⟩ (.slice (some ⟨gg, 0, none⟩) (ln + 1) cap2)).heap[j]? = W.heap[j]? := fun j hj h1 h2 =>
            (heap_setCell_other w' _ j _ h2).trans ((hgr.block j (by rw [World.size_alloc]; omega) (fun e => h1 e.symm)).trans (Below.heap_alloc W _ j hj))
          have hszf : W.heap.size ≤ (w'.setCell ⟨w2.heap.size, 0, none⟩ (.slice (some ⟨gg, 0, none⟩) (ln + 1) cap2)).heap.size := by have := hgr.size; simp at this ⊢; omega
          have HFin : Hid (KeepLD W4.heap.size W (w'.setCell ⟨w2.heap.size, 0, none⟩ (.slice (some ⟨gg, 0, none⟩) (ln + 1) cap2)) ∧ NmK w2 (W3.heap.size + 1) W (w'.setCell ⟨w2.heap.size, 0, none⟩ (.slice (some ⟨gg, 0, none⟩) (ln + 1) cap2)) ∧
              ClI w m w2.heap.size (W3.heap.size + 1) [.int .i64 (m : Int), .slice A es.length c] deg (pre ++ [(.slice A1 xl.length ca, xl)]) (w'.setCell ⟨w2.heap.size, 0, none⟩ (.slice (some ⟨gg, 0, none⟩) (ln + 1) cap2))) := by
            have keepB : ∀ j T us, BL W j T us → T ≠ 26 → j ≠ w2.heap.size → BL (w'.setCell ⟨w2.heap.size, 0, none⟩ (.slice (some ⟨gg, 0, none⟩) (ln + 1) cap2)) j T us := fun j T us hb hT hj => (hfin j hb.lt (hgo _ _ _ hb hT) hj).trans hb
            have keepO : ∀ v zs, OI W w2.heap.size v zs → OI (w'.setCell ⟨w2.heap.size, 0, none⟩ (.slice (some ⟨gg, 0, none⟩) (ln + 1) cap2)) w2.heap.size v zs := by
              intro v zs h
              refine OV.keepG h fun g hg => hfin g (h.own_lt hg).1 (fun e => OV.own_ne h k2 (by decide) hg e) (fun e => ?_)
              subst e
              obtain ⟨cc, hcc, _⟩ := h.block_ hg
              unfold BL at k1; rw [k1] at hcc
              simp only [Option.some.injEq, Obj.cells.injEq] at hcc
              exact absurd hcc.2.1 (by decide)
            refine ⟨⟨hfin _ hdb hgd (by omega), hfin _ hlb hgl (by omega)⟩, ⟨hszf, fun k hk => hfin k (by omega) (fun e => by have := hgb _ e; omega) (by omega), hfin _ k8.lt (hgo _ _ _ k8 (by decide)) (by omega)⟩, ⟨_, hk1.set 0 _, ?_, ?_, ?_, keepB _ _ _ k5 (by decide) (by omega), keepB _ _ _ k6 (by decide) (by omega), keepB _ _ _ k7 (by decide) (by omega), keepB _ _ _ k8 (by decide) (by omega), ?_⟩⟩
            · refine OV.keepG (v := .slice (some ⟨gg, 0, none⟩) (ln + 1) cap2) (by simpa using hown) fun g hg => ?_
              simp only [Value.ownBlock, Option.some.injEq] at hg
              exact heap_setCell_other w' _ _ _ (by simp; omega)
            · intro x hxm
              rcases List.mem_append.1 hxm with hxm | hxm
              · exact keepO _ _ (k3 x hxm)
              · simp only [List.mem_singleton] at hxm
                subst hxm
                exact keepO _ _ hx
            · refine Below.setCell ?_ (p := ⟨w2.heap.size, 0, none⟩) (by simp; omega) _
              exact (k4.alloc k4.size _).grown hgr (by simp; omega) (fun k hk => by have := hgb _ hk; omega)
            · intro x hxm
              rcases List.mem_append.1 hxm with hxm | hxm
              · exact k9 x hxm
              · simp only [List.mem_singleton] at hxm
                subst hxm
                exact hc
          clear hfin hk1 k1 k2 k3 k4 k5 k6 k7 k8 k9 hl hd' hown hgr hat hgo hx hrest hgd hgl hgb hmem hChk hlb hdb hob hz3 hz4 hs1 hs2 hz0 hln hlp hszf hWs
          gi_wp2_with fail
          refine ⟨trivial, (CallsIn.inRound l (callsIn_wide.2 HChk.out)).mono ?_⟩
          rintro e w5 ⟨rfl, rfl⟩
          gi_wp2_with (refine wpListIn_append rfl _ _ _ rfl _ _ (by simp [Act.eval, Act.put]; done) (by simp [Act.eval, Act.put]; done) _ _ hrun ?_)
          exact HFin.out
        · obtain ⟨er, her⟩ : ∃ er, er = checkE xl m := ⟨_, rfl⟩
          rw [← her] at hChk hc
          have HChk := Lib.hid hChk
          have t3 : (er != 0) = true := by simpa using hc
          obtain ⟨⟨r0, r1, q0, q1⟩, hf1, hf2, hf3, hk⟩ := st_res k4 k5 k6 (.slice none 0 0) 11
          have hz3 := HZ3.out
          have hz4 := HZ4.out
          have hs2 := HS2.out
          have hs1 := HS1.out
          have hz0 := HZ0.out
          have HF : Hid (KeepLD W4.heap.size W ((W.setCell ⟨w.heap.size + 1, 0, none⟩ (.slice none 0 0)).setCell ⟨w.heap.size + 1 + 1, 0, none⟩ (.int .i64 11)) ∧ Code.ret = Code.ret ∧ ClX w m (L.map (nrm deg)) ((W.setCell ⟨w.heap.size + 1, 0, none⟩ (.slice none 0 0)).setCell ⟨w.heap.size + 1 + 1, 0, none⟩ (.int .i64 11))) :=
            ⟨⟨hk _ (by omega) (by omega), hk _ (by omega) (by omega)⟩, rfl, hf1, hf2, hf3, xl, hmem, by rw [← her]; exact hc⟩
          clear hf1 hf2 hf3 hk k1 k2 k3 k4 k5 k6 k7 k8 k9 hl hd' hx hrest hmem hChk hz3 hz4 hs2 hs1 hz0 her hc
          gi_wp2_with fail
          refine ⟨trivial, (CallsIn.inRound l (callsIn_wide.2 HChk.out)).mono ?_⟩
          rintro e w5 ⟨rfl, rfl⟩
          gi_wp2
          change KeepLD _ _ _ ∧ _ ∧ _
          exact ⟨HF.out.1, rfl, HF.out.2.2⟩
      case done =>
        rintro xs W hxs ⟨vo, k1, k2, k3, k4, k5, k6, k7, k8, k9⟩ hD'
        have hne : xs ≠ [] := by
          rintro rfl
          have := HCk2.out.2.1
          rw [List.map_nil] at hxs
          exact this (by simpa using hxs.symm)
        have hxl : 1 ≤ xs.length := by cases xs with | nil => exact absurd rfl hne | cons _ _ => simp
        obtain ⟨gg, cap, rfl, hgB, hgs⟩ := OV.shape k2 (by simpa using hxl)
        rw [List.length_map] at k1 k2
        have HSo := Lib.hid (sortD_any W (w2.heap.size + 1) gg cap xs k2 hne (fun x hx => ⟨_, k3 x hx⟩))
        have e0 := k1.cell 0
        have hs1 := HS1.out
        have hs2 := HS2.out
        have hz0 := HZ0.out
        have hz3 := HZ3.out
        have hz4 := HZ4.out
        have hgd : gg ≠ W4.heap.size := by
          rintro rfl
          obtain ⟨cc, hcc, _⟩ := k2.block_ (g := W4.heap.size) rfl
          rw [hD'] at hcc; cases hcc
        have hD2 := lt_of_block hD'
        have HAf : Hid (∀ w5, Fr [gg] W w5 → Below w.heap.size w w5 ∧ BL w5 (w.heap.size + 1) 30 [.slice none 0 0] ∧ BL w5 (w.heap.size + 1 + 1) 31 [.int .i64 0] ∧ BL w5 w2.heap.size 30 [.slice (some ⟨gg, 0, none⟩) xs.length cap] ∧
            w5.heap[W4.heap.size]? = some (.deferred (some [])) ∧ ∀ x ∈ xs, OI w5 w2.heap.size x.1 x.2) := by
          intro w5 hfr
          refine ⟨hfr.toBelow k4 (by simp; omega), k5.fr hfr (by simp; omega), k6.fr hfr (by simp; omega), k1.fr hfr (by simp; omega), (hfr.block _ hD2 (by simp; omega)).trans hD', fun x hx => ?_⟩
          refine OV.keepG (k3 x hx) fun g hg => hfr.block g ((k3 x hx).own_lt hg).1 ?_
          simp only [List.mem_cons, List.not_mem_nil, or_false]
          rintro rfl
          exact OV.own_ne (k3 x hx) k2 (by decide) hg rfl
        have HXs := Lib.hid hxs
        have HK9 := Lib.hid k9
        have HGB := Lib.hid hgB
        clear k1 k2 k3 k4 k5 k6 k7 k8 k9 hD' hgs hD2 hxs hs1 hs2 hz0 hz3 hz4 hgd hgB
        go_wp2_with fail
        refine HSo.out.mono ?_
        rintro e w5 ⟨rfl, its, hperm, hsort, hrv, -, hfr⟩
        obtain ⟨a1, a2, a3, a4, a5, a6⟩ := HAf.out w5 hfr
        have HP : Hid (ClsP m es deg (its.map (·.2)) 0) := by
          have hL := HXs.out
          refine .inr (.inr ⟨H0.out, HD.out, m, rfl, HRt.out, .inr ⟨fun d hd => ?_, rfl, ?_, ?_⟩⟩)
          · rw [HNl.out, ← hL] at hd
            obtain ⟨x, hx, rfl⟩ := List.mem_map.1 hd
            exact HK9.out x hx
          · rw [HNl.out, ← hL]; exact hperm.map _
          · intro i j a b hij ha hb
            simp only [List.getElem?_map, Option.map_eq_some_iff] at ha hb
            obtain ⟨a', ha', rfl⟩ := ha
            obtain ⟨b', hb', rfl⟩ := hb
            have := hsort i j a' b' hij ha' hb'
            omega
        obtain ⟨⟨r0, r1, q0, q1⟩, hf1, hf2, hf3, hk⟩ := st_res a1 a2 a3 (.slice (some ⟨gg, 0, none⟩) xs.length cap) 0
        have HRR2 : Hid (∀ W' B, Shut B ((w5.setCell ⟨w.heap.size + 1, 0, none⟩ (.slice (some ⟨gg, 0, none⟩) xs.length cap)).setCell ⟨w.heap.size + 1 + 1, 0, none⟩ (.int .i64 0)) W' → RR W' (.slice (some ⟨gg, 0, none⟩) xs.length cap) (its.map (·.2))) := by
          intro W' B hsh
          have hs1 := HS1.out
          have hs2 := HS2.out
          have hz0 := HZ0.out
          have hgb := HGB.out
          refine ⟨its.map (·.1), (hrv.keepS (by simp [World.setCell]) (hk gg (by omega) (by omega))).shut hsh, by simp, fun k zs hkz => ?_⟩
          simp only [List.getElem?_map, Option.map_eq_some_iff] at hkz
          obtain ⟨x, hx, rfl⟩ := hkz
          refine ⟨x.1, by simp [hx], ?_⟩
          have hxm : x ∈ xs := hperm.mem_iff.1 (List.mem_of_getElem? hx)
          have ho := a6 x hxm
          exact (OV.shut (OV.keepG ho fun g hg => hk g (by have := (ho.own_lt hg).2; omega) (by have := (ho.own_lt hg).2; omega)) hsh).rv
        have HF1 := Lib.hid hf1
        have HF2 := Lib.hid hf2
        have HF3 := Lib.hid hf3
        have HDf := Lib.hid ((hk W4.heap.size (by have := HZ4.out; have := HZ3.out; have := HS2.out; have := HS1.out; have := HZ0.out; omega) (by have := HZ4.out; have := HZ3.out; have := HS2.out; have := HS1.out; have := HZ0.out; omega)).trans a5)
        have e5 := a4.cell 0
        clear hperm hsort hrv hfr a1 a2 a3 a4 a5 a6 hf1 hf2 hf3 hk
        go_wp2
        exact HCl.out _ _ _ _ HF3.out HF1.out HF2.out HRR2.out HP.out [_] _ rfl rfl ⟨⟨_, rfl, by have := HB4.out.size; omega, HDf.out, by simp⟩, trivial⟩
    · have HP : Hid (ClsP n es deg [] 2) := .inr (.inl ⟨H0.out, hd, rfl, rfl⟩)
      obtain ⟨⟨r0, r1, q0, q1⟩, hf1, hf2, hf3, -⟩ := st_res HB1.out HR1.out HE1.out (.slice none 0 0) 2
      have HF1 := Lib.hid hf1
      have HF2 := Lib.hid hf2
      have HF3 := Lib.hid hf3
      clear hf1 hf2 hf3
      by_cases hd1 : deg < -1048576
      · have t1 : decide (deg < -1048576) = true := by simpa using hd1
        go_wp2
        exact HCl.out _ _ _ _ HF3.out HF1.out HF2.out (fun W' B _ => RR.nilZ W') HP.out [] _ rfl rfl trivial
      · have t1 : decide (deg < -1048576) = false := by simpa using hd1
        have t2 : decide (1048576 < deg) = true := by simp; omega
        go_wp2
        exact HCl.out _ _ _ _ HF3.out HF1.out HF2.out (fun W' B _ => RR.nilZ W') HP.out [] _ rfl rfl trivial
  · obtain ⟨er, her⟩ : ∃ er, er = eGiven n es [] := ⟨_, rfl⟩
    have HP : Hid (ClsP n es deg [] er) := .inl ⟨h0, rfl, her⟩
    rw [← her] at hgi h0
    have HGi := Lib.hid hgi
    have t : (er != 0) = true := by simpa using h0
    clear hgi her h0
    go_wp2_with fail
    rw [← HW0.out]
    refine HGi.out.mono ?_
    rintro e w1 ⟨rfl, hb1⟩
    have HB1 := Lib.hid (HB0.out.trans (hb1.mono HB0.out.size))
    have HR1 := Lib.hid (HR0.out.bel hb1)
    have HE1 := Lib.hid (HE0.out.bel hb1)
    obtain ⟨⟨r0, r1, q0, q1⟩, hf1, hf2, hf3, -⟩ := st_res HB1.out HR1.out HE1.out (.slice none 0 0) er
    have HF1 := Lib.hid hf1
    have HF2 := Lib.hid hf2
    have HF3 := Lib.hid hf3
    clear hb1 hf1 hf2 hf3 c0 c1
    go_wp2
    exact HCl.out _ _ _ _ HF3.out HF1.out HF2.out (fun W' B _ => RR.nilZ W') HP.out [] _ rfl rfl trivial
end Go.Proofs.YtjfggodnfoknfaaGreatDoor

namespace Go.Proofs.YtjfggodnfoknfaaGreatDoor
open Go.RowKit Go.Shelf

/-- t leads from a to b. -/
def Way (m : Nat) (es : List Tri) (a b : List Int) (t : Nat → Int) : Prop := ∀ v, v < m → a.getD v 0 - b.getD v 0 = lap m (wgt es) t v
/-- u is the least one with the effect of t. -/
def LeastOf (m : Nat) (u : List Int) (t : Nat → Int) : Prop := u.length = m ∧ (∃ c, ∀ v, v < m → u.getD v 0 = t v - c) ∧ (∀ v, v < m → 0 ≤ u.getD v 0) ∧ ∃ v, v < m ∧ u.getD v 0 = 0
theorem LeastOf.uniq {m : Nat} {u u' : List Int} {t t' : Nat → Int} (h : LeastOf m u t) (h' : LeastOf m u' t') {c : Int} (hc : ∀ v, v < m → t v = t' v + c) : u = u' := by
  obtain ⟨h1, ⟨a, h2⟩, h3, x, hx, h4⟩ := h
  obtain ⟨k1, ⟨b, k2⟩, k3, y, hy, k4⟩ := h'
  have e1 := h2 x hx
  have e2 := k2 x hx
  have e3 := k3 x hx
  have e4 := h2 y hy
  have e5 := k2 y hy
  have e6 := h3 y hy
  have c1 := hc x hx
  have c2 := hc y hy
  refine List.ext_getElem (by omega) fun v hv hv' => ?_
  have a1 := h2 v (by omega)
  have a2 := k2 v (by omega)
  have a3 := hc v (by omega)
  rw [List.getD_eq_getElem?_getD, List.getElem?_eq_getElem hv] at a1
  rw [List.getD_eq_getElem?_getD, List.getElem?_eq_getElem hv'] at a2
  simp only [Option.getD_some] at a1 a2
  omega
theorem LeastOf.of_shift {m : Nat} {u : List Int} {t t' : Nat → Int} (h : LeastOf m u t) {c : Int} (hc : ∀ v, v < m → t v = t' v + c) : LeastOf m u t' := by
  obtain ⟨h1, ⟨a, h2⟩, h3, h4⟩ := h
  exact ⟨h1, ⟨a - c, fun v hv => by rw [h2 v hv, hc v hv]; omega⟩, h3, h4⟩
theorem leastL_of {s : List Int} (hs : 1 ≤ s.length) : LeastOf s.length (leastL s) (fun v => s.getD v 0) := by
  have hne : s ≠ [] := by rintro rfl; simp at hs
  have hg : ∀ v, v < s.length → (leastL s).getD v 0 = s.getD v 0 - minTo s (s.length - 1) := by
    intro v hv
    unfold leastL
    rw [if_neg hne, List.getD_eq_getElem?_getD, List.getElem?_map, List.getD_eq_getElem?_getD, List.getElem?_eq_getElem hv]
    rfl
  refine ⟨by unfold leastL; rw [if_neg hne]; simp, ⟨_, hg⟩, fun v hv => ?_, ?_⟩
  · have := minTo_le s (s.length - 1) v (by omega)
    rw [hg v hv]; omega
  · obtain ⟨j, hj, e⟩ := minTo_is s (s.length - 1)
    exact ⟨j, by omega, by rw [hg j (by omega), e]; omega⟩
theorem Rt.nn {m : Nat} {es : List Tri} (h : Rt m es) : ∀ v u, 0 ≤ wgt es v u := fun v u => wgt_nonneg (fun t ht => h.ed.pos t ht) v u
theorem lap_sub (n : Nat) (w : Nat → Nat → Int) (s t : Nat → Int) (v : Nat) : lap n w (fun u => s u - t u) v = lap n w s v - lap n w t v := by
  have := lap_add n w s (fun u => - t u) v
  rw [lap_neg] at this
  rw [show (fun u => s u - t u) = fun u => s u + - t u from funext fun u => by omega, this]; omega
theorem zip_getD (s1 s2 : List Int) (m : Nat) (h1 : s1.length = m) (h2 : s2.length = m) (v : Nat) (hv : v < m) : (List.zipWith (fun x y => x - y) s1 s2).getD v 0 = s1.getD v 0 - s2.getD v 0 := by
  simp only [List.getD_eq_getElem?_getD]
  rw [List.getElem?_eq_getElem (by simp; omega), List.getElem?_eq_getElem (by omega), List.getElem?_eq_getElem (by omega)]
  simp
theorem red_way {m : Nat} {es : List Tri} {a b r1 s1 r2 s2 : List Int} (h : Rt m es) (ha : Red m 0 es a r1 s1) (hb : Red m 0 es b r2 s2) {t : Nat → Int} (ht : Way m es a b t) : r1 = r2 ∧ ∃ c, ∀ v, v < m → s1.getD v 0 - s2.getD v 0 = t v + c := by
  have hq : 0 < m := h.n1
  obtain ⟨h1, h2⟩ := reduced_unique (s := fun v => t v - (s1.getD v 0 - s2.getD v 0)) (d := fnD r1) (d' := fnD r2) h.nn hq ha.tight hb.tight ha.pos hb.pos fun v hv => by
    have e1 := ha.eq v hv
    have e2 := hb.eq v hv
    have e3 := ht v hv
    show r2.getD v 0 = r1.getD v 0 - _
    rw [lap_sub, lap_sub]
    omega
  refine ⟨List.ext_getElem (by rw [ha.rl, hb.rl]) fun v hv hv' => ?_, -(t 0 - (s1.getD 0 0 - s2.getD 0 0)), fun v hv => by have := h1 v hv; omega⟩
  have := h2 v (by have := ha.rl; omega)
  unfold fnD at this
  rw [List.getD_eq_getElem?_getD, List.getElem?_eq_getElem hv, List.getD_eq_getElem?_getD, List.getElem?_eq_getElem hv'] at this
  exact this
theorem red_eq {m : Nat} {es : List Tri} {a b r1 s1 r2 s2 : List Int} (ha : Red m 0 es a r1 s1) (hb : Red m 0 es b r2 s2) (e : r1 = r2) : Way m es a b fun v => s1.getD v 0 - s2.getD v 0 := by
  intro v hv
  have e1 := ha.eq v hv
  have e2 := hb.eq v hv
  rw [lap_sub]
  rw [e] at e1
  omega
/-- Equivalent's answer to right divisors. -/
theorem EqvP.ok {n : Int} {es : List Tri} {a b : List Int} {bb : Bool} {u : List Int} {er : Int} (h : EqvP n es a b bb u er) (h0 : eGiven n es [a, b] = 0) : er = 0 ∧ ∃ m : Nat, n = m ∧ Rt m es ∧
    ((bb = true ∧ (∃ t, Way m es a b t) ∧ ∀ t, Way m es a b t → LeastOf m u t) ∨ (bb = false ∧ (¬ ∃ t, Way m es a b t) ∧ u = [])) := by
  rcases h with ⟨h, _⟩ | ⟨_, he, m, r1, s1, r2, s2, hn, hrt, ha, hb, hbb, hu⟩
  · exact absurd h0 h
  · refine ⟨he, m, hn, hrt, ?_⟩
    by_cases e : r1 = r2
    · rw [if_pos e] at hu
      refine .inl ⟨by rw [hbb]; simpa using e, ⟨_, red_eq ha hb e⟩, fun t ht => ?_⟩
      obtain ⟨-, c, hc⟩ := red_way hrt ha hb ht
      have hl : (List.zipWith (fun x y => x - y) s1 s2).length = m := by have := ha.sl; have := hb.sl; simp; omega
      have := leastL_of (s := List.zipWith (fun x y => x - y) s1 s2) (by have := hrt.n1; omega)
      rw [hl, ← hu] at this
      exact this.of_shift (c := c) fun v hv => by rw [zip_getD s1 s2 m ha.sl hb.sl v hv]; exact hc v hv
    · rw [if_neg e] at hu
      exact .inr ⟨by rw [hbb]; simpa using e, fun ⟨t, ht⟩ => e (red_way hrt ha hb ht).1, hu⟩
theorem perm_sorted_eq {α : Type} {r : α → α → Prop} (anti : ∀ a b, r a b → r b a → a = b) : ∀ {l l' : List α}, l.Perm l' → l.Pairwise r → l'.Pairwise r → l = l' := by
  intro l
  induction l with
  | nil => intro l' h _ _; exact (List.nil_perm.1 h).symm
  | cons a t ih =>
    intro l' h hs hs'
    cases l' with
    | nil => exact absurd (List.perm_nil.1 h) (by simp)
    | cons b t' =>
      have e : a = b := by
        have ha : a ∈ b :: t' := h.mem_iff.1 (by simp)
        have hb : b ∈ a :: t := h.mem_iff.2 (by simp)
        rcases List.mem_cons.1 ha with ha | ha
        · exact ha
        · rcases List.mem_cons.1 hb with hb | hb
          · exact hb.symm
          · exact anti _ _ ((List.pairwise_cons.1 hs).1 b hb) ((List.pairwise_cons.1 hs').1 a ha)
      subst e
      rw [ih (List.Perm.cons_inv h) (List.pairwise_cons.1 hs).2 (List.pairwise_cons.1 hs').2]
theorem pairwise_of_get {α : Type} {r : α → α → Prop} {l : List α} (h : ∀ (i j : Nat) (a b : α), i < j → l[i]? = some a → l[j]? = some b → r a b) : l.Pairwise r := by
  rw [List.pairwise_iff_getElem]
  intro i j hi hj hij
  exact h i j _ _ hij (List.getElem?_eq_getElem hi) (List.getElem?_eq_getElem hj)

def es3 : List Tri := [(0, 1, 1), (0, 2, 1), (1, 2, 1)]
theorem sm3 : Sm 3 es3 := fun _ => ⟨by decide, by decide⟩
theorem gc3 : gcheckE 3 es3 = 0 := by decide
theorem cb3 : connB 3 es3 = true := by decide +kernel
theorem rt3 : Rt 3 es3 := by
  obtain ⟨m, h, hr⟩ := rt_of sm3 gc3 cb3
  obtain rfl : m = 3 := by omega
  exact hr
theorem lt3 {v : Nat} (h : v < 3) : v = 0 ∨ v = 1 ∨ v = 2 := by omega
theorem eqv3a {bb : Bool} {u : List Int} {er : Int} (h : EqvP 3 es3 [1, 1, 0] [0, 0, 2] bb u er) : bb = true ∧ u = [1, 1, 0] ∧ er = 0 := by
  obtain ⟨he, m, hm, hr, h⟩ := h.ok (by decide +kernel)
  obtain rfl : m = 3 := by omega
  have hw : Way 3 es3 [1, 1, 0] [0, 0, 2] (fun v => ([1, 1, 0] : List Int).getD v 0) := by
    intro v hv
    rcases lt3 hv with rfl | rfl | rfl <;> decide
  have hl : LeastOf 3 [1, 1, 0] (fun v => ([1, 1, 0] : List Int).getD v 0) :=
    ⟨rfl, ⟨0, fun v _ => by simp⟩, fun v hv => by rcases lt3 hv with rfl | rfl | rfl <;> decide, 2, by decide, rfl⟩
  rcases h with ⟨hb, _, h⟩ | ⟨_, hn, _⟩
  · exact ⟨hb, (h _ hw).uniq hl (c := 0) fun v _ => by simp, he⟩
  · exact absurd ⟨_, hw⟩ hn
theorem eqv3b {bb : Bool} {u : List Int} {er : Int} (h : EqvP 3 es3 [1, 1, 0] [2, 0, 0] bb u er) : bb = false ∧ u = [] ∧ er = 0 := by
  obtain ⟨he, m, hm, hr, h⟩ := h.ok (by decide +kernel)
  obtain rfl : m = 3 := by omega
  rcases h with ⟨hb, ⟨t, ht⟩, h⟩ | ⟨hb, hn, hu⟩
  · exfalso
    have h0 := ht 0 (by decide)
    have h1 := ht 1 (by decide)
    have w : ∀ v u : Nat, wgt es3 v u = wgt es3 v u := fun _ _ => rfl
    simp only [lap, sumN, show wgt es3 0 0 = 0 by decide, show wgt es3 0 1 = 1 by decide, show wgt es3 0 2 = 1 by decide, show wgt es3 1 0 = 1 by decide, show wgt es3 1 1 = 0 by decide, show wgt es3 1 2 = 1 by decide] at h0 h1
    simp at h0 h1
    omega
  · exact ⟨hb, hu, he⟩
theorem confs3 : confsL 3 0 es3 = [[0, 0, 0], [0, 0, 1], [0, 1, 0]] := by decide +kernel
theorem cfok3 : ∀ m : Nat, (3 : Int) = m → Rt m es3 → CfOk m es3 := by
  intro m hm _
  obtain rfl : m = 3 := by omega
  unfold CfOk
  rw [confs3]
  refine ⟨by decide, by decide, ?_⟩
  decide
theorem cls3 {u : List (List Int)} {er : Int} (h : ClsP 3 es3 1 u er) : er = 0 ∧ u = [[0, 0, 1], [0, 1, 0], [1, 0, 0]] := by
  rcases h with ⟨h, _⟩ | ⟨_, h, _⟩ | ⟨_, _, m, hm, _, h⟩
  · exact absurd (by decide +kernel) h
  · exact absurd (by decide) h
  · obtain rfl : m = 3 := by omega
    have hN : nrmL 3 es3 1 = [[1, 0, 0], [0, 0, 1], [0, 1, 0]] := by unfold nrmL; rw [confs3]; decide
    rw [hN] at h
    rcases h with ⟨⟨d, hd, hc⟩, _⟩ | ⟨_, he, hp, hs⟩
    · exfalso
      simp only [List.mem_cons, List.not_mem_nil, or_false] at hd
      rcases hd with rfl | rfl | rfl <;> exact hc (by decide)
    · refine ⟨he, perm_sorted_eq (r := fun a b => ¬ cmpL b a < 0) (fun a b h1 h2 => (cmpL_anti b a h1 h2).symm) (hp.trans ?_) (pairwise_of_get hs) (by decide)⟩
      exact (List.perm_cons_append_cons (l₁ := [[0, 0, 1], [0, 1, 0]]) (l₂ := []) (a := [1, 0, 0]) (by simp)).trans (by simp)
end Go.Proofs.YtjfggodnfoknfaaGreatDoor

