/- Contract of superstable's All.
   Package stabilize's pile: the words, unstable, wait.
   stabilize's unstable and wait.
   More words for piles. -/
import Derived.Test.YtjfggodnfoknfaaGreatDoorM16
set_option maxRecDepth 100000
set_option maxHeartbeats 16000000
namespace Go.Proofs.YtjfggodnfoknfaaGreatDoor
open Go.RowKit Go.Shelf
attribute [local go_sem] Oper.semAt_some run_store_func

theorem div_info : (Tryz.prog.info? 26).map (fun i => (i.zero, i.size, i.bytes)) = some (some (.slice none 0 0), 1, 24) := by kernel_rfl
theorem run_loadVar_cell1 {P : Program} (w : World) (t : TypeId) (a : Addr) (v : Value) (d : TypeDesc) (hu : P.underlying t = some d) (hd : (match d with | .struct _ | .array _ _ => true | _ => false) = false)
    (hc : w.cell? a = some v) : (loadVar t a).run P w = .ok v w := by
  have hagg : (isAgg t).run P w = .ok false w := by
    unfold isAgg
    rw [Sem.run_bind, run_underlying hu w]
    cases d <;> simp_all
  simp [loadVar, Sem.run_bind, hagg, go_sem, hc]
/-- Two results in cells. -/
theorem results_cell2 {P : Program} {fn : Func} {p u : Tmp} {t1 t2 : TypeId} (h : fn.results = #[.cell p t1, .cell u t2]) (tmps : Array Value) (w : World) (d1 d2 : TypeDesc) (b1 b2 : Nat) (v1 v2 : Value)
    (hp : tmps.getD p undef = .pointer (some ⟨b1, 0, none⟩)) (hq : tmps.getD u undef = .pointer (some ⟨b2, 0, none⟩))
    (hu1 : P.underlying t1 = some d1) (hu2 : P.underlying t2 = some d2) (hd1 : (match d1 with | .struct _ | .array _ _ => true | _ => false) = false) (hd2 : (match d2 with | .struct _ | .array _ _ => true | _ => false) = false)
    (h1 : w.cell? ⟨b1, 0, none⟩ = some v1) (h2 : w.cell? ⟨b2, 0, none⟩ = some v2) :
    (results fn tmps).run P w = .ok (.tuple #[v1, v2]) w := by
  have hp' : tmps[p]?.getD undef = .pointer (some ⟨b1, 0, none⟩) := by simpa using hp
  have hq' : tmps[u]?.getD undef = .pointer (some ⟨b2, 0, none⟩) := by simpa using hq
  simp [results, h, hp', hq', asAddr, run_loadVar_cell1 w t1 _ v1 d1 hu1 hd1 h1, run_loadVar_cell1 w t2 _ v2 d2 hu2 hd2 h2]
/-- An own list of values with one more behind it. -/
theorem run_append_oneV {P : Program} (w : World) (t ty e : TypeId) (i : TypeInfo) (z : Value) (bytes : Nat) (ht : P.underlying t = some (.slice e)) (hi : P.info? e = some i) (hz : i.zero = some z)
    (hsize : i.size = 1) (hby : i.bytes = bytes) (hby2 : bytes ≤ 1000) (hzs : z.cells.size = 1) (B : Nat) (v : Value) (us : List Value) (hown : OV w B e v us) (u : Value) (h1 : u.oneCell' = true) (hb : us.length ≤ 1000000) (hB : B ≤ w.heap.size) :
    ∃ g cap w', (Builtin.append_ #[t, t] ty #[v, .slice (some ⟨w.heap.size, 0, none⟩) 1 1]).run P (w.alloc (.cells #[u] e)) = .ok (.slice (some ⟨g, 0, none⟩) (us.length + 1) cap) w' ∧
      OV w' B e (.slice (some ⟨g, 0, none⟩) (us.length + 1) cap) (us ++ [u]) ∧ (w.alloc (.cells #[u] e)).grownBy w' v.ownBlock ∧ (v.ownBlock = some g ∨ g = w.heap.size + 1) := by
  have hm : (us.length + 1) * bytes ≤ 1000001 * 1000 := Nat.mul_le_mul (by omega) hby2
  obtain ⟨v', w', hrun, ho, hg, hat⟩ := run_appendV (P := P) (w.alloc (.cells #[u] e)) t ty e i z bytes ht hi hz hsize hby hzs B v us (OV.below hown (below_alloc w _)) _ [u] (RV.ones w u e) (one_ones h1) (by simp; omega) (by simp only [List.length_singleton]; omega) (by simp; omega)
  obtain ⟨g, cap, rfl, -, -⟩ := OV.shape ho (by simp)
  refine ⟨g, cap, w', by simpa using hrun, by simpa using ho, hg, ?_⟩
  rcases hat with h | h
  · exact .inl (by rw [← h]; rfl)
  · right
    simp only [Value.ownBlock, World.size_alloc, Option.some.injEq] at h
    exact h
/-- What holds while the configurations are collected. -/
def AllI (w0 : World) (B ob s : Nat) (Bs : List Nat) (pre : List (Value × List Int)) (W : World) : Prop :=
  ∃ vo, BL W ob 30 [vo] ∧ OV W B 26 vo (pre.map (·.1)) ∧ (∀ g, vo.ownBlock = some g → g ∉ Bs) ∧ (∀ x ∈ pre, OI W (s + 4) x.1 x.2) ∧ Below w0.heap.size w0 W ∧ BL W (w0.heap.size + 1) 30 [.slice none 0 0] ∧ BL W (w0.heap.size + 1 + 1) 31 [.int .i64 0]
theorem OV.frS {s : Nat} {e : TypeId} {w w' : World} {v : Value} {us : List Value} (h : OV w (s + 4) e v us) (hf : Fr [s + 1] w w') : OV w' (s + 4) e v us :=
  OV.fr h hf fun g hg => by have := (h.1.lt g hg).1; simp; omega
theorem AllI.fr {w0 : World} {B ob s : Nat} {Bs : List Nat} {pre : List (Value × List Int)} {A C : World} (h : AllI w0 B ob s Bs pre A) (hob : ob ≠ s + 1) (hs : s + 1 ∈ Bs) (h0 : w0.heap.size + 2 ≤ s) (hr : Fr [s + 1] A C) : AllI w0 B ob s Bs pre C := by
  obtain ⟨vo, h1, h2, h3, h4, h5, h6, h7⟩ := h
  exact ⟨vo, h1.fr hr (by simpa using hob), OV.fr h2 hr (fun g hg hm => h3 g hg (by simp at hm; rw [hm]; exact hs)), h3, fun x hx => OV.frS (h4 x hx) hr, hr.toBelow h5 (by simp; omega), h6.fr hr (by simp; omega), h7.fr hr (by simp; omega)⟩
theorem BL.keep {w w' : World} {b : Nat} {T : TypeId} {us : List Value} (h : BL w b T us) (hk : w'.heap[b]? = w.heap[b]?) : BL w' b T us := hk.trans h
theorem OV.putL {w : World} {B : Nat} {e : TypeId} {v : Value} {us : List Value} (h : OV w B e v us) {l : Nat} {r : Loop} (hl : w.heap[l]? = some (.loop r)) (o : Obj) : OV (w.putObj l o) B e v us := by
  refine ⟨⟨h.1.1, ?_⟩, h.2⟩
  rcases h.1.2 with h2 | ⟨g, cap, cur, hv, hg, hh, r'⟩
  · exact .inl h2
  · refine .inr ⟨g, cap, cur, hv, hg, (World.putObj_heap_other ?_).trans hh, r'⟩
    rintro rfl
    rw [hl] at hh; cases hh
theorem OV.keepG {w w' : World} {B : Nat} {e : TypeId} {v : Value} {us : List Value} (h : OV w B e v us) (hk : ∀ g, v.ownBlock = some g → w'.heap[g]? = w.heap[g]?) : OV w' B e v us := by
  refine ⟨⟨h.1.1, ?_⟩, h.2⟩
  rcases h.1.2 with h2 | ⟨g, cap, cur, hv, hg, hh, r'⟩
  · exact .inl h2
  · exact .inr ⟨g, cap, cur, hv, hg, (hk g (by rw [hv]; rfl)).trans hh, r'⟩
theorem OV.own_ne {w : World} {B B' : Nat} {e e' : TypeId} {v v' : Value} {us us' : List Value} (h : OV w B e v us) (h' : OV w B' e' v' us') (hne : e ≠ e') {g : Nat} (hg : v.ownBlock = some g) : v'.ownBlock ≠ some g := by
  intro hg'
  rcases h.1.2 with ⟨rfl, _⟩ | ⟨g1, cap, cur, rfl, _, hh, _⟩
  · cases hg
  · rcases h'.1.2 with ⟨rfl, _⟩ | ⟨g2, cap2, cur2, rfl, _, hh', _⟩
    · cases hg'
    · simp only [Value.ownBlock, Option.some.injEq] at hg hg'
      subst hg; subst hg'
      rw [hh] at hh'
      simp only [Option.some.injEq, Obj.cells.injEq] at hh'
      exact hne hh'.2.1
theorem OV.own_lt {w : World} {B : Nat} {e : TypeId} {v : Value} {us : List Value} (h : OV w B e v us) {g : Nat} (hg : v.ownBlock = some g) : g < w.heap.size ∧ B ≤ g := by have := h.1.lt g hg; exact ⟨this.2, this.1⟩
theorem All_any (g : Value) (n q : Nat) (es : List Tri) (w : World) (hg : GV w g n es) (hr : Rt n es) (hq : q < n) (hlen : (confsL n q es).length ≤ 16384)
    (hFirst : ∀ W, GV W g n es → Calls Tryz.prog 46 #[g, .int .i64 (q : Int)] W fun e w' => (∃ v, e = .returned (.tuple #[v, .int .i64 0])) ∧ Below W.heap.size W w') :
    Calls Tryz.prog 24 #[g, .int .i64 (q : Int)] w fun e w' => ∃ v, e = .returned (.tuple #[v, .int .i64 0]) ∧ RR w' v (confsL n q es) ∧ Below w.heap.size w w' := by
  obtain ⟨A, c, rfl, -, -, -⟩ := hg.open_
  obtain ⟨i1, hi1, hz01, hz11, hz21⟩ := info_parts div_info
  obtain ⟨W0, hW0⟩ : ∃ W0, W0 = ((w.alloc (.cells #[.int .i64 (n : Int), .slice A es.length c] 24)).alloc (.cells #[.slice none 0 0] 30)).alloc (.cells #[.int .i64 0] 31) := ⟨_, rfl⟩
  have hb0 : Below w.heap.size w W0 := by rw [hW0]; exact ((below_alloc w _).alloc (by simp) _).alloc (by simp; omega) _
  have hz0 : W0.heap.size = w.heap.size + 1 + 1 + 1 := by rw [hW0]; simp
  have hx0 : BL W0 w.heap.size 24 [.int .i64 (n : Int), .slice A es.length c] := by rw [hW0]; exact ((BL.new' w _ _).alloc _).alloc _
  have hr0 : BL W0 (w.heap.size + 1) 30 [.slice none 0 0] := by
    rw [hW0]
    have := BL.new' (w.alloc (.cells #[.int .i64 (n : Int), .slice A es.length c] 24)) #[.slice none 0 0] 30
    rw [World.size_alloc] at this
    exact this.alloc _
  have he0 : BL W0 (w.heap.size + 1 + 1) 31 [.int .i64 0] := by
    rw [hW0]
    have := BL.new' ((w.alloc (.cells #[.int .i64 (n : Int), .slice A es.length c] 24)).alloc (.cells #[.slice none 0 0] 30)) #[.int .i64 0] 31
    rw [World.size_alloc, World.size_alloc] at this
    exact this
  have c0 := hx0.cell 0
  have c1 := hx0.cell 1
  rw [hW0] at c0 c1
  have HG0 := Lib.hid (hg.below hb0)
  have HF := Lib.hid (hFirst W0 HG0.out)
  have HX0 := Lib.hid hx0
  have HR0 := Lib.hid hr0
  have HE0 := Lib.hid he0
  have HB0 := Lib.hid hb0
  have HW0 := Lib.hid hW0
  have HZ0 := Lib.hid hz0
  have HR := Lib.hid hr
  have HLen := Lib.hid hlen
  clear hg hFirst hx0 hr0 he0 hb0 hW0 hr hlen hz0
  refine (callsIn_wide (n := 3)).1 ?_
  refine callsIn_of_wp_marks Tryz.func24 rfl trivial ?_ rfl
  refine wpIn_wide.2 ?_
  simp only [Tryz.ntmps24, List.size_toArray, List.length_cons, List.length_nil, Nat.reduceAdd, Nat.reduceSub, Array.replicate_succ, Array.replicate_zero, List.push_toArray, List.append_toArray, List.nil_append, List.cons_append]
  go_wp2_with fail
  rw [← HW0.out]
  refine HF.out.mono ?_
  rintro e w1 ⟨⟨vf, rfl⟩, hb1⟩
  have HB1 := Lib.hid (HB0.out.trans (hb1.mono HB0.out.size))
  have HS1 := Lib.hid hb1.size
  obtain ⟨W2, hW2⟩ : ∃ W2, W2 = w1.alloc (.cells #[.slice none 0 0] 30) := ⟨_, rfl⟩
  have hb2 : Below w1.heap.size w1 W2 := by rw [hW2]; exact below_alloc w1 _
  have ho2 : BL W2 w1.heap.size 30 [.slice none 0 0] := by rw [hW2]; exact BL.new' w1 _ _
  have hg2 := (HG0.out.below hb1).below hb2
  have hx2 := (HX0.out.bel hb1).bel hb2
  have d0 := hx2.cell 0
  have d1 := hx2.cell 1
  have hrz := hb1.size
  have hz0 := HZ0.out
  obtain ⟨ev, hev⟩ := hg2
  simp only [Value.agg.injEq] at hev
  obtain ⟨hve, hEV⟩ := hev
  obtain rfl : ev = .slice A es.length c := by simpa using hve.symm
  have hz2 : W2.heap.size = w1.heap.size + 1 := by rw [hW2]; simp
  have hG0' : GV W0 (.agg #[.int .i64 (n : Int), .slice A es.length c]) n es := HG0.out
  obtain ⟨eb, hEB, heb⟩ : ∃ eb, EB W2 (.slice A es.length c) es eb ∧ eb < W0.heap.size := by
    obtain ⟨ev', hev', hEV'⟩ := hG0'
    simp only [Value.agg.injEq] at hev'
    obtain rfl : ev' = .slice A es.length c := by simpa using hev'.symm
    obtain ⟨eb, h1, h2⟩ := hEV'.toB (by omega)
    exact ⟨eb, (h1.below hb1).below hb2, h2⟩
  have HCo := Lib.hid (configurations_any _ n q es W2 ⟨_, rfl, hEV⟩)
  have HR2 := Lib.hid ((HR0.out.bel hb1).bel hb2)
  have HE2 := Lib.hid ((HE0.out.bel hb1).bel hb2)
  have HO2 := Lib.hid ho2
  have HEB := Lib.hid hEB
  have HB2 := Lib.hid (HB1.out.trans (hb2.mono HB1.out.size))
  have HW2 := Lib.hid hW2
  have HZ2 := Lib.hid hz2
  rw [hW2] at d0 d1
  clear hb1 hb2 ho2 hx2 hW2 hEB hEV hz2 hG0' hve c0 c1
  go_wp2_with fail
  rw [← HW2.out]
  refine HCo.out.mono ?_
  rintro e w3 ⟨rfl, ve, hve, rfl⟩
  obtain rfl : Value.slice A es.length c = ve := by simpa using hve
  clear hve d0 d1
  obtain ⟨W3, hW3⟩ : ∃ W3, W3 = (W2.alloc (.cells #[.int .i64 (n : Int), .slice A es.length c] 24)).alloc (.cells #[.int .i64 (q : Int)] 3) := ⟨_, rfl⟩
  have hb3 : Below W2.heap.size W2 W3 := by rw [hW3]; exact (below_alloc W2 _).alloc (by simp) _
  have hG3 : BL W3 W2.heap.size 24 [.int .i64 (n : Int), .slice A es.length c] := by rw [hW3]; exact (BL.new' W2 _ _).alloc _
  have hQ3 : BL W3 (W2.heap.size + 1) 3 [.int .i64 (q : Int)] := by
    rw [hW3]
    have := BL.new' (W2.alloc (.cells #[.int .i64 (n : Int), .slice A es.length c] 24)) #[.int .i64 (q : Int)] 3
    rwa [World.size_alloc] at this
  have HZ3 : Hid (W3.heap.size = W2.heap.size + 2) := by show _ = _; rw [hW3]; simp
  have HG3 := Lib.hid hG3
  have HQ3 := Lib.hid hQ3
  have HEB3 := Lib.hid (HEB.out.below hb3)
  have HR3 := Lib.hid (HR2.out.bel hb3)
  have HE3 := Lib.hid (HE2.out.bel hb3)
  have HO3 := Lib.hid (HO2.out.bel hb3)
  have HB3 := Lib.hid (HB2.out.trans (hb3.mono HB2.out.size))
  have HW3 := Lib.hid hW3
  clear hb3 hG3 hQ3 hW3
  go_wp2
  rw [← HW3.out]
  obtain ⟨s, hs⟩ : ∃ s, s = W3.heap.size + 2 := ⟨_, rfl⟩
  have HS := Lib.hid hs
  have HI3 : Hid (AllI w w.heap.size w1.heap.size s [W2.heap.size, W2.heap.size + 1, eb, s, s + 1, s + 2, s + 3] [] W3) :=
    ⟨_, HO3.out, OV.nil_ _ _ _, fun g hg => (by simp [Value.ownBlock] at hg), fun x hx => (by cases hx), HB3.out, HR3.out, HE3.out⟩
  clear hs
  refine (wpIn_wide (n := 3)).1 ?_
  refine wpIn_rangeFunc_iterW (gf := 75) (lb := #[.pointer (some ⟨W2.heap.size, 0, none⟩), .pointer (some ⟨W2.heap.size + 1, 0, none⟩)]) rfl (enters_of Tryz.func75 (by kernel_rfl) rfl)
    (conf_iter W2.heap.size (W2.heap.size + 1) eb s n q (.slice A es.length c) es HR.out hq (by have := HS.out; have := HZ3.out; omega) (by have := HS.out; have := HZ3.out; omega) (by have := HS.out; have := HZ3.out; have := HZ2.out; omega)) (fun _ => rfl) ?hR LkK_trans ?hKp ?hIt (fun _ _ _ _ h _ => h) (fun _ _ _ _ _ _ => trivial) (AllI w w.heap.size w1.heap.size s [W2.heap.size, W2.heap.size + 1, eb, s, s + 1, s + 2, s + 3]) (fun _ _ _ => False) ?hI (fun _ _ _ _ _ h _ => h) ?hIR (fun _ _ _ _ h _ => h) ?hpre ?h0
    ?a1 ?assign ?body ?done ?stop
  case assign =>
    intro l x W K' hK'
    gi_wp2
    exact hK'
  case hR => intro A' C h hs; have := HS.out; exact ⟨h.block _ (by omega) (by simp; omega), h.block _ (by omega) (by simp; omega)⟩
  case hKp => intro W r o _; have := HS.out; have := HZ3.out; have := HZ2.out; exact LkK_put W _ (by simp; omega)
  case hIt => rintro pre x W r o ⟨h1, h2, h3⟩ hl; exact ⟨OV.putL h1 hl o, by simpa [World.putObj] using h2, h3⟩
  case hI =>
    rintro pre W r o ⟨vo, k1, k2, k3, k4, k5, k6, k7⟩ hl
    exact ⟨vo, k1.putLoop hl o, OV.putL k2 hl o, k3, fun x hx => OV.putL (k4 x hx) hl o, below_putLoop k5 (by have := HB3.out.size; omega) o, k6.putLoop hl o, k7.putLoop hl o⟩
  case hIR => intro pre A' C h hr; have := HS.out; have := HZ3.out; have := HZ2.out; have := HB3.out.size; exact h.fr (by omega) (by simp) (by omega) hr
  case hpre =>
    intro r
    have hb := (below_alloc W3 (.deferred (some []))).alloc (by simp) (.loop r)
    exact ⟨by have := HS.out; simp; omega, HG3.out.bel hb, HEB3.out.below hb, HQ3.out.bel hb⟩
  case h0 =>
    intro r
    have hb := (below_alloc W3 (.deferred (some []))).alloc (by simp) (.loop r)
    have := HS.out; have := HZ3.out; have := HZ2.out; have := HB3.out.size
    exact HI3.out.fr (by omega) (by simp) (by omega) ((Fr.refl _ W3).below hb)
  case stop => rintro c pre W _ h _; exact h.elim
  case done =>
    rintro xs W hxs ⟨vo, k1, k2, k3, k4, k5, k6, k7⟩ hD
    have hz0 := HZ0.out
    have hs1 := HS1.out
    have hz2 := HZ2.out
    have hz3 := HZ3.out
    have hs := HS.out
    have hty : ∀ g, vo.ownBlock = some g → g ≠ w.heap.size + 1 ∧ g ≠ w.heap.size + 1 + 1 := by
      intro g hg
      obtain ⟨c, hc, _⟩ := k2.block_ hg
      refine ⟨?_, ?_⟩
      · rintro rfl; unfold BL at k6; rw [k6] at hc; simp only [Option.some.injEq, Obj.cells.injEq] at hc; exact absurd hc.2.1 (by decide)
      · rintro rfl; unfold BL at k7; rw [k7] at hc; simp only [Option.some.injEq, Obj.cells.injEq] at hc; exact absurd hc.2.1 (by decide)
    obtain ⟨ln, hln⟩ : ∃ ln, ln = (xs.map (·.1)).length := ⟨_, rfl⟩
    obtain ⟨A2, c2, rfl, -, -, -⟩ := k2.rv
    rw [← hln] at k1 k2 k3 hty
    have e0 := k1.cell 0
    have r0 := k6.cell 0
    have r1 := k6.frozen 0
    obtain ⟨WF, hWF⟩ : ∃ WF, WF = (W.setCell ⟨w.heap.size + 1, 0, none⟩ (.slice A2 ln c2)).setCell ⟨w.heap.size + 1 + 1, 0, none⟩ (.int .i64 0) := ⟨_, rfl⟩
    have hk7 : BL (W.setCell ⟨w.heap.size + 1, 0, none⟩ (.slice A2 ln c2)) (w.heap.size + 1 + 1) 31 [.int .i64 0] := k7.set_other (by simp) _
    have q0 := hk7.cell 0
    have q1 := hk7.frozen 0
    have hkeep : ∀ g, g ≠ w.heap.size + 1 → g ≠ w.heap.size + 1 + 1 → WF.heap[g]? = W.heap[g]? := fun g h1 h2 => by
      rw [hWF]; exact (heap_setCell_other _ _ g _ h2).trans (heap_setCell_other W _ g _ h1)
    have hwr : BL WF (w.heap.size + 1) 30 [.slice A2 ln c2] := by rw [hWF]; exact (k6.set 0 _).set_other (by simp) _
    have hwe : BL WF (w.heap.size + 1 + 1) 31 [.int .i64 0] := by rw [hWF]; exact hk7.set 0 _
    have hov : OV WF w.heap.size 26 (.slice A2 ln c2) (xs.map (·.1)) := k2.keepG fun g hg => hkeep g (hty g hg).1 (hty g hg).2
    have hoi : ∀ x ∈ xs, OI WF (s + 4) x.1 x.2 := fun x hx => (k4 x hx).keepG fun g hg => hkeep g (by have := ((k4 x hx).own_lt hg).2; omega) (by have := ((k4 x hx).own_lt hg).2; omega)
    have hbe : Below w.heap.size w WF := by rw [hWF]; exact (k5.setCell (p := ⟨w.heap.size + 1, 0, none⟩) (by simp) _).setCell (p := ⟨w.heap.size + 1 + 1, 0, none⟩) (by simp; omega) _
    have hdf : WF.heap[W3.heap.size]? = some (.deferred (some [])) := (hkeep _ (by omega) (by omega)).trans hD
    have HWF := Lib.hid hWF
    have HWr := Lib.hid hwr
    have HWe := Lib.hid hwe
    have HOv := Lib.hid hov
    have HOi := Lib.hid hoi
    have HBe := Lib.hid hbe
    have HDf := Lib.hid hdf
    have HXs := Lib.hid hxs
    clear k1 k2 k3 k4 k5 k6 k7 hkeep hty hD hWF hwr hwe hov hoi hbe hdf hxs hk7 hln
    go_wp2
    rw [← HWF.out]
    refine leaves_marks (B := w.heap.size) [_] _ ⟨⟨_, rfl, ?_, HDf.out, by simp⟩, trivial⟩ fun w' hs' =>
      ⟨_, results_cell2 rfl _ _ _ _ (w.heap.size + 1) (w.heap.size + 1 + 1) _ _ rfl rfl Tryz.underlying30 Tryz.underlying31 rfl rfl ((HWr.out.shut hs').cell 0) ((HWe.out.shut hs').cell 0), _, rfl, ?_, Below.shut HBe.out hs'⟩
    · have := HBe.out.size; omega
    · refine ⟨_, (OV.shut HOv.out hs').rv, by have := congrArg List.length HXs.out; simpa using this, fun k zs hk => ?_⟩
      rw [← HXs.out] at hk
      simp only [List.getElem?_map, Option.map_eq_some_iff] at hk
      obtain ⟨x, hx, rfl⟩ := hk
      exact ⟨x.1, by simp [hx], (OV.shut (HOi.out x (List.mem_of_getElem? hx)) hs').rv⟩
  case body =>
    rintro l pre ⟨xv, xl⟩ W r ⟨vo, k1, k2, k3, k4, k5, k6, k7⟩ ⟨hx, hsW, rest, hrest⟩ hl hd
    have hpl : pre.length < 16384 := by
      have h := congrArg List.length hrest
      have := HLen.out
      simp at h; omega
    dsimp only at hx hrest
    obtain ⟨A1, c1, rfl, -, -, -⟩ := hx.rv
    obtain ⟨A2, c2, rfl, -, -, -⟩ := k2.rv
    have hWs := k5.size
    obtain ⟨g2, cap2, w', hrun, hown, hgr, hat⟩ := run_append_oneV (P := Tryz.prog) W 30 30 26 i1 _ 24 Tryz.underlying30 hi1 hz01 hz11 hz21 (by omega) rfl w.heap.size _ _ k2 (.slice A1 (xl.map (Value.int .i64)).length c1) rfl (by simp; omega) hWs
    simp only [List.length_map] at hrun hown k1 k2 k3 hgr hat hx
    have hs := HS.out
    have hz3 := HZ3.out
    have hz2 := HZ2.out
    have hk1l := k1.lt
    have hlb := lt_of_block hl
    have hdb := lt_of_block hd
    have hgo : ∀ g, (Value.slice A2 pre.length c2).ownBlock = some g → g ≠ w1.heap.size ∧ g ≠ W3.heap.size ∧ g ≠ W3.heap.size + 1 := by
      intro g hg
      obtain ⟨c, hc, _⟩ := k2.block_ hg
      refine ⟨?_, ?_, ?_⟩
      · rintro rfl; unfold BL at k1; rw [k1] at hc; simp only [Option.some.injEq, Obj.cells.injEq] at hc; exact absurd hc.2.1 (by decide)
      · rintro rfl; rw [hd] at hc; cases hc
      · rintro rfl; rw [hl] at hc; cases hc
    have ho2 : w1.heap.size ≠ g2 := by
      rcases hat with h | h
      · exact fun e => (hgo g2 h).1 e.symm
      · omega
    have hk1 : BL w' w1.heap.size 30 [.slice A2 pre.length c2] := BL.grown (k1.alloc _) hgr (fun e => (hgo _ e).1 rfl)
    have c4 := k1.cell 0
    have c5 := hk1.cell 0
    have f5 := hk1.frozen 0
    have hfin : ∀ j, j < W.heap.size → (Value.slice A2 pre.length c2).ownBlock ≠ some j → j ≠ w1.heap.size → (w'.setCell ⟨w1.heap.size, 0, none⟩ (.slice (some ⟨g2, 0, none⟩) (pre.length + 1) cap2)).heap[j]? = W.heap[j]? := fun j hj h1 h2 =>
      (heap_setCell_other w' _ j _ h2).trans ((hgr.block j (by rw [World.size_alloc]; omega) (fun e => h1 e.symm)).trans (Below.heap_alloc W _ j hj))
    have hszf : W.heap.size ≤ (w'.setCell ⟨w1.heap.size, 0, none⟩ (.slice (some ⟨g2, 0, none⟩) (pre.length + 1) cap2)).heap.size := by have := hgr.size; simp at this ⊢; omega
    have HFin : Hid (KeepLD W3.heap.size W (w'.setCell ⟨w1.heap.size, 0, none⟩ (.slice (some ⟨g2, 0, none⟩) (pre.length + 1) cap2)) ∧ LkK [W2.heap.size, W2.heap.size + 1, eb, s, s + 1, s + 2, s + 3] W (w'.setCell ⟨w1.heap.size, 0, none⟩ (.slice (some ⟨g2, 0, none⟩) (pre.length + 1) cap2)) ∧
        AllI w w.heap.size w1.heap.size s [W2.heap.size, W2.heap.size + 1, eb, s, s + 1, s + 2, s + 3] (pre ++ [(.slice A1 xl.length c1, xl)]) (w'.setCell ⟨w1.heap.size, 0, none⟩ (.slice (some ⟨g2, 0, none⟩) (pre.length + 1) cap2))) := by
      have hcut : ∀ j ∈ [W2.heap.size, W2.heap.size + 1, eb, s, s + 1, s + 2, s + 3], (Value.slice A2 pre.length c2).ownBlock ≠ some j := fun j hj e => k3 j e hj
      have hb1s := HB1.out.size
      have hz0 := HZ0.out
      refine ⟨⟨hfin _ hdb (fun e => (hgo _ e).2.1 rfl) (by omega), hfin _ hlb (fun e => (hgo _ e).2.2 rfl) (by omega)⟩, ⟨hszf, fun j hj => ?_⟩, ⟨_, hk1.set 0 _, ?_, ?_, ?_, ?_, k6.keep (hfin _ k6.lt ?_ (by omega)), k7.keep (hfin _ k7.lt ?_ (by omega))⟩⟩
      · simp only [List.mem_cons, List.not_mem_nil, or_false] at hj
        have hsl : s + 4 ≤ W.heap.size := hsW
        refine hfin j (by omega) (hcut j (by simp only [List.mem_cons, List.not_mem_nil, or_false]; exact hj)) (by omega)
      · refine OV.keepG (v := .slice (some ⟨g2, 0, none⟩) (pre.length + 1) cap2) (by simpa using hown) fun g hg => ?_
        simp only [Value.ownBlock, Option.some.injEq] at hg
        exact heap_setCell_other w' _ _ _ (by simp; omega)
      · intro g hg
        simp only [Value.ownBlock, Option.some.injEq] at hg
        subst hg
        rcases hat with h | h
        · exact k3 _ h
        · simp only [List.mem_cons, List.not_mem_nil, or_false]
          have hsl : s + 4 ≤ W.heap.size := hsW
          omega
      · intro x hxm
        rcases List.mem_append.1 hxm with hxm | hxm
        · have h := k4 x hxm
          refine OV.keepG h fun g hg => hfin g (h.own_lt hg).1 (fun e => OV.own_ne h k2 (by decide) hg e) (fun e => ?_)
          subst e
          obtain ⟨c, hc, _⟩ := h.block_ hg
          unfold BL at k1; rw [k1] at hc
          simp only [Option.some.injEq, Obj.cells.injEq] at hc
          exact absurd hc.2.1 (by decide)
        · simp only [List.mem_singleton] at hxm
          subst hxm
          refine OV.keepG hx fun g hg => hfin g (hx.own_lt hg).1 (fun e => OV.own_ne hx k2 (by decide) hg e) (fun e => ?_)
          subst e
          obtain ⟨c, hc, _⟩ := hx.block_ hg
          unfold BL at k1; rw [k1] at hc
          simp only [Option.some.injEq, Obj.cells.injEq] at hc
          exact absurd hc.2.1 (by decide)
      · refine Below.setCell ?_ (p := ⟨w1.heap.size, 0, none⟩) (by simp; have := HB1.out.size; omega) _
        exact (k5.alloc k5.size _).grown hgr (by simp; omega) (fun k hk => (k2.own_lt hk).2)
      · intro e
        obtain ⟨c, hc, _⟩ := k2.block_ e
        unfold BL at k6; rw [k6] at hc; simp only [Option.some.injEq, Obj.cells.injEq] at hc; exact absurd hc.2.1 (by decide)
      · intro e
        obtain ⟨c, hc, _⟩ := k2.block_ e
        unfold BL at k7; rw [k7] at hc; simp only [Option.some.injEq, Obj.cells.injEq] at hc; exact absurd hc.2.1 (by decide)
    clear hfin hk1 k1 k2 k3 k4 k5 k6 k7 hl hd hown hgr hat hgo hx hrest
    repeat (first | (refine wpListIn_append rfl _ _ _ rfl _ _ (by simp [Act.eval, Act.put]; done) (by simp [Act.eval, Act.put]; done) _ _ hrun ?_) | gi_step)
    gi_wp2
    simp only [List.length_map]
    exact HFin.out
end Go.Proofs.YtjfggodnfoknfaaGreatDoor

namespace Go.Proofs.YtjfggodnfoknfaaGreatDoor
open Go.RowKit Go.Shelf
theorem CloneI_any (va : Value) (xs : List Int) (w : World) (ha : RI w va xs) (hl : xs.length ≤ 17592186044415 := by omega) :
    Calls Tryz.prog 148 #[va] w fun e w' => ∃ v, e = .returned v ∧ OI w' w.heap.size v xs ∧ Below w.heap.size w w' := by
  obtain ⟨A, c, rfl, hlc, hc, hcell⟩ := ha.open_
  obtain ⟨i0, hi, hz0, hz1, hz2⟩ := info_parts int_info
  have hq := fun W : World => Lib.run_eql_slice_nil (P := Tryz.prog) W 25 3 A xs.length c 0 0 Tryz.underlying25
  have HRA := Lib.hid ha
  rcases A with _ | ad
  · have hn : xs.length = 0 := by
      rcases Nat.eq_zero_or_pos xs.length with h | h
      · exact h
      · obtain ⟨ad, z, h, _⟩ := hcell 0 h; cases h
    have HN := Lib.hid (List.eq_nil_of_length_eq_zero hn)
    simp only [Option.isNone_none] at hq
    clear hcell ha hn
    go_enter Tryz.func148, Tryz.ntmps148
    go_wp2
    refine bodyPost_ret (results_tmp rfl _ _ _) rfl ⟨.slice none 0 0, rfl, ?_, Below.refl _ _⟩
    rw [HN.out]; exact OI.nil_ _ _
  · simp only [Option.isNone_some] at hq
    have hr1 := Lib.hid (ha.below (below_alloc w (.cells #[] 3)))
    have ho := Lib.hid (show OV (w.alloc (.cells #[] 3)) w.heap.size 3 (.slice (some ⟨w.heap.size, 0, none⟩) 0 0) [] from
      ⟨World.ownsRow_made w #[] 0 (Nat.le_refl _) (by unfold maxLen; omega) (by simp), by simp⟩)
    have HX := Lib.hid (ints_one xs)
    clear hcell ha
    go_enter Tryz.func148, Tryz.ntmps148
    go_wp2_with (at_builtin; refine wpList_appendV _ rfl _ _ _ rfl 3 i0 _ 8 Tryz.underlying25 hi hz0 hz1 hz2 rfl w.heap.size _ [] rfl ho.out _ _ rfl hr1.out HX.out (by simpa using hl) (by simp; omega) (by simp) ?_; intro v1 w1 hown1 hg1 hat1)
    refine bodyPost_ret (results_tmp rfl _ _ _) rfl ⟨v1, rfl, by simpa [OI] using hown1, ?_⟩
    exact below_own (below_alloc w _) (by simp) ho.out hg1

/-- Block b holds n ints at least. -/
def IB (w : World) (b n : Nat) : Prop := ∃ us, BL w b 3 us ∧ ∀ k, k < n → ∃ z : Int, us[k]? = some (.int .i64 z)
theorem IB.below {w w' : World} {b n : Nat} (h : IB w b n) (hb : Below w.heap.size w w') : IB w' b n := by obtain ⟨us, h1, h2⟩ := h; exact ⟨us, h1.bel hb, h2⟩
theorem IB.set {w : World} {b n g m : Nat} (h : IB w b n) (hg : IB w g m) (j : Nat) (z : Int) : IB (w.setCell ⟨g, j, none⟩ (.int .i64 z)) b n := by
  obtain ⟨us, h1, h2⟩ := h
  by_cases e : b = g
  · subst e
    refine ⟨us.set j (.int .i64 z), h1.set j _, fun k hk => ?_⟩
    obtain ⟨y, hy⟩ := h2 k hk
    have hkl : k < us.length := by
      by_cases h : k < us.length
      · exact h
      · rw [List.getElem?_eq_none (by omega)] at hy; cases hy
    rw [List.getElem?_set]
    by_cases e : j = k
    · rw [if_pos e, if_pos (by omega)]; exact ⟨z, rfl⟩
    · rw [if_neg e]; exact ⟨y, hy⟩
  · exact ⟨us, h1.set_other e _, h2⟩
/-- A slice of n ints in a block of the call's own. -/
def IS (w : World) (B : Nat) (v : Value) (n : Nat) : Prop := ∃ g c, v = .slice (some ⟨g, 0, none⟩) n c ∧ n ≤ c ∧ B ≤ g ∧ IB w g n
theorem IS.below {w w' : World} {B n : Nat} {v : Value} (h : IS w B v n) (hb : Below w.heap.size w w') : IS w' B v n := by obtain ⟨g, c, h1, h2, h3, h4⟩ := h; exact ⟨g, c, h1, h2, h3, h4.below hb⟩
theorem IS.alloc {w : World} {B n : Nat} {v : Value} (h : IS w B v n) (o : Obj) : IS (w.alloc o) B v n := h.below (below_alloc w o)
theorem IS.set {w : World} {B n g m : Nat} {v : Value} (h : IS w B v n) (hg : IB w g m) (j : Nat) (z : Int) : IS (w.setCell ⟨g, j, none⟩ (.int .i64 z)) B v n := by obtain ⟨g', c, h1, h2, h3, h4⟩ := h; exact ⟨g', c, h1, h2, h3, h4.set hg j z⟩
theorem IS.keepG {w w' : World} {B n : Nat} {v : Value} (h : IS w B v n) (hk : ∀ g us, BL w g 3 us → w'.heap[g]? = w.heap[g]?) : IS w' B v n := by
  obtain ⟨g, c, h1, h2, h3, us, h4, h5⟩ := h; exact ⟨g, c, h1, h2, h3, us, (hk _ _ h4).trans h4, h5⟩
theorem IS.ofOI {w : World} {B : Nat} {v : Value} {zs : List Int} (h : OI w B v zs) (hn : 1 ≤ zs.length) : IS w B v zs.length := by
  obtain ⟨⟨h1, h2⟩, h3⟩ := h
  rcases h2 with ⟨rfl, hn'⟩ | ⟨g, cap, cur, rfl, hg, hh, hnc, hcm, hcs, ht⟩
  · simp at hn'; rw [hn'] at hn; simp at hn
  · refine ⟨g, cap, by simp, by simpa using hnc, hg, cur.toList, by unfold BL; simpa using hh, fun k hk => ⟨zs[k], ?_⟩⟩
    have e : (cur.toList.take ((zs.map (Value.int .i64)).length * 1))[k]? = (zs.map (Value.int .i64))[k]? := congrArg (fun l : List Value => l[k]?) ht
    rw [List.getElem?_take, if_pos (by simpa using hk), List.getElem?_map, List.getElem?_eq_getElem hk] at e
    exact e
theorem made_get {n k : Nat} (hk : k < n) : (madeCells #[Value.int .i64 0] n)[k]? = some (.int .i64 0) := by
  simp [madeCells, hk, Nat.mod_one]
theorem IS.made {w : World} {B g n : Nat} (hg : g = w.heap.size) (hB : B ≤ w.heap.size) : IS (w.alloc (.cells (madeCells #[Value.int .i64 0] n) 3)) B (.slice (some ⟨g, 0, none⟩) n n) n := by
  subst hg
  exact ⟨w.heap.size, n, rfl, Nat.le_refl _, hB, _, BL.new' w _ _, fun k hk => ⟨0, by rw [Array.getElem?_toList]; exact made_get hk⟩⟩
/-- A pile of n vertices, k of its rows being there. -/
def PL (w : World) (B b n : Nat) (q : Int) (k : Nat) : Prop := ∃ vd vr vv vf : Value, ∃ bs : List Bool, ∃ rs : List Value,
  BL w b 159 ([vd, .int .i64 q, vr, vv, vf, .int .i64 0] ++ bs.map .bool) ∧ bs.length = 12 ∧ B ≤ b ∧ IS w B vd n ∧ IS w B vv n ∧ rs.length = k ∧ OV w B 25 vr rs ∧ ∀ r ∈ rs, IS w B r n
theorem PL.below {w w' : World} {B b n : Nat} {q : Int} {k : Nat} (h : PL w B b n q k) (hb : Below w.heap.size w w') : PL w' B b n q k := by
  obtain ⟨vd, vr, vv, vf, bs, rs, h1, h2, h3, h4, h5, h6, h7, h8⟩ := h
  exact ⟨vd, vr, vv, vf, bs, rs, h1.bel hb, h2, h3, h4.below hb, h5.below hb, h6, h7.below hb, fun r hr => (h8 r hr).below hb⟩
theorem bl_type {w : World} {b : Nat} {T T' : TypeId} {us us' : List Value} (h : BL w b T us) (h' : BL w b T' us') : T = T' := by
  unfold BL at h h'; rw [h] at h'; simp only [Option.some.injEq, Obj.cells.injEq] at h'; exact h'.2.1
theorem PL.setInt {w : World} {B b n : Nat} {q : Int} {k g m : Nat} (h : PL w B b n q k) (hg : IB w g m) (j : Nat) (z : Int) : PL (w.setCell ⟨g, j, none⟩ (.int .i64 z)) B b n q k := by
  obtain ⟨vd, vr, vv, vf, bs, rs, h1, h2, h3, h4, h5, h6, h7, h8⟩ := h
  obtain ⟨us, hu, _⟩ := id hg
  refine ⟨vd, vr, vv, vf, bs, rs, h1.set_other (by rintro rfl; exact absurd (bl_type h1 hu) (by decide)) _, h2, h3, h4.set hg j z, h5.set hg j z, h6, h7.keepG fun g' hg' => heap_setCell_other w _ _ _ ?_, fun r hr => (h8 r hr).set hg j z⟩
  rintro rfl
  obtain ⟨c, hc, _⟩ := h7.block_ hg'
  unfold BL at hu; rw [hu] at hc; simp only [Option.some.injEq, Obj.cells.injEq] at hc; exact absurd hc.2.1 (by decide)
theorem PL.keepB {w w' : World} {B b n : Nat} {q : Int} {k : Nat} (h : PL w B b n q k) (hk : ∀ g us, BL w g 3 us → w'.heap[g]? = w.heap[g]?) (hk2 : ∀ (g : Nat) (cur : Array Value), w.heap[g]? = some (Obj.cells cur 25 (0, 0)) → w'.heap[g]? = w.heap[g]?)
    (hb : ∀ us, BL w b 159 us → ∃ j x, 6 ≤ j ∧ j < 18 ∧ BL w' b 159 (us.set j (.bool x))) : PL w' B b n q k := by
  obtain ⟨vd, vr, vv, vf, bs, rs, h1, h2, h3, h4, h5, h6, h7, h8⟩ := h
  obtain ⟨j, x, hj, hj2, hn⟩ := hb _ h1
  refine ⟨vd, vr, vv, vf, bs.set (j - 6) x, rs, ?_, by simpa using h2, h3, h4.keepG hk, h5.keepG hk, h6, h7.keepG fun g hg => hk2 _ _ (h7.block_ hg).choose_spec.1, fun r hr => (h8 r hr).keepG hk⟩
  rw [List.set_append_right _ _ (by simpa using hj)] at hn
  simpa [List.map_set] using hn
theorem PL.setBool {w : World} {B b n : Nat} {q : Int} {k : Nat} (h : PL w B b n q k) (j : Nat) (hj : 6 ≤ j) (hj2 : j < 18) (x : Bool) : PL (w.setCell ⟨b, j, none⟩ (.bool x)) B b n q k := by
  obtain ⟨vd, vr, vv, vf, bs, rs, h1, _⟩ := id h
  refine h.keepB (fun g us hu => heap_setCell_other w _ _ _ ?_) (fun g cur hc => heap_setCell_other w _ _ _ ?_) fun us hu => ⟨j, x, hj, hj2, hu.set j _⟩
  · rintro rfl; exact absurd (bl_type h1 hu) (by decide)
  · rintro rfl; unfold BL at h1; rw [h1] at hc; simp only [Option.some.injEq, Obj.cells.injEq] at hc; exact absurd hc.2.1 (by decide)
end Go.Proofs.YtjfggodnfoknfaaGreatDoor

namespace Go.Proofs.YtjfggodnfoknfaaGreatDoor
open Go.RowKit Go.Shelf
attribute [local go_sem] Oper.semAt_some

theorem unstable_any (B b n v k : Nat) (q : Int) (W : World) (h : PL W B b n q k) (hv : v < n) :
    Calls Tryz.prog 170 #[.pointer (some ⟨b, 0, none⟩), .int .i64 (v : Int)] W fun e w' => ∃ bb m, e = .returned (.bool bb) ∧ w' = W.drewN m := by
  obtain ⟨vd, vr, vv, vf, bs, rs, h1, h2, h3, ⟨gd, cd, rfl, _, _, ud, hud, hgd⟩, ⟨gv, cv, rfl, _, _, uv, huv, hgv⟩, h6, h7, h8⟩ := h
  have c0 := h1.cell 0
  have c1 := h1.cell 1
  have c3 := h1.cell 3
  obtain ⟨x, hx⟩ := hgd v hv
  obtain ⟨y, hy⟩ := hgv v hv
  have d0 := (hud.cell v).trans hx
  have d1 := (huv.cell v).trans hy
  simp only [List.cons_append, List.nil_append, List.getElem?_cons_zero, List.getElem?_cons_succ] at c0 c1 c3
  have hv1 : (0 : Int) ≤ (v : Int) := by omega
  have hv2 : (v : Int) < (n : Int) := by omega
  clear h1 h2 h3 hud hgd huv hgv h6 h7 h8 hx hy hv
  by_cases hq : (v : Int) = q
  · subst hq
    go_enter Tryz.func170, Tryz.ntmps170
    have hd : ((v : Int) != v) = false := by simp
    go_wp2_with fail
    go_quiet (fail)
    go_wp2
    go_ret
    exact ⟨_, _, rfl, rfl⟩
  · have hd : ((v : Int) != q) = true := by simpa using hq
    by_cases hg : y ≤ x
    · have hd2 : decide (y ≤ x) = true := by simpa using hg
      go_enter Tryz.func170, Tryz.ntmps170
      go_wp2_with fail
      go_quiet (fail)
      go_wp2
      go_ret
      exact ⟨_, _, rfl, rfl⟩
    · have hd2 : decide (y ≤ x) = false := by simpa using hg
      go_enter Tryz.func170, Tryz.ntmps170
      go_wp2_with fail
      go_quiet (fail)
      go_wp2
      go_ret
      exact ⟨_, _, rfl, rfl⟩
theorem PL.drewN {w : World} {B b n : Nat} {q : Int} {k : Nat} (h : PL w B b n q k) (m : Nat) : PL (w.drewN m) B b n q k := h.below (below_drewN (Below.refl _ _) m)
theorem wait_any (B b n v k : Nat) (q : Int) (W : World) (h : PL W B b n q k) (hv : v < n) (hn : n ≤ 12) :
    Calls Tryz.prog 150 #[.pointer (some ⟨b, 0, none⟩), .int .i64 (v : Int)] W fun e w' => (∃ r, e = .returned r) ∧ PL w' B b n q k ∧ Below B W w' := by
  have HU := Lib.hid (unstable_any B b n v k q W.drew (h.drewN 1) hv)
  obtain ⟨vd, vr, vv, vf, bs, rs, h1, h2, h3, _⟩ := id h
  have hv1 : (0 : Int) ≤ (v : Int) := by omega
  have hv2 : (v : Int) < 12 := by omega
  obtain ⟨x, hx⟩ : ∃ x, W.cell? ⟨b, 6 + v, none⟩ = some (.bool x) := by
    rw [h1.cell (6 + v)]
    rw [List.getElem?_append_right (by simp)]
    refine ⟨bs[v]'(by omega), ?_⟩
    simp [List.getElem?_eq_getElem (show v < bs.length by omega)]
  have hf := h1.frozen (6 + v)
  have HK : Hid (∀ m, (W.drewN m).cell? ⟨b, 6 + v, none⟩ = some (.bool x) ∧ (W.drewN m).frozen? ⟨b, 6 + v, none⟩ = false) := fun m => ⟨hx, hf⟩
  have HK0 : Hid (W.drew.cell? ⟨b, 6 + v, none⟩ = some (.bool x) ∧ W.drew.frozen? ⟨b, 6 + v, none⟩ = false) := ⟨hx, hf⟩
  have HP := Lib.hid h
  have HB : Hid (B ≤ b) := h3
  have HV : Hid (v < 12) := by show v < 12; omega
  clear h h1 h2 h3 hx hf hv
  go_enter Tryz.func150, Tryz.ntmps150
  go_region_held3 (fun _ : World => True) (trivial) (first | (go_at_call 170; refine HU.out.mono ?_; rintro e w6 ⟨bb, m, rfl, rfl⟩; have e1 := (HK.out (1 + m)).1; have e2 := (HK.out (1 + m)).2))
  all_goals
    go_wp2
    go_end0
    have hh := HP.out.drewN (1 + m)
    exact ⟨⟨_, rfl⟩, hh.setBool (6 + v) (by omega) (by have := HV.out; omega) bb, (below_drewN (Below.refl _ _) (1 + m)).setCell (p := ⟨b, 6 + v, none⟩) HB.out _⟩
end Go.Proofs.YtjfggodnfoknfaaGreatDoor

namespace Go.Proofs.YtjfggodnfoknfaaGreatDoor
open Go.RowKit Go.Shelf

theorem addr_add0 (g j : Nat) : (⟨g, 0, none⟩ : Addr).add j = ⟨g, j, none⟩ := by unfold Addr.add; split <;> simp_all
theorem sing_bd {n : Nat} {es : List Tri} (hE : Edges n es) (h9 : multS es ≤ 9) : (singL es).length ≤ 9 := by
  have : ∀ l : List Tri, (∀ t ∈ l, 0 ≤ t.2.2) → (((l.map fun t => t.2.2.toNat).sum : Nat) : Int) = multS l := by
    intro l
    induction l with
    | nil => intro _; rfl
    | cons t r ih =>
      intro h
      rw [multS_cons, ← ih fun x hx => h x (List.mem_cons_of_mem _ hx)]
      have := h t (by simp)
      simp only [List.map_cons, List.sum_cons]
      omega
  have h := this es fun t ht => by have := hE.mult t ht; omega
  rw [sing_len]
  omega
theorem PL.mono {w : World} {B B' b n : Nat} {q : Int} {k : Nat} (h : PL w B b n q k) (hB : B' ≤ B) : PL w B' b n q k := by
  have m : ∀ v, IS w B v n → IS w B' v n := fun v ⟨g, c, a1, a2, a3, a4⟩ => ⟨g, c, a1, a2, by omega, a4⟩
  obtain ⟨vd, vr, vv, vf, bs, rs, h1, h2, h3, h4, h5, h6, h7, h8⟩ := h
  exact ⟨vd, vr, vv, vf, bs, rs, h1, h2, by omega, m _ h4, m _ h5, h6, h7.mono hB, fun r hr => m _ (h8 r hr)⟩
theorem PL.row {w : World} {B b n : Nat} {q : Int} (h : PL w B b n q n) {a : Nat} (ha : a < n) : ∃ gr cr ga ca, w.cell? ⟨b, 2, none⟩ = some (.slice (some ⟨gr, 0, none⟩) n cr) ∧ n ≤ cr ∧ w.cell? ⟨gr, a, none⟩ = some (.slice (some ⟨ga, 0, none⟩) n ca) ∧ n ≤ ca ∧ B ≤ ga ∧ IB w ga n := by
  obtain ⟨vd, vr, vv, vf, bs, rs, h1, h2, h3, h4, h5, h6, h7, h8⟩ := h
  obtain ⟨gr, cr, rfl, hg1, hg2⟩ := OV.shape h7 (by omega)
  obtain ⟨ga, ca, hr, hca, hBa, hib⟩ := h8 (rs[a]'(by omega)) (List.getElem_mem _)
  rw [h6] at h1 h7
  refine ⟨gr, cr, ga, ca, h1.cell 2, ?_, ?_, hca, hBa, hib⟩
  · obtain ⟨_, _, e, hl, _⟩ := OV.rv h7
    simp only [Value.slice.injEq] at e
    omega
  · have := OV.rv h7
    obtain ⟨A, c, e, _, _, hc⟩ := this
    simp only [Value.slice.injEq] at e
    obtain ⟨ad, hA, _, hcc⟩ := hc a (by omega)
    rw [← e.1] at hA
    simp only [Option.some.injEq] at hA
    subst hA
    rw [addr_add0] at hcc
    rw [hcc, List.getElem?_eq_getElem (by omega), hr]
theorem PL.val {w : World} {B b n : Nat} {q : Int} (h : PL w B b n q n) : ∃ gv cv, w.cell? ⟨b, 3, none⟩ = some (.slice (some ⟨gv, 0, none⟩) n cv) ∧ n ≤ cv ∧ B ≤ gv ∧ IB w gv n := by
  obtain ⟨vd, vr, vv, vf, bs, rs, h1, h2, h3, h4, ⟨g, c, rfl, a2, a3, a4⟩, h6, h7, h8⟩ := h
  exact ⟨g, c, h1.cell 3, a2, a3, a4⟩
theorem PL.dee {w : World} {B b n : Nat} {q : Int} (h : PL w B b n q n) : ∃ gv cv, w.cell? ⟨b, 0, none⟩ = some (.slice (some ⟨gv, 0, none⟩) n cv) ∧ n ≤ cv := by
  obtain ⟨vd, vr, vv, vf, bs, rs, h1, h2, h3, ⟨g, c, rfl, a2, a3, a4⟩, h5, h6, h7, h8⟩ := h
  exact ⟨g, c, h1.cell 0, a2⟩
theorem IB.at_ {w : World} {g n : Nat} (h : IB w g n) {k : Nat} (hk : k < n) : ∃ z, w.cell? ⟨g, k, none⟩ = some (.int .i64 z) ∧ w.frozen? ⟨g, k, none⟩ = false := by
  obtain ⟨us, h1, h2⟩ := h
  obtain ⟨z, hz⟩ := h2 k hk
  exact ⟨z, (h1.cell k).trans hz, h1.frozen k⟩
/-- The pile, the ends, and what lay there before. -/
def PQ (W0 : World) (b n : Nat) (q : Int) (ve : Value) (ps : List (Int × Int)) (W : World) : Prop := PL W W0.heap.size b n q n ∧ OP W W0.heap.size ve ps ∧ Below W0.heap.size W0 W
theorem PQ.below {W0 : World} {b n : Nat} {q : Int} {ve : Value} {ps : List (Int × Int)} {W W' : World} (h : PQ W0 b n q ve ps W) (hb : Below W.heap.size W W') : PQ W0 b n q ve ps W' :=
  ⟨h.1.below hb, h.2.1.below hb, h.2.2.trans (hb.mono h.2.2.size)⟩
theorem PQ.setInt {W0 : World} {b n : Nat} {q : Int} {ve : Value} {ps : List (Int × Int)} {W : World} (h : PQ W0 b n q ve ps W) {g : Nat} (hg : IB W g n) (hB : W0.heap.size ≤ g) (j : Nat) (z : Int) : PQ W0 b n q ve ps (W.setCell ⟨g, j, none⟩ (.int .i64 z)) := by
  refine ⟨h.1.setInt hg j z, h.2.1.keepG fun g' hg' => heap_setCell_other W _ _ _ ?_, h.2.2.setCell (p := ⟨g, j, none⟩) hB _⟩
  rintro rfl
  obtain ⟨us, hu, _⟩ := hg
  exact h.2.1.ne_bl hu (by decide) hg' rfl
theorem OP.at_ {w : World} {B : Nat} {A : Option Addr} {l c : Nat} {ps : List (Int × Int)} (h : OP w B (.slice A l c) ps) {k : Nat} (hk : k < ps.length) : ∃ g, A = some ⟨g, 0, none⟩ ∧ ps.length ≤ c ∧ ∃ x y, ps[k]? = some (x, y) ∧ w.cell? ⟨g, k * 2, none⟩ = some (.int .i64 x) ∧ w.cell? ⟨g, k * 2 + 1, none⟩ = some (.int .i64 y) := by
  obtain ⟨g, cap, e, _, _⟩ := h.shape1 (by omega)
  simp only [Value.slice.injEq] at e
  obtain ⟨rfl, rfl, rfl⟩ := e
  obtain ⟨h1, h2⟩ := flatP_get ps k ps[k] (List.getElem?_eq_getElem hk)
  refine ⟨g, rfl, ?_, ps[k].1, ps[k].2, List.getElem?_eq_getElem hk, ?_, ?_⟩
  · rcases h.1.2 with ⟨e, _⟩ | ⟨g', cap', cur, e, _, _, hn, _⟩
    · cases e
    · simp only [Value.slice.injEq] at e; omega
  · rw [h.1.cellAt _ (by omega)]; exact h1
  · rw [h.1.cellAt _ (by omega)]; exact h2
end Go.Proofs.YtjfggodnfoknfaaGreatDoor

