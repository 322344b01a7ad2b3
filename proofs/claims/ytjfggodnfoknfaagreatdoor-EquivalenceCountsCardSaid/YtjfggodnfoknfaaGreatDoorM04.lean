/- Contracts of connect's parts, Components, Connected.
   Contracts of connect: Components, Connected.
   Contracts of slices at divisors, scripts and ints: Equal, Clone, IndexFunc, ContainsFunc, Compare, Min, Max. Printed by gen/slices35.py. -/
import Derived.Test.YtjfggodnfoknfaaGreatDoorM03
set_option maxRecDepth 100000
set_option maxHeartbeats 16000000
namespace Go.Proofs.YtjfggodnfoknfaaGreatDoor
open Go.RowKit Go.Maps

theorem partsN_succ (k : Nat) (f : List Nat) : partsN (k + 1) f = partsN k f + if f.getD k k = k then 1 else 0 := by
  unfold partsN; simp only [countN]; congr 1; by_cases h : f.getD k k = k
  · simp only [h, decide_true]
  · simp
/-- A root gets its place and an empty row. -/
theorem parts_new {f : List Nat} {B bm k : Nat} {v v' : Value} {wr w1 w2 : World} {us : List Value} {D : DataW Unit} (hv : OV wr B 25 v us) (hlen : us.length = partsN k f) (hbm : B ≤ bm) (hD : IsMap D)
    (hroot : ∀ r, r < k → f.getD r r = r → ∃ i, i < us.length ∧ D.atKey (.int .i64 r) (.lit (.int .i64 0)) = .lit (.int .i64 (i : Nat)))
    (hrow : ∀ (j : Nat) (u : Value), us[j]? = some u → ∃ zs, OI wr B u zs ∧ zs.length ≤ k) (hdis : ∀ (i j : Nat) (u u' : Value), us[i]? = some u → us[j]? = some u' → i ≠ j → u.ownBlock = none ∨ u.ownBlock ≠ u'.ownBlock)
    (hk : f.getD k k = k) (hmap : w1.ownsMap Tryz.prog 3 (plainElem Tryz.prog 3) bm (k + 1) (D.put (.int .i64 (k : Nat)) (.lit (.int .i64 (us.length : Nat))))) (hg1 : wr.grownBy w1 (some bm)) (hoff : v.ownBlock ≠ some bm) (hoffs : ∀ (j : Nat) (u : Value), us[j]? = some u → u.ownBlock ≠ some bm)
    (hv' : OV w2 B 25 v' (us ++ [.slice none 0 0])) (hg2 : (w1.alloc (.cells #[.slice none 0 0] 25)).grownBy w2 v.ownBlock) : PartsR f B bm k (k + 1) v' w2 := by
  have hg2' : w1.grownBy w2 v.ownBlock := (World.grownBy_alloc w1 _ _).trans hg2
  refine ⟨us ++ [.slice none 0 0], _, hv', ?_, hbm, hmap.kept hg2' (fun e => hoff e.symm), hD.put _ _, fun r hr hf => ?_, fun j u hu => ?_, fun i j u u' hu hu' hij => ?_⟩
  · rw [partsN_succ, if_pos hk, List.length_append, hlen]; rfl
  · by_cases e : r = k
    · subst e
      exact ⟨us.length, by simp, atKey_put_same hD (by simp [WideAt.IsKeyLit]) _ _⟩
    · obtain ⟨i, hi, hat⟩ := hroot r (by omega) hf
      refine ⟨i, by simp; omega, ?_⟩
      rw [atKey_put_other (by simp; omega)]; exact hat
  · rcases Nat.lt_or_ge j us.length with c | c
    · rw [List.getElem?_append_left c] at hu
      obtain ⟨zs, hz, hl⟩ := hrow j u hu
      exact ⟨zs, (hz.kept' hg1 (.inr (hoffs j u hu))).kept' hg2' (hz.apart hv (by decide)), hl⟩
    · rw [List.getElem?_append_right c] at hu
      have : j - us.length = 0 := by
        rcases Nat.eq_zero_or_pos (j - us.length) with h | h
        · exact h
        · rw [List.getElem?_eq_none (by simp; omega)] at hu; cases hu
      rw [this] at hu
      obtain rfl := Option.some.inj hu
      exact ⟨[], OI.nil_ _ _, Nat.zero_le _⟩
  · rcases Nat.lt_or_ge i us.length with c | c
    · rw [List.getElem?_append_left c] at hu
      rcases Nat.lt_or_ge j us.length with c' | c'
      · rw [List.getElem?_append_left c'] at hu'
        exact hdis i j u u' hu hu' hij
      · rw [List.getElem?_append_right c'] at hu'
        have : j - us.length = 0 := by
          rcases Nat.eq_zero_or_pos (j - us.length) with h | h
          · exact h
          · rw [List.getElem?_eq_none (by simp; omega)] at hu'; cases hu'
        rw [this] at hu'
        obtain rfl := Option.some.inj hu'
        cases hb : u.ownBlock with
        | none => exact .inl rfl
        | some b => right; simp [Value.ownBlock]
    · rw [List.getElem?_append_right c] at hu
      have : i - us.length = 0 := by
        rcases Nat.eq_zero_or_pos (i - us.length) with h | h
        · exact h
        · rw [List.getElem?_eq_none (by simp; omega)] at hu; cases hu
      rw [this] at hu
      obtain rfl := Option.some.inj hu
      exact .inl rfl
theorem parts_old {f : List Nat} {B bm k : Nat} {v : Value} {wr : World} (h : PartsR f B bm k k v wr) (hk : f.getD k k ≠ k) : PartsR f B bm k (k + 1) v wr := by
  obtain ⟨us, D, hv, hlen, hbm, hmap, hD, hroot, hrow, hdis⟩ := h
  refine ⟨us, D, hv, by rw [partsN_succ, if_neg hk]; exact hlen, hbm, hmap.mono (by omega), hD, fun r hr hf => ?_, hrow, hdis⟩
  by_cases e : r = k
  · subst e; exact absurd hf hk
  · exact hroot r (by omega) hf
theorem parts_any (f : List Nat) (b n : Nat) (T : TypeId) (w : World) (hf : Fo f) (hn : n ≤ 12) (hb : BL w b T (nvL f)) :
    Calls Tryz.prog 112 #[.pointer (some ⟨b, 0, none⟩), .int .i64 (n : Int)] w fun e w' => (∃ A c, e = .returned (.slice A (partsN n f) c)) ∧ Below w.heap.size w w' := by
  obtain ⟨i0, hi, hz0, hz1, hz2⟩ := info_parts int_info
  obtain ⟨i1, hi1, hz01, hz11, hz21⟩ := info_parts row_info
  have HB := Lib.hid hb
  have HF := Lib.hid hf
  clear hb hf
  have hmm := @run_makeMap Tryz.prog
  go_enter Tryz.func112, Tryz.ntmps112
  go_wp2
  clear hmm
  go_loopw [5, 11] (fun v i wr => ∃ k : Nat, k ≤ n ∧ i = .int .i64 k ∧ Hid (PartsR f w.heap.size w.heap.size k k v wr) ∧ Hid (Below w.heap.size w wr)) (fun _ i _ => n - (intOf i).toNat)
  case atStart =>
    exact ⟨0, Nat.zero_le _, rfl, ⟨[], .map [], OV.nil_ _ _ _, rfl, Nat.le_refl _, World.ownsMap_made _ _ _ _, isMap_empty, fun r hr => by omega, fun j u hu => by simp at hu, fun i j u u' hu => by simp at hu⟩, below_alloc w _⟩
  case round =>
    obtain ⟨k, hk, rfl, hR, hbel⟩ := hrel
    by_cases hlt : k < n
    · have hk12 : k < 12 := by omega
      have HRoot := Lib.hid (root_any f b k T _ HF.out hk12 (HB.out.below hbel.out HB.out.lt))
      have hrle := root_le f k
      have HFix := Lib.hid (root_fix HF.out hk12)
      have HF1 : Hid (rootF f k = k → f.getD k k = k) := fun h => by have := HFix.out; rwa [h] at this
      have HF2 : Hid (rootF f k ≠ k → f.getD k k ≠ k) := fun h h2 => h (root_of_fix h2)
      have HFix2 : Hid (f.getD (rootF f k) (rootF f k) = rootF f k) := HFix.out
      clear HFix
      generalize hr : rootF f k = r at *
      clear hr
      have key : ∀ (W0 : World) (v0 : Value), Hid (PartsR f w.heap.size w.heap.size k (k + 1) v0 W0) → Hid (Below w.heap.size w W0) → True := fun _ _ _ _ => trivial
      by_cases hrk : r = k
      · obtain ⟨us, D, hv, hlen, hbm, hmap, hD, hroot, hrow, hdis⟩ := hR.out
        have hlen12 : us.length ≤ 12 := by have : partsN k f ≤ k := countN_le _ _; omega
        have hoff := hv.off_map hmap
        have hoffs : ∀ (j : Nat) (u : Value), us[j]? = some u → u.ownBlock ≠ some w.heap.size := fun j u hu => by obtain ⟨zs, hz, _⟩ := hrow j u hu; exact hz.off_map hmap
        obtain ⟨A0, c0, rfl⟩ : ∃ A0 c0, u5 = .slice A0 us.length c0 := by obtain ⟨A0, c0, h, _⟩ := hv.rv; exact ⟨A0, c0, h⟩
        obtain rfl := hrk
        have HFk := Lib.hid (HF1.out rfl)
        have hup := Lib.hid hmap
        have HV := Lib.hid hv
        have HD := Lib.hid hD
        have HRo := Lib.hid hroot
        have HRw := Lib.hid hrow
        have HDs := Lib.hid hdis
        have HLe := Lib.hid hlen
        have HO := Lib.hid hoff
        have HOs := Lib.hid hoffs
        clear hv hlen hmap hD hroot hrow hdis hoff hoffs HF1 HF2 key
        go_wp2_with (first
          | (go_at_call 147; refine HRoot.out.mono ?_; rintro e w' ⟨rfl, rfl⟩)
          | (at_mapUpdate; refine wpList_mapUpdate_own _ rfl _ _ _ 199 rfl 3 3 law_int Tryz.underlying199 _ w.heap.size r _ rfl hup.out (by unfold maxLen; omega) _ _ (.int .i64 (r : Nat)) rfl rfl (keyOf_int_mk Tryz.underlying3 (wf_nat (by omega))) (.lit (.int .i64 (us.length : Nat))) [] (plainElem_int Tryz.underlying3 (wf_nat (by omega))) ?_; intro w1 hown1 hg1; have HM1 := Lib.hid hown1; have HG1 := Lib.hid hg1; have HV1 := Lib.hid ((HV.out.kept' hg1 (.inr HO.out)).kept' (World.grownBy_alloc w1 (.cells #[.slice none 0 0] 25) none) (by cases (Value.slice A0 us.length c0).ownBlock <;> simp)); have hw1 := hg1.size; clear hown1 hg1)
          | (at_builtin; refine wpList_appendV _ rfl _ _ 102 rfl 25 i1 _ 24 Tryz.underlying102 hi1 hz01 hz11 hz21 rfl w.heap.size _ us rfl HV1.out _ [.slice none 0 0] rfl (RV.lit w1 #[.slice none 0 0] 25 1 rfl (by omega)) (by simp [Value.oneCell']) (by simp; omega) (by simp; omega) (by have := hbel.out.size; simp; omega) ?_; intro v2 w2 hown2 hg2 hat2; have HP : Hid (PartsR f w.heap.size w.heap.size r (r + 1) v2 w2) := (parts_new HV.out HLe.out (Nat.le_refl _) HD.out HRo.out HRw.out HDs.out HFk.out HM1.out HG1.out HO.out HOs.out hown2 hg2); have hb2 : Hid (Below w.heap.size w w2) := ((hbel.out.grown HG1.out hbel.out.size (fun j hj => by cases hj; exact Nat.le_refl _)).alloc (by have := hbel.out.size; omega) _).grown hg2 (by have := hbel.out.size; simp; omega) (fun j hj => (HV.out.1.lt j hj).1); clear hown2 hg2 hat2))
        obtain ⟨i, m, g, cap, u, zs, rfl, hi', hm, hg, hrun, hcl, hzs, hzl, hnext⟩ := parts_step HP.out.draw (r := r) (by omega) HFk.out (by omega)
        have hZ : Hid (OV (w2.alloc (.cells #[.int .i64 (r : Int)] 3)).drew w.heap.size 3 u (zs.map (Value.int .i64))) := (hzs.kept' (World.grownBy_alloc w2.drew (.cells #[.int .i64 (r : Int)] 3) none) (by cases u.ownBlock <;> simp))
        have hX : Hid (RV (w2.alloc (.cells #[.int .i64 (r : Int)] 3)).drew (.slice (some ⟨w2.heap.size, 0, none⟩) 1 1) [.int .i64 (r : Int)]) := RV.lit w2.drew #[.int .i64 (r : Int)] 3 1 rfl (by omega)
        have HB3 : Hid (∀ w3, (w2.alloc (.cells #[.int .i64 (r : Int)] 3)).drew.grownBy w3 u.ownBlock → Below w.heap.size w w3) := fun w3 hg3 => (hb2.out.drew.alloc (by have := hb2.out.size; simp; omega) _).grown hg3 (by have := hb2.out.size; simp; omega) (fun j hj => (hzs.1.lt j hj).1)
        have hsz : w.heap.size ≤ (w2.alloc (.cells #[.int .i64 (r : Int)] 3)).drew.heap.size := by have := hb2.out.size; simp; omega
        have r1 := hrun w2.drew (World.grownBy.refl _ _)
        have r2 : (Instr.lookup 199 (.map (some w.heap.size)) (.int .i64 (r : Int)) false).run Tryz.prog (w2.alloc (.cells #[.int .i64 (r : Int)] 3)).drew = .ok (.int .i64 (i : Nat)) (w2.alloc (.cells #[.int .i64 (r : Int)] 3)).drew := hrun (w2.drew.alloc (.cells #[.int .i64 (r : Int)] 3)) (World.grownBy_alloc _ _ _)
        have hgl : g < w2.drew.heap.size := block_lt_of_cell hcl
        have c2 : (w2.alloc (.cells #[.int .i64 (r : Int)] 3)).drew.cell? ⟨g, i, none⟩ = some u := (World.cell?_alloc_lt _ _ _ hgl).trans hcl
        have HNx := Lib.hid hnext
        have HRn := Lib.hid hrun
        clear hnext hzs hrun hgl
        go_region_law (refine step_appendV _ rfl (.tmp 36) (.tmp 38) 25 rfl 3 i0 _ 8 Tryz.underlying25 hi hz0 hz1 hz2 rfl w.heap.size u (zs.map (Value.int .i64)) (by simp [Act.eval]) hZ.out (.slice (some ⟨w2.heap.size, 0, none⟩) 1 1) [.int .i64 (r : Int)] (by simp [Act.eval]) hX.out (by simp) (by simp [Value.oneCell']) (by simp; omega) (by simp; omega) hsz ?_; intro g3 cap3 w3 hown3 hg3 hat3; have r3 := HRn.out w3 ((World.grownBy_alloc _ _ _).trans hg3); obtain ⟨hc3, hf3, hP3⟩ := HNx.out (.int .i64 (r : Int)) _ w3 hown3 hg3 (by simpa using hat3); simp only [List.length_map, List.length_cons, List.length_nil, Nat.zero_add] at hP3; have HP3 := Lib.hid hP3; have HW3 := Lib.hid (HB3.out w3 hg3); clear hP3 hown3 hg3 hat3)
        all_goals
          go_wp2
          go_roundw
          case rel => exact ⟨r + 1, by omega, by go_num, HP3.out, HW3.out.setCell (p := ⟨g, i, none⟩) hg _⟩
          case measure => simp [intOf]; omega
      · have hrn : ((r : Int) == k) = false := by simp; omega
        have HP := Lib.hid (parts_old hR.out (HF2.out hrk))
        have HRK := Lib.hid hrk
        clear HF1 HF2 key hrk
        go_wp2_with (go_at_call 147; refine HRoot.out.mono ?_; rintro e w' ⟨rfl, rfl⟩)
        obtain ⟨i, m, g, cap, u, zs, rfl, hi', hm, hg, hrun, hcl, hzs, hzl, hnext⟩ := parts_step HP.out.draw (r := r) (by omega) HFix2.out (by omega)
        have hZ : Hid (OV (wr.alloc (.cells #[.int .i64 (k : Int)] 3)).drew w.heap.size 3 u (zs.map (Value.int .i64))) := (hzs.kept' (World.grownBy_alloc wr.drew (.cells #[.int .i64 (k : Int)] 3) none) (by cases u.ownBlock <;> simp))
        have hX : Hid (RV (wr.alloc (.cells #[.int .i64 (k : Int)] 3)).drew (.slice (some ⟨wr.heap.size, 0, none⟩) 1 1) [.int .i64 (k : Int)]) := RV.lit wr.drew #[.int .i64 (k : Int)] 3 1 rfl (by omega)
        have HB3 : Hid (∀ w3, (wr.alloc (.cells #[.int .i64 (k : Int)] 3)).drew.grownBy w3 u.ownBlock → Below w.heap.size w w3) := fun w3 hg3 => (hbel.out.drew.alloc (by have := hbel.out.size; simp; omega) _).grown hg3 (by have := hbel.out.size; simp; omega) (fun j hj => (hzs.1.lt j hj).1)
        have hsz : w.heap.size ≤ (wr.alloc (.cells #[.int .i64 (k : Int)] 3)).drew.heap.size := by have := hbel.out.size; simp; omega
        have r1 := hrun wr.drew (World.grownBy.refl _ _)
        have r2 : (Instr.lookup 199 (.map (some w.heap.size)) (.int .i64 (r : Int)) false).run Tryz.prog (wr.alloc (.cells #[.int .i64 (k : Int)] 3)).drew = .ok (.int .i64 (i : Nat)) (wr.alloc (.cells #[.int .i64 (k : Int)] 3)).drew := hrun (wr.drew.alloc (.cells #[.int .i64 (k : Int)] 3)) (World.grownBy_alloc _ _ _)
        have hgl : g < wr.drew.heap.size := block_lt_of_cell hcl
        have c2 : (wr.alloc (.cells #[.int .i64 (k : Int)] 3)).drew.cell? ⟨g, i, none⟩ = some u := (World.cell?_alloc_lt _ _ _ hgl).trans hcl
        have HNx := Lib.hid hnext
        have HRn := Lib.hid hrun
        clear hnext hzs hrun hgl
        go_region_law (refine step_appendV _ rfl (.tmp 36) (.tmp 38) 25 rfl 3 i0 _ 8 Tryz.underlying25 hi hz0 hz1 hz2 rfl w.heap.size u (zs.map (Value.int .i64)) (by simp [Act.eval]) hZ.out (.slice (some ⟨wr.heap.size, 0, none⟩) 1 1) [.int .i64 (k : Int)] (by simp [Act.eval]) hX.out (by simp) (by simp [Value.oneCell']) (by simp; omega) (by simp; omega) hsz ?_; intro g3 cap3 w3 hown3 hg3 hat3; have r3 := HRn.out w3 ((World.grownBy_alloc _ _ _).trans hg3); obtain ⟨hc3, hf3, hP3⟩ := HNx.out (.int .i64 (k : Int)) _ w3 hown3 hg3 (by simpa using hat3); simp only [List.length_map, List.length_cons, List.length_nil, Nat.zero_add] at hP3; have HP3 := Lib.hid hP3; have HW3 := Lib.hid (HB3.out w3 hg3); clear hP3 hown3 hg3 hat3)
        all_goals
          go_wp2
          go_roundw
          case rel => exact ⟨k + 1, by omega, by go_num, HP3.out, HW3.out.setCell (p := ⟨g, i, none⟩) hg _⟩
          case measure => simp [intOf]; omega
    · obtain rfl : k = n := by omega
      go_wp2
      obtain ⟨us, D, hv, hlen, hbm, hmap, hD, hroot, hrow, hdis⟩ := hR.out
      obtain ⟨A0, c0, rfl, _⟩ := hv.rv
      go_ret
      rw [hlen]
      exact ⟨⟨A0, c0, rfl⟩, hbel.out⟩
end Go.Proofs.YtjfggodnfoknfaaGreatDoor

namespace Go.Proofs.YtjfggodnfoknfaaGreatDoor
open Go.RowKit

def connB (n : Int) (es : List Tri) : Bool := decide (partsN n.toNat (joinAll grownF es) = 1)
def compN (n : Int) (es : List Tri) : Nat := if gcheckE n es ≠ 0 then 0 else partsN n.toNat (joinAll grownF es)
def connL (n : Int) (es : List Tri) : Bool := decide (gcheckE n es = 0) && connB n es
theorem connL_eq (n : Int) (es : List Tri) : connL n es = decide ((compN n es : Int) = 1) := by
  unfold connL compN connB
  by_cases h : gcheckE n es = 0
  · simp only [h, ne_eq, not_true_eq_false, if_false, decide_true, Bool.true_and]
    rw [decide_eq_decide]; omega
  · simp [h]
theorem connB_iff {n : Nat} {es : List Tri} (h1 : 1 ≤ n) (h2 : n ≤ 12) (he : Edges n es) : connB n es = true ↔ Conn n (wgt es) := by
  unfold connB
  rw [decide_eq_true_iff, conn_parts h1 h2 he.ends (fun t ht => (he.mult t ht).1) (by simpa using joinAll_says h2 es [] grownF (says_nil n) he.ends)]
  simp
theorem Components_any (g : Value) (n : Int) (es : List Tri) (w : World) (hg : GV w g n es) :
    Calls Tryz.prog 73 #[g] w fun e w' => (∃ A c, e = .returned (.tuple #[.slice A (compN n es) c, .int .i64 (gcheckE n es)])) ∧ Below w.heap.size w w' := by
  have HG := Lib.hid hg
  obtain ⟨A, c, rfl, hlc, hc, -⟩ := hg.open_
  clear hg
  have HG1 := Lib.hid (HG.out.below (below_alloc w (.cells #[.int .i64 n, .slice A es.length c] 24)))
  by_cases h0 : gcheckE n es = 0
  · obtain ⟨m, hm, hm1, hm2, hed⟩ := gcheckE_zero h0
    subst hm
    have HL : Hid (compN m es = partsN m (joinAll grownF es)) := by show _ = _; unfold compN; simp [h0]
    have H0 := Lib.hid h0
    have HEd := Lib.hid (ends_mono hed.ends hm2)
    clear h0 hed
    go_enter Tryz.func73, Tryz.ntmps73
    go_wp2_with fail
    refine (gCheck_any _ (m : Int) es _ HG1.out).mono ?_
    rw [H0.out]
    rintro e w1 ⟨rfl, hb1⟩
    have hz1 := hb1.size
    simp only [World.size_alloc] at hz1
    obtain ⟨hcc, hff⟩ := bcell hb1
    have HB1 : Hid (Below w.heap.size w w1) := (below_alloc w _).trans (hb1.mono (by simp))
    have HG2 := Lib.hid (HG1.out.below hb1)
    have c0 : w1.cell? ⟨w.heap.size, 0, none⟩ = some (.int .i64 (m : Int)) := (hcc _ _ (by simp)).trans (cell_lit rfl)
    have c1 : w1.cell? ⟨w.heap.size, 1, none⟩ = some (.slice A es.length c) := (hcc _ _ (by simp)).trans (cell_lit rfl)
    clear hcc hff hb1
    go_wp2_with fail
    refine (joined_any _ (m : Int) es _ HG2.out HEd.out).mono ?_
    rintro e w2 ⟨rfl, hb2⟩
    have hz2 := hb2.size
    have HB2 : Hid (Below w.heap.size w w2) := HB1.out.trans (hb2.mono (by omega))
    have c2 : w2.cell? ⟨w.heap.size, 0, none⟩ = some (.int .i64 (m : Int)) := (hb2.cell (p := ⟨w.heap.size, 0, none⟩) (by simp; omega)).trans c0
    have hn := BL.new' w2 #[Value.int IntKind.i64 0, Value.int IntKind.i64 0, Value.int IntKind.i64 0, Value.int IntKind.i64 0, Value.int IntKind.i64 0, Value.int IntKind.i64 0, Value.int IntKind.i64 0, Value.int IntKind.i64 0, Value.int IntKind.i64 0, Value.int IntKind.i64 0, Value.int IntKind.i64 0, Value.int IntKind.i64 0] 150
    have hth := Lib.hid hn.there
    have hlen : (joinAll grownF es).length = 12 := (joinAll_fo grown_fo HEd.out).1
    have hfo : Hid (BL ((w2.alloc (.cells #[Value.int IntKind.i64 0, Value.int IntKind.i64 0, Value.int IntKind.i64 0, Value.int IntKind.i64 0, Value.int IntKind.i64 0, Value.int IntKind.i64 0, Value.int IntKind.i64 0, Value.int IntKind.i64 0, Value.int IntKind.i64 0, Value.int IntKind.i64 0, Value.int IntKind.i64 0, Value.int IntKind.i64 0] 150)).setCells w2.heap.size 0 (nvL (joinAll grownF es))) w2.heap.size 150 (nvL (joinAll grownF es))) := by
      have := hn.setCells (nvL (joinAll grownF es)) 0 (by simp [nvL, hlen])
      show BL _ _ _ _
      simpa using this
    have HB3 : Hid (Below w.heap.size w ((w2.alloc (.cells #[Value.int IntKind.i64 0, Value.int IntKind.i64 0, Value.int IntKind.i64 0, Value.int IntKind.i64 0, Value.int IntKind.i64 0, Value.int IntKind.i64 0, Value.int IntKind.i64 0, Value.int IntKind.i64 0, Value.int IntKind.i64 0, Value.int IntKind.i64 0, Value.int IntKind.i64 0, Value.int IntKind.i64 0] 150)).setCells w2.heap.size 0 (nvL (joinAll grownF es)))) := below_setCells (HB2.out.alloc (by omega) _) (by omega) _ _
    have c3 : ((w2.alloc (.cells #[Value.int IntKind.i64 0, Value.int IntKind.i64 0, Value.int IntKind.i64 0, Value.int IntKind.i64 0, Value.int IntKind.i64 0, Value.int IntKind.i64 0, Value.int IntKind.i64 0, Value.int IntKind.i64 0, Value.int IntKind.i64 0, Value.int IntKind.i64 0, Value.int IntKind.i64 0, Value.int IntKind.i64 0] 150)).setCells w2.heap.size 0 (nvL (joinAll grownF es))).cell? ⟨w.heap.size, 0, none⟩ = some (.int .i64 (m : Int)) := by
      rw [World.cell?_setCells_out _ _ _ _ _ (fun h => by simp at h; omega)]
      exact (World.cell?_alloc_lt _ _ _ (by simp; omega)).trans c2
    have HLn := Lib.hid hlen
    clear hb2 hn hlen c0 c1 c2
    go_wp2_with (first | (refine wpList_store_mid rfl 150 _ _ rfl w2.heap.size 0 (nvL (joinAll grownF es)).toArray rfl rfl (by have := hth.out; simpa [nvL, HLn.out] using this) (fo_size HLn.out) (all_oneCell_toArray (nvL_one _)) ?_; generalize (w2.alloc (.cells #[Value.int IntKind.i64 0, Value.int IntKind.i64 0, Value.int IntKind.i64 0, Value.int IntKind.i64 0, Value.int IntKind.i64 0, Value.int IntKind.i64 0, Value.int IntKind.i64 0, Value.int IntKind.i64 0, Value.int IntKind.i64 0, Value.int IntKind.i64 0, Value.int IntKind.i64 0, Value.int IntKind.i64 0] 150)).setCells w2.heap.size 0 (nvL (joinAll grownF es)).toArray.toList = W at *) | (go_at_call 112; refine (parts_any (joinAll grownF es) w2.heap.size m _ _ (joinAll_fo grown_fo HEd.out) hm2 hfo.out).mono ?_; rintro e w4 ⟨⟨A4, c4, rfl⟩, hb4⟩; have HB4 : Hid (Below w.heap.size w w4) := HB3.out.trans (hb4.mono HB3.out.size); clear hb4))
    go_ret2
    refine ⟨⟨A4, c4, ?_⟩, HB4.out⟩
    rw [HL.out, H0.out]; rfl
  · have hne : (gcheckE n es != 0) = true := by simp [h0]
    have HL : Hid (compN n es = 0) := by show _ = _; unfold compN; simp [h0]
    clear h0
    go_enter Tryz.func73, Tryz.ntmps73
    go_wp2_with (go_at_call 104; refine (gCheck_any _ n es _ HG1.out).mono ?_; rintro e w1 ⟨rfl, hb1⟩)
    go_ret2
    exact ⟨⟨none, 0, by rw [HL.out]; rfl⟩, (below_alloc w _).trans (hb1.mono (by simp))⟩
theorem Connected_any (g : Value) (n : Int) (es : List Tri) (w : World) (hg : GV w g n es) :
    Calls Tryz.prog 45 #[g] w fun e w' => e = .returned (.tuple #[.bool (connL n es), .int .i64 (gcheckE n es)]) ∧ Below w.heap.size w w' := by
  obtain ⟨A, c, rfl, hlc, hc, -⟩ := hg.open_
  have HG2 := Lib.hid (hg.below (below_alloc w (.cells #[.int .i64 n, .slice A es.length c] 24)))
  have HE := Lib.hid (connL_eq n es)
  clear hg
  go_enter Tryz.func45, Tryz.ntmps45
  go_wp2_with (go_at_call 73; refine (Components_any _ n es _ HG2.out).mono ?_; rintro e w1 ⟨⟨A1, c1, rfl⟩, hb1⟩)
  go_ret2
  refine ⟨?_, (below_alloc w _).trans (hb1.mono (by simp))⟩
  rw [HE.out]
  congr 3
  trace_state
end Go.Proofs.YtjfggodnfoknfaaGreatDoor

namespace Go.Proofs.YtjfggodnfoknfaaGreatDoor
open Go.RowKit

def Quiet (w : World) (v : Value) (e : Ending) (w' : World) : Prop := e = .returned v ∧ ∃ n, w' = w.drewN n
/-- Equal at divisors. -/
def eqL : List Int → List Int → Bool
  | [], [] => true
  | x :: r, y :: s => x == y && eqL r s
  | _, _ => false
theorem eqL_iff (xs ys : List Int) : eqL xs ys = true ↔ xs = ys := by
  induction xs generalizing ys with
  | nil => cases ys <;> simp [eqL]
  | cons x r ih => cases ys <;> simp [eqL, ih]
theorem eqL_len {xs ys : List Int} (h : xs.length ≠ ys.length) : eqL xs ys = false := by
  rw [Bool.eq_false_iff]; intro e; exact h (congrArg List.length ((eqL_iff _ _).1 e))

theorem EqualD_any (va vb : Value) (xs ys : List Int) (w : World) (ha : RI w va xs) (hb : RI w vb ys) :
    Calls Tryz.prog 14 #[va, vb] w (Quiet w (.bool (eqL xs ys))) := by
  obtain ⟨A, c, rfl, hlc, hc, hcell⟩ := ha.open_
  obtain ⟨A', c', rfl, hlc', hc', hcell'⟩ := hb.open_
  have HA := Lib.hid hcell
  have HB := Lib.hid hcell'
  clear hcell hcell' ha hb
  by_cases hl : xs.length = ys.length
  · have hl' : ((xs.length : Int) != ys.length) = false := by simp [hl]
    have HL := Lib.hid hl
    clear hl
    go_enter Tryz.func14, Tryz.ntmps14
    go_wp2
    go_loopw [13] (fun i wr => ∃ k m : Nat, k ≤ xs.length ∧ i = .int .i64 k ∧ Hid (eqL (xs.drop k) (ys.drop k) = eqL xs ys) ∧ wr = w.drewN m) (fun i _ => xs.length - (intOf i).toNat)
    case atStart => exact ⟨0, 0, Nat.zero_le _, rfl, rfl, rfl⟩
    case round =>
      obtain ⟨k, m, hk, rfl, he, rfl⟩ := hrel
      by_cases hlt : k < xs.length
      · obtain ⟨ad, z, rfl, _, hz, hcl⟩ := HA.out k hlt
        have hlt' : k < ys.length := by have := HL.out; omega
        obtain ⟨ad', z', rfl, _, hz', hcl'⟩ := HB.out k hlt'
        have HD := Lib.hid (drop_at hz)
        have HD' := Lib.hid (drop_at hz')
        clear HA HB
        go_wp2_with fail
        go_quiet (fail)
        go_wp2
        · have hne : z ≠ z' := by have : (z != z') = true := by assumption
                                  simpa using this
          go_ret
          refine ⟨ret_b ?_, m + nq, by simp⟩
          rw [← he.out, HD.out, HD'.out]
          simp [eqL, hne]
        · have heq : z = z' := by have : (z != z') = false := by assumption
                                  simpa using this
          go_roundw
          case rel => exact ⟨k + 1, m + nq, by omega, by go_num, by show _ = _; rw [← he.out, HD.out, HD'.out]; simp [eqL, heq], by simp⟩
          case measure => simp [intOf]; omega
      · go_wp2
        go_ret
        refine ⟨ret_b ?_, m, rfl⟩
        rw [← he.out, List.drop_of_length_le (by omega), List.drop_of_length_le (by have := HL.out; omega)]; rfl
  · have hl' : ((xs.length : Int) != ys.length) = true := by simp; omega
    have HL := Lib.hid hl
    clear hl
    go_enter Tryz.func14, Tryz.ntmps14
    go_wp2
    go_ret
    exact ⟨ret_b (eqL_len HL.out).symm, 0, rfl⟩

theorem EqualS_any (va vb : Value) (xs ys : List Int) (w : World) (ha : RI w va xs) (hb : RI w vb ys) :
    Calls Tryz.prog 22 #[va, vb] w (Quiet w (.bool (eqL xs ys))) := by
  obtain ⟨A, c, rfl, hlc, hc, hcell⟩ := ha.open_
  obtain ⟨A', c', rfl, hlc', hc', hcell'⟩ := hb.open_
  have HA := Lib.hid hcell
  have HB := Lib.hid hcell'
  clear hcell hcell' ha hb
  by_cases hl : xs.length = ys.length
  · have hl' : ((xs.length : Int) != ys.length) = false := by simp [hl]
    have HL := Lib.hid hl
    clear hl
    go_enter Tryz.func22, Tryz.ntmps22
    go_wp2
    go_loopw [13] (fun i wr => ∃ k m : Nat, k ≤ xs.length ∧ i = .int .i64 k ∧ Hid (eqL (xs.drop k) (ys.drop k) = eqL xs ys) ∧ wr = w.drewN m) (fun i _ => xs.length - (intOf i).toNat)
    case atStart => exact ⟨0, 0, Nat.zero_le _, rfl, rfl, rfl⟩
    case round =>
      obtain ⟨k, m, hk, rfl, he, rfl⟩ := hrel
      by_cases hlt : k < xs.length
      · obtain ⟨ad, z, rfl, _, hz, hcl⟩ := HA.out k hlt
        have hlt' : k < ys.length := by have := HL.out; omega
        obtain ⟨ad', z', rfl, _, hz', hcl'⟩ := HB.out k hlt'
        have HD := Lib.hid (drop_at hz)
        have HD' := Lib.hid (drop_at hz')
        clear HA HB
        go_wp2_with fail
        go_quiet (fail)
        go_wp2
        · have hne : z ≠ z' := by have : (z != z') = true := by assumption
                                  simpa using this
          go_ret
          refine ⟨ret_b ?_, m + nq, by simp⟩
          rw [← he.out, HD.out, HD'.out]
          simp [eqL, hne]
        · have heq : z = z' := by have : (z != z') = false := by assumption
                                  simpa using this
          go_roundw
          case rel => exact ⟨k + 1, m + nq, by omega, by go_num, by show _ = _; rw [← he.out, HD.out, HD'.out]; simp [eqL, heq], by simp⟩
          case measure => simp [intOf]; omega
      · go_wp2
        go_ret
        refine ⟨ret_b ?_, m, rfl⟩
        rw [← he.out, List.drop_of_length_le (by omega), List.drop_of_length_le (by have := HL.out; omega)]; rfl
  · have hl' : ((xs.length : Int) != ys.length) = true := by simp; omega
    have HL := Lib.hid hl
    clear hl
    go_enter Tryz.func22, Tryz.ntmps22
    go_wp2
    go_ret
    exact ⟨ret_b (eqL_len HL.out).symm, 0, rfl⟩

theorem CloneD_any (va : Value) (xs : List Int) (w : World) (ha : RI w va xs) (hl : xs.length ≤ 17592186044415 := by omega) :
    Calls Tryz.prog 49 #[va] w fun e w' => ∃ v, e = .returned v ∧ OI w' w.heap.size v xs ∧ Below w.heap.size w w' := by
  obtain ⟨A, c, rfl, hlc, hc, hcell⟩ := ha.open_
  obtain ⟨i0, hi, hz0, hz1, hz2⟩ := info_parts int_info
  have hq := fun W : World => Lib.run_eql_slice_nil (P := Tryz.prog) W 26 3 A xs.length c 0 0 Tryz.underlying26
  have HRA := Lib.hid ha
  rcases A with _ | ad
  · have hn : xs.length = 0 := by
      rcases Nat.eq_zero_or_pos xs.length with h | h
      · exact h
      · obtain ⟨ad, z, h, _⟩ := hcell 0 h; cases h
    have HN := Lib.hid (List.eq_nil_of_length_eq_zero hn)
    simp only [Option.isNone_none] at hq
    clear hcell ha hn
    go_enter Tryz.func49, Tryz.ntmps49
    go_wp2
    refine bodyPost_ret (results_tmp rfl _ _ _) rfl ⟨.slice none 0 0, rfl, ?_, Below.refl _ _⟩
    rw [HN.out]; exact OI.nil_ _ _
  · simp only [Option.isNone_some] at hq
    have hr1 := Lib.hid (ha.below (below_alloc w (.cells #[] 3)))
    have ho := Lib.hid (show OV (w.alloc (.cells #[] 3)) w.heap.size 3 (.slice (some ⟨w.heap.size, 0, none⟩) 0 0) [] from
      ⟨World.ownsRow_made w #[] 0 (Nat.le_refl _) (by unfold maxLen; omega) (by simp), by simp⟩)
    have HX := Lib.hid (ints_one xs)
    clear hcell ha
    go_enter Tryz.func49, Tryz.ntmps49
    go_wp2_with (at_builtin; refine wpList_appendV _ rfl _ _ _ rfl 3 i0 _ 8 Tryz.underlying26 hi hz0 hz1 hz2 rfl w.heap.size _ [] rfl ho.out _ _ rfl hr1.out HX.out (by simpa using hl) (by simp; omega) (by simp) ?_; intro v1 w1 hown1 hg1 hat1)
    refine bodyPost_ret (results_tmp rfl _ _ _) rfl ⟨v1, rfl, by simpa [OI] using hown1, ?_⟩
    exact below_own (below_alloc w _) (by simp) ho.out hg1
/-- A function value that says p of ints, in the world w and whatever follows it; it may draw. -/
def CloB (P : Program) (w : World) (fv : Value) (D : Int → Prop) (p : Int → Bool) : Prop :=
  ∃ fn caps, fv = .func (.func fn) #[] caps ∧ (∀ args W, (callFunc fn args).run P W = .ok (.enter fn args) W) ∧ ∀ W, Below w.heap.size w W → ∀ x, D x → Calls P fn (#[.int .i64 x] ++ caps) W fun e w' => e = .returned (.bool (p x)) ∧ W = w'
/-- The first place where p holds. -/
def idxL (p : Int → Bool) : List Int → Int
  | [] => -1
  | z :: r => if p z then 0 else if idxL p r < 0 then -1 else idxL p r + 1
theorem idxL_any (p : Int → Bool) (l : List Int) : decide (0 ≤ idxL p l) = l.any p := by
  induction l with
  | nil => rfl
  | cons z r ih =>
    rw [List.any_cons, ← ih]
    by_cases hp : p z = true
    · simp [idxL, hp]
    · have hp' : p z = false := by simpa using hp
      simp only [idxL, hp', Bool.false_eq_true, if_false, Bool.false_or]
      split <;> rw [decide_eq_decide] <;> omega
theorem idxL_lo (p : Int → Bool) (l : List Int) : -1 ≤ idxL p l := by
  induction l with
  | nil => exact Int.le_refl _
  | cons z r ih => simp only [idxL]; split <;> (try split) <;> omega
theorem idxL_hi (p : Int → Bool) (l : List Int) : idxL p l ≤ l.length := by
  induction l with
  | nil => simp [idxL]
  | cons z r ih => simp only [idxL, List.length_cons]; split <;> (try split) <;> omega
theorem IndexD_any (va fv : Value) (xs : List Int) (D : Int → Prop) (p : Int → Bool) (w : World) (ha : RI w va xs) (hf : CloB Tryz.prog w fv D p) (hD : ∀ x ∈ xs, D x) :
    Calls Tryz.prog 143 #[va, fv] w fun e w' => e = .returned (.int .i64 (idxL p xs)) ∧ w = w' := by
  obtain ⟨A, c, rfl, hlc, hc, hcell⟩ := ha.open_
  obtain ⟨fn, caps, rfl, hen, hcall⟩ := hf
  have HA := Lib.hid hcell
  have HF := Lib.hid (hcall w (Below.refl _ _))
  have HD := Lib.hid hD
  clear hcell ha hcall hD
  go_enter Tryz.func143, Tryz.ntmps143
  go_wp2
  go_loop [8] (fun i => ∃ k : Nat, k ≤ xs.length ∧ i = .int .i64 k ∧ Hid (idxL p xs = if idxL p (xs.drop k) < 0 then -1 else idxL p (xs.drop k) + k)) (fun i => xs.length - (intOf i).toNat)
  case atStart => exact ⟨0, Nat.zero_le _, rfl, by show _ = _; have := idxL_lo p xs; simp only [List.drop_zero]; split <;> omega⟩
  case round =>
    obtain ⟨k, hk, rfl, he⟩ := hrel
    by_cases hlt : k < xs.length
    · obtain ⟨ad, z, rfl, _, hz, hcl⟩ := HA.out k hlt
      have HC := Lib.hid (HF.out z (HD.out z (List.mem_of_getElem? hz.out)))
      have HDr := Lib.hid (drop_at hz)
      clear HA HF
      cases hb : p z
      · go_wp2_with fail
        refine HC.out.mono ?_
        rw [hb]
        rintro e w' ⟨rfl, rfl⟩
        go_wp2
        go_round
        case rel =>
          refine ⟨k + 1, by omega, by go_num, ?_⟩
          show _ = _
          have h := he.out
          have hlo := idxL_lo p (xs.drop (k + 1))
          rw [HDr.out] at h
          simp only [idxL, hb, Bool.false_eq_true, if_false] at h
          rw [h]
          by_cases c1 : idxL p (xs.drop (k + 1)) < 0
          · simp [c1]
          · rw [if_neg c1, if_neg c1, if_neg (by omega)]; push_cast; omega
        case measure => simp [intOf]; omega
      · go_wp2_with fail
        refine HC.out.mono ?_
        rw [hb]
        rintro e w' ⟨rfl, rfl⟩
        go_wp2
        go_ret
        refine ⟨ret_i ?_, rfl⟩
        have h := he.out
        rw [HDr.out] at h
        simp only [idxL, hb, if_true] at h
        rw [h]; simp
    · go_wp2
      go_ret
      refine ⟨ret_i ?_, rfl⟩
      have h := he.out
      rw [List.drop_of_length_le (by omega)] at h
      rw [h]; simp [idxL]
theorem ContainsD_any (va fv : Value) (xs : List Int) (D : Int → Prop) (p : Int → Bool) (w : World) (ha : RI w va xs) (hf : CloB Tryz.prog w fv D p) (hD : ∀ x ∈ xs, D x) :
    Calls Tryz.prog 105 #[va, fv] w fun e w' => e = .returned (.bool (xs.any p)) ∧ w = w' := by
  have HI := Lib.hid (IndexD_any va fv xs D p w ha hf hD)
  have HE := Lib.hid (idxL_any p xs)
  have hlo := idxL_lo p xs
  have hhi := idxL_hi p xs
  obtain ⟨A, c, rfl, hlc, hc, -⟩ := ha.open_
  obtain ⟨fn, caps, rfl, -, -⟩ := hf
  clear ha hD
  go_enter Tryz.func105, Tryz.ntmps105
  go_wp2_with (refine HI.out.mono ?_; rintro e w' ⟨rfl, rfl⟩)
  go_ret
  exact ⟨ret_b HE.out, rfl⟩
end Go.Proofs.YtjfggodnfoknfaaGreatDoor

