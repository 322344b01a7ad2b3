/- Contracts of the reference's Proves and Line.
   The law CheckerLines: it answers true.
   The first line of a whole log; contract of the reference's Facts.
   The law CheckerAccepts: it answers true. -/
import Derived.Test.YtgcnijmmjlfabaaGreatDoorK36
import Derived.Test.YtgcnijmmjlfabaaGreatDoorK34
set_option maxRecDepth 100000
set_option maxHeartbeats 16000000
namespace Go.Proofs.YtgcnijmmjlfabaaGreatDoor
open Go.RowKit Go.Shelf

theorem r57Proves_any (g va vb vf vl : Value) (n k : Nat) (kk Q N : Int) (es : List Tri) (a b fs l : List Int) (w : World) (hk : k < 9) (hkk : kk = k) (hg : GV w g n es) (ha : RI w va a) (hbv : RI w vb b) (hf : RI w vf fs) (hl : RI w vl l) (hE : Edges n es) (hn1 : 1 ≤ n) (hn : n ≤ 6)
    (hA : kf k = false → a.length = n) (hB : kb k = true → b.length = n) (hab : Bd 1048576 a) (hlb : Bd 1048576 l) (hll : l.length ≤ 100000) (hfl : fs.length ≤ 100000) (hQ : kq k = true → 0 ≤ Q ∧ Q < n) (hN : kn k = true → kl k ≤ N ∧ N ≤ 12) :
    Calls Tryz.prog 51 #[g, .agg #[.int .i64 kk, .int .i64 Q, .int .i64 N, va, vb, vf], vl] w fun e w' => e = .returned (.int .i64 (provesE n es k Q N a b fs l)) ∧ Below w.heap.size w w' := by
  subst hkk
  obtain rfl | rfl | rfl | rfl | rfl | rfl | rfl | rfl | rfl : k = 0 ∨ k = 1 ∨ k = 2 ∨ k = 3 ∨ k = 4 ∨ k = 5 ∨ k = 6 ∨ k = 7 ∨ k = 8 := by omega
  · exact prv57_0 g va vb vf vl n _ Q N es a b l w hg ha hbv hl hE (by omega) (hA rfl) (hB rfl) hab hlb rfl
  · exact prv57_1 g va vb vf vl n _ Q N es a l w hg ha hl hE (by omega) (hA rfl) hab hlb rfl
  · exact prv57_2 g va vb vf vl n _ Q N es a l w hg ha hl hE hn1 (by omega) (hA rfl) hab hlb rfl
  · exact prv57_3 g va vb vf vl n _ Q N es a l w hg ha hl hE hn1 hn (hN rfl) (hA rfl) hab hlb hll rfl
  · exact prv57_4 g va vb vf vl n _ Q N es a l w hg ha hl hE hn1 (by omega) (hN rfl) (hA rfl) hab hlb hll rfl
  · have h := hQ rfl
    exact prv57_5 g va vb vf vl n _ Q N es a l Q.toNat w hg ha hl hE hn1 (by omega) (by omega) (by omega) (hA rfl) hll rfl
  · have h := hQ rfl
    exact prv57_6 g va vb vf vl n _ Q N es a l Q.toNat w hg ha hl hE hn1 hn (by omega) (by omega) (hA rfl) hab hll rfl
  · exact prv57_7 g va vb vf vl n _ Q N es a b l w hg ha hbv hl hE (by omega) (hQ rfl) (hA rfl) (hB rfl) hab hlb hll rfl
  · exact prv57_8 g va vb vf vl n _ Q N es fs l w hg hf hl hE hn1 (by omega) hfl hlb rfl
/-- A line's answer from its claim's. -/
theorem line_par (m : Nat) (es : List Tri) (s : List UInt8) : lineE m es s = if parE m s ≠ 0 then parE m s else
    provesE m es (idxG ((splitL 32 s).getD 0 []) kwL).toNat (fQ (kq (idxG ((splitL 32 s).getD 0 []) kwL).toNat) (numsV (((splitL 32 s).take (idxG [58] (splitL 32 s)).toNat).drop 1))) (fQ (kn (idxG ((splitL 32 s).getD 0 []) kwL).toNat) (l1L (kq (idxG ((splitL 32 s).getD 0 []) kwL).toNat) (numsV (((splitL 32 s).take (idxG [58] (splitL 32 s)).toNat).drop 1))))
      (fA m (kb (idxG ((splitL 32 s).getD 0 []) kwL).toNat) (kf (idxG ((splitL 32 s).getD 0 []) kwL).toNat) (l2L (kq (idxG ((splitL 32 s).getD 0 []) kwL).toNat) (kn (idxG ((splitL 32 s).getD 0 []) kwL).toNat) (numsV (((splitL 32 s).take (idxG [58] (splitL 32 s)).toNat).drop 1))))
      (fB m (kb (idxG ((splitL 32 s).getD 0 []) kwL).toNat) (kf (idxG ((splitL 32 s).getD 0 []) kwL).toNat) (l2L (kq (idxG ((splitL 32 s).getD 0 []) kwL).toNat) (kn (idxG ((splitL 32 s).getD 0 []) kwL).toNat) (numsV (((splitL 32 s).take (idxG [58] (splitL 32 s)).toNat).drop 1))))
      (fF (kf (idxG ((splitL 32 s).getD 0 []) kwL).toNat) (l2L (kq (idxG ((splitL 32 s).getD 0 []) kwL).toNat) (kn (idxG ((splitL 32 s).getD 0 []) kwL).toNat) (numsV (((splitL 32 s).take (idxG [58] (splitL 32 s)).toNat).drop 1))))
      (numsV ((splitL 32 s).drop ((idxG [58] (splitL 32 s)).toNat + 1))) := by
  unfold lineE wrdE clmE parE parC
  generalize idxG ((splitL 32 s).getD 0 []) kwL = ki
  generalize idxG [58] (splitL 32 s) = ci
  generalize ((splitL 32 s).take ci.toNat).drop 1 = w1
  generalize (splitL 32 s).drop (ci.toNat + 1) = w2
  by_cases c1 : ki < 0 ∨ ci < 0
  · simp [c1]
  · simp only [c1, if_false]
    by_cases c2 : numsE w1 = 4 ∨ numsE w2 = 4
    · simp [c2]
    · simp only [c2, if_false]
      by_cases c3 : numsE w1 ≠ 0 ∨ numsE w2 ≠ 0
      · simp only [c3, if_true]; rfl
      · simp only [c3, if_false]
        by_cases c4 : fillE m (kq ki.toNat) (kn ki.toNat) (kb ki.toNat) (kf ki.toNat) (numsV w1) ≠ 0
        · simp [c4]
        · simp only [c4, if_false]
/-- A claim without an error is right. -/
theorem par_ok {m : Nat} {s : List UInt8} (h : parE m s = 0) : 0 ≤ idxG ((splitL 32 s).getD 0 []) kwL ∧
    fillE m (kq (idxG ((splitL 32 s).getD 0 []) kwL).toNat) (kn (idxG ((splitL 32 s).getD 0 []) kwL).toNat) (kb (idxG ((splitL 32 s).getD 0 []) kwL).toNat) (kf (idxG ((splitL 32 s).getD 0 []) kwL).toNat) (numsV (((splitL 32 s).take (idxG [58] (splitL 32 s)).toNat).drop 1)) = 0 ∧
    rightE m (kq (idxG ((splitL 32 s).getD 0 []) kwL).toNat) (kn (idxG ((splitL 32 s).getD 0 []) kwL).toNat) (kl (idxG ((splitL 32 s).getD 0 []) kwL).toNat) (fQ (kq (idxG ((splitL 32 s).getD 0 []) kwL).toNat) (numsV (((splitL 32 s).take (idxG [58] (splitL 32 s)).toNat).drop 1)))
      (fQ (kn (idxG ((splitL 32 s).getD 0 []) kwL).toNat) (l1L (kq (idxG ((splitL 32 s).getD 0 []) kwL).toNat) (numsV (((splitL 32 s).take (idxG [58] (splitL 32 s)).toNat).drop 1)))) (fF (kf (idxG ((splitL 32 s).getD 0 []) kwL).toNat) (l2L (kq (idxG ((splitL 32 s).getD 0 []) kwL).toNat) (kn (idxG ((splitL 32 s).getD 0 []) kwL).toNat) (numsV (((splitL 32 s).take (idxG [58] (splitL 32 s)).toNat).drop 1)))) = 0 := by
  unfold parE parC at h
  generalize idxG ((splitL 32 s).getD 0 []) kwL = ki at *
  generalize idxG [58] (splitL 32 s) = ci at *
  generalize ((splitL 32 s).take ci.toNat).drop 1 = w1 at *
  generalize (splitL 32 s).drop (ci.toNat + 1) = w2 at *
  by_cases c1 : ki < 0 ∨ ci < 0
  · rw [if_pos c1] at h; cases h
  · rw [if_neg c1] at h
    by_cases c2 : numsE w1 = 4 ∨ numsE w2 = 4
    · rw [if_pos c2] at h; cases h
    · rw [if_neg c2] at h
      by_cases c3 : numsE w1 ≠ 0 ∨ numsE w2 ≠ 0
      · rw [if_pos c3] at h; cases h
      · rw [if_neg c3] at h
        by_cases c4 : fillE m (kq ki.toNat) (kn ki.toNat) (kb ki.toNat) (kf ki.toNat) (numsV w1) ≠ 0
        · rw [if_pos c4] at h; exact absurd h c4
        · rw [if_neg c4] at h
          exact ⟨by omega, by omega, h⟩
theorem r57Line_any (g : Value) (m : Nat) (es : List Tri) (s : List UInt8) (w : World) (hg : GV w g m es) (hE : Edges m es) (hm1 : 1 ≤ m) (hm : m ≤ 6) (hs : s.length ≤ 90000) :
    Calls Tryz.prog 26 #[g, strV s] w fun e w' => e = .returned (.int .i64 (lineE m es s)) ∧ Below w.heap.size w w' := by
  obtain ⟨A, c, rfl, -⟩ := hg.open_
  obtain ⟨W0, hW0⟩ : ∃ W0, W0 = w.alloc (.cells #[.int .i64 (m:Int), .slice A es.length c] 24) := ⟨_, rfl⟩
  have hb0 : Below w.heap.size w W0 := by rw [hW0]; exact below_alloc w _
  have hx0 : BL W0 w.heap.size 24 [.int .i64 (m:Int), .slice A es.length c] := by rw [hW0]; exact BL.new' w _ _
  have c0 := hx0.cell 0
  have c1 := hx0.cell 1
  have HX0 := Lib.hid hx0
  have HG0 := Lib.hid (hg.below hb0)
  have HB0 := Lib.hid hb0
  have HW0 := Lib.hid hW0
  rw [hW0] at c0 c1
  clear hg hx0 hW0
  have HP0 := Lib.hid (rParse_any _ m es s W0 HG0.out hm1 (by omega) hs)
  have HSp := Lib.hid (line_par m es s)
  have HOk0 : Hid (parE m s = 0 → _) := fun h => par_ok (m := m) (s := s) h
  have HWl : Hid ((splitL 32 s).length ≤ 90001) := by have := splitL_length 32 s; show _ ≤ _; omega
  generalize hbs : (⟨s.toArray⟩ : ByteArray) = S at *
  have hsv : strV s = .string S := by rw [← hbs]; rfl
  rw [hsv] at HP0 ⊢
  generalize lineE m es s = LE at *
  clear hbs hsv
  go_enter Tryz.func26, Tryz.ntmps26
  go_upto_region 1 with fail
  rw [← HW0.out]
  clear c0 c1
  have g0 := HX0.out.cell 0
  have g1 := HX0.out.cell 1
  go_wp2_with fail
  refine HP0.out.mono ?_
  rintro e w1 ⟨kk, Q, N, va, vb, vf, vc, rfl, hok, ⟨⟨Aa, na, ca, rfl⟩, ⟨Ab, nb, cb, rfl⟩, ⟨Af, nf, cf, rfl⟩⟩, hb1⟩
  have HOk := Lib.hid hok
  obtain ⟨W2, hW2⟩ : ∃ W2, W2 = w1.alloc (.cells #[.int .i64 kk, .int .i64 Q, .int .i64 N, .slice Aa na ca, .slice Ab nb cb, .slice Af nf cf] 91) := ⟨_, rfl⟩
  have hb2 : Below w1.heap.size w1 W2 := by rw [hW2]; exact below_alloc w1 _
  have hx2 : BL W2 w1.heap.size 91 [.int .i64 kk, .int .i64 Q, .int .i64 N, .slice Aa na ca, .slice Ab nb cb, .slice Af nf cf] := by rw [hW2]; exact BL.new' w1 _ _
  have HH2 := Lib.hid hb2
  have HX2 := Lib.hid hx2
  have HW2 := Lib.hid hW2
  have HB2 := Lib.hid ((hb1).trans (hb2.mono hb1.size))
  have HB2w := Lib.hid (HB0.out.trans (HB2.out.mono HB0.out.size))
  clear hok hb1 hb2 hx2 hW2 g0 g1
  by_cases hp : parE m s = 0
  rotate_left
  · have HR : Hid (LE = parE m s) := by show _ = _; rw [HSp.out, if_pos hp]
    have t1 : (parE m s != 0) = true := by rw [bne_iff_ne]; exact hp
    clear HSp HOk HOk0
    generalize parE m s = pe at *
    clear hp
    go_upto_region 2 with fail
    rw [← HW2.out]
    go_wp2
    go_ret
    exact ⟨ret_i HR.out.symm, HB2w.out⟩
  obtain ⟨i, l, pf, hi9, hi, hl, hpf, hlb, hpb, hkk, hQ, hN, hva, hvb, hvf, hvc⟩ := HOk.out hp
  have hpo := par_ok hp
  obtain ⟨hk0, hfi, hri⟩ := hpo
  rw [if_neg (by rw [hp]; simp), ← hi, ← hl, ← hpf, ← hQ, ← hN] at HSp
  rw [← hi, ← hl] at hfi hri
  rw [← hQ, ← hN] at hri
  have hll : l.length ≤ 90001 := by rw [hl, numsV_len]; have := HWl.out; simp; omega
  have hpl : pf.length ≤ 100000 := by rw [hpf, numsV_len]; have := HWl.out; simp; omega
  obtain ⟨hrq, hrn⟩ := right_ok hri
  have h1' := hlb.l1 (by decide) (kq i)
  have h2' := h1'.l1 (by decide) (kn i)
  have hl2 : (l2L (kq i) (kn i) l).length ≤ 90001 := by
    have q1 := l1L_len (kq i) l
    have q2 := l1L_len (kn i) (l1L (kq i) l)
    unfold l2L; omega
  have HC := Lib.hid (r57Proves_any _ (.slice Aa na ca) (.slice Ab nb cb) (.slice Af nf cf) vc m i kk Q N es _ _ _ pf W2 hi9 hkk (HG0.out.below HB2.out) (RI.below hva HH2.out) (RI.below hvb HH2.out) (RI.below hvf HH2.out) (RI.below hvc HH2.out) hE hm1 hm
    (fun h => (fill_len hfi h).1) (fun h => by
      have hkf : kf i = false := by
        unfold kb at h; unfold kf
        simp at h
        rcases h with h | h <;> subst h <;> rfl
      exact (fill_len hfi hkf).2 h) (h2'.fA (by decide) m (kb i) (kf i)) hpb hpl (by unfold fF; split <;> simp <;> omega) hrq hrn)
  rw [← HSp.out] at HC
  rw [hp]
  clear HSp HOk HOk0 hp hi9 hi hl hpf hlb hpb hkk hQ hN hva hvb hvf hvc hk0 hfi hri hll hpl hrq hrn h1' h2' hl2 hE
  go_upto_region 2 with fail
  rw [← HW2.out]
  have g0 := (HX0.out.bel HB2.out).cell 0
  have g1 := (HX0.out.bel HB2.out).cell 1
  have y0 := HX2.out.cell 0
  have y1 := HX2.out.cell 1
  have y2 := HX2.out.cell 2
  have y3 := HX2.out.cell 3
  have y4 := HX2.out.cell 4
  have y5 := HX2.out.cell 5
  go_wp2_with fail
  refine HC.out.mono ?_
  rintro e w3 ⟨rfl, hb3⟩
  have HB3 := Lib.hid (HB2w.out.trans (hb3.mono HB2w.out.size))
  clear hb3
  go_wp2
  go_ret
  exact ⟨rfl, HB3.out⟩
end Go.Proofs.YtgcnijmmjlfabaaGreatDoor

namespace Go.Proofs.YtgcnijmmjlfabaaGreatDoor
open Go.RowKit Go.Shelf

theorem few_small {n : Int} {es : List Tri} (hf : fewB n es = true) (h0 : ofE n es = 0) : ∃ m : Nat, n = m ∧ 1 ≤ m ∧ m ≤ 6 ∧ Edges m es := by
  obtain ⟨hgc, -⟩ := ofE_ok h0
  have h6 := (fewB_sm hf hgc).1
  obtain ⟨m, rfl, hm1, -, hE⟩ := gcheckE_zero hgc
  exact ⟨m, rfl, hm1, by omega, hE⟩
theorem lineOk58 : LineOk := fun g n es s W hg h0 hf hs => by
  obtain ⟨m, rfl, hm1, hm, hE⟩ := few_small hf h0
  exact r57Line_any g m es s W hg hE hm1 hm (by omega)
end Go.Proofs.YtgcnijmmjlfabaaGreatDoor

namespace Go.Proofs.YtgcnijmmjlfabaaGreatDoor
open Go.RowKit Go.Shelf

theorem split2 {s : List UInt8} (h : linesE s = 0) : 2 ≤ (splitL 10 s).length := by
  have := lines_len h
  unfold linesV at this
  rw [List.length_take] at this
  omega
theorem hd0_first {s : List UInt8} (h : linesE s = 0) : hd0 s = firstL s := by
  have h2 := split2 h
  rw [first_split]
  unfold hd0 linesV
  rw [List.getD_eq_getElem?_getD, List.getD_eq_getElem?_getD, List.getElem?_take_of_lt (by omega)]
theorem wide_ok {s : List UInt8} (h : wideB s = false) : linesE s = 0 → hdE (hd0 s) = 0 → fewB (hdN (hd0 s)) (hdT (hd0 s)) = true := by
  intro h1 h2
  rw [hd0_first h1] at h2 ⊢
  unfold wideB at h
  rw [decide_eq_true (lines_s h1), decide_eq_true h2, Bool.true_and, Bool.true_and] at h
  simpa using h
theorem few_six {n : Int} {es : List Tri} {s : List UInt8} (hf : fewB n es = true) (h0 : ofE n es = 0) (_ : n = hdN s) : n ≤ 6 := by
  obtain ⟨m, rfl, -, h6, -⟩ := few_small hf h0
  omega
theorem hdE_of {s : List UInt8} (h : hdE s = 0) : ofE (hdN s) (hdT s) = 0 := by
  unfold hdE at h
  split at h
  · cases h
  · split at h
    · rename_i hh; exact absurd h hh
    · exact h
theorem few6 {s : List UInt8} (h : linesE s = 0 → hdE (hd0 s) = 0 → fewB (hdN (hd0 s)) (hdT (hd0 s)) = true) : linesE s = 0 → hdE (hd0 s) = 0 → hdN (hd0 s) ≤ 6 := fun h1 h2 =>
  few_six (s := hd0 s) (h h1 h2) (hdE_of h2) rfl
theorem accept_snd (s : List UInt8) : (acceptP s).2 = (accP s).2 := by
  unfold acceptP
  split
  · rfl
  · rename_i h
    show (0 : Int) = _
    omega
theorem rFacts_any (s : List UInt8) (w : World) (h6 : linesE s = 0 → hdE (hd0 s) = 0 → fewB (hdN (hd0 s)) (hdT (hd0 s)) = true) :
    Calls Tryz.prog 16 #[strV s] w fun e w' => ∃ v, e = .returned (.tuple #[v, .int .i64 (accP s).2]) ∧ RS w' v (if (accP s).2 = 0 then factsV s else []) ∧ Below w.heap.size w w' := by
  have HAc := Lib.hid (rAccept_any lineOk58 s w h6)
  have HLi := Lib.hid (fun W : World => rLines_any s W)
  have HM : Hid (linesE s = 0 → ∀ x ∈ linesV s, x.length ≤ 65536) := fun h x hx => Nat.le_trans (lines_mem hx) (lines_s h)
  have HVl : Hid (linesE s = 0 → 1 ≤ (linesV s).length ∧ (linesV s).length ≤ 65538) := fun h => by
    have h1 := lines_s h
    have h2 := splitL_length 10 s
    have h3 := lines_len h
    refine ⟨h3, ?_⟩
    unfold linesV
    rw [List.length_take]
    omega
  have HE : Hid ((accP s).2 = 0 → linesE s = 0) := fun h => by
    unfold accP at h
    apply Classical.byContradiction
    intro hc
    rw [if_pos hc] at h
    exact hc h
  have HFv : Hid (factsV s = ((linesV s).drop 1).map factL) := rfl
  rw [accept_snd] at HAc
  generalize (acceptP s).1 = a1 at *
  generalize (accP s).2 = E at *
  generalize factsV s = F at *
  generalize linesV s = V at *
  generalize linesE s = le at *
  generalize linesN s = nn at *
  obtain ⟨i0, hi, hz0, hz1, hz2⟩ := info_parts str_info
  clear h6
  go_enter Tryz.func16, Tryz.ntmps16
  go_wp2_with fail
  refine HAc.out.mono ?_
  rintro e w1 ⟨rfl, hb1⟩
  have HB1 := Lib.hid hb1
  by_cases hE : E ≠ 0
  · have hne : Hid (E ≠ 0) := hE
    have t1 : (E != 0) = true := by simpa using hE
    clear hE hb1 HAc HE
    go_wp2
    go_ret2
    exact ⟨.slice none 0 0, by rfl, RV.nil_ _, HB1.out⟩
  · obtain rfl : E = 0 := by omega
    have hle := HE.out rfl
    have HMx := Lib.hid (HM.out hle)
    obtain ⟨hl1, hlb⟩ := HVl.out hle
    have HL1 := Lib.hid (HLi.out w1)
    rw [hle] at HL1
    clear hE hb1 HAc HE HM HVl hle HLi
    go_wp2_with fail
    refine HL1.out.mono ?_
    rintro e w2 ⟨v1, rfl, hr2, hb2⟩
    have hr2' := hr2 trivial
    obtain ⟨A, c, rfl, hlc, hcl⟩ := hr2'.open_
    have HCl := Lib.hid hcl
    have HB2 := Lib.hid (HB1.out.trans (hb2.mono HB1.out.size))
    clear hr2 hr2' hb2 hcl HL1 HB1
    go_wp2_with fail
    go_loopw [9, 10] (fun o i wr => ∃ (k : Nat) (vo : Value), vo = o ∧ 1 ≤ k ∧ k ≤ V.length ∧ i = .int .i64 (k : Int) ∧ Hid (OS wr w2.heap.size o (((V.drop 1).take (k - 1)).map factL)) ∧ Hid (Below w2.heap.size w2 wr)) (fun _ i _ => V.length - (intOf i).toNat)
    case atStart => exact ⟨1, _, rfl, Nat.le_refl _, hl1, rfl, OV.nil_ _ _ _, Below.refl _ _⟩
    case round =>
      obtain ⟨k, vo, rfl, hk1, hk, rfl, ho, hw⟩ := hrel
      by_cases hlt : k < V.length
      · obtain ⟨ad, rfl, hab, hck⟩ := HCl.out k hlt
        have hck2 := (hw.out.cell (p := ad.add k) (by rw [block_of_add]; exact hab)).trans hck
        have hx : V[k]? = some (V.getD k []) := by rw [List.getD_eq_getElem?_getD, List.getElem?_eq_getElem hlt]; rfl
        have hxl := HMx.out _ (List.mem_of_getElem? hx)
        have HTk : Hid (((V.drop 1).take (k + 1 - 1)).map factL = ((V.drop 1).take (k - 1)).map factL ++ [factL (V.getD k [])]) := by
          show _ = _
          rw [show k + 1 - 1 = (k - 1) + 1 by omega, List.take_add_one, List.getElem?_drop, show 1 + (k - 1) = k by omega, hx, List.map_append]; rfl
        have HBw := Lib.hid (HB2.out.trans (hw.out.mono HB2.out.size))
        have HCu := Lib.hid (rFact_any (V.getD k []) wr (by omega))
        have hnl : (((V.drop 1).take (k - 1)).map factL).length ≤ V.length := by rw [List.length_map, List.length_take, List.length_drop]; omega
        generalize factL (V.getD k []) = z at *
        generalize V.getD k [] = x at *
        obtain ⟨Z, hZ⟩ : ∃ Z, strV z = .string Z := ⟨_, rfl⟩
        rw [hZ] at HCu
        have HZ := Lib.hid hZ
        clear hZ
        clear hx hxl hck hab
        go_wp2_with fail
        refine HCu.out.mono ?_
        rintro e wx ⟨rfl, rfl⟩
        have HO2 := ho
        have HW2 := hw
        clear hck2 ho
        obtain ⟨hov, hrv, hfin⟩ := OS.snoc HO2.out z HW2.out
        rw [HZ.out] at hov hrv hfin
        have HOv := Lib.hid hov
        have HRv := Lib.hid hrv
        have HFin := Lib.hid hfin
        have hszB := HW2.out.size
        clear hov hrv hfin
        generalize ((V.drop 1).take (k - 1)).map factL = os at *
        go_wp2_with (at_builtin; refine wpList_appendV _ rfl _ _ _ rfl 9 i0 _ 16 Tryz.underlying36 hi hz0 hz1 hz2 rfl w2.heap.size _ _ rfl HOv.out _ _ rfl HRv.out (one_ones rfl) (by first | omega | (simp; omega)) (by first | omega | (simp; omega)) (by first | omega | (simp; omega)) ?_; intro v8 w3 hown hg hat; obtain ⟨hf1, hf2⟩ := HFin.out v8 w3 hown hg; have HF1 := Lib.hid hf1; have HF3 := Lib.hid hf2; clear hown hg hat hf1 hf2)
        go_wp2
        go_roundw
        case rel => exact ⟨k + 1, _, rfl, by omega, by omega, by go_num, by rw [HTk.out]; exact HF1.out, HF3.out⟩
        case measure => simp [intOf]; omega
      · have hF : Hid (RS wr vo F) := by
          have h := ho.out.rv
          have hd : (V.drop 1).length ≤ k - 1 := by rw [List.length_drop]; omega
          rwa [List.take_of_length_le hd, ← HFv.out] at h
        have HB9 := Lib.hid (HB2.out.trans (hw.out.mono HB2.out.size))
        clear ho
        go_wp2
        go_ret2
        exact ⟨_, rfl, hF.out, HB9.out⟩
end Go.Proofs.YtgcnijmmjlfabaaGreatDoor

namespace Go.Proofs.YtgcnijmmjlfabaaGreatDoor
open Go.RowKit Go.Shelf

theorem acceptsLaw_any (s : List UInt8) (w : World) (hlv : LV w) :
    Calls Tryz.prog 4 #[strV s] w fun e w' => e = .returned (.bool true) ∧ Below w.heap.size w w' := by
  have HLo := Lib.hid (long_any s w)
  have HAw : Hid (∀ W, Below w.heap.size w W → Calls Tryz.prog 9 #[] W fun e w' => e = .returned (.bool true) ∧ Below W.heap.size W w') := fun W h => awake58_any W (hlv.below h)
  have hlo : longB s = false → s.length ≤ 131072 := fun h => by
    unfold longB at h
    simp only [Bool.or_eq_false_iff, decide_eq_false_iff_not] at h
    omega
  have HWi : Hid (longB s = false → Calls Tryz.prog 12 #[strV s] w fun e w' => e = .returned (.bool (wideB s)) ∧ Below w.heap.size w w') := fun h => wide_any s w hlv (by have := hlo h; omega)
  have H1 : Hid (wideB s = false → ∀ W, Below w.heap.size w W → Calls Tryz.prog 13 #[strV s] W fun e w' => e = .returned (.tuple #[.int .i64 (acceptP s).1, .int .i64 (accP s).2]) ∧ Below W.heap.size W w') := fun h W hb => by rw [← accept_snd]; exact kAccept_any s W (hlv.below hb) (few6 (wide_ok h))
  have H2 : Hid (wideB s = false → ∀ W, Below w.heap.size w W → Calls Tryz.prog 14 #[strV s] W fun e w' => e = .returned (.tuple #[.int .i64 (acceptP s).1, .int .i64 (accP s).2]) ∧ Below W.heap.size W w') := fun h W hb => by rw [← accept_snd]; exact rAccept_any lineOk58 s W (wide_ok h)
  have H3 : Hid (wideB s = false → ∀ W, Below w.heap.size w W → Calls Tryz.prog 15 #[strV s] W fun e w' => ∃ v, e = .returned (.tuple #[v, .int .i64 (accP s).2]) ∧ RS w' v (if (accP s).2 = 0 then factsV s else []) ∧ Below W.heap.size W w') := fun h W hb => kFacts_any s W (hlv.below hb) (few6 (wide_ok h))
  have H4 : Hid (wideB s = false → ∀ W, Below w.heap.size w W → Calls Tryz.prog 16 #[strV s] W fun e w' => ∃ v, e = .returned (.tuple #[v, .int .i64 (accP s).2]) ∧ RS w' v (if (accP s).2 = 0 then factsV s else []) ∧ Below W.heap.size W w') := fun h W hb => rFacts_any s W (wide_ok h)
  clear hlv hlo
  generalize (if (accP s).2 = 0 then factsV s else []) = fv at *
  generalize (accP s).2 = E at *
  generalize (acceptP s).1 = a1 at *
  generalize wideB s = wi at *
  generalize longB s = lo at *
  generalize strV s = S at *
  go_enter Tryz.func4, Tryz.ntmps4
  go_wp2_with fail
  refine HLo.out.mono ?_
  rintro e wx ⟨rfl, rfl⟩
  cases lo
  rotate_left
  · clear HWi HLo H1 H2 H3 H4
    go_wp2_with fail
    refine (HAw.out _ (Below.refl _ _)).mono ?_
    rintro e w2 ⟨rfl, hb2⟩
    have HB2 := Lib.hid hb2
    clear hb2 HAw
    go_wp2
    go_ret
    exact ⟨rfl, HB2.out⟩
  have HW1 := Lib.hid (HWi.out (by first | rfl | trivial))
  clear HWi HLo
  go_wp2_with fail
  refine HW1.out.mono ?_
  rintro e w1 ⟨rfl, hb1⟩
  have HB1 := Lib.hid hb1
  clear hb1 HW1
  cases wi
  rotate_left
  · clear  H1 H2 H3 H4
    go_wp2_with fail
    refine (HAw.out _ HB1.out).mono ?_
    rintro e w2 ⟨rfl, hb2⟩
    have HB2 := Lib.hid (HB1.out.trans (hb2.mono HB1.out.size))
    clear hb2 HAw
    go_wp2
    go_ret
    exact ⟨rfl, HB2.out⟩
  have HC2 := Lib.hid ((H1.out (by first | rfl | trivial)) _ HB1.out)
  clear H1
  go_wp2_with fail
  refine HC2.out.mono ?_
  rintro e w2 ⟨rfl, hb2⟩
  have HB2 := Lib.hid (HB1.out.trans (hb2.mono HB1.out.size))
  clear hb2 HC2
  have HC3 := Lib.hid ((H2.out (by first | rfl | trivial)) _ HB2.out)
  clear H2
  go_wp2_with fail
  refine HC3.out.mono ?_
  rintro e w3 ⟨rfl, hb3⟩
  have HB3 := Lib.hid (HB2.out.trans (hb3.mono HB2.out.size))
  clear hb3 HC3
  have HC4 := Lib.hid ((H3.out (by first | rfl | trivial)) _ HB3.out)
  clear H3
  go_wp2_with fail
  refine HC4.out.mono ?_
  rintro e w4 ⟨v4, rfl, hr4, hb4⟩
  have HB4 := Lib.hid (HB3.out.trans (hb4.mono HB3.out.size))
  have HR4 := Lib.hid hr4
  clear hr4
  clear hb4 HC4
  have HC5 := Lib.hid ((H4.out (by first | rfl | trivial)) _ HB4.out)
  clear H4
  go_wp2_with fail
  refine HC5.out.mono ?_
  rintro e w5 ⟨v5, rfl, hr5, hb5⟩
  have HB5 := Lib.hid (HB4.out.trans (hb5.mono HB4.out.size))
  have HR5 := Lib.hid hr5
  have HR45 := Lib.hid (HR4.out.below hb5)
  clear hr5
  clear hb5 HC5
  have HS6 := Lib.hid (Same58_any v4 v5 _ _ w5 HR45.out HR5.out)
  rw [decide_eq_true (show fv = fv from rfl)] at HS6
  have ta : (a1 == a1) = true := by simp
  have te : (E == E) = true := by simp
  clear HR4 HR5 HR45
  go_wp2_with fail
  refine HS6.out.mono ?_
  rintro e w6 ⟨rfl, hb6⟩
  have HB6 := Lib.hid (HB5.out.trans (hb6.mono HB5.out.size))
  clear hb6 HS6
  go_wp2_with fail
  refine (HAw.out _ HB6.out).mono ?_
  rintro e w7 ⟨rfl, hb7⟩
  have HB7 := Lib.hid (HB6.out.trans (hb7.mono HB6.out.size))
  clear hb7 HAw
  go_wp2
  go_ret
  exact ⟨rfl, HB7.out⟩
end Go.Proofs.YtgcnijmmjlfabaaGreatDoor

