/- Contracts of the reference's Proves and Line.
   The law CheckerLines: it answers true.
   From what the form hands over to the words of the walks: an argument of type graph, of type divisor, of type script.
   From what the form hands over to the words of the walks: rows that list the library's variables. -/
import Derived.Test.YtgcnijmmjlfabaaGreatDoorH35
import Derived.Test.YtgcnijmmjlfabaaGreatDoorH33
import Derived.Deep.Fields
import Derived.HandedShaped
import Derived.LaidMore
import Derived.Lay
import Derived.Lib.SmallJoins
import Derived.Stop.Joined
import Derived.Stop.LaidErr
import Derived.Test.YtgcnijmmjlfabaaGreatDoorCards
import Derived.Test.YtgcnijmmjlfabaaGreatDoorTie
namespace Go.Proofs.YtgcnijmmjlfabaaGreatDoor
open Go.RowKit Go.Shelf

theorem r57Proves_any (g va vb vf vl : Value) (n k : Nat) (kk Q N : Int) (es : List Tri) (a b fs l : List Int) (w : World) (hk : k < 9) (hkk : kk = k) (hg : GV w g n es) (ha : RI w va a) (hbv : RI w vb b) (hf : RI w vf fs) (hl : RI w vl l) (hE : Edges n es) (hn1 : 1 ≤ n) (hn : n ≤ 6)
    (hA : kf k = false → a.length = n) (hB : kb k = true → b.length = n) (hab : Bd 1048576 a) (hlb : Bd 1048576 l) (hll : l.length ≤ 100000) (hfl : fs.length ≤ 100000) (hQ : kq k = true → 0 ≤ Q ∧ Q < n) (hN : kn k = true → kl k ≤ N ∧ N ≤ 12) :
    Calls Tryz.prog 51 #[g, .agg #[.int .i64 kk, .int .i64 Q, .int .i64 N, va, vb, vf], vl] w fun e w' => e = .returned (.int .i64 (provesE n es k Q N a b fs l)) ∧ Below w.heap.size w w' := by
  subst hkk
  obtain rfl | rfl | rfl | rfl | rfl | rfl | rfl | rfl | rfl : k = 0 ∨ k = 1 ∨ k = 2 ∨ k = 3 ∨ k = 4 ∨ k = 5 ∨ k = 6 ∨ k = 7 ∨ k = 8 := by omega
  · exact prv57_0 g va vb vf vl n _ Q N es a b l w hg ha hbv hl hE (by omega) (hA rfl) (hB rfl) hab hlb rfl
  · exact prv57_1 g va vb vf vl n _ Q N es a l w hg ha hl hE (by omega) (hA rfl) hab hlb rfl
  · exact prv57_2 g va vb vf vl n _ Q N es a l w hg ha hl hE hn1 (by omega) (hA rfl) hab hlb rfl
  · exact prv57_3 g va vb vf vl n _ Q N es a l w hg ha hl hE hn1 hn (hN rfl) (hA rfl) hab hlb hll rfl
  · exact prv57_4 g va vb vf vl n _ Q N es a l w hg ha hl hE hn1 (by omega) (hN rfl) (hA rfl) hab hlb hll rfl
  · have h := hQ rfl
    exact prv57_5 g va vb vf vl n _ Q N es a l Q.toNat w hg ha hl hE hn1 (by omega) (by omega) (by omega) (hA rfl) hll rfl
  · have h := hQ rfl
    exact prv57_6 g va vb vf vl n _ Q N es a l Q.toNat w hg ha hl hE hn1 hn (by omega) (by omega) (hA rfl) hab hll rfl
  · exact prv57_7 g va vb vf vl n _ Q N es a b l w hg ha hbv hl hE (by omega) (hQ rfl) (hA rfl) (hB rfl) hab hlb hll rfl
  · exact prv57_8 g va vb vf vl n _ Q N es fs l w hg hf hl hE hn1 (by omega) hfl hlb rfl
/-- A line's answer from its claim's. -/
theorem line_par (m : Nat) (es : List Tri) (s : List UInt8) : lineE m es s = if parE m s ≠ 0 then parE m s else
    provesE m es (idxG ((splitL 32 s).getD 0 []) kwL).toNat (fQ (kq (idxG ((splitL 32 s).getD 0 []) kwL).toNat) (numsV (((splitL 32 s).take (idxG [58] (splitL 32 s)).toNat).drop 1))) (fQ (kn (idxG ((splitL 32 s).getD 0 []) kwL).toNat) (l1L (kq (idxG ((splitL 32 s).getD 0 []) kwL).toNat) (numsV (((splitL 32 s).take (idxG [58] (splitL 32 s)).toNat).drop 1))))
      (fA m (kb (idxG ((splitL 32 s).getD 0 []) kwL).toNat) (kf (idxG ((splitL 32 s).getD 0 []) kwL).toNat) (l2L (kq (idxG ((splitL 32 s).getD 0 []) kwL).toNat) (kn (idxG ((splitL 32 s).getD 0 []) kwL).toNat) (numsV (((splitL 32 s).take (idxG [58] (splitL 32 s)).toNat).drop 1))))
      (fB m (kb (idxG ((splitL 32 s).getD 0 []) kwL).toNat) (kf (idxG ((splitL 32 s).getD 0 []) kwL).toNat) (l2L (kq (idxG ((splitL 32 s).getD 0 []) kwL).toNat) (kn (idxG ((splitL 32 s).getD 0 []) kwL).toNat) (numsV (((splitL 32 s).take (idxG [58] (splitL 32 s)).toNat).drop 1))))
      (fF (kf (idxG ((splitL 32 s).getD 0 []) kwL).toNat) (l2L (kq (idxG ((splitL 32 s).getD 0 []) kwL).toNat) (kn (idxG ((splitL 32 s).getD 0 []) kwL).toNat) (numsV (((splitL 32 s).take (idxG [58] (splitL 32 s)).toNat).drop 1))))
      (numsV ((splitL 32 s).drop ((idxG [58] (splitL 32 s)).toNat + 1))) := by
  unfold lineE wrdE clmE parE parC
  generalize idxG ((splitL 32 s).getD 0 []) kwL = ki
  generalize idxG [58] (splitL 32 s) = ci
  generalize ((splitL 32 s).take ci.toNat).drop 1 = w1
  generalize (splitL 32 s).drop (ci.toNat + 1) = w2
  by_cases c1 : ki < 0 ∨ ci < 0
  · simp [c1]
  · simp only [c1, if_false]
    by_cases c2 : numsE w1 = 4 ∨ numsE w2 = 4
    · simp [c2]
    · simp only [c2, if_false]
      by_cases c3 : numsE w1 ≠ 0 ∨ numsE w2 ≠ 0
      · simp only [c3, if_true]; rfl
      · simp only [c3, if_false]
        by_cases c4 : fillE m (kq ki.toNat) (kn ki.toNat) (kb ki.toNat) (kf ki.toNat) (numsV w1) ≠ 0
        · simp [c4]
        · simp only [c4, if_false]
/-- A claim without an error is right. -/
theorem par_ok {m : Nat} {s : List UInt8} (h : parE m s = 0) : 0 ≤ idxG ((splitL 32 s).getD 0 []) kwL ∧
    fillE m (kq (idxG ((splitL 32 s).getD 0 []) kwL).toNat) (kn (idxG ((splitL 32 s).getD 0 []) kwL).toNat) (kb (idxG ((splitL 32 s).getD 0 []) kwL).toNat) (kf (idxG ((splitL 32 s).getD 0 []) kwL).toNat) (numsV (((splitL 32 s).take (idxG [58] (splitL 32 s)).toNat).drop 1)) = 0 ∧
    rightE m (kq (idxG ((splitL 32 s).getD 0 []) kwL).toNat) (kn (idxG ((splitL 32 s).getD 0 []) kwL).toNat) (kl (idxG ((splitL 32 s).getD 0 []) kwL).toNat) (fQ (kq (idxG ((splitL 32 s).getD 0 []) kwL).toNat) (numsV (((splitL 32 s).take (idxG [58] (splitL 32 s)).toNat).drop 1)))
      (fQ (kn (idxG ((splitL 32 s).getD 0 []) kwL).toNat) (l1L (kq (idxG ((splitL 32 s).getD 0 []) kwL).toNat) (numsV (((splitL 32 s).take (idxG [58] (splitL 32 s)).toNat).drop 1)))) (fF (kf (idxG ((splitL 32 s).getD 0 []) kwL).toNat) (l2L (kq (idxG ((splitL 32 s).getD 0 []) kwL).toNat) (kn (idxG ((splitL 32 s).getD 0 []) kwL).toNat) (numsV (((splitL 32 s).take (idxG [58] (splitL 32 s)).toNat).drop 1)))) = 0 := by
  unfold parE parC at h
  generalize idxG ((splitL 32 s).getD 0 []) kwL = ki at *
  generalize idxG [58] (splitL 32 s) = ci at *
  generalize ((splitL 32 s).take ci.toNat).drop 1 = w1 at *
  generalize (splitL 32 s).drop (ci.toNat + 1) = w2 at *
  by_cases c1 : ki < 0 ∨ ci < 0
  · rw [if_pos c1] at h; cases h
  · rw [if_neg c1] at h
    by_cases c2 : numsE w1 = 4 ∨ numsE w2 = 4
    · rw [if_pos c2] at h; cases h
    · rw [if_neg c2] at h
      by_cases c3 : numsE w1 ≠ 0 ∨ numsE w2 ≠ 0
      · rw [if_pos c3] at h; cases h
      · rw [if_neg c3] at h
        by_cases c4 : fillE m (kq ki.toNat) (kn ki.toNat) (kb ki.toNat) (kf ki.toNat) (numsV w1) ≠ 0
        · rw [if_pos c4] at h; exact absurd h c4
        · rw [if_neg c4] at h
          exact ⟨by omega, by omega, h⟩
set_option maxRecDepth 100000 in
set_option maxHeartbeats 8000000 in
theorem r57Line_any (g : Value) (m : Nat) (es : List Tri) (s : List UInt8) (w : World) (hg : GV w g m es) (hE : Edges m es) (hm1 : 1 ≤ m) (hm : m ≤ 6) (hs : s.length ≤ 90000) :
    Calls Tryz.prog 26 #[g, strV s] w fun e w' => e = .returned (.int .i64 (lineE m es s)) ∧ Below w.heap.size w w' := by
  obtain ⟨A, c, rfl, -⟩ := hg.open_
  obtain ⟨W0, hW0⟩ : ∃ W0, W0 = w.alloc (.cells #[.int .i64 (m:Int), .slice A es.length c] 24) := ⟨_, rfl⟩
  have hb0 : Below w.heap.size w W0 := by rw [hW0]; exact below_alloc w _
  have hx0 : BL W0 w.heap.size 24 [.int .i64 (m:Int), .slice A es.length c] := by rw [hW0]; exact BL.new' w _ _
  have c0 := hx0.cell 0
  have c1 := hx0.cell 1
  have HX0 := Lib.hid hx0
  have HG0 := Lib.hid (hg.below hb0)
  have HB0 := Lib.hid hb0
  have HW0 := Lib.hid hW0
  rw [hW0] at c0 c1
  clear hg hx0 hW0
  have HP0 := Lib.hid (rParse_any _ m es s W0 HG0.out hm1 (by omega) hs)
  have HSp := Lib.hid (line_par m es s)
  have HOk0 : Hid (parE m s = 0 → _) := fun h => par_ok (m := m) (s := s) h
  have HWl : Hid ((splitL 32 s).length ≤ 90001) := by have := splitL_length 32 s; show _ ≤ _; omega
  generalize hbs : (⟨s.toArray⟩ : ByteArray) = S at *
  have hsv : strV s = .string S := by rw [← hbs]; rfl
  rw [hsv] at HP0 ⊢
  generalize lineE m es s = LE at *
  clear hbs hsv
  go_enter Tryz.func26, Tryz.ntmps26
  go_upto_region 1 with fail
  rw [← HW0.out]
  clear c0 c1
  have g0 := HX0.out.cell 0
  have g1 := HX0.out.cell 1
  go_wp2_with fail
  refine HP0.out.mono ?_
  rintro e w1 ⟨kk, Q, N, va, vb, vf, vc, rfl, hok, ⟨⟨Aa, na, ca, rfl⟩, ⟨Ab, nb, cb, rfl⟩, ⟨Af, nf, cf, rfl⟩⟩, hb1⟩
  have HOk := Lib.hid hok
  obtain ⟨W2, hW2⟩ : ∃ W2, W2 = w1.alloc (.cells #[.int .i64 kk, .int .i64 Q, .int .i64 N, .slice Aa na ca, .slice Ab nb cb, .slice Af nf cf] 91) := ⟨_, rfl⟩
  have hb2 : Below w1.heap.size w1 W2 := by rw [hW2]; exact below_alloc w1 _
  have hx2 : BL W2 w1.heap.size 91 [.int .i64 kk, .int .i64 Q, .int .i64 N, .slice Aa na ca, .slice Ab nb cb, .slice Af nf cf] := by rw [hW2]; exact BL.new' w1 _ _
  have HH2 := Lib.hid hb2
  have HX2 := Lib.hid hx2
  have HW2 := Lib.hid hW2
  have HB2 := Lib.hid ((hb1).trans (hb2.mono hb1.size))
  have HB2w := Lib.hid (HB0.out.trans (HB2.out.mono HB0.out.size))
  clear hok hb1 hb2 hx2 hW2 g0 g1
  by_cases hp : parE m s = 0
  rotate_left
  · have HR : Hid (LE = parE m s) := by show _ = _; rw [HSp.out, if_pos hp]
    have t1 : (parE m s != 0) = true := by rw [bne_iff_ne]; exact hp
    clear HSp HOk HOk0
    generalize parE m s = pe at *
    clear hp
    go_upto_region 2 with fail
    rw [← HW2.out]
    go_wp2
    go_ret
    exact ⟨ret_i HR.out.symm, HB2w.out⟩
  obtain ⟨i, l, pf, hi9, hi, hl, hpf, hlb, hpb, hkk, hQ, hN, hva, hvb, hvf, hvc⟩ := HOk.out hp
  have hpo := par_ok hp
  obtain ⟨hk0, hfi, hri⟩ := hpo
  rw [if_neg (by rw [hp]; simp), ← hi, ← hl, ← hpf, ← hQ, ← hN] at HSp
  rw [← hi, ← hl] at hfi hri
  rw [← hQ, ← hN] at hri
  have hll : l.length ≤ 90001 := by rw [hl, numsV_len]; have := HWl.out; simp; omega
  have hpl : pf.length ≤ 100000 := by rw [hpf, numsV_len]; have := HWl.out; simp; omega
  obtain ⟨hrq, hrn⟩ := right_ok hri
  have h1' := hlb.l1 (by decide) (kq i)
  have h2' := h1'.l1 (by decide) (kn i)
  have hl2 : (l2L (kq i) (kn i) l).length ≤ 90001 := by
    have q1 := l1L_len (kq i) l
    have q2 := l1L_len (kn i) (l1L (kq i) l)
    unfold l2L; omega
  have HC := Lib.hid (r57Proves_any _ (.slice Aa na ca) (.slice Ab nb cb) (.slice Af nf cf) vc m i kk Q N es _ _ _ pf W2 hi9 hkk (HG0.out.below HB2.out) (RI.below hva HH2.out) (RI.below hvb HH2.out) (RI.below hvf HH2.out) (RI.below hvc HH2.out) hE hm1 hm
    (fun h => (fill_len hfi h).1) (fun h => by
      have hkf : kf i = false := by
        unfold kb at h; unfold kf
        simp at h
        rcases h with h | h <;> subst h <;> rfl
      exact (fill_len hfi hkf).2 h) (h2'.fA (by decide) m (kb i) (kf i)) hpb hpl (by unfold fF; split <;> simp <;> omega) hrq hrn)
  rw [← HSp.out] at HC
  rw [hp]
  clear HSp HOk HOk0 hp hi9 hi hl hpf hlb hpb hkk hQ hN hva hvb hvf hvc hk0 hfi hri hll hpl hrq hrn h1' h2' hl2 hE
  go_upto_region 2 with fail
  rw [← HW2.out]
  have g0 := (HX0.out.bel HB2.out).cell 0
  have g1 := (HX0.out.bel HB2.out).cell 1
  have y0 := HX2.out.cell 0
  have y1 := HX2.out.cell 1
  have y2 := HX2.out.cell 2
  have y3 := HX2.out.cell 3
  have y4 := HX2.out.cell 4
  have y5 := HX2.out.cell 5
  go_wp2_with fail
  refine HC.out.mono ?_
  rintro e w3 ⟨rfl, hb3⟩
  have HB3 := Lib.hid (HB2w.out.trans (hb3.mono HB2w.out.size))
  clear hb3
  go_wp2
  go_ret
  exact ⟨rfl, HB3.out⟩
end Go.Proofs.YtgcnijmmjlfabaaGreatDoor

namespace Go.Proofs.YtgcnijmmjlfabaaGreatDoor
open Go.RowKit Go.Shelf

theorem few_small {n : Int} {es : List Tri} (hf : fewB n es = true) (h0 : ofE n es = 0) : ∃ m : Nat, n = m ∧ 1 ≤ m ∧ m ≤ 6 ∧ Edges m es := by
  obtain ⟨hgc, -⟩ := ofE_ok h0
  have h6 := (fewB_sm hf hgc).1
  obtain ⟨m, rfl, hm1, -, hE⟩ := gcheckE_zero hgc
  exact ⟨m, rfl, hm1, by omega, hE⟩
theorem lineOk58 : LineOk := fun g n es s W hg h0 hf hs => by
  obtain ⟨m, rfl, hm1, hm, hE⟩ := few_small hf h0
  exact r57Line_any g m es s W hg hE hm1 hm (by omega)
set_option maxRecDepth 100000 in
set_option maxHeartbeats 8000000 in
theorem linesLaw_any (g : Value) (n : Int) (es : List Tri) (s : List UInt8) (w : World) (hg : GV w g n es) (hlv : LV w) :
    Calls Tryz.prog 3 #[g, strV s] w fun e w' => e = .returned (.bool true) ∧ Below w.heap.size w w' := by
  obtain ⟨A, c, rfl, -⟩ := hg.open_
  obtain ⟨W0, hW0⟩ : ∃ W0, W0 = w.alloc (.cells #[.int .i64 n, .slice A es.length c] 24) := ⟨_, rfl⟩
  have hb0 : Below w.heap.size w W0 := by rw [hW0]; exact below_alloc w _
  have hx0 : BL W0 w.heap.size 24 [.int .i64 n, .slice A es.length c] := by rw [hW0]; exact BL.new' w _ _
  have c0 := hx0.cell 0
  have c1 := hx0.cell 1
  have HX0 := Lib.hid hx0
  have HG0 := Lib.hid (hg.below hb0)
  have HB0 := Lib.hid hb0
  have HW0 := Lib.hid hW0
  rw [hW0] at c0 c1
  clear hg hx0 hW0
  have HFw := Lib.hid (rFew8_any _ n es W0 HG0.out)
  have HLo : Hid (∀ W, Calls Tryz.prog 8 #[strV s] W fun e w' => e = .returned (.bool (longB s)) ∧ W = w') := fun W => long_any s W
  have HAw : Hid (∀ W, Below W0.heap.size W0 W → Calls Tryz.prog 9 #[] W fun e w' => e = .returned (.bool true) ∧ Below W.heap.size W w') := fun W h => awake58_any W ((hlv.below hb0).below h)
  have HL1 : Hid (fewB n es = true → ∀ W, Below W0.heap.size W0 W → Calls Tryz.prog 10 #[.agg #[.int .i64 n, .slice A es.length c], strV s] W fun e w' => e = .returned (.int .i64 (LineE n es s)) ∧ Below W.heap.size W w') := fun hf W h =>
    kLn_any _ n es s W (HG0.out.below h) ((hlv.below hb0).below h) (fun h0 => by obtain ⟨m, rfl, -, h6, -⟩ := few_small hf h0; omega)
  have HL2 : Hid (fewB n es = true → ∀ W, Below W0.heap.size W0 W → Calls Tryz.prog 11 #[.agg #[.int .i64 n, .slice A es.length c], strV s] W fun e w' => e = .returned (.int .i64 (LineE n es s)) ∧ Below W.heap.size W w') := fun hf W h =>
    r58Line_any _ n es s W (HG0.out.below h) fun W' hg' h0 hs' => lineOk58 _ n es s W' hg' h0 hf hs'
  have HS0 : Hid (∀ W, Below W0.heap.size W0 W → (fun W : World => W.cell? ⟨w.heap.size, 0, none⟩ = some (.int .i64 n) ∧ W.cell? ⟨w.heap.size, 1, none⟩ = some (.slice A es.length c)) W) := fun W h => ⟨(HX0.out.bel h).cell 0, (HX0.out.bel h).cell 1⟩
  have g0 := HX0.out.cell 0
  have g1 := HX0.out.cell 1
  clear hlv hb0
  rw [show strV s = .string ⟨s.toArray⟩ from rfl] at HLo HL1 HL2 ⊢
  generalize (⟨s.toArray⟩ : ByteArray) = S at *
  generalize fewB n es = fw at *
  generalize longB s = lo at *
  generalize LineE n es s = LE at *
  go_enter Tryz.func3, Tryz.ntmps3
  go_upto_region 1 with fail
  rw [← HW0.out]
  clear c0 c1
  go_wp2_with fail
  refine HFw.out.mono ?_
  rintro e w1 ⟨rfl, hb1⟩
  have HB1 := Lib.hid hb1
  have HB1w := Lib.hid (HB0.out.trans (hb1.mono HB0.out.size))
  clear hb1 g0 g1
  cases fw
  · go_wp2_with fail
    refine (HAw.out w1 HB1.out).mono ?_
    rintro e w2 ⟨rfl, hb2⟩
    have HB2 := Lib.hid (HB1w.out.trans (hb2.mono HB1w.out.size))
    clear hb2
    go_wp2
    go_ret
    exact ⟨rfl, HB2.out⟩
  go_wp2_with fail
  refine (HLo.out w1).mono ?_
  rintro e w2 ⟨rfl, rfl⟩
  cases lo
  rotate_left
  · go_wp2_with fail
    refine (HAw.out w1 HB1.out).mono ?_
    rintro e w2 ⟨rfl, hb2⟩
    have HB2 := Lib.hid (HB1w.out.trans (hb2.mono HB1w.out.size))
    clear hb2
    go_wp2
    go_ret
    exact ⟨rfl, HB2.out⟩
  have HA1 := Lib.hid (HL1.out (by first | rfl | trivial))
  have HA2 := Lib.hid (HL2.out (by first | rfl | trivial))
  have HBc := Lib.hid HB1.out.drew
  have HSc := Lib.hid (HS0.out w1.drew HBc.out)
  have te : (LE == LE) = true := by simp
  clear HL1 HL2
  go_wp2_with fail
  go_region_held3 (fun W : World => W.cell? ⟨w.heap.size, 0, none⟩ = some (.int .i64 n) ∧ W.cell? ⟨w.heap.size, 1, none⟩ = some (.slice A es.length c)) (first | exact HSc.out)
    (first
      | (go_at_call 10; (with_reducible refine (HA1.out _ HBc.out).mono ?_); rintro e w2 ⟨rfl, hb2⟩; have HBn := Lib.hid (HBc.out.trans (hb2.mono HBc.out.size)); clear HBc HSc hb2; have HBc := HBn; have HSc := Lib.hid (HS0.out _ HBc.out); clear HBn)
      | (go_at_call 11; (with_reducible refine (HA2.out _ HBc.out).mono ?_); rintro e w3 ⟨rfl, hb3⟩; have HBn := Lib.hid (HBc.out.trans (hb3.mono HBc.out.size)); clear HBc HSc hb3; have HBc := HBn; have HSc := Lib.hid (HS0.out _ HBc.out); clear HBn)
      | (go_at_call 9; (with_reducible refine (HAw.out _ HBc.out).mono ?_); rintro e w4 ⟨rfl, hb4⟩; have HBn := Lib.hid (HBc.out.trans (hb4.mono HBc.out.size)); clear HBc HSc hb4; have HBc := HBn; have HSc := Lib.hid (HS0.out _ HBc.out); clear HBn))
  all_goals
    have HBz := Lib.hid (HB0.out.trans (HBc.out.mono HB0.out.size))
    go_wp2
    go_ret
    exact ⟨rfl, HBz.out⟩
end Go.Proofs.YtgcnijmmjlfabaaGreatDoor

namespace Go.Proofs.YtgcnijmmjlfabaaGreatDoor
open Go.ChangeShapes Go.WideShapes Go.ChangeAt Go.RowKit Go.Shelf

theorem own_ : ownKnob Tryz.prog.godebug = none := by kernel_rfl
theorem laidOut_ : laidOutB Tryz.prog = true := by kernel_rfl
theorem block_lt_of_cell' {W : World} {a : Addr} {v : Value} (h : W.cell? a = some v) : a.block < W.heap.size := by
  rcases Nat.lt_or_ge a.block W.heap.size with h' | h'
  · exact h'
  · simp [World.cell?, Array.getElem?_eq_none h'] at h

theorem cellsEdge_ : Tryz.prog.cellsOf 52 = 3 := by kernel_rfl
theorem bytesEdge_ : Tryz.prog.bytesOf 52 = 24 := by kernel_rfl
/-- A list of what there is for each number. -/
theorem list_of {α : Type} (l : Nat) (p : Nat → α → Prop) (h : ∀ i, i < l → ∃ t, p i t) : ∃ L : List α, L.length = l ∧ ∀ k t, L[k]? = some t → p k t := by
  induction l with
  | zero => exact ⟨[], rfl, fun k t hk => by simp at hk⟩
  | succ l ih =>
    obtain ⟨L, h1, h2⟩ := ih fun i hi => h i (by omega)
    obtain ⟨t, ht⟩ := h l (by omega)
    refine ⟨L ++ [t], by simp [h1], fun k u hk => ?_⟩
    by_cases hkl : k < L.length
    · rw [List.getElem?_append_left hkl] at hk; exact h2 k u hk
    · rw [List.getElem?_append_right (by omega)] at hk
      by_cases e : k = L.length
      · subst e
        simp only [Nat.sub_self, List.getElem?_cons_zero, Option.some.injEq] at hk
        rw [h1, ← hk]; exact ht
      · rw [List.getElem?_eq_none (by simp; omega)] at hk; cases hk
/-- A struct of three ints out of its three cells. -/
theorem edge_of' {H : Type} {enc : TypeId × Value → H} {P : Program} {W : World} {e : TypeId} {f0 f1 f2 : Field} (hu : P.underlying e = some (.struct #[f0, f1, f2])) (hone : Go.Deep.oneCellFields P #[f0, f1, f2] = true) (hC : P.cellsOf e = 3)
    (t0 : P.underlying f0.type = some (.int .i64)) (t1 : P.underlying f1.type = some (.int .i64)) (t2 : P.underlying f2.type = some (.int .i64)) {n : Nat} {cs : List Value} {x : DataW H × List MemPlace} (h : DataW.trod enc P W 0 (fun _ => true) true n e cs = some x) :
    ∃ a b m : Int, cs = [.int .i64 a, .int .i64 b, .int .i64 m] := by
  obtain ⟨xs, k, -, -, hl, hxl, hf⟩ := DataW.trod_struct hu h
  rw [hC] at hl
  obtain ⟨o0, k0⟩ := Go.Deep.hone_of hone 0 f0 rfl
  obtain ⟨o1, k1⟩ := Go.Deep.hone_of hone 1 f1 rfl
  obtain ⟨o2, k2⟩ := Go.Deep.hone_of hone 2 f2 rfl
  match cs, hl with
  | [c0, c1, c2], _ =>
    match xs, hxl with
    | [y0, y1, y2], _ =>
      have h0 := hf 0 f0 rfl
      have h1 := hf 1 f1 rfl
      have h2 := hf 2 f2 rfl
      simp only [o0, k0, o1, k1, o2, k2, List.drop_zero, List.drop_succ_cons, List.take_succ_cons, List.take_zero, List.getElem?_cons_zero, List.getElem?_cons_succ] at h0 h1 h2
      obtain ⟨a, ha, -, -⟩ := DataW.trod_int t0 h0
      obtain ⟨b, hb, -, -⟩ := DataW.trod_int t1 h1
      obtain ⟨m, hm, -, -⟩ := DataW.trod_int t2 h2
      simp only [List.cons.injEq, and_true] at ha hb hm
      exact ⟨a, b, m, by rw [ha, hb, hm]⟩
set_option maxRecDepth 100000 in
theorem edge_of {H : Type} {enc : TypeId × Value → H} {W : World} {n : Nat} {cs : List Value} {x : DataW H × List MemPlace} (h : DataW.trod enc Tryz.prog W 0 (fun _ => true) true n 52 cs = some x) : ∃ a b m : Int, cs = [.int .i64 a, .int .i64 b, .int .i64 m] :=
  edge_of' Tryz.underlying52 (by kernel_rfl) cellsEdge_ Tryz.underlying3 Tryz.underlying3 Tryz.underlying3 h
set_option maxRecDepth 100000 in
theorem open_graph {H : Type} {enc : TypeId × Value → H} {W : World} {base : Nat} {v : Value} {d : DataW H} {p : List MemPlace} (hv : Value.okWide Tryz.prog W .any base 24 v)
    (h : DataW.Trod enc Tryz.prog W 0 (fun _ => true) true 24 v d p) (hs : ∀ y elems spare, d = .agg [y, .slice elems spare] → (elems.length + spare.length) * 24 ≤ 140737488351232) : ∃ n es, GV W v n es := by
  obtain ⟨v0, v1, y0, y1, n, rfl, rfl, -, h0, h1⟩ := Go.Joins.open_agg2 Tryz.underlying24 (by kernel_rfl) (by kernel_rfl) hv h
  obtain ⟨z, hz, -, -⟩ := DataW.trod_int Tryz.underlying3 h0
  simp only [List.cons.injEq, and_true] at hz
  subst hz
  refine ⟨z, ?_⟩
  rcases Go.Deep.open_slice Tryz.underlying22 h1 with ⟨hcs, -⟩ | ⟨a, len, cap, m, k, D, Pl, hcs, -, hl, -, hm, hx, hi⟩
  · simp only [List.cons.injEq, and_true] at hcs
    subst hcs
    exact ⟨[], _, rfl, none, 0, rfl, Nat.zero_le _, by decide, fun k hk => by simp at hk⟩
  · simp only [List.cons.injEq, and_true] at hcs
    subst hcs
    simp only [if_true] at hm
    have hreach := hs _ _ _ (by rw [hx])
    simp only [List.length_map, List.length_range] at hreach
    obtain ⟨es, hel, hes⟩ := list_of (α := Tri) len (fun i t => W.cell? (a.add (i * 3)) = some (.int .i64 t.1) ∧ W.cell? ⟨(a.add (i * 3)).block, (a.add (i * 3)).off + 1, none⟩ = some (.int .i64 t.2.1) ∧ W.cell? ⟨(a.add (i * 3)).block, (a.add (i * 3)).off + 2, none⟩ = some (.int .i64 t.2.2)) fun i hil => by
      obtain ⟨cs', hc, ht⟩ := hi i (by omega)
      rw [cellsEdge_] at hc
      obtain ⟨x, y, q, rfl⟩ := edge_of ht
      obtain ⟨_, _, hat⟩ := World.cells?_some hc
      have a0 := hat 0 (by omega)
      have a1 := hat 1 (by omega)
      have a2 := hat 2 (by omega)
      simp only [List.getElem?_cons_zero, List.getElem?_cons_succ] at a0 a1 a2
      rw [show (a.add (i * 3)).add 0 = a.add (i * 3) by simp [Addr.add]] at a0
      rw [show (a.add (i * 3)).add 1 = ⟨(a.add (i * 3)).block, (a.add (i * 3)).off + 1, none⟩ by simp [Addr.add]] at a1
      rw [show (a.add (i * 3)).add 2 = ⟨(a.add (i * 3)).block, (a.add (i * 3)).off + 2, none⟩ by simp [Addr.add]] at a2
      exact ⟨(x, y, q), a0, a1, a2⟩
    refine ⟨es, _, rfl, some a, cap, by rw [hel], by omega, by omega, fun k hk => ?_⟩
    obtain ⟨c0, c1, c2⟩ := hes k es[k] (List.getElem?_eq_getElem hk)
    exact ⟨a, es[k].1, es[k].2.1, es[k].2.2, rfl, by have := block_lt_of_cell' c0; rwa [block_of_add] at this, List.getElem?_eq_getElem hk, c0, c1, c2⟩
set_option maxRecDepth 100000 in
theorem sized_graph {H : Type} {ts : List TypeId} {ds : List (DataW H)} (hsz : (DataW.weightsEach Tryz.prog ts ds).all (· ≤ reachBytes) = true) {j : Nat} {d : DataW H} (ht : ts[j]? = some 24) (hd : ds[j]? = some d) :
    ∀ y elems spare, d = .agg [y, .slice elems spare] → (elems.length + spare.length) * 24 ≤ 140737488351232 := by
  intro y elems spare e
  subst e
  have := List.all_eq_true.1 hsz _ (DataW.weights_mem_each ht hd ((elems.length + spare.length) * Tryz.prog.bytesOf 52) (by simp [DataW.weights, DataW.weightsEach, Tryz.underlying24, Tryz.underlying22]))
  have h2 := of_decide_eq_true this
  rw [bytesEdge_] at h2
  simp only [reachBytes] at h2
  omega
end Go.Proofs.YtgcnijmmjlfabaaGreatDoor

namespace Go.Proofs.YtgcnijmmjlfabaaGreatDoor
open Go.ChangeShapes Go.WideShapes Go.ChangeAt Go.RowKit Go.Shelf

/-- A row that lists variables, with the world's shape for the contract. -/
theorem returns_laid_shaped {H : Type} {enc : TypeId × Value → H} {a : Assume} {C : Checked} {os : Os} {f : FuncId} {fn : Func} {s : ChangeSpec} {conds : List PathCond} {apart fresh handsOn again : Bool} {X : World → Array Value → Prop}
    (hX : ∀ (w w' : World) (args : Array Value), w.heap = w'.heap → X w args → X w' args)
    (own : ownKnob C.prog.godebug = none) (started : os.Started) (noInit : C.prog.inits.idxOf? f = none) (hfn : C.prog.funcs[f]? = some fn)
    (witness : ∃ (w : World) (tape : Tape) (i : Input), w.os = os ∧ (w.forCall tape i).Shaped C.prog ∧ i.vars = [] ∧ Input.okWide C.prog (w.forCall tape i) .any w.heap.size f i ∧
      ((s.pre enc C.prog fn conds apart (w.forCall tape i).memory i.args ∧ X (w.forCall tape i).memory i.args) ∧ sizedMet enc C.prog fn (OpenSpec.ofChange s) apart (w.forCall tape i).memory i.args) ∧ a.holds C.prog (lone (Frame.enter C.prog f i.args .normal) [] (w.forCall tape i)))
    (contract : ∀ (W : World) (base : Nat) (args : Array Value) (ds gs : List (DataW H)) (before : List MemPlace),
      (∀ (j : Nat) t v, fn.params[j]? = some t → args[j]? = some v → Value.okWide C.prog W .any base t v) →
      DataW.Whole enc C.prog fn.params.toList s.vars apart W args.toList ds gs before →
      (DataW.weightsEach C.prog (fn.params.toList ++ s.plain.varTypes C.prog) (ds ++ gs)).all (· ≤ reachBytes) = true → X W args → W.ShapedOpen C.prog →
      Calls C.prog f args W fun e W' => ∃ v, e = .returned v ∧ s.post enc C.prog fn apart fresh handsOn again W args v W') :
    ReturnsInHanded a C os f .any (fun w args => (s.pre enc C.prog fn conds apart w args ∧ X w args) ∧ sizedMet enc C.prog fn (OpenSpec.ofChange s) apart w args) (s.post enc C.prog fn apart fresh handsOn again) := by
  refine returnsInHanded_of_calls own started noInit witness ?_
  intro w tape i _ hsh _ hok hpre _
  obtain ⟨_, _, _, fn', hfn', _, _, _, _, hval⟩ := hok
  have e : fn' = fn := Option.some.inj (hfn'.symm.trans hfn)
  subst e
  obtain ⟨⟨⟨ds, gs, before, hw, -⟩, hx⟩, hz⟩ := hpre
  have hw' := DataW.Whole.of_heap (w' := w.forCall tape i) (by rfl) hw
  refine (contract (w.forCall tape i) w.heap.size i.args ds gs before hval hw' (hz.weights hw) (hX _ _ _ (by rfl) hx) hsh).mono fun e W' ⟨v, he, hp⟩ => ?_
  subst he
  exact ChangeSpec.post_blind hp
theorem gRange_ : Tryz.prog.globalNamed "strconv.ErrRange" = some 2 := by kernel_rfl
theorem tRange_ : (Tryz.prog.globals[2]?).map (·.type) = some 113 := by kernel_rfl
theorem star_ : "*errors.errorString" = "*" ++ "errors.errorString" := by decide
theorem rowErr_ : ∀ u, Tryz.prog.typeName? 3 u = some "*errors.errorString" → u = 207 := fun u h =>
  typeName_ptr_named (nm := "errors.errorString") (by rw [← star_]; kernel_rfl) (by kernel_rfl) (by decide) u (by rw [← star_]; exact h)
/-- The listed data. -/
abbrev laid58 : List (String × DataW Unit) := Rows.checkerLinesRow.laid
theorem lv_of_laid {W : World} (hL : laidMetH Tryz.prog laid58 W) (hsh : W.ShapedOpen Tryz.prog) : LV W := by
  rw [MakeChecks.laidMetH_plain _ _ _ (by kernel_rfl)] at hL
  refine ⟨cell_of_shapedOpen_int (P := Tryz.prog) (g := 0) (t := 3) (zero := #[.int .i64 0]) hsh (of_decide_eq_true (by kernel_rfl)) (by kernel_rfl) rfl (by kernel_rfl) (by kernel_rfl) Tryz.underlying3, ?_⟩
  have h4 := hL.tail.tail.tail.tail
  obtain ⟨a, s, hv, -, -, -⟩ := laid_sentinel h4 gRange_ tRange_ Tryz.underlying113 rowErr_ Tryz.underlying207 Tryz.underlying209 rfl rfl Tryz.underlying9 (by kernel_rfl) (by kernel_rfl)
  have hc := World.var?_cell gRange_ hv 0
  exact ⟨_, by simpa using hc, .inr ⟨_, _, rfl⟩⟩
end Go.Proofs.YtgcnijmmjlfabaaGreatDoor

