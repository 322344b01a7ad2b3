/- Contract of the reference's Accept (layer 58), from that of layer 57's Line.
   Contract of the reference's fact (layer 58); the first line of a whole log is what the law cuts off.
   Contracts of the reference's times and diagonal.
   Contract of the reference's Burns. -/
import Derived.Test.YtgcnijmmjlfabaaGreatDoorK25
set_option maxRecDepth 100000
set_option maxHeartbeats 16000000
namespace Go.Proofs.YtgcnijmmjlfabaaGreatDoor
open Go.RowKit Go.Shelf

/-- What is asked of ref57.Line. -/
def LineOk : Prop := ∀ (g : Value) (n : Int) (es : List Tri) (s : List UInt8) (W : World), GV W g n es → ofE n es = 0 → fewB n es = true → s.length ≤ 65536 →
  Calls Tryz.prog 26 #[g, strV s] W fun e w' => e = .returned (.int .i64 (lineE n.toNat es s)) ∧ Below W.heap.size W w'
theorem rAccept_any (HLine : LineOk) (s : List UInt8) (w : World) (h6 : linesE s = 0 → hdE (hd0 s) = 0 → fewB (hdN (hd0 s)) (hdT (hd0 s)) = true) :
    Calls Tryz.prog 14 #[strV s] w fun e w' => e = .returned (.tuple #[.int .i64 (acceptP s).1, .int .i64 (acceptP s).2]) ∧ Below w.heap.size w w' := by
  have HLi := Lib.hid (rLines_any s w)
  have HLn := Lib.hid HLine
  have HR0 : Hid (acceptP s = if (accP s).2 ≠ 0 then accP s else ((((linesV s).drop 1).length : Int), 0)) := rfl
  by_cases h1 : linesE s ≠ 0
  · have hR : Hid (acceptP s = (linesN s, linesE s)) := by
      have h : accP s = (linesN s, linesE s) := by unfold accP; rw [if_pos h1]
      show _ = _; rw [HR0.out, h, if_pos h1]
    have t1 : (linesE s != 0) = true := by simpa using h1
    generalize acceptP s = AP at *
    generalize linesE s = E at *
    generalize linesN s = N at *
    generalize linesV s = V at *
    clear h1 h6 HR0
    go_enter Tryz.func14, Tryz.ntmps14
    go_wp2_with fail
    refine HLi.out.mono ?_
    rintro e w1 ⟨v1, rfl, -, hb1⟩
    have HB1 := Lib.hid hb1
    clear hb1 HLi
    go_wp2
    go_ret2
    exact ⟨by rw [hR.out]; rfl, HB1.out⟩
  have h10 : linesE s = 0 := by omega
  have hsl := lines_s h10
  have hln := lines_len h10
  have HM : Hid (∀ x ∈ linesV s, x.length ≤ 65536) := fun x hx => Nat.le_trans (lines_mem hx) hsl
  have hac : accP s = if hdE (hd0 s) ≠ 0 then (0, hdE (hd0 s)) else badF (accF s) 1 ((linesV s).drop 1) := by unfold accP; rw [if_neg h1]
  have HF : Hid (accF s = lineE (hdN (hd0 s)).toNat (hdT (hd0 s))) := rfl
  have h0m : hd0 s ∈ linesV s := by unfold hd0; rw [List.getD_eq_getElem?_getD, List.getElem?_eq_getElem (show 0 < (linesV s).length by omega)]; exact List.getElem_mem _
  have hhd : (hd0 s).length ≤ 65536 := HM.out _ h0m
  have h0e : hd0 s = (linesV s).getD 0 [] := rfl
  have HHd : Hid (∀ W : World, Calls Tryz.prog 28 #[strV ((linesV s).getD 0 [])] W fun e w' => ∃ v, e = .returned (.tuple #[v, .int .i64 (hdE (hd0 s))]) ∧ (hdE (hd0 s) = 0 → GV w' v (hdN (hd0 s)) (hdT (hd0 s))) ∧ (∃ (z : Int) (A : Option Addr) (l c : Nat), v = .agg #[.int .i64 z, .slice A l c]) ∧ Below W.heap.size W w') := fun W => by rw [← h0e]; exact rHead_any (hd0 s) W (by omega)
  have HOf : Hid (hdE (hd0 s) = 0 → ofE (hdN (hd0 s)) (hdT (hd0 s)) = 0 ∧ fewB (hdN (hd0 s)) (hdT (hd0 s)) = true) := fun h => by
    have h7 := h6 h10 h
    refine ⟨?_, h7⟩
    unfold hdE at h
    split at h
    · cases h
    · split at h
      · rename_i hh; exact absurd h hh
      · exact h
  have HLen : Hid ((linesV s).length ≤ 70000) := by
    have h2 := splitL_length 10 s
    show _ ≤ _
    unfold linesV
    rw [List.length_take]
    omega
  rw [hac] at HR0
  rw [h10] at HLi
  generalize acceptP s = AP at *
  generalize hdE (hd0 s) = E at *
  generalize hdN (hd0 s) = n at *
  generalize hdT (hd0 s) = es at *
  generalize accF s = f at *
  generalize linesN s = nn at *
  clear h6 h1 h0m hhd h0e h10 hsl hac
  generalize linesV s = ls at *
  go_enter Tryz.func14, Tryz.ntmps14
  go_wp2_with fail
  refine HLi.out.mono ?_
  rintro e w1 ⟨v1, rfl, hr1, hb1⟩
  have hr1' := hr1 trivial
  obtain ⟨A, c, rfl, hlc, hcl⟩ := hr1'.open_
  obtain ⟨ad, rfl, had, hc0⟩ := hcl 0 (by omega)
  rw [add_zero'] at hc0
  have HR1 := Lib.hid hr1'
  have HB1 := Lib.hid hb1
  have HHd1 := Lib.hid (HHd.out w1)
  have hl0 : (0 : Int) < (ls.length : Int) := by omega
  clear hr1 hr1' hb1 HHd HLi hcl
  go_wp2_with fail
  refine HHd1.out.mono ?_
  rintro e w2 ⟨v2, rfl, hg2, ⟨z, A2, l2, c2, rfl⟩, hb2⟩
  have HB2 := Lib.hid (HB1.out.trans (hb2.mono HB1.out.size))
  obtain ⟨W3, hW3⟩ : ∃ W3, W3 = w2.alloc (.cells #[.int .i64 z, .slice A2 l2 c2] 24) := ⟨_, rfl⟩
  have hb3 : Below w2.heap.size w2 W3 := by rw [hW3]; exact below_alloc w2 _
  have hx3 : BL W3 w2.heap.size 24 [.int .i64 z, .slice A2 l2 c2] := by rw [hW3]; exact BL.new' w2 _ _
  have HX3 := Lib.hid hx3
  have HB3 := Lib.hid (HB2.out.trans (hb3.mono HB2.out.size))
  have HG3 : Hid (E = 0 → GV W3 (.agg #[.int .i64 z, .slice A2 l2 c2]) n es) := fun h => (hg2 h).below hb3
  have HR3 := Lib.hid ((HR1.out.below hb2).below hb3)
  have HW3 := Lib.hid hW3
  clear hg2 hb2 hb3 hx3 hW3 HHd1 HR1
  go_upto_region 5 with fail
  rw [← HW3.out]
  by_cases hE : E ≠ 0
  · have hR1 : Hid (AP = (0, E)) := by show _ = _; rw [HR0.out, if_pos hE]; exact if_pos hE
    have t1 : (E != 0) = true := by simpa using hE
    clear hE HR0 HOf
    go_wp2
    go_ret2
    exact ⟨by rw [hR1.out]; rfl, HB3.out⟩
  have hE0 : E = 0 := by omega
  have HR1 : Hid (AP = if (badF f 1 (ls.drop 1)).2 ≠ 0 then badF f 1 (ls.drop 1) else (((ls.drop 1).length : Int), 0)) := by
    show _ = _
    rw [HR0.out, if_neg hE]
  obtain ⟨hof, hfw⟩ := HOf.out hE0
  have HOf0 := Lib.hid hof
  have HFw := Lib.hid hfw
  have HGV := Lib.hid (HG3.out hE0)
  rw [hE0]
  have HLs : Hid ((ls.drop 1).length = ls.length - 1) := by show _ = _; simp
  obtain ⟨A', c', he, hlc', hcl'⟩ := HR3.out.open_
  simp only [Value.slice.injEq] at he
  obtain ⟨rfl, -, rfl⟩ := he
  have HCl := Lib.hid hcl'
  have HLg := Lib.hid (show 1 ≤ ls.length from hln)
  clear hE hE0 HR0 HOf hof hfw HG3 hcl' hc0 hlc'
  go_wp2_with fail
  go_loopw [8] (fun i wr => ∃ k : Nat, 1 ≤ k ∧ k ≤ ls.length ∧ i = .int .i64 (k : Int) ∧ Hid (badF f 1 (ls.drop 1) = badF f k (ls.drop k)) ∧ Hid (Below W3.heap.size W3 wr)) (fun i _ => ls.length - (intOf i).toNat)
  case atStart => exact ⟨1, Nat.le_refl _, hln, rfl, rfl, Below.refl _ _⟩
  case round =>
    obtain ⟨k, hk1, hk, rfl, hb, hw⟩ := hrel
    by_cases hlt : k < ls.length
    · obtain ⟨_, e0, hab, hck⟩ := HCl.out k hlt
      cases e0
      have hx : ls[k]? = some (ls.getD k []) := by rw [List.getD_eq_getElem?_getD, List.getElem?_eq_getElem hlt]; rfl
      have hxl := HM.out _ (List.mem_of_getElem? hx)
      have hdr : ls.drop k = ls.getD k [] :: ls.drop (k + 1) := drop_at hx
      have HBw := Lib.hid (HB3.out.trans (hw.out.mono HB3.out.size))
      have hbe : badF f k (ls.getD k [] :: ls.drop (k + 1)) = if f (ls.getD k []) ≠ 0 then ((k : Int), f (ls.getD k [])) else badF f (k + 1) (ls.drop (k + 1)) := rfl
      have HBe : Hid (badF f 1 (ls.drop 1) = if lineE n.toNat es (ls.getD k []) ≠ 0 then ((k : Int), lineE n.toNat es (ls.getD k [])) else badF f (k + 1) (ls.drop (k + 1))) := by
        show _ = _
        rw [hb.out, hdr, hbe, HF.out]
      have HLk := Lib.hid (HLn.out _ n es (ls.getD k []) wr.drew ((HGV.out.below hw.out).below (Below.refl _ _).drew) HOf0.out HFw.out hxl)
      generalize lineE n.toNat es (ls.getD k []) = le at *
      generalize ls.getD k [] = x at *
      have HKK : Hid (∀ W : World, Below W3.heap.size W3 W → (fun W : World => W.cell? ⟨w2.heap.size, 0, none⟩ = some (.int .i64 z) ∧ W.cell? ⟨w2.heap.size, 1, none⟩ = some (.slice A2 l2 c2) ∧ W.cell? (ad.add k) = some (strV x)) W) := fun W hW =>
        ⟨(HX3.out.bel hW).cell 0, (HX3.out.bel hW).cell 1, (hW.cell (p := ad.add k) (by rw [block_of_add]; exact hab)).trans hck⟩
      have HS0 := Lib.hid (HKK.out wr.drew hw.out.drew)
      have HW := Lib.hid hw.out
      clear hb hbe hdr hx hxl hck hab hw
      go_wp2_with fail
      go_region_held3 (fun W : World => W.cell? ⟨w2.heap.size, 0, none⟩ = some (.int .i64 z) ∧ W.cell? ⟨w2.heap.size, 1, none⟩ = some (.slice A2 l2 c2) ∧ W.cell? (ad.add k) = some (strV x)) (first | exact HS0.out | exact HS4.out)
        (first | (go_at_call 26; refine HLk.out.mono ?_; rintro e w4 ⟨rfl, hb4⟩; have HW4 := Lib.hid (HW.out.drew.trans (hb4.mono HW.out.drew.size)); have HS4 := Lib.hid (HKK.out w4 HW4.out); clear hb4))
      have HB5 := Lib.hid (HB3.out.trans (HW4.out.mono HB3.out.size))
      clear HS0 HS4 HKK HLk
      by_cases hle : le ≠ 0
      · have hR2 : Hid (AP = ((k : Int), le)) := by show _ = _; rw [HR1.out, HBe.out, if_pos hle]; exact if_pos hle
        have t1 : (le != 0) = true := by simpa using hle
        clear hle HBe HR1
        go_wp2
        go_ret2
        exact ⟨by rw [hR2.out]; rfl, HB5.out⟩
      · have HN : Hid (badF f 1 (ls.drop 1) = badF f (k + 1) (ls.drop (k + 1))) := by show _ = _; rw [HBe.out, if_neg hle]
        obtain rfl : le = 0 := by omega
        have hkb : k < 9223372036854775000 := by have := HLen.out; omega
        clear hle HBe
        go_wp2
        go_roundw
        case rel => exact ⟨k + 1, by omega, by omega, by go_num, HN.out, HW4.out⟩
        case measure => simp [intOf]; omega
    · have hd : ls.drop k = [] := List.drop_of_length_le (by omega)
      have hAP : Hid (AP = (((ls.length : Int) - 1), 0)) := by
        show _ = _
        rw [HR1.out, hb.out, hd, HLs.out]
        show (if (0 : Int) ≠ 0 then _ else _) = _
        rw [if_neg (by decide)]
        congr 1
        omega
      have HB9 := Lib.hid (HB3.out.trans (hw.out.mono HB3.out.size))
      have hlb : (ls.length : Int) ≤ 70000 := by have := HLen.out; omega
      clear hd hb
      go_wp2
      go_ret2
      exact ⟨by rw [hAP.out]; rfl, HB9.out⟩
end Go.Proofs.YtgcnijmmjlfabaaGreatDoor

namespace Go.Proofs.YtgcnijmmjlfabaaGreatDoor
open Go.RowKit Go.Shelf

theorem occ2 (s : List UInt8) (k : Nat) (h : k + 1 < s.length) : Go.Lib.occAt s [32, 58] k = (decide ((s[k]'(by omega)).toNat = 32) && decide (s[k + 1].toNat = 58)) := by
  unfold Go.Lib.occAt
  rw [List.drop_eq_getElem_cons (show k < s.length by omega), List.drop_eq_getElem_cons h]
  have e1 : ∀ (a b : UInt8), (a == b) = decide (b.toNat = a.toNat) := fun a b => by
    rw [Bool.eq_iff_iff]
    simp only [beq_iff_eq, decide_eq_true_eq]
    exact ⟨fun h => by rw [h], fun h => (UInt8.toNat_inj.1 h).symm⟩
  show ((32 : UInt8) == s[k]'(by omega) && ((58 : UInt8) == s[k + 1] && true)) = _
  rw [e1, e1, Bool.and_true]
  rfl
theorem occ2_end (s : List UInt8) (k : Nat) (h : s.length ≤ k + 1) : Go.Lib.occAt s [32, 58] k = false := by
  rcases hc : Go.Lib.occAt s [32, 58] k with _ | _
  · rfl
  · rcases Go.Lib.occAt_room hc with h1 | h1
    · simp at h1; omega
    · cases h1
theorem fact_at (s : List UInt8) (k : Nat) (hk : k ≤ s.length) (h : ∀ j, j < k → Go.Lib.occAt s [32, 58] j = false) (hc : Go.Lib.occAt s [32, 58] k = true) : factL s = s.take k := by
  have h1 := Go.Lib.index_first hk hc h
  unfold factL Go.Lib.cut
  rw [h1, if_pos (by omega)]
  rfl
theorem fact_no (s : List UInt8) (k : Nat) (hk : s.length ≤ k + 1) (h : ∀ j, j < k → Go.Lib.occAt s [32, 58] j = false) : factL s = s := by
  have h1 : Go.Lib.index s [32, 58] = -1 := Go.Lib.index_none fun j _ => by
    by_cases hj : j < k
    · exact h j hj
    · exact occ2_end s j (by omega)
  unfold factL Go.Lib.cut
  rw [h1]
  rfl
theorem rFact_any (s : List UInt8) (w : World) (hs : s.length ≤ 1000000) : Calls Tryz.prog 31 #[strV s] w fun e w' => e = .returned (strV (factL s)) ∧ w' = w := by
  obtain ⟨B, hB⟩ : ∃ B : ByteArray, B = ⟨s.toArray⟩ := ⟨_, rfl⟩
  have hsz : B.size = s.length := by rw [hB]; exact ba_size s
  have hex : ∀ k, B.extract 0 k = ⟨(s.take k).toArray⟩ := fun k => by rw [hB]; exact extract_take s k
  have hO : Hid (∀ (k : Nat) (h : k + 1 < B.size), Go.Lib.occAt s [32, 58] k = (decide ((B[k]'(Nat.lt_of_succ_lt h)).toNat = 32) && decide ((B[k + 1]'h).toNat = 58))) := fun k h => by
    subst hB
    rw [occ2 s k (by rw [hsz] at h; exact h)]
    rfl
  have hA : Hid (∀ k, k ≤ B.size → (∀ j, j < k → Go.Lib.occAt s [32, 58] j = false) → Go.Lib.occAt s [32, 58] k = true → strV (factL s) = .string (B.extract 0 k)) := fun k hk h hc => by
    rw [fact_at s k (by omega) h hc, hex]; rfl
  have hN : Hid (∀ k, B.size ≤ k + 1 → (∀ j, j < k → Go.Lib.occAt s [32, 58] j = false) → strV (factL s) = .string B) := fun k hk h => by
    rw [fact_no s k (by omega) h, hB]; rfl
  rw [show strV s = .string ⟨s.toArray⟩ from rfl, ← hB]
  clear hB
  generalize strV (factL s) = R at *
  generalize Go.Lib.occAt s [32, 58] = oc at *
  have hb : B.size ≤ 1000000 := by omega
  clear hsz hex hs
  go_enter Tryz.func31, Tryz.ntmps31
  go_wp2_with fail
  go_loopw [3] (fun i wr => ∃ k : Nat, k ≤ B.size ∧ i = .int .i64 (k : Int) ∧ Hid (∀ j, j < k → oc j = false) ∧ wr = w) (fun i _ => B.size - (intOf i).toNat)
  case atStart => exact ⟨0, Nat.zero_le _, rfl, fun j h => absurd h (Nat.not_lt_zero j), rfl⟩
  case round =>
    obtain ⟨k, hk, rfl, hj, rfl⟩ := hrel
    by_cases hlt : k + 1 < B.size
    · have hoc := hO.out k hlt
      have hg1 : ((k : Int) + 1 < (B.size : Int)) := by omega
      obtain ⟨x, hx⟩ : ∃ x, B[k]'(by omega) = x := ⟨_, rfl⟩
      obtain ⟨y, hy⟩ : ∃ y, B[k + 1]'hlt = y := ⟨_, rfl⟩
      rw [hx, hy] at hoc
      by_cases h1 : x.toNat = 32
      · have t1 : ((x.toNat : Int) == 32) = true := by rw [h1]; rfl
        rw [decide_eq_true h1, Bool.true_and] at hoc
        by_cases h2 : y.toNat = 58
        · have t2 : ((y.toNat : Int) == 58) = true := by rw [h2]; rfl
          rw [decide_eq_true h2] at hoc
          have HR := Lib.hid (hA.out k (by omega) hj.out hoc)
          clear hoc h1 h2 hj hA hN hO
          go_wp2
          go_ret
          exact ⟨by rw [HR.out]; rfl, rfl⟩
        · have t2 : ((y.toNat : Int) == 58) = false := by simp; omega
          rw [decide_eq_false h2] at hoc
          have HJ : Hid (∀ j, j < k + 1 → oc j = false) := fun j h => by
            by_cases hjk : j = k
            · rw [hjk]; exact hoc
            · exact hj.out j (by omega)
          clear hoc h1 h2 hj
          go_wp2
          go_roundw
          case rel => exact ⟨k + 1, by omega, by go_num, HJ.out, trivial⟩
          case measure => simp [intOf]; omega
      · have t1 : ((x.toNat : Int) == 32) = false := by simp; omega
        rw [decide_eq_false h1, Bool.false_and] at hoc
        have HJ : Hid (∀ j, j < k + 1 → oc j = false) := fun j h => by
          by_cases hjk : j = k
          · rw [hjk]; exact hoc
          · exact hj.out j (by omega)
        clear hoc h1 hj
        go_wp2
        go_roundw
        case rel => exact ⟨k + 1, by omega, by go_num, HJ.out, trivial⟩
        case measure => simp [intOf]; omega
    · have HR := Lib.hid (hN.out k (by omega) hj.out)
      have hg1 : ¬ ((k : Int) + 1 < (B.size : Int)) := by omega
      clear hj hA hN hO
      go_wp2
      go_ret
      exact ⟨by rw [HR.out]; rfl, rfl⟩
theorem first_split (s : List UInt8) : firstL s = (splitL 10 s).getD 0 [] := by
  induction s with
  | nil => rfl
  | cons x r ih =>
    unfold firstL Go.Lib.cut at *
    rw [splitL]
    by_cases hx : x = 10
    · subst hx
      rw [if_pos rfl, index_one_eq]
      rfl
    · rw [if_neg hx, index_one_cons _ _ _ hx]
      have hne := splitL_ne 10 r
      rcases hsp : splitL 10 r with _ | ⟨p, q⟩
      · exact absurd hsp hne
      · rw [hsp] at ih
        have ihp : (if 0 ≤ Go.Lib.index r [10] then (r.take (Go.Lib.index r [10]).toNat, r.drop ((Go.Lib.index r [10]).toNat + 1), true) else (r, [], false)).1 = p := ih
        have hge := Go.Lib.index_ge r [10]
        show _ = x :: p
        by_cases hi : Go.Lib.index r [10] = -1
        · rw [hi] at ihp ⊢
          simp only [show ¬ (0 : Int) ≤ -1 by omega, if_false] at ihp
          rw [← ihp]
          rfl
        · rw [if_pos (by omega)] at ihp
          have hb : (Go.Lib.index r [10] == -1) = false := by simpa using hi
          rw [hb, if_neg (show ¬ (false = true) by decide), if_pos (by omega), ← ihp]
          show List.take (Go.Lib.index r [10] + 1).toNat (x :: r) = _
          rw [show (Go.Lib.index r [10] + 1).toNat = (Go.Lib.index r [10]).toNat + 1 by omega]
          rfl
end Go.Proofs.YtgcnijmmjlfabaaGreatDoor

namespace Go.Proofs.YtgcnijmmjlfabaaGreatDoor
open Go.RowKit Go.Shelf

theorem rTimes_any (va vb : Value) (n : Nat) (a b : List Int) (A B : Int) (w : World) (hra : RI w va a) (hrb : RI w vb b) (hn : n ≤ 11) (hal : a.length = n * n) (hbl : b.length = n * n) (hA : Bd A a) (hB : Bd B b) (hA0 : 0 ≤ A) (hAB : A * B ≤ 800000000000000000) :
    Calls Tryz.prog 131 #[.int .i64 (n : Int), va, vb] w fun e w' => ∃ v, e = .returned v ∧ OI w' w.heap.size v (tmsL n a b) ∧ Below w.heap.size w w' := by
  obtain ⟨Aa, ca, rfl, -, -, hca⟩ := hra.open_
  obtain ⟨Ab, cb, rfl, -, -, hcb⟩ := hrb.open_
  rw [hal] at hca ⊢
  rw [hbl] at hcb ⊢
  obtain ⟨m, hm⟩ : ∃ m, m = n * n := ⟨_, rfl⟩
  have hm121 : m ≤ 121 := by rw [hm]; exact Nat.le_trans (Nat.mul_le_mul hn hn) (by decide)
  have hmi : (n : Int) * (n : Int) = (m : Int) := by rw [hm]; push_cast; rfl
  rw [← hm] at hca hcb hal hbl ⊢
  have HM := Lib.hid hm
  clear hm
  have hmk := run_make_row' (P := Tryz.prog) 42 3 (.int .i64 0) 8 Tryz.underlying42 int_info rfl .i64 .i64 m (by omega) (by omega)
  have hwm : IntKind.i64.wrap (m : Int) = m := by simp (disch := omega) only [IntWalk.i64_in]
  obtain ⟨W1, hW1⟩ : ∃ W1, W1 = w.alloc (.cells (madeCells #[Value.int .i64 0] m) 3) := ⟨_, rfl⟩
  have ho0 : OI W1 w.heap.size (.slice (some ⟨w.heap.size, 0, none⟩) m m) (List.replicate m 0) := by rw [hW1]; exact own_zeros w m (by omega)
  have hb1 : Below w.heap.size w W1 := by rw [hW1]; exact below_alloc w _
  have HO0 := Lib.hid ho0
  have HB1 := Lib.hid hb1
  have HW1 := Lib.hid hW1
  have HCa := Lib.hid hca
  have HCb := Lib.hid hcb
  have hAB2 : ∀ p q, -(A * B) ≤ a.getD p 0 * b.getD q 0 ∧ a.getD p 0 * b.getD q 0 ≤ A * B := fun p q => mul_bd (hA p) (hB q) hA0
  have HAB : Hid (∀ p q, -800000000000000000 ≤ a.getD p 0 * b.getD q 0 ∧ a.getD p 0 * b.getD q 0 ≤ 800000000000000000) := fun p q => by have := hAB2 p q; omega
  have HTb : Hid (∀ (i k j : Nat), -(800000000000000000 * (j : Int)) ≤ tmC n a b i k j ∧ tmC n a b i k j ≤ 800000000000000000 * (j : Int)) := fun i k j => tmC_bd hA hB hA0 hAB i k j
  have HPl : Hid (∀ i k, i < n → k < n → i * n + k < m) := fun i k h1 h2 => by rw [HM.out]; exact pos_lt h1 h2
  have HSt : Hid (TmR n a b 0 0 0 (List.replicate m 0)) := by rw [HM.out]; exact TmR.start n a b
  clear hra hrb hca hcb hW1 ho0 hb1 hA hB hA0 hAB hAB2 hal hbl
  go_enter Tryz.func131, Tryz.ntmps131
  go_wp2_with fail
  rw [← HW1.out]
  clear hmk hwm
  go_loopw [8] (fun ii wr => ∃ (i : Nat) (os : List Int), i ≤ n ∧ ii = .int .i64 (i : Int) ∧ Hid (TmR n a b i 0 0 os) ∧ Hid (OI wr w.heap.size (.slice (some ⟨w.heap.size, 0, none⟩) m m) os) ∧ Hid (Below w.heap.size w wr)) (fun i _ => n - (intOf i).toNat)
  case atStart => exact ⟨0, _, Nat.zero_le _, rfl, HSt.out, HO0.out, HB1.out⟩
  case round =>
    obtain ⟨i, os, hi, rfl, hT, hO, hB⟩ := hrel
    by_cases hin : i < n
    · go_wp2_with fail
      go_loopw [9] (fun kk wr => ∃ (k : Nat) (os : List Int), k ≤ n ∧ kk = .int .i64 (k : Int) ∧ Hid (TmR n a b i k 0 os) ∧ Hid (OI wr w.heap.size (.slice (some ⟨w.heap.size, 0, none⟩) m m) os) ∧ Hid (Below w.heap.size w wr)) (fun k _ => n - (intOf k).toNat)
      case atStart => exact ⟨0, _, Nat.zero_le _, rfl, hT.out, hO.out, hB.out⟩
      case round =>
        obtain ⟨k, os, hk, rfl, hT, hO, hB⟩ := hrel
        by_cases hkn : k < n
        · go_wp2_with fail
          go_loopw [10] (fun jj wr => ∃ (j : Nat) (os : List Int), j ≤ n ∧ jj = .int .i64 (j : Int) ∧ Hid (TmR n a b i k j os) ∧ Hid (OI wr w.heap.size (.slice (some ⟨w.heap.size, 0, none⟩) m m) os) ∧ Hid (Below w.heap.size w wr)) (fun j _ => n - (intOf j).toNat)
          case atStart => exact ⟨0, _, Nat.zero_le _, rfl, hT.out, hO.out, hB.out⟩
          case round =>
            obtain ⟨j, os, hj, rfl, hT, hO, hB⟩ := hrel
            by_cases hjn : j < n
            · obtain ⟨p0, hp0⟩ : ∃ p0, p0 = i * n + k := ⟨_, rfl⟩
              obtain ⟨pa, hpa⟩ : ∃ p, p = i * n + j := ⟨_, rfl⟩
              obtain ⟨pb, hpb⟩ : ∃ p, p = j * n + k := ⟨_, rfl⟩
              have l0 := HPl.out i k hin hkn
              have la := HPl.out i j hin hjn
              have lb := HPl.out j k hjn hkn
              have w0 : (i : Int) * (n : Int) + (k : Int) = (p0 : Int) := by rw [hp0]; push_cast; rfl
              have wa : (i : Int) * (n : Int) + (j : Int) = (pa : Int) := by rw [hpa]; push_cast; rfl
              have wb : (j : Int) * (n : Int) + (k : Int) = (pb : Int) := by rw [hpb]; push_cast; rfl
              have hcell := hT.out.cell hin hkn
              have hst := hT.out.step hin hkn
              have htb := HTb.out i k j
              rw [tmC_succ, ← hcell, ← hp0, ← hpa, ← hpb] at hst
              rw [← hcell, ← hp0] at htb
              rw [← hp0] at l0
              rw [← hpa] at la
              rw [← hpb] at lb
              have hl : os.length = m := by rw [hT.out.1, HM.out]
              obtain ⟨-, -, s1, s2, s3⟩ := hO.out.at' (k := p0) (by rw [hl]; exact l0)
              obtain ⟨ada, xa, rfl, hab, hxa, hcxa⟩ := HCa.out pa la
              obtain ⟨adb, xb, rfl, hbb, hxb, hcxb⟩ := HCb.out pb lb
              have r1 := (hB.out.cell (p := ada.add pa) (by rw [block_of_add]; exact hab)).trans hcxa
              have r2 := (hB.out.cell (p := adb.add pb) (by rw [block_of_add]; exact hbb)).trans hcxb
              have hpr := HAB.out pa pb
              rw [getD_of' hxa.out, getD_of' hxb.out] at hst hpr
              have HS := Lib.hid (s3 (os.getD p0 0 + xa * xb)).1
              have HB2 := Lib.hid (hB.out.setCell (p := ⟨w.heap.size, p0, none⟩) (Nat.le_refl _) (.int .i64 (os.getD p0 0 + xa * xb)))
              have HT2 := Lib.hid hst
              have hj11 : (j : Int) ≤ 10 := by omega
              clear hcell hst s3 hcxa hcxb hxa hxb hab hbb hl hT
              generalize os.getD p0 0 = o at *
              generalize hxx : xa * xb = pr at *
              have e0 : IntKind.i64.wrap ((i : Int) * (n : Int)) = (i : Int) * (n : Int) := by
                have : 0 ≤ (i : Int) * (n : Int) := by rw [← Int.natCast_mul]; omega
                have : (i : Int) * (n : Int) ≤ 200 := by omega
                simp (disch := omega) only [IntWalk.i64_in]
              have e1 : IntKind.i64.wrap ((j : Int) * (n : Int)) = (j : Int) * (n : Int) := by
                have : 0 ≤ (j : Int) * (n : Int) := by rw [← Int.natCast_mul]; omega
                have : (j : Int) * (n : Int) ≤ 200 := by omega
                simp (disch := omega) only [IntWalk.i64_in]
              have e2 : IntKind.i64.wrap ((i : Int) * (n : Int) + (k : Int)) = (p0 : Int) := by rw [w0]; simp (disch := omega) only [IntWalk.i64_in]
              have e3 : IntKind.i64.wrap ((i : Int) * (n : Int) + (j : Int)) = (pa : Int) := by rw [wa]; simp (disch := omega) only [IntWalk.i64_in]
              have e4 : IntKind.i64.wrap ((j : Int) * (n : Int) + (k : Int)) = (pb : Int) := by rw [wb]; simp (disch := omega) only [IntWalk.i64_in]
              have e5 : IntKind.i64.wrap (xa * xb) = pr := by rw [hxx]; simp (disch := omega) only [IntWalk.i64_in]
              have e6 : IntKind.i64.wrap (o + pr) = o + pr := by simp (disch := omega) only [IntWalk.i64_in]
              clear hp0 hpa hpb w0 wa wb hxx
              have b0 : (p0 : Int) < m := by omega
              have b1 : (pa : Int) < m := by omega
              have b2 : (pb : Int) < m := by omega
              go_wp2_with fail
              refine wp_region_still_tail 27 (by kernel_rfl) (by kernel_rfl) ?_
              change wpStill _ _ wr.drew _ _ _
              simp only [List.take_succ_cons, List.take_zero, List.drop_succ_cons, List.drop_zero]
              repeat still_step
              refine wpStill_nil ?_
              change wpList _ _ _ _ _ wr.drew
              go_wp2
              go_roundw
              case rel => exact ⟨j + 1, _, by omega, by go_num, HT2.out, OI.below HS.out (Below.refl _ _).drew, HB2.out.drew⟩
              case measure => simp [intOf]; omega
            · obtain rfl : n = j := by omega
              have HT2 := Lib.hid (hT.out.next hkn)
              go_wp2
              go_roundw
              case rel => exact ⟨k + 1, _, by omega, by go_num, HT2.out, hO.out, hB.out⟩
              case measure => simp [intOf]; omega
        · obtain rfl : n = k := by omega
          have HT2 := Lib.hid hT.out.row
          go_wp2
          go_roundw
          case rel => exact ⟨i + 1, _, by omega, by go_num, HT2.out, hO.out, hB.out⟩
          case measure => simp [intOf]; omega
    · obtain rfl : n = i := by omega
      obtain rfl := hT.out.end_
      have HO := Lib.hid hO.out
      clear hT hO
      go_wp2
      go_ret
      exact ⟨_, rfl, HO.out, hB.out⟩
theorem rDiag_any (va vl : Value) (n : Nat) (a last : List Int) (w : World) (hra : RI w va a) (hl : RI w vl last) (hn : n ≤ 11) (hal : a.length = n * n) (hll : last.length ≤ 100000) :
    Calls Tryz.prog 130 #[.int .i64 (n : Int), va, vl] w fun e w' => e = .returned (.bool (diaB n a last)) ∧ Below w.heap.size w w' := by
  obtain ⟨Aa, ca, rfl, -, -, hca⟩ := hra.open_
  obtain ⟨Al, cl, rfl, -, -, hcl⟩ := hl.open_
  rw [hal] at hca ⊢
  obtain ⟨m, hm⟩ : ∃ m, m = n * n := ⟨_, rfl⟩
  have hm121 : m ≤ 121 := by rw [hm]; exact Nat.le_trans (Nat.mul_le_mul hn hn) (by decide)
  have hmi : (n : Int) * (n : Int) = (m : Int) := by rw [hm]; push_cast; rfl
  have hwm : IntKind.i64.wrap ((n : Int) * (n : Int)) = m := by rw [hmi]; simp (disch := omega) only [IntWalk.i64_in]
  rw [← hm] at hca hal ⊢
  have HDv : Hid (∀ p, p < m → p / n < n ∧ p % n < n ∧ 0 < n) := fun p hp => by
    rw [hm] at hp
    have hn0 : 0 < n := by rcases Nat.eq_zero_or_pos n with h | h; · subst h; omega
                           · exact h
    exact ⟨Nat.div_lt_of_lt_mul hp, Nat.mod_lt _ hn0, hn0⟩
  have HCa := Lib.hid hca
  have HCl := Lib.hid hcl
  have HR0 : Hid (diaB n a last = (List.range m).all fun p => decide (a.getD p 0 = wantI n last (p / n) (p % n))) := by show _ = _; rw [hm]; rfl
  clear hra hl hal hm hca hcl
  go_enter Tryz.func130, Tryz.ntmps130
  go_wp2_with fail
  go_loopw [7] (fun ii wr => ∃ p : Nat, p ≤ m ∧ ii = .int .i64 (p : Int) ∧ Hid ((List.range p).all (fun p => decide (a.getD p 0 = wantI n last (p / n) (p % n))) = true) ∧ Hid (Below w.heap.size w wr)) (fun ii _ => m - (intOf ii).toNat)
  case atStart => exact ⟨0, Nat.zero_le _, rfl, by simp [Hid], Below.refl _ _⟩
  case round =>
    obtain ⟨p, hp, rfl, hT, hB⟩ := hrel
    by_cases hpm : p < m
    · obtain ⟨hd1, hd2, hd3⟩ := HDv.out p hpm
      have hs := all_range_succ (p := fun p => decide (a.getD p 0 = wantI n last (p / n) (p % n))) (k := p)
      rw [hT.out, Bool.true_and] at hs
      have hf := fun h => all_range_false (p := fun p => decide (a.getD p 0 = wantI n last (p / n) (p % n))) hpm h
      obtain ⟨ada, xa, rfl, hab, hxa, hcxa⟩ := HCa.out p hpm
      have HCx : Hid (∀ W, Below w.heap.size w W → W.cell? (ada.add p) = some (.int .i64 xa)) := fun W h => (h.cell (p := ada.add p) (by rw [block_of_add]; exact hab)).trans hcxa
      rw [getD_of' hxa.out] at hs hf
      have HNx := Lib.hid hs
      have HF := Lib.hid hf
      have q1 : (p : Int).tdiv (n : Int) = ((p / n : Nat) : Int) := by rw [Int.tdiv_eq_ediv_of_nonneg (by omega)]; rfl
      have q2 : (p : Int).tmod (n : Int) = ((p % n : Nat) : Int) := by rw [Int.tmod_eq_emod_of_nonneg (by omega)]; rfl
      have q3 : (p : Int) / (n : Int) = ((p / n : Nat) : Int) := rfl
      have q4 : (p : Int) % (n : Int) = ((p % n : Nat) : Int) := rfl
      have hnz : (n : Int) ≠ 0 := by omega
      clear hs hf hxa hcxa hab hT HDv
      generalize p / n = i at *
      generalize p % n = k at *
      go_wp2_with fail
      go_quiet (fail)
      have HB2 := Lib.hid (below_drewN hB.out nq)
      obtain ⟨w2, hw2⟩ : ∃ w2, w2 = wr.drewN nq := ⟨_, rfl⟩
      rw [← hw2] at HB2 ⊢
      clear hw2
      have r1 := HCx.out w2 HB2.out
      by_cases hik : i = k
      · obtain rfl : k = i := hik.symm
        have t1 : ((k : Int) == (k : Int)) = true := by simp
        by_cases hj : 0 ≤ (k : Int) - ((n : Int) - (last.length : Int))
        · obtain ⟨adl, y, rfl, hbl, hy, hcy⟩ := HCl.out ((k : Int) - ((n : Int) - (last.length : Int))).toNat (by omega)
          have HWt : Hid (wantI n last k k = y) := by
            show _ = _; unfold wantI; rw [if_pos rfl, if_pos (by omega), show ((k : Int) - n + last.length).toNat = ((k : Int) - ((n : Int) - (last.length : Int))).toNat by congr 1; omega, getD_of' hy.out]
          have r2 := (HB2.out.cell (p := adl.add ((k : Int) - ((n : Int) - (last.length : Int))).toNat) (by rw [block_of_add]; exact hbl)).trans hcy
          have hjl : (k : Int) - ((n : Int) - (last.length : Int)) < last.length := by omega
          clear hy hcy hbl HCl hik
          by_cases hxy : xa = y
          · have t3 : (xa != y) = false := by rw [bne_eq_false_iff_eq]; exact hxy
            rw [HWt.out, decide_eq_true hxy] at HNx
            clear hxy
            go_wp2
            go_roundw
            case rel => exact ⟨p + 1, by omega, by go_num, HNx.out, HB2.out⟩
            case measure => simp [intOf]; omega
          · have t3 : (xa != y) = true := by rw [bne_iff_ne]; exact hxy
            have HR : Hid (diaB n a last = false) := by show _ = _; rw [HR0.out, HF.out (decide_eq_false (by rw [HWt.out]; exact hxy))]
            clear hxy
            go_wp2
            go_ret
            exact ⟨by rw [HR.out]; rfl, HB2.out⟩
        · have HWt : Hid (wantI n last k k = 1) := by show _ = _; unfold wantI; rw [if_pos rfl, if_neg (by omega)]
          clear hik HCl
          by_cases hxy : xa = 1
          · have t3 : (xa != 1) = false := by rw [bne_eq_false_iff_eq]; exact hxy
            rw [HWt.out, decide_eq_true hxy] at HNx
            clear hxy
            go_wp2
            go_roundw
            case rel => exact ⟨p + 1, by omega, by go_num, HNx.out, HB2.out⟩
            case measure => simp [intOf]; omega
          · have t3 : (xa != 1) = true := by rw [bne_iff_ne]; exact hxy
            have HR : Hid (diaB n a last = false) := by show _ = _; rw [HR0.out, HF.out (decide_eq_false (by rw [HWt.out]; exact hxy))]
            clear hxy
            go_wp2
            go_ret
            exact ⟨by rw [HR.out]; rfl, HB2.out⟩
      · have t1 : ((i : Int) == (k : Int)) = false := by rw [beq_eq_false_iff_ne]; omega
        have HWt : Hid (wantI n last i k = 0) := by show _ = _; unfold wantI; rw [if_neg hik]
        clear hik HCl
        by_cases hxy : xa = 0
        · have t3 : (xa != 0) = false := by rw [bne_eq_false_iff_eq]; exact hxy
          rw [HWt.out, decide_eq_true hxy] at HNx
          clear hxy
          go_wp2
          go_roundw
          case rel => exact ⟨p + 1, by omega, by go_num, HNx.out, HB2.out⟩
          case measure => simp [intOf]; omega
        · have t3 : (xa != 0) = true := by rw [bne_iff_ne]; exact hxy
          have HR : Hid (diaB n a last = false) := by show _ = _; rw [HR0.out, HF.out (decide_eq_false (by rw [HWt.out]; exact hxy))]
          clear hxy
          go_wp2
          go_ret
          exact ⟨by rw [HR.out]; rfl, HB2.out⟩
    · obtain rfl : m = p := by omega
      have HR : Hid (diaB n a last = true) := by show _ = _; rw [HR0.out]; exact hT.out
      clear hT
      go_wp2
      go_ret
      exact ⟨by rw [HR.out]; rfl, hB.out⟩
end Go.Proofs.YtgcnijmmjlfabaaGreatDoor

namespace Go.Proofs.YtgcnijmmjlfabaaGreatDoor
open Go.RowKit Go.Shelf

theorem btw_comm (es : List Tri) (a b : Int) : btwE es a b = btwE es b a := by
  induction es with
  | nil => rfl
  | cons t r ih => rw [btwE, btwE, ih, Int.min_comm, Int.max_comm]
theorem btw_wgt' {n : Nat} {es : List Tri} (hE : Edges n es) {u v : Nat} (h : u ≠ v) : btwE es (u : Int) (v : Int) = wgt es v u := by
  rw [btw_comm]; exact btw_wgt hE (Ne.symm h)
theorem mrk_succ (es : List Tri) (bs : List Bool) (v k : Nat) : mrkN es bs v (k + 1) = mrkN es bs v k + if bs.getD k false then wgt es v k else 0 := rfl
theorem r57Burns_any (g vd vo : Value) (n q : Nat) (es : List Tri) (d order : List Int) (w : World) (hg : GV w g n es) (hd : RI w vd d) (ho : RI w vo order) (hE : Edges n es) (hn : n ≤ 12) (hq : q < n) (hdl : d.length = n) (hol : order.length ≤ 100000) :
    Calls Tryz.prog 96 #[g, .int .i64 (q : Int), vd, vo] w fun e w' => e = .returned (.bool (burnsB n es q d order)) ∧ Below w.heap.size w w' := by
  obtain ⟨A, c, rfl, -⟩ := hg.open_
  obtain ⟨W0, hW0⟩ : ∃ W0, W0 = w.alloc (.cells #[.int .i64 (n:Int), .slice A es.length c] 24) := ⟨_, rfl⟩
  have hb0 : Below w.heap.size w W0 := by rw [hW0]; exact below_alloc w _
  have hx0 : BL W0 w.heap.size 24 [.int .i64 (n:Int), .slice A es.length c] := by rw [hW0]; exact BL.new' w _ _
  have c0 := hx0.cell 0
  have c1 := hx0.cell 1
  have HX0 := Lib.hid hx0
  have HG0 := Lib.hid (hg.below hb0)
  have HB0 := Lib.hid hb0
  have HW0 := Lib.hid hW0
  rw [hW0] at c0 c1
  clear hg hx0 hW0
  obtain ⟨A1, e1, rfl, -, -, hcd⟩ := (RI.below hd hb0).open_
  obtain ⟨A2, e2, rfl, -, -, hco⟩ := (RI.below ho hb0).open_
  rw [hdl] at hcd ⊢
  have HCd := Lib.hid hcd
  have HCo := Lib.hid hco
  have HFin : Hid (burnsB n es q d order = (brnB n es d (brnS n q) order && decide ((order.length : Int) = n - 1))) := rfl
  have g0 := HX0.out.cell 0
  have g1 := HX0.out.cell 1
  clear hd ho hdl hcd hco hb0
  by_cases hlen : (order.length : Int) ≠ n - 1
  · have HR : Hid (burnsB n es q d order = false) := by show _ = _; rw [HFin.out, decide_eq_false hlen, Bool.and_false]
    have t1 : ((order.length : Int) != (n : Int) - 1) = true := by simpa using hlen
    clear hlen hE HFin
    go_enter Tryz.func96, Tryz.ntmps96
    go_upto_region 1 with fail
    rw [← HW0.out]
    clear c0 c1
    go_wp2
    go_ret
    exact ⟨by rw [HR.out]; rfl, HB0.out⟩
  have hlen : (order.length : Int) = n - 1 := by omega
  have t1 : ((order.length : Int) != (n : Int) - 1) = false := by simpa using hlen
  have HLn := Lib.hid hlen
  have hmk := run_make_row' (P := Tryz.prog) 139 4 (.bool false) 1 Tryz.underlying139 bool_info rfl .i64 .i64 n (by omega) (by omega)
  have ho0 : OB (W0.alloc (.cells (madeCells #[Value.bool false] n) 4)) W0.heap.size (.slice (some ⟨W0.heap.size, 0, none⟩) n n) (List.replicate n false) := own_falses W0 n (by omega)
  have hb1 := below_alloc W0 (.cells (madeCells #[Value.bool false] n) 4)
  obtain ⟨W1, hW1⟩ : ∃ W1, W1 = W0.alloc (.cells (madeCells #[Value.bool false] n) 4) := ⟨_, rfl⟩
  rw [← hW1] at ho0 hb1
  obtain ⟨-, q1, q2, q3⟩ := ho0.at_ (k := q) (by simpa using hq)
  have HO2 : Hid (OB (W1.setCell ⟨W0.heap.size, q, none⟩ (.bool true)) W0.heap.size (.slice (some ⟨W0.heap.size, 0, none⟩) n n) (brnS n q)) := q3 true
  have HB2 := Lib.hid (hb1.setCell (p := ⟨W0.heap.size, q, none⟩) (Nat.le_refl _) (.bool true))
  have hWe : W1.setCell ⟨W0.heap.size, q, none⟩ (.bool true) = W0.alloc (.cells ((madeCells #[Value.bool false] n).setIfInBounds q (.bool true)) 4) := by rw [hW1]; simp [go_sem]
  have HW1 := Lib.hid hWe
  rw [show (List.replicate n false).getD q false = false by rw [List.getD_eq_getElem?_getD, List.getElem?_replicate]; split <;> rfl, hW1] at q1
  rw [hW1] at q2
  have HV : Hid (∀ (v : Int) (W : World), Below W0.heap.size W0 W → Calls Tryz.prog 101 #[.agg #[.int .i64 (n : Int), .slice A es.length c], .int .i64 v] W fun e w' => e = .returned (.bool (vtxB n v)) ∧ Below W.heap.size W w') := fun v W h => rVertex_any _ n es v W (HG0.out.below h)
  have HJ : Hid (∀ (u v : Nat) (W : World), Below W0.heap.size W0 W → u ≠ v → Calls Tryz.prog 129 #[.agg #[.int .i64 (n : Int), .slice A es.length c], .int .i64 (u : Int), .int .i64 (v : Int)] W fun e w' => e = .returned (.int .i64 (wgt es v u)) ∧ Below W.heap.size W w') := fun u v W h h1 => by
    rw [← btw_wgt' hE h1]; exact between_any _ (n : Int) es (u : Int) (v : Int) W (HG0.out.below h)
  have HSl : Hid ((brnS n q).length = n) := by simp [Hid, brnS]
  have HMb : Hid (∀ bs v k, 0 ≤ mrkN es bs v k ∧ mrkN es bs v k ≤ 50 * (k : Int)) := fun bs v k => mrk_bd hE bs v k
  have HWb : Hid (∀ u v : Nat, 0 ≤ wgt es v u ∧ wgt es v u ≤ 50) := fun u v => wgt50 hE v u
  clear hE hlen hW1 hWe ho0 hb1 q3
  go_enter Tryz.func96, Tryz.ntmps96
  go_upto_region 1 with fail
  rw [← HW0.out]
  clear c0 c1
  go_wp2_with fail
  rw [← HW1.out]
  clear hmk q1 q2 g0 g1
  go_loopw [10] (fun ii wr => ∃ (k : Nat) (bs : List Bool), k ≤ order.length ∧ ii = .int .i64 (k : Int) ∧ Hid (bs.length = n) ∧ Hid (OB wr W0.heap.size (.slice (some ⟨W0.heap.size, 0, none⟩) n n) bs) ∧ Hid (Below W0.heap.size W0 wr) ∧ Hid (brnB n es d bs (order.drop k) = brnB n es d (brnS n q) order)) (fun i _ => order.length - (intOf i).toNat)
  case atStart => exact ⟨0, brnS n q, Nat.zero_le _, rfl, HSl.out, HO2.out, HB2.out, rfl⟩
  case round =>
    obtain ⟨k, bs, hk, rfl, hbl, hob, hbw, hbr⟩ := hrel
    have g0 := (HX0.out.bel hbw.out).cell 0
    have g1 := (HX0.out.bel hbw.out).cell 1
    by_cases hlt : k < order.length
    · obtain ⟨ado, v, rfl, hvb, hv, hcv⟩ := HCo.out k hlt
      have r1 := (hbw.out.cell (p := ado.add k) (by rw [block_of_add]; exact hvb)).trans hcv
      have hdr := drop_at hv
      have hb2 := hbr.out
      rw [hdr, brnB] at hb2
      have HV1 := Lib.hid (HV.out v wr hbw.out)
      clear hcv hvb hdr hv
      go_wp2_with fail
      refine HV1.out.mono ?_
      rintro e w1 ⟨rfl, hb1⟩
      have HBw1 := Lib.hid (hbw.out.trans (hb1.mono hbw.out.size))
      have hob1 := OB.below hob.out hb1
      clear hb1 HV1 g0 g1 r1 hob
      by_cases hvx : 0 ≤ v ∧ v < n
      · obtain ⟨vn, rfl⟩ : ∃ vn : Nat, v = vn := ⟨v.toNat, by omega⟩
        have hvn : vn < n := by omega
        have hvt : vtxB n (vn : Int) = true := by unfold vtxB; rw [decide_eq_true hvx.1, decide_eq_true hvx.2]; rfl
        rw [hvt]
        rw [decide_eq_true hvx.1, decide_eq_true hvx.2] at hb2
        simp only [Int.toNat_natCast, Bool.true_and] at hb2
        obtain ⟨-, s1, s2, s3⟩ := hob1.at_ (k := vn) (by rw [hbl.out]; exact hvn)
        obtain ⟨add, z, rfl, hzb, hz, hcz⟩ := HCd.out vn hvn
        simp only [getD_of' hz.out] at hb2
        have HZb := Lib.hid hzb
        have HCz := Lib.hid hcz
        have HOb := Lib.hid hob1
        clear hcz hz hzb hvx hvt hob1
        by_cases hbt : bs.getD vn false = true
        · rw [hbt] at s1
          simp only [hbt, Bool.not_true, Bool.false_and, Bool.false_eq_true, if_false] at hb2
          have HB := Lib.hid hb2
          have HR : Hid (burnsB n es q d order = false) := by show _ = _; rw [HFin.out, ← HB.out]; rfl
          clear hb2 hbt s3
          go_wp2
          go_ret
          exact ⟨by rw [HR.out]; rfl, HB0.out.trans (HBw1.out.mono HB0.out.size)⟩
        have hbt : bs.getD vn false = false := by simpa using hbt
        rw [hbt] at s1
        simp only [hbt, Bool.not_false, Bool.true_and] at hb2
        have HBt := Lib.hid hbt
        have HBr2 := Lib.hid hb2
        have HB2' := Lib.hid HBw1.out.size
        clear hb2 hbt s3 s2
        go_wp2_with fail
        go_loopw [12, 13] (fun nn uu wr => ∃ (u : Nat) (x : Int), u ≤ n ∧ nn = .int .i64 x ∧ uu = .int .i64 (u : Int) ∧ Hid (x = mrkN es bs vn u) ∧ Hid (Below w1.heap.size w1 wr)) (fun _ uu _ => n - (intOf uu).toNat)
        case atStart => exact ⟨0, 0, Nat.zero_le _, rfl, rfl, rfl, Below.refl _ _⟩
        case round =>
          obtain ⟨u, x, hu, rfl, rfl, hx, hbi⟩ := hrel
          have HBi := Lib.hid (HBw1.out.trans (hbi.out.mono HBw1.out.size))
          have g0 := (HX0.out.bel HBi.out).cell 0
          have g1 := (HX0.out.bel HBi.out).cell 1
          have hobi := OB.below HOb.out hbi.out
          have hxb := HMb.out bs vn u
          rw [← hx.out] at hxb
          by_cases hun : u < n
          · obtain ⟨-, p1, -, -⟩ := hobi.at_ (k := u) (by rw [hbl.out]; exact hun)
            have hms := mrk_succ es bs vn u
            by_cases hbu : bs.getD u false = true
            · have huv : u ≠ vn := fun e => by rw [e, HBt.out] at hbu; cases hbu
              rw [hbu] at p1
              rw [if_pos hbu] at hms
              have HJ1 := Lib.hid (HJ.out u vn _ HBi.out huv)
              have hwb := HWb.out u vn
              have HX2 : Hid (x + wgt es vn u = mrkN es bs vn (u + 1)) := by show _ = _; rw [hx.out, hms]
              clear hms hbu huv hobi
              generalize wgt es vn u = y at *
              go_wp2_with fail
              refine HJ1.out.mono ?_
              rintro e w2 ⟨rfl, hb2⟩
              have HBi2 := Lib.hid (hbi.out.trans (hb2.mono hbi.out.size))
              clear hb2 g0 g1 p1 HJ1
              go_wp2
              go_roundw
              case rel => exact ⟨u + 1, _, by omega, rfl, by go_num, HX2.out, HBi2.out⟩
              case measure => simp [intOf]; omega
            · have hbu : bs.getD u false = false := by simpa using hbu
              rw [hbu] at p1
              rw [hbu] at hms
              have HX2 : Hid (x = mrkN es bs vn (u + 1)) := by show _ = _; rw [hx.out, hms]; simp
              clear hms hbu hobi
              go_wp2
              go_roundw
              case rel => exact ⟨u + 1, _, by omega, rfl, by go_num, HX2.out, hbi.out⟩
              case measure => simp [intOf]; omega
          · obtain rfl : u = n := by omega
            have HZ2 : Hid (decide (z < mrkN es bs vn u) = decide (z < x)) := by show _ = _; rw [hx.out]
            have r2 := (HBi.out.cell (p := add.add vn) (by rw [block_of_add]; exact HZb.out)).trans HCz.out
            by_cases hlm : z < x
            · have hb3 := HBr2.out
              rw [HZ2.out, decide_eq_true hlm, if_pos rfl] at hb3
              have HB := Lib.hid hb3
              have hge : ¬ (x ≤ z) := by omega
              obtain ⟨-, s1, s2, s3⟩ := hobi.at_ (k := vn) (by rw [hbl.out]; exact hvn)
              have HS := Lib.hid (s3 true)
              have HL2 : Hid ((bs.set vn true).length = u) := by show _ = _; rw [List.length_set]; exact hbl.out
              have HB3 := Lib.hid (HBi.out.setCell (p := ⟨W0.heap.size, vn, none⟩) (Nat.le_refl _) (.bool true))
              clear hb3 s3 hobi hlm
              go_wp2
              go_roundw
              case rel => exact ⟨k + 1, _, by omega, by go_num, HL2.out, HS.out, HB3.out, HB.out⟩
              case measure => simp [intOf]; omega
            · have hb3 := HBr2.out
              rw [HZ2.out, decide_eq_false hlm, if_neg (by decide)] at hb3
              have HB := Lib.hid hb3
              have hge : x ≤ z := by omega
              have HR : Hid (burnsB u es q d order = false) := by show _ = _; rw [HFin.out, ← HB.out]; rfl
              clear hb3 hobi hlm
              go_wp2
              go_ret
              exact ⟨by rw [HR.out]; rfl, HB0.out.trans (HBi.out.mono HB0.out.size)⟩
      · have hvt : vtxB n v = false := by
          unfold vtxB
          by_cases h1 : 0 ≤ v
          · rw [decide_eq_false (show ¬ v < (n : Int) from fun h2 => hvx ⟨h1, h2⟩), Bool.and_false]
          · rw [decide_eq_false h1, Bool.false_and]
        have hvf : (decide (0 ≤ v) && decide (v < (n : Int))) = false := hvt
        rw [hvt]
        simp only [hvf, Bool.false_and, Bool.false_eq_true, if_false] at hb2
        have HB := Lib.hid hb2
        have HR : Hid (burnsB n es q d order = false) := by show _ = _; rw [HFin.out, ← HB.out]; rfl
        clear hb2 hvx hvf hvt hob1
        go_wp2
        go_ret
        exact ⟨by rw [HR.out]; rfl, HB0.out.trans (HBw1.out.mono HB0.out.size)⟩
    · obtain rfl : k = order.length := by omega
      have hb2 := hbr.out
      rw [List.drop_of_length_le (Nat.le_refl _), brnB] at hb2
      have HB := Lib.hid hb2
      have HR : Hid (burnsB n es q d order = true) := by show _ = _; rw [HFin.out, ← HB.out, decide_eq_true HLn.out]; rfl
      clear hb2
      go_wp2
      go_ret
      exact ⟨by rw [HR.out]; rfl, HB0.out.trans (hbw.out.mono HB0.out.size)⟩
end Go.Proofs.YtgcnijmmjlfabaaGreatDoor

