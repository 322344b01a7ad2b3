/- Contract of the reference's whole.
   The first line of a whole log; contract of the reference's Facts.
   Contract of the reference's Prefix.
   The law CheckerCuts: it answers true. -/
import Derived.Test.YtgcnijmmjlfabaaGreatDoorK37
set_option maxRecDepth 100000
set_option maxHeartbeats 16000000
namespace Go.Proofs.YtgcnijmmjlfabaaGreatDoor
open Go.RowKit Go.Shelf

theorem lastIdx_step (B : ByteArray) (k : Nat) (h : k < B.size) : Go.Lib.lastIdx B 10 (k + 1) = if B[k].toNat = 10 then (k : Int) else Go.Lib.lastIdx B 10 k := by
  rw [Go.Lib.lastIdx]
  have e : (B.data[k]!) = B[k] := by
    rw [getElem!_pos B.data k h]; rfl
  rw [e]
  by_cases c : B[k].toNat = 10
  · rw [if_pos c, if_pos (by omega)]
  · rw [if_neg c, if_neg (by omega)]
theorem whole_any (s : List UInt8) (w : World) (hs : s.length ≤ 1000000) : Calls Tryz.prog 35 #[strV s] w fun e w' => e = .returned (strV (wholeL s)) ∧ Below w.heap.size w w' := by
  have hsz := ba_size s
  have hex := extract_take s
  have hW : strV (wholeL s) = .string ((⟨s.toArray⟩ : ByteArray).extract 0 ((Go.Lib.lastIndexByte ⟨s.toArray⟩ 10 + 1).toNat)) := by rw [hex]; rfl
  rw [hW, show strV s = .string ⟨s.toArray⟩ from rfl]
  generalize (⟨s.toArray⟩ : ByteArray) = B at *
  have hb : B.size ≤ 1000000 := by omega
  have HL : Hid (Go.Lib.lastIndexByte B 10 = Go.Lib.lastIdx B 10 B.size) := rfl
  clear hsz hex hW hs
  go_enter Tryz.func35, Tryz.ntmps35
  go_wp2_with fail
  go_loopw [3] (fun i wr => ∃ k : Nat, k ≤ B.size ∧ i = .int .i64 (k : Int) ∧ Hid (Go.Lib.lastIndexByte B 10 = Go.Lib.lastIdx B 10 k) ∧ wr = w) (fun i _ => (intOf i).toNat)
  case atStart => exact ⟨B.size, Nat.le_refl _, rfl, HL.out, rfl⟩
  case round =>
    obtain ⟨k, hk, rfl, he, rfl⟩ := hrel
    cases k with
    | zero =>
      have hR : Hid ((Go.Lib.lastIndexByte B 10 + 1).toNat = 0) := by show _ = _; rw [he.out]; rfl
      clear he HL
      go_wp2
      go_ret
      exact ⟨by rw [hR.out, show B.extract 0 0 = ByteArray.empty by apply ByteArray.ext; rw [ByteArray.data_extract]; simp]; rfl, Below.refl _ _⟩
    | succ j =>
      have hj : j < B.size := by omega
      have hst := lastIdx_step B j hj
      rw [← he.out] at hst
      obtain ⟨x, hx⟩ : ∃ x, B[j] = x := ⟨_, rfl⟩
      rw [hx] at hst
      have hj0 : (0 : Int) < ((j + 1 : Nat) : Int) := by omega
      by_cases hc : x.toNat = 10
      · rw [if_pos hc] at hst
        have hR : Hid ((Go.Lib.lastIndexByte B 10 + 1).toNat = j + 1) := by show _ = _; rw [hst]; omega
        have t1 : ((x.toNat : Int) != 10) = false := by rw [hc]; rfl
        clear hst hc he HL
        go_wp2
        go_ret
        exact ⟨by rw [hR.out]; rfl, Below.refl _ _⟩
      · rw [if_neg hc] at hst
        have HN := Lib.hid hst
        have t1 : ((x.toNat : Int) != 10) = true := by simp; omega
        clear hst hc he
        go_wp2
        go_roundw
        case rel => exact ⟨j, by omega, by go_num, HN.out, trivial⟩
        case measure => simp [intOf] <;> omega
end Go.Proofs.YtgcnijmmjlfabaaGreatDoor

namespace Go.Proofs.YtgcnijmmjlfabaaGreatDoor
open Go.RowKit Go.Shelf

theorem split_app (c : UInt8) (t : List UInt8) : ∀ s : List UInt8, 2 ≤ (splitL c s).length → (splitL c (s ++ t)).getD 0 [] = (splitL c s).getD 0 []
  | [], h => by simp [splitL] at h
  | x :: r, h => by
    show (splitL c (x :: (r ++ t))).getD 0 [] = _
    rw [splitL] at h ⊢
    rw [splitL]
    by_cases hx : x = c
    · rw [if_pos hx, if_pos hx]; rfl
    · rw [if_neg hx] at h ⊢
      rw [if_neg hx]
      have hl : ∀ l : List (List UInt8), l ≠ [] → (consH x l).length = l.length ∧ (consH x l).getD 0 [] = x :: l.getD 0 [] := fun l hl => by
        cases l with
        | nil => exact absurd rfl hl
        | cons p q => exact ⟨rfl, rfl⟩
      obtain ⟨h1, h2⟩ := hl _ (splitL_ne c r)
      rw [h1] at h
      rw [h2, (hl _ (splitL_ne c (r ++ t))).2, split_app c t r h]
theorem wide_whole {s : List UInt8} (hs : s.length ≤ 65536) (h : wideB s = false) : linesE (wholeL s) = 0 → hdE (hd0 (wholeL s)) = 0 → fewB (hdN (hd0 (wholeL s))) (hdT (hd0 (wholeL s))) = true := by
  intro h1 h2
  have e : hd0 (wholeL s) = firstL s := by
    rw [hd0_first h1, first_split, first_split]
    have h3 := split2 h1
    obtain ⟨t, ht⟩ : ∃ t, s = wholeL s ++ t := ⟨_, (List.take_append_drop _ s).symm⟩
    conv => rhs; rw [ht]
    exact (split_app 10 t _ h3).symm
  rw [e] at h2 ⊢
  unfold wideB at h
  rw [decide_eq_true hs, decide_eq_true h2, Bool.true_and, Bool.true_and] at h
  simpa using h
end Go.Proofs.YtgcnijmmjlfabaaGreatDoor

namespace Go.Proofs.YtgcnijmmjlfabaaGreatDoor
open Go.RowKit Go.Shelf

theorem rPrefix_any (s : List UInt8) (w : World) (h6 : s.length ≤ 65536 → linesE (wholeL s) = 0 → hdE (hd0 (wholeL s)) = 0 → fewB (hdN (hd0 (wholeL s))) (hdT (hd0 (wholeL s))) = true) :
    Calls Tryz.prog 19 #[strV s] w fun e w' => e = .returned (.tuple #[.int .i64 (prefP s).1, .int .i64 (prefP s).2]) ∧ Below w.heap.size w w' := by
  have hsz := ba_size s
  by_cases hl : 65536 < s.length
  · have hR : prefP s = (0, 19) := by unfold prefP; rw [if_pos hl]
    rw [hR, show strV s = .string ⟨s.toArray⟩ from rfl]
    generalize (⟨s.toArray⟩ : ByteArray) = B at *
    clear h6 hR
    go_enter Tryz.func19, Tryz.ntmps19
    go_wp2
    go_ret2
    exact ⟨rfl, Below.refl _ _⟩
  have hR : Hid (prefP s = if linesE (wholeL s) ≠ 0 then (0, linesE (wholeL s)) else if hdE (hd0 (wholeL s)) ≠ 0 then (0, hdE (hd0 (wholeL s)))
    else ((cntF (accF (wholeL s)) ((linesV (wholeL s)).drop 1) : Int), 0)) := by show _ = _; unfold prefP; rw [if_neg hl]
  have h6' := h6 (by omega)
  have HWh := Lib.hid (whole_any s w (by omega))
  have HLi : Hid (∀ W : World, Calls Tryz.prog 30 #[strV (wholeL s)] W fun e w' => ∃ v, e = .returned (.tuple #[v, .int .i64 (linesN (wholeL s)), .int .i64 (linesE (wholeL s))]) ∧ (linesE (wholeL s) = 0 → RS w' v (linesV (wholeL s))) ∧ Below W.heap.size W w') := fun W => rLines_any (wholeL s) W
  generalize wholeL s = u at *
  generalize prefP s = AP at *
  rw [show strV s = .string ⟨s.toArray⟩ from rfl] at *
  generalize (⟨s.toArray⟩ : ByteArray) = B at *
  have hB6 : B.size ≤ 65536 := by omega
  clear hl hsz h6
  by_cases h1 : linesE u ≠ 0
  · have hR1 : Hid (AP = (0, linesE u)) := by show _ = _; rw [hR.out, if_pos h1]
    have t1 : (linesE u != 0) = true := by simpa using h1
    generalize linesE u = E at *
    generalize strV u = U at *
    clear h1 hR h6'
    go_enter Tryz.func19, Tryz.ntmps19
    go_wp2_with fail
    refine HWh.out.mono ?_
    rintro e w1 ⟨rfl, hb1⟩
    have HB1 := Lib.hid hb1
    have HL1 := Lib.hid (HLi.out w1)
    clear hb1
    go_wp2_with fail
    refine HL1.out.mono ?_
    rintro e w2 ⟨v1, rfl, -, hb2⟩
    have HB2 := Lib.hid (HB1.out.trans (hb2.mono HB1.out.size))
    clear hb2 HL1 HLi HWh
    go_wp2
    go_ret2
    exact ⟨by rw [hR1.out]; rfl, HB2.out⟩
  have h10 : linesE u = 0 := by omega
  have hsl := lines_s h10
  have hln := lines_len h10
  have HM : Hid (∀ x ∈ linesV u, x.length ≤ 65536) := fun x hx => Nat.le_trans (lines_mem hx) hsl
  have HR0 : Hid (AP = if hdE (hd0 u) ≠ 0 then (0, hdE (hd0 u)) else ((cntF (accF u) ((linesV u).drop 1) : Int), 0)) := by show _ = _; rw [hR.out, if_neg h1]
  have HF : Hid (accF u = lineE (hdN (hd0 u)).toNat (hdT (hd0 u))) := rfl
  have h0m : hd0 u ∈ linesV u := by unfold hd0; rw [List.getD_eq_getElem?_getD, List.getElem?_eq_getElem (show 0 < (linesV u).length by omega)]; exact List.getElem_mem _
  have hhd : (hd0 u).length ≤ 65536 := HM.out _ h0m
  have h0e : hd0 u = (linesV u).getD 0 [] := rfl
  have HHd : Hid (∀ W : World, Calls Tryz.prog 28 #[strV ((linesV u).getD 0 [])] W fun e w' => ∃ v, e = .returned (.tuple #[v, .int .i64 (hdE (hd0 u))]) ∧ (hdE (hd0 u) = 0 → GV w' v (hdN (hd0 u)) (hdT (hd0 u))) ∧ (∃ (z : Int) (A : Option Addr) (l c : Nat), v = .agg #[.int .i64 z, .slice A l c]) ∧ Below W.heap.size W w') := fun W => by rw [← h0e]; exact rHead_any (hd0 u) W (by omega)
  have HOf : Hid (hdE (hd0 u) = 0 → ofE (hdN (hd0 u)) (hdT (hd0 u)) = 0 ∧ fewB (hdN (hd0 u)) (hdT (hd0 u)) = true) := fun h => ⟨hdE_of h, h6' h10 h⟩
  have HLen : Hid ((linesV u).length ≤ 70000) := by
    have h2 := splitL_length 10 u
    show _ ≤ _
    unfold linesV
    rw [List.length_take]
    omega
  have HLn := Lib.hid lineOk58
  rw [h10] at HLi
  generalize hdE (hd0 u) = E at *
  generalize hdN (hd0 u) = n at *
  generalize hdT (hd0 u) = es at *
  generalize accF u = f at *
  generalize linesN u = nn at *
  clear h6' h1 h0m hhd h0e h10 hsl hR
  generalize linesV u = ls at *
  generalize strV u = U at *
  go_enter Tryz.func19, Tryz.ntmps19
  go_wp2_with fail
  refine HWh.out.mono ?_
  rintro e w0 ⟨rfl, hb0⟩
  have HB0 := Lib.hid hb0
  have HL1 := Lib.hid (HLi.out w0)
  clear hb0
  go_wp2_with fail
  refine HL1.out.mono ?_
  rintro e w1 ⟨v1, rfl, hr1, hb1⟩
  have hr1' := hr1 trivial
  obtain ⟨A, c, rfl, hlc, hcl⟩ := hr1'.open_
  obtain ⟨ad, rfl, had, hc0⟩ := hcl 0 (by omega)
  rw [add_zero'] at hc0
  have HR1 := Lib.hid hr1'
  have HB1 := Lib.hid (HB0.out.trans (hb1.mono HB0.out.size))
  have HHd1 := Lib.hid (HHd.out w1)
  have hl0 : (0 : Int) < (ls.length : Int) := by omega
  clear hr1 hr1' hb1 HHd HLi HL1 HWh hcl HB0
  go_wp2_with fail
  refine HHd1.out.mono ?_
  rintro e w2 ⟨v2, rfl, hg2, ⟨z, A2, l2, c2, rfl⟩, hb2⟩
  have HB2 := Lib.hid (HB1.out.trans (hb2.mono HB1.out.size))
  obtain ⟨W3, hW3⟩ : ∃ W3, W3 = w2.alloc (.cells #[.int .i64 z, .slice A2 l2 c2] 24) := ⟨_, rfl⟩
  have hb3 : Below w2.heap.size w2 W3 := by rw [hW3]; exact below_alloc w2 _
  have hx3 : BL W3 w2.heap.size 24 [.int .i64 z, .slice A2 l2 c2] := by rw [hW3]; exact BL.new' w2 _ _
  have HX3 := Lib.hid hx3
  have HB3 := Lib.hid (HB2.out.trans (hb3.mono HB2.out.size))
  have HG3 : Hid (E = 0 → GV W3 (.agg #[.int .i64 z, .slice A2 l2 c2]) n es) := fun h => (hg2 h).below hb3
  have HR3 := Lib.hid ((HR1.out.below hb2).below hb3)
  have HW3 := Lib.hid hW3
  clear hg2 hb2 hb3 hx3 hW3 HHd1 HR1
  go_upto_region 7 with fail
  rw [← HW3.out]
  by_cases hE : E ≠ 0
  · have hR1 : Hid (AP = (0, E)) := by show _ = _; rw [HR0.out, if_pos hE]
    have t1 : (E != 0) = true := by simpa using hE
    clear hE HR0 HOf
    go_wp2
    go_ret2
    exact ⟨by rw [hR1.out]; rfl, HB3.out⟩
  have hE0 : E = 0 := by omega
  have HR1 : Hid (AP = ((cntF f (ls.drop 1) : Int), 0)) := by show _ = _; rw [HR0.out, if_neg hE]
  obtain ⟨hof, hfw⟩ := HOf.out hE0
  have HOf0 := Lib.hid hof
  have HFw := Lib.hid hfw
  have HGV := Lib.hid (HG3.out hE0)
  rw [hE0]
  have HLs : Hid ((ls.drop 1).length = ls.length - 1) := by show _ = _; simp
  obtain ⟨A', c', he, hlc', hcl'⟩ := HR3.out.open_
  simp only [Value.slice.injEq] at he
  obtain ⟨rfl, -, rfl⟩ := he
  have HCl := Lib.hid hcl'
  have HLg := Lib.hid (show 1 ≤ ls.length from hln)
  clear hE hE0 HR0 HOf hof hfw HG3 hcl' hc0 hlc'
  go_wp2_with fail
  go_loopw [8, 9] (fun a i wr => ∃ k : Nat, 1 ≤ k ∧ k ≤ ls.length ∧ a = .int .i64 ((k : Int) - 1) ∧ i = .int .i64 (k : Int) ∧ Hid (cntF f (ls.drop 1) = (k - 1) + cntF f (ls.drop k)) ∧ Hid (Below W3.heap.size W3 wr)) (fun _ i _ => ls.length - (intOf i).toNat)
  case atStart => exact ⟨1, Nat.le_refl _, hln, rfl, rfl, by show _ = _; simp, Below.refl _ _⟩
  case round =>
    obtain ⟨k, hk1, hk, rfl, rfl, hb, hw⟩ := hrel
    by_cases hlt : k < ls.length
    · obtain ⟨_, e0, hab, hck⟩ := HCl.out k hlt
      cases e0
      have hx : ls[k]? = some (ls.getD k []) := by rw [List.getD_eq_getElem?_getD, List.getElem?_eq_getElem hlt]; rfl
      have hxl := HM.out _ (List.mem_of_getElem? hx)
      have hdr : ls.drop k = ls.getD k [] :: ls.drop (k + 1) := drop_at hx
      have HBw := Lib.hid (HB3.out.trans (hw.out.mono HB3.out.size))
      have hbe : cntF f (ls.getD k [] :: ls.drop (k + 1)) = if f (ls.getD k []) ≠ 0 then 0 else cntF f (ls.drop (k + 1)) + 1 := rfl
      have HBe : Hid (cntF f (ls.drop 1) = (k - 1) + if lineE n.toNat es (ls.getD k []) ≠ 0 then 0 else cntF f (ls.drop (k + 1)) + 1) := by
        show _ = _
        rw [hb.out, hdr, hbe, HF.out]
      have HLk := Lib.hid (HLn.out _ n es (ls.getD k []) wr.drew ((HGV.out.below hw.out).below (Below.refl _ _).drew) HOf0.out HFw.out hxl)
      generalize lineE n.toNat es (ls.getD k []) = le at *
      generalize ls.getD k [] = x at *
      have HKK : Hid (∀ W : World, Below W3.heap.size W3 W → (fun W : World => W.cell? ⟨w2.heap.size, 0, none⟩ = some (.int .i64 z) ∧ W.cell? ⟨w2.heap.size, 1, none⟩ = some (.slice A2 l2 c2) ∧ W.cell? (ad.add k) = some (strV x)) W) := fun W hW =>
        ⟨(HX3.out.bel hW).cell 0, (HX3.out.bel hW).cell 1, (hW.cell (p := ad.add k) (by rw [block_of_add]; exact hab)).trans hck⟩
      have HS0 := Lib.hid (HKK.out wr.drew hw.out.drew)
      have HW := Lib.hid hw.out
      have hg1 : ((k : Int) < (ls.length : Int)) := by omega
      clear hb hbe hdr hx hxl hck hab hw
      go_wp2_with fail
      go_region_held3 (fun W : World => W.cell? ⟨w2.heap.size, 0, none⟩ = some (.int .i64 z) ∧ W.cell? ⟨w2.heap.size, 1, none⟩ = some (.slice A2 l2 c2) ∧ W.cell? (ad.add k) = some (strV x)) (first | exact HS0.out | exact HS4.out)
        (first | (go_at_call 26; refine HLk.out.mono ?_; rintro e w4 ⟨rfl, hb4⟩; have HW4 := Lib.hid (HW.out.drew.trans (hb4.mono HW.out.drew.size)); have HS4 := Lib.hid (HKK.out w4 HW4.out); clear hb4))
      have HB5 := Lib.hid (HB3.out.trans (HW4.out.mono HB3.out.size))
      clear HS0 HS4 HKK HLk
      by_cases hle : le ≠ 0
      · have hR2 : Hid (AP = ((k : Int) - 1, 0)) := by
          show _ = _
          rw [HR1.out, HBe.out, if_pos hle]
          congr 1
          omega
        have t1 : (le == 0) = false := by simpa using hle
        clear hle HBe HR1
        go_wp2
        go_ret2
        exact ⟨by rw [hR2.out]; rfl, HB5.out⟩
      · have HN : Hid (cntF f (ls.drop 1) = (k + 1 - 1) + cntF f (ls.drop (k + 1))) := by show _ = _; rw [HBe.out, if_neg hle]; omega
        obtain rfl : le = 0 := by omega
        have hkb : k < 9223372036854775000 := by have := HLen.out; omega
        clear hle HBe
        go_wp2
        go_roundw
        case rel => exact ⟨k + 1, by omega, by omega, by go_num, by go_num, HN.out, HW4.out⟩
        case measure => simp [intOf]; omega
    · have hd : ls.drop k = [] := List.drop_of_length_le (by omega)
      have hAP : Hid (AP = ((k : Int) - 1, 0)) := by
        show _ = _
        rw [HR1.out, hb.out, hd]
        show (((k - 1 + 0 : Nat) : Int), (0 : Int)) = _
        congr 1
        omega
      have HB9 := Lib.hid (HB3.out.trans (hw.out.mono HB3.out.size))
      have hlb : (ls.length : Int) ≤ 70000 := by have := HLen.out; omega
      have hg1 : ¬ ((k : Int) < (ls.length : Int)) := by omega
      clear hd hb
      go_wp2
      go_quiet (first | (fail))
      go_wp2
      go_ret2
      exact ⟨by rw [hAP.out]; rfl, below_drewN HB9.out _⟩
end Go.Proofs.YtgcnijmmjlfabaaGreatDoor

namespace Go.Proofs.YtgcnijmmjlfabaaGreatDoor
open Go.RowKit Go.Shelf

/-- The checker's Prefix, with the filter asked for short logs alone. -/
theorem kPrefix6_any (s : List UInt8) (w : World) (hlv : LV w) (h6 : s.length ≤ 65536 → linesE (wholeL s) = 0 → hdE (hd0 (wholeL s)) = 0 → hdN (hd0 (wholeL s)) ≤ 6) :
    Calls Tryz.prog 18 #[strV s] w fun e w' => e = .returned (.tuple #[.int .i64 (prefP s).1, .int .i64 (prefP s).2]) ∧ Below w.heap.size w w' := by
  by_cases hl : s.length ≤ 65536
  · exact kPrefix_any s w hlv (h6 hl)
  · have hsz : (⟨s.toArray⟩ : ByteArray).size = s.length := by simp [ByteArray.size]
    have hR : prefP s = (0, 19) := by unfold prefP; rw [if_pos (by omega)]
    rw [hR, show strV s = .string ⟨s.toArray⟩ from rfl]
    have hB : 65536 < (⟨s.toArray⟩ : ByteArray).size := by omega
    generalize (⟨s.toArray⟩ : ByteArray) = B at *
    clear hlv h6 hR hl hsz
    go_enter Tryz.func18, Tryz.ntmps18
    go_wp2
    go_ret2
    exact ⟨rfl, Below.refl _ _⟩
theorem cutsLaw_any (s : List UInt8) (w : World) (hlv : LV w) :
    Calls Tryz.prog 5 #[strV s] w fun e w' => e = .returned (.bool true) ∧ Below w.heap.size w w' := by
  have HLo := Lib.hid (long_any s w)
  have HAw : Hid (∀ W, Below w.heap.size w W → Calls Tryz.prog 9 #[] W fun e w' => e = .returned (.bool true) ∧ Below W.heap.size W w') := fun W h => awake58_any W (hlv.below h)
  have hlo : longB s = false → s.length ≤ 131072 := fun h => by
    unfold longB at h
    simp only [Bool.or_eq_false_iff, decide_eq_false_iff_not] at h
    omega
  have HWi : Hid (longB s = false → Calls Tryz.prog 12 #[strV s] w fun e w' => e = .returned (.bool (wideB s)) ∧ Below w.heap.size w w') := fun h => wide_any s w hlv (by have := hlo h; omega)
  have H1 : Hid (wideB s = false → ∀ W, Below w.heap.size w W → Calls Tryz.prog 18 #[strV s] W fun e w' => e = .returned (.tuple #[.int .i64 (prefP s).1, .int .i64 (prefP s).2]) ∧ Below W.heap.size W w') := fun h W hb => kPrefix6_any s W (hlv.below hb) (fun hs => few6 (wide_whole hs h))
  have H2 : Hid (wideB s = false → ∀ W, Below w.heap.size w W → Calls Tryz.prog 19 #[strV s] W fun e w' => e = .returned (.tuple #[.int .i64 (prefP s).1, .int .i64 (prefP s).2]) ∧ Below W.heap.size W w') := fun h W hb => rPrefix_any s W (fun hs => wide_whole hs h)
  clear hlv hlo
  generalize (prefP s).1 = a1 at *
  generalize (prefP s).2 = E at *
  generalize wideB s = wi at *
  generalize longB s = lo at *
  generalize strV s = S at *
  go_enter Tryz.func5, Tryz.ntmps5
  go_wp2_with fail
  refine HLo.out.mono ?_
  rintro e wx ⟨rfl, rfl⟩
  cases lo
  rotate_left
  · clear HWi HLo H1 H2
    go_wp2_with fail
    refine (HAw.out _ (Below.refl _ _)).mono ?_
    rintro e w2 ⟨rfl, hb2⟩
    have HB2 := Lib.hid hb2
    clear hb2 HAw
    go_wp2
    go_ret
    exact ⟨rfl, HB2.out⟩
  have HW1 := Lib.hid (HWi.out (by first | rfl | trivial))
  clear HWi HLo
  go_wp2_with fail
  refine HW1.out.mono ?_
  rintro e w1 ⟨rfl, hb1⟩
  have HB1 := Lib.hid hb1
  clear hb1 HW1
  cases wi
  rotate_left
  · clear  H1 H2
    go_wp2_with fail
    refine (HAw.out _ HB1.out).mono ?_
    rintro e w2 ⟨rfl, hb2⟩
    have HB2 := Lib.hid (HB1.out.trans (hb2.mono HB1.out.size))
    clear hb2 HAw
    go_wp2
    go_ret
    exact ⟨rfl, HB2.out⟩
  have HC2 := Lib.hid ((H1.out (by first | rfl | trivial)) _ HB1.out)
  clear H1
  go_wp2_with fail
  refine HC2.out.mono ?_
  rintro e w2 ⟨rfl, hb2⟩
  have HB2 := Lib.hid (HB1.out.trans (hb2.mono HB1.out.size))
  clear hb2 HC2
  have HC3 := Lib.hid ((H2.out (by first | rfl | trivial)) _ HB2.out)
  clear H2
  go_wp2_with fail
  refine HC3.out.mono ?_
  rintro e w3 ⟨rfl, hb3⟩
  have HB3 := Lib.hid (HB2.out.trans (hb3.mono HB2.out.size))
  clear hb3 HC3
  have ta : (a1 == a1) = true := by simp
  have te : (E == E) = true := by simp
  go_wp2_with fail
  refine (HAw.out _ HB3.out).mono ?_
  rintro e w4 ⟨rfl, hb4⟩
  have HB4 := Lib.hid (HB3.out.trans (hb4.mono HB3.out.size))
  clear hb4 HAw
  go_wp2
  go_ret
  exact ⟨rfl, HB4.out⟩
end Go.Proofs.YtgcnijmmjlfabaaGreatDoor

