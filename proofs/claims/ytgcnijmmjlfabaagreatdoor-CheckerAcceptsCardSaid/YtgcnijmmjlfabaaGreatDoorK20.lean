/- Contract of the checker's line.
   Contract of the checker's Line. -/
import Derived.Test.YtgcnijmmjlfabaaGreatDoorK19
set_option maxRecDepth 100000
set_option maxHeartbeats 16000000
namespace Go.Proofs.YtgcnijmmjlfabaaGreatDoor
open Go.RowKit Go.Shelf

theorem KA.set {w : World} {ad : Addr} (h : KA w ad) {p : Addr} (hp : p.block ≠ ad.block) (v : Value) : KA (w.setCell p v) ad := by
  obtain ⟨h0, h1⟩ := h
  have hx : ∀ (k j : Nat) (u : Value), w.cell? ⟨(ad.add (k * 8)).block, (ad.add (k * 8)).off + j, none⟩ = some u → (w.setCell p v).cell? ⟨(ad.add (k * 8)).block, (ad.add (k * 8)).off + j, none⟩ = some u := fun k j u h => (World.cell?_setCell_far _ _ _ _ (by show p.block ≠ (ad.add (k * 8)).block; rw [block_of_add]; exact hp)).trans h
  refine ⟨by simpa using h0, fun k hk => ?_⟩
  obtain ⟨S, hS, c0, c1, c2, c3, c4, c5, c6, c7⟩ := h1 k hk
  exact ⟨S, hS, (World.cell?_setCell_far _ _ _ _ (by rw [block_of_add]; exact hp)).trans c0, hx _ _ _ c1, hx _ _ _ c2, hx _ _ _ c3, hx _ _ _ c4, hx _ _ _ c5, hx _ _ _ c6, hx _ _ _ c7⟩
/-- The function that proves a kind. -/
def kpn (i : Nat) : Nat := ([63, 67, 69, 71, 72, 73, 75, 77, 78] : List Nat).getD i 0
theorem prv_any (gv va vb vf vp : Value) (m i : Nat) (Q N : Int) (es : List Tri) (a b f pf : List Int) (w : World) (hi : i < 9) (hg : GX w gv m es) (ha : RI w va a) (hb : RI w vb b) (hf : RI w vf f) (hp : RI w vp pf) (hE : Edges m es) (hm1 : 1 ≤ m) (hm : m ≤ 6)
    (hla : kf i = false → a.length = m ∧ (kb i = true → b.length = m)) (hQ : kq i = true → 0 ≤ Q ∧ Q < m) (hN : kn i = true → kl i ≤ N ∧ N ≤ 12) (hab : Bd 2000000 a) (hpb : Bd 2000000 pf) (hfl : f.length ≤ 100000) (hpl : pf.length ≤ 100000) :
    Calls Tryz.prog (kpn i) #[gv, .agg #[.int .i64 Q, .int .i64 N, va, vb, vf, vp]] w fun e w' => e = .returned (.int .i64 (provesE m es i Q N a b f pf)) ∧ Below w.heap.size w w' := by
  have h12 : m ≤ 12 := by omega
  match i, hi with
  | 0, _ => exact kp1_any gv va vb vf vp m Q N es a b pf w hg ha hb hp hE h12 (hla rfl).1 ((hla rfl).2 rfl) hab hpb
  | 1, _ => exact kp2_any gv va vb vf vp m Q N es a pf w hg ha hp hE h12 (hla rfl).1 hab hpb
  | 2, _ => exact kp3_any gv va vb vf vp m Q N es a pf w hg ha hp hE hm1 h12 (hla rfl).1 hab hpb hpl
  | 3, _ =>
    obtain ⟨h1, h2⟩ := hN rfl
    have h1' : 0 ≤ N := h1
    obtain ⟨d, rfl⟩ := Int.eq_ofNat_of_zero_le h1'
    exact kCovers_any gv va vb vf vp m d Q es a pf w hg ha hp hE hm1 hm (by omega) (hla rfl).1 hab hpb
  | 4, _ => exact kBelow_any gv va vb vf vp m Q N es a pf w hg ha hp hE hm1 h12 (hla rfl).1 hab hpb (hN rfl)
  | 5, _ =>
    obtain ⟨h1, h2⟩ := hQ rfl
    obtain ⟨d, rfl⟩ := Int.eq_ofNat_of_zero_le h1
    exact kp4_any gv va vb vf vp m d N es a pf w hg ha hp hE h12 (by omega) (hla rfl).1 hpl
  | 6, _ =>
    obtain ⟨h1, h2⟩ := hQ rfl
    obtain ⟨d, rfl⟩ := Int.eq_ofNat_of_zero_le h1
    exact kp5_any gv va vb vf vp m d N es a pf w hg ha hp hE h12 (by omega) (hla rfl).1 hab hpl
  | 7, _ =>
    obtain ⟨h1, h2⟩ := hQ rfl
    obtain ⟨d, rfl⟩ := Int.eq_ofNat_of_zero_le h1
    exact kSettles_any gv va vb vf vp m d N es a b pf w hg ha hb hp hE h12 (by omega) (hla rfl).1 ((hla rfl).2 rfl) hab hpb hpl
  | 8, _ =>
    obtain ⟨k, rfl⟩ : ∃ k, m = k + 1 := ⟨m - 1, by omega⟩
    exact kGrouped_any gv va vb vf vp k Q N es f pf w hg hf hp hE (by omega) hfl hpb hpl
theorem kLine_any (gv : Value) (m : Nat) (es : List Tri) (s : List UInt8) (w : World) (hg : GX w gv m es) (hlv : LV w) (hE : Edges m es) (hm1 : 1 ≤ m) (hm : m ≤ 6) (hs : s.length ≤ 90000) :
    Calls Tryz.prog 25 #[gv, strV s] w fun e w' => e = .returned (.int .i64 (lineE m es s)) ∧ Below w.heap.size w w' := by
  have HSp := Lib.hid (split_any s 32 w hlv (by omega))
  have hwl := splitL_length 32 s
  have hwp := splitL_part 32 s
  have hwn := splitL_ne 32 s
  have HLn : Hid (lineE m es s = if idxG ((splitL 32 s).getD 0 []) kwL < 0 ∨ idxG [58] (splitL 32 s) < 0 then 4 else wrdE m es (splitL 32 s) (idxG ((splitL 32 s).getD 0 []) kwL).toNat (idxG [58] (splitL 32 s)).toNat) := rfl
  obtain ⟨L, hL⟩ : ∃ L, L = lineE m es s := ⟨_, rfl⟩
  rw [← hL] at HLn ⊢
  clear hL
  generalize splitL 32 s = ws at *
  have hw0 : 0 < ws.length := List.length_pos_iff.2 hwn
  have HWp : Hid (∀ x ∈ ws, x.length ≤ 1000000) := fun x hx => by have := hwp x hx; omega
  have HG := Lib.hid hg
  have HLV := Lib.hid hlv
  clear hg hlv hwp hwn
  go_enter Tryz.func25, Tryz.ntmps25
  go_wp2_with fail
  refine HSp.out.mono ?_
  rintro e w1 ⟨v1, rfl, hr1, hb1⟩
  obtain ⟨A1, c1, rfl, hlc1, hcl1⟩ := hr1.open_
  obtain ⟨ad1, rfl, had1, hc01⟩ := hcl1 0 hw0
  rw [add_zero'] at hc01
  obtain ⟨W1, hW1⟩ : ∃ W1, W1 = w1.alloc (.cells #[.slice (some ad1) ws.length c1] 36) := ⟨_, rfl⟩
  have hb2 : Below w1.heap.size w1 W1 := by rw [hW1]; exact below_alloc w1 _
  have hx5 : BL W1 w1.heap.size 36 [.slice (some ad1) ws.length c1] := by rw [hW1]; exact BL.new' w1 _ _
  have HB1 := Lib.hid (hb1.trans (hb2.mono hb1.size))
  have HR1 := Lib.hid (hr1.below hb2)
  have HX5 := Lib.hid hx5
  have HC0 : Hid (W1.cell? ad1 = some (strV (ws.getD 0 []))) := (hb2.cell had1).trans hc01
  have HW1 := Lib.hid hW1
  have HKi := Lib.hid (kKinds_any W1)
  clear hb1 hr1 hcl1 had1 hc01 hW1 hb2 hx5
  go_wp2_with fail
  rw [← HW1.out]
  refine HKi.out.mono ?_
  rintro e w2 ⟨rfl, hb3⟩
  obtain ⟨W2, hW2⟩ : ∃ W2, W2 = w2.alloc (.cells kindsL.toArray 78) := ⟨_, rfl⟩
  have hb4 : Below w2.heap.size w2 W2 := by rw [hW2]; exact below_alloc w2 _
  have hx6 : BL W2 w2.heap.size 78 kindsL := by rw [hW2]; exact BL.new' w2 _ _
  have HW2 := Lib.hid hW2
  clear hW2
  go_wp2_with (refine wpList_store_row rfl 78 _ _ rfl w2.heap.size kindsL.toArray rfl rfl _ _ (heap_alloc_new w2 _) kinds_size (by kernel_rfl) (by kernel_rfl) ?_; rw [World.setRow_alloc_new, ← HW2.out])
  have hb34 : Below W1.heap.size W1 W2 := hb3.trans (hb4.mono hb3.size)
  have hka := KA.of hx6
  generalize (⟨w2.heap.size, 0, none⟩ : Addr) = ad6 at *
  have HB2 := Lib.hid (HB1.out.trans (hb34.mono HB1.out.size))
  have HX5b := Lib.hid (HX5.out.bel hb34)
  have HR2 := Lib.hid (HR1.out.below hb34)
  have HC0b : Hid (W2.cell? ad1 = some (strV (ws.getD 0 []))) := (hb34.cell (World.block_lt_of_cell? _ _ HC0.out)).trans HC0.out
  have HFi := Lib.hid (kFind_any ad6 ad1 w1.heap.size ws.length c1 (ws.getD 0 []) W2 hka HX5b.out hw0 HC0b.out)
  have HKa := Lib.hid hka
  clear hb3 hb4 hx6 hb34 hka HW2 HX5 HR1 HC0 HKi HW1
  refine HFi.out.mono ?_
  rintro e w3 ⟨rfl, hb5⟩
  have HB3 := Lib.hid (HB2.out.trans (hb5.mono HB2.out.size))
  have HX5c := Lib.hid (HX5b.out.bel hb5)
  have HR3 := Lib.hid (HR2.out.below hb5)
  have HKa3 := Lib.hid (HKa.out.bel hb5)
  have HIx := Lib.hid (IndexS_any _ ws [58] w3 HR3.out (by omega))
  have c5 := HX5c.out.cell 0
  have hilo := idxG_lo (ws.getD 0 []) kwL
  have hihi := idxG_hi (ws.getD 0 []) kwL
  have hiat : ∀ k : Nat, idxG (ws.getD 0 []) kwL = k → kwL[k]? = some (ws.getD 0 []) := fun k h => idxG_at h
  have halo := idxG_lo [58] ws
  have hahi := idxG_hi [58] ws
  have haat : idxG [58] ws = 0 → ws.getD 0 [] = [58] := fun h => by
    have := idxG_at (k := 0) (v := [58]) (l := ws) (by omega)
    rw [List.getD_eq_getElem?_getD, this]; rfl
  have hk58 : idxG [58] kwL = -1 := by decide
  have ha0 : 0 ≤ idxG (ws.getD 0 []) kwL → idxG [58] ws ≠ 0 := fun h1 h2 => by
    have h3 := haat h2
    rw [h3, hk58] at h1
    omega
  rw [show strV [58] = .string ⟨#[58]⟩ from rfl] at HIx
  generalize idxG (ws.getD 0 []) kwL = ix at *
  generalize idxG [58] ws = at_ at *
  clear hb5 HX5b HR2 HKa HC0b HFi haat hk58 hiat
  go_wp2_with fail
  refine HIx.out.mono ?_
  rintro e w4 ⟨rfl, rfl⟩
  clear HIx
  by_cases hbad : ix < 0 ∨ at_ < 0
  · have HR : Hid (L = 4) := by show _ = _; rw [HLn.out, if_pos hbad]
    by_cases h1 : ix < 0
    · go_wp2
      go_ret
      exact ⟨ret_i HR.out.symm, HB3.out⟩
    · have h2 : at_ < 0 := by omega
      go_wp2
      go_ret
      exact ⟨ret_i HR.out.symm, HB3.out⟩
  · have HLn2 : Hid (L = wrdE m es ws ix.toNat at_.toNat) := by show _ = _; rw [HLn.out, if_neg hbad]
    obtain ⟨i, rfl⟩ : ∃ i : Nat, ix = (i : Int) := ⟨ix.toNat, by omega⟩
    obtain ⟨k, rfl⟩ : ∃ k : Nat, at_ = (k : Int) := ⟨at_.toNat, by omega⟩
    have hi9 : i < 9 := by have : kwL.length = 9 := rfl; omega
    have hk1 : 1 ≤ k := by have := ha0 (by omega); omega
    have hkl : k < ws.length := by omega
    rw [Int.toNat_natCast, Int.toNat_natCast] at HLn2
    clear HLn ha0 hbad hilo hihi halo hahi
    have hs1 := RS.sub HR3.out (i := 1) (j := k) hk1 (by omega)
    have hs2 := RS.sub HR3.out (i := k + 1) (j := ws.length) (by omega) (Nat.le_refl _)
    rw [List.take_of_length_le (Nat.le_refl _)] at hs2
    rw [if_neg (by omega), show ad1.add 1 = ⟨ad1.block, ad1.off + 1, none⟩ from rfl] at hs1
    have HN1 := Lib.hid (kNums_any _ ((ws.take k).drop 1) w3 hs1 (HLV.out.below HB3.out) (by rw [List.length_drop, List.length_take]; omega) fun x hx => HWp.out x (List.mem_of_mem_take (List.mem_of_mem_drop hx)))
    have HN2 : Hid (∀ W, Below w3.heap.size w3 W → Calls Tryz.prog 47 #[.slice (if c1 = k + 1 then some ad1 else some (ad1.add (k + 1))) (ws.length - (k + 1)) (c1 - (k + 1))] W fun e w' => ∃ vo, e = .returned (.tuple #[vo, .int .i64 (numsE (ws.drop (k + 1)))]) ∧ (numsE (ws.drop (k + 1)) = 0 → RI w' vo (numsV (ws.drop (k + 1)))) ∧ Below W.heap.size W w') := fun W h =>
      kNums_any _ (ws.drop (k + 1)) W (hs2.below h) ((HLV.out.below HB3.out).below h) (by rw [List.length_drop]; omega) fun x hx => HWp.out x (List.mem_of_mem_drop hx)
    have HLc : Hid ((numsV ((ws.take k).drop 1)).length ≤ 100000) := by show _ ≤ _; rw [numsV_len, List.length_drop, List.length_take]; omega
    have HLp : Hid ((numsV (ws.drop (k + 1))).length ≤ 100000) := by show _ ≤ _; rw [numsV_len, List.length_drop]; omega
    have HB1n : Hid (numsE ((ws.take k).drop 1) = 0 → Bd 2000000 (numsV ((ws.take k).drop 1))) := nums_bd
    have HB2n : Hid (numsE (ws.drop (k + 1)) = 0 → Bd 2000000 (numsV (ws.drop (k + 1)))) := nums_bd
    have HSpc : Hid (L = if numsE ((ws.take k).drop 1) = 4 ∨ numsE (ws.drop (k + 1)) = 4 then 4 else if numsE ((ws.take k).drop 1) ≠ 0 ∨ numsE (ws.drop (k + 1)) ≠ 0 then 2 else clmE m es i (numsV ((ws.take k).drop 1)) (numsV (ws.drop (k + 1)))) := HLn2.out
    generalize numsE ((ws.take k).drop 1) = e1 at *
    generalize numsE (ws.drop (k + 1)) = e2 at *
    generalize numsV ((ws.take k).drop 1) = nl at *
    generalize numsV (ws.drop (k + 1)) = pf at *
    have f1 : (1 : Int) ≤ (k : Int) := by omega
    have f2 : k ≤ c1 := by omega
    have f3 : (k : Int) ≤ (c1 : Int) := by omega
    have f4 : (k : Int) + 1 ≤ (ws.length : Int) := by omega
    have f5 : k + 1 ≤ ws.length := by omega
    clear hs1 hs2 HLn2 HR3
    go_wp2_with fail
    refine HN1.out.mono ?_
    rintro e w4 ⟨vl, rfl, hl4, hb4⟩
    have HB4 := Lib.hid (HB3.out.trans (hb4.mono HB3.out.size))
    have HX5d := Lib.hid (HX5c.out.bel hb4)
    have HKa4 := Lib.hid (HKa3.out.bel hb4)
    have HN2b := Lib.hid (HN2.out w4 hb4)
    have HL4 := Lib.hid hl4
    have d5 := HX5d.out.cell 0
    clear hb4 hl4 c5 HN1 HN2
    go_upto_region 8 with fail
    go_cut [11, 12] from 36 to 43 (fun vp ef wx => ef = .int .i64 e2 ∧ Hid (e2 = 0 → RI wx vp pf) ∧ Hid (Below w4.heap.size w4 wx))
    case first =>
      by_cases hck : c1 = k + 1
      · subst hck
        rw [if_pos rfl, Nat.sub_self, show ws.length - (k + 1) = 0 by omega] at HN2b
        clear f2 f3
        go_wp2_with fail
        refine HN2b.out.mono ?_
        rintro e w5 ⟨vp, rfl, hl5, hb5⟩
        have HL5 := Lib.hid hl5
        have HB5 := Lib.hid hb5
        clear hl5 hb5
        go_wp2_with fail
        go_meet
        exact ⟨rfl, HL5.out, HB5.out⟩
      · rw [if_neg hck, show ad1.add (k + 1) = ⟨ad1.block, ad1.off + (k + 1), none⟩ by simp [Addr.add]] at HN2b
        go_wp2_with fail
        refine HN2b.out.mono ?_
        rintro e w5 ⟨vp, rfl, hl5, hb5⟩
        have HL5 := Lib.hid hl5
        have HB5 := Lib.hid hb5
        clear hl5 hb5
        go_wp2_with fail
        go_meet
        exact ⟨rfl, HL5.out, HB5.out⟩
    case rest =>
      obtain ⟨rfl, hl5, hb5⟩ := hcut
      have HB5 := Lib.hid (HB4.out.trans (hb5.out.mono HB4.out.size))
      have HKa5 := Lib.hid (HKa4.out.bel hb5.out)
      have HL4b : Hid (e1 = 0 → RI wc vl nl) := fun h => RI.below (HL4.out h) hb5.out
      by_cases h4 : e1 = 4 ∨ e2 = 4
      · have HR : Hid (L = 4) := by show _ = _; rw [HSpc.out, if_pos h4]
        clear HL4 HL4b hl5 HB1n HB2n HSpc
        by_cases h41 : e1 = 4
        · have t1 : (e1 == 4) = true := by simpa using h41
          clear h4 h41
          go_wp2
          go_ret
          exact ⟨ret_i HR.out.symm, HB5.out⟩
        · have t1 : (e1 == 4) = false := by simpa using h41
          have t2 : (e2 == 4) = true := by simp; omega
          clear h4 h41
          go_wp2
          go_ret
          exact ⟨ret_i HR.out.symm, HB5.out⟩
      · have t1 : (e1 == 4) = false := by simp; omega
        have t2 : (e2 == 4) = false := by simp; omega
        by_cases h0 : e1 ≠ 0 ∨ e2 ≠ 0
        · have HR : Hid (L = 2) := by show _ = _; rw [HSpc.out, if_neg h4, if_pos h0]
          clear HL4 HL4b hl5 HB1n HB2n HSpc
          by_cases h01 : e1 = 0
          · have t3 : (e1 != 0) = false := by simpa using h01
            have t4 : (e2 != 0) = true := by simp; omega
            clear h4 h0 h01
            go_wp2
            go_ret
            exact ⟨ret_i HR.out.symm, HB5.out⟩
          · have t3 : (e1 != 0) = true := by simpa using h01
            clear h4 h0 h01
            go_wp2
            go_ret
            exact ⟨ret_i HR.out.symm, HB5.out⟩
        · have h1 : e1 = 0 := by omega
          have h2 : e2 = 0 := by omega
          subst h1 h2
          have HSpc2 : Hid (L = clmE m es i nl pf) := by show _ = _; rw [HSpc.out, if_neg h4, if_neg h0]
          have HLv := Lib.hid (HL4b.out rfl)
          obtain ⟨Ap, cp, rfl, -⟩ := (hl5.out rfl).open_
          have HPv := Lib.hid (hl5.out rfl)
          have HLb := Lib.hid (HB1n.out rfl)
          have HPb := Lib.hid (HB2n.out rfl)
          clear h4 h0 t1 t2 HSpc HL4b HL4 hl5 HB1n HB2n
          obtain ⟨S, -, q0, q1, q2, q3, q4, q5, q6, q7⟩ := HKa5.out.2 i hi9
          have hi9' : (i : Int) < 9 := by omega
          have HFl := Lib.hid (kFilled_any gv (.string S) (.bool (ka i)) (.int .i64 (kl i)) (kp i) vl m (kq i) (kn i) (kb i) (kf i) es nl wc ((HG.out.below HB5.out)) HLv.out (by omega) hm1 HLc.out)
          go_wp2_with fail
          refine HFl.out.mono ?_
          rintro e w6 ⟨cv, rfl, hok, herr, hb6⟩
          have HB6 := Lib.hid (HB5.out.trans (hb6.mono HB5.out.size))
          have HKa6 := Lib.hid (HKa5.out.bel hb6)
          have HPv6 := Lib.hid (RI.below HPv.out hb6)
          clear HFl q0 q1 q2 q3 q4 q5 q6 q7
          by_cases hfz : fillE m (kq i) (kn i) (kb i) (kf i) nl ≠ 0
          · have HR : Hid (L = fillE m (kq i) (kn i) (kb i) (kf i) nl) := by show _ = _; rw [HSpc2.out]; unfold clmE; rw [if_pos hfz]
            obtain rfl := herr hfz
            generalize fillE m (kq i) (kn i) (kb i) (kf i) nl = fe at *
            have t3 : (fe != 0) = true := by simpa using hfz
            clear hfz herr hok HSpc2
            go_wp2
            go_ret
            exact ⟨ret_i HR.out.symm, by first | exact HB6.out | exact HB6.out.trans ((below_alloc _ _).mono HB6.out.size)⟩
          · have hfz0 : fillE m (kq i) (kn i) (kb i) (kf i) nl = 0 := by omega
            obtain ⟨va, vb, vf, rfl, hra, hrb, hrf⟩ := hok hfz0
            have HSpc3 : Hid (L = if rightE m (kq i) (kn i) (kl i) (fQ (kq i) nl) (fQ (kn i) (l1L (kq i) nl)) (fF (kf i) (l2L (kq i) (kn i) nl)) ≠ 0 then rightE m (kq i) (kn i) (kl i) (fQ (kq i) nl) (fQ (kn i) (l1L (kq i) nl)) (fF (kf i) (l2L (kq i) (kn i) nl))
                else provesE m es i (fQ (kq i) nl) (fQ (kn i) (l1L (kq i) nl)) (fA m (kb i) (kf i) (l2L (kq i) (kn i) nl)) (fB m (kb i) (kf i) (l2L (kq i) (kn i) nl)) (fF (kf i) (l2L (kq i) (kn i) nl)) pf) := by
              show _ = _; rw [HSpc2.out]; unfold clmE; rw [if_neg hfz]
            have hb2 : Bd 2000000 (l2L (kq i) (kn i) nl) := (HLb.out.l1 (by decide) _).l1 (by decide) _
            have HBA := Lib.hid (hb2.fA (by decide) m (kb i) (kf i))
            have HBB := Lib.hid (hb2.fB (by decide) m (kb i) (kf i))
            have HBF := Lib.hid (hb2.fF (by decide) (kf i))
            have HLA : Hid (kf i = false → (fA m (kb i) (kf i) (l2L (kq i) (kn i) nl)).length = m ∧ (kb i = true → (fB m (kb i) (kf i) (l2L (kq i) (kn i) nl)).length = m)) := fun h => fill_len hfz0 h
            have hl2 : (l2L (kq i) (kn i) nl).length ≤ 100000 := Nat.le_trans (l1L_len _ _) (Nat.le_trans (l1L_len _ _) HLc.out)
            have HLF : Hid ((fF (kf i) (l2L (kq i) (kn i) nl)).length ≤ 100000) := by
              show _ ≤ _
              unfold fF; split
              · rw [List.length_drop]; omega
              · simp
            rw [hfz0]
            clear hfz hfz0 herr hok HSpc2 hb2 hl2
            generalize fQ (kq i) nl = Q at *
            generalize fQ (kn i) (l1L (kq i) nl) = N at *
            generalize fA m (kb i) (kf i) (l2L (kq i) (kn i) nl) = cA at *
            generalize fB m (kb i) (kf i) (l2L (kq i) (kn i) nl) = cB at *
            generalize fF (kf i) (l2L (kq i) (kn i) nl) = cF at *
            obtain ⟨Aa, ca, rfl, -⟩ := hra.open_
            obtain ⟨Ab, cb, rfl, -⟩ := hrb.open_
            obtain ⟨Af, cf, rfl, -⟩ := hrf.open_
            obtain ⟨W7, hW7⟩ : ∃ W7, W7 = w6.alloc (.cells #[.int .i64 Q, .int .i64 N, .slice Aa cA.length ca, .slice Ab cB.length cb, .slice Af cF.length cf, .slice none 0 0] 87) := ⟨_, rfl⟩
            have hb7 : Below w6.heap.size w6 W7 := by rw [hW7]; exact below_alloc w6 _
            have hx7 : BL W7 w6.heap.size 87 [.int .i64 Q, .int .i64 N, .slice Aa cA.length ca, .slice Ab cB.length cb, .slice Af cF.length cf, .slice none 0 0] := by rw [hW7]; exact BL.new' w6 _ _
            have HW7 := Lib.hid hW7
            have HX7 := Lib.hid hx7
            have HB7 := Lib.hid (HB6.out.trans (hb7.mono HB6.out.size))
            have HKa7 := Lib.hid (HKa6.out.bel hb7)
            have HPv7 := Lib.hid (RI.below HPv6.out hb7)
            have HRa7 := Lib.hid (RI.below hra hb7)
            have HRb7 := Lib.hid (RI.below hrb hb7)
            have HRf7 := Lib.hid (RI.below hrf hb7)
            have HRa6 := Lib.hid hra
            have HRb6 := Lib.hid hrb
            have HRf6 := Lib.hid hrf
            clear hW7 hb7 hx7 hra hrb hrf
            go_upto_region 16 with fail
            rw [← HW7.out]
            obtain ⟨T, -, p0, p1, p2, p3, p4, p5, p6, p7⟩ := HKa7.out.2 i hi9
            have hadb := HKa7.out.1
            have HKK : Hid (∀ W : World, Below W7.heap.size W7 W → (fun W' : World => W'.cell? (ad6.add (i * 8)) = some (.string T) ∧ W'.cell? ⟨(ad6.add (i * 8)).block, (ad6.add (i * 8)).off + 1, none⟩ = some (.bool (kq i)) ∧ W'.cell? ⟨(ad6.add (i * 8)).block, (ad6.add (i * 8)).off + 2, none⟩ = some (.bool (kn i)) ∧ W'.cell? ⟨(ad6.add (i * 8)).block, (ad6.add (i * 8)).off + 3, none⟩ = some (.bool (ka i)) ∧ W'.cell? ⟨(ad6.add (i * 8)).block, (ad6.add (i * 8)).off + 4, none⟩ = some (.bool (kb i)) ∧ W'.cell? ⟨(ad6.add (i * 8)).block, (ad6.add (i * 8)).off + 5, none⟩ = some (.bool (kf i)) ∧ W'.cell? ⟨(ad6.add (i * 8)).block, (ad6.add (i * 8)).off + 6, none⟩ = some (.int .i64 (kl i)) ∧ W'.cell? ⟨(ad6.add (i * 8)).block, (ad6.add (i * 8)).off + 7, none⟩ = some (kp i) ∧ W'.cell? ⟨w6.heap.size, 0, none⟩ = some (.int .i64 Q) ∧ W'.cell? ⟨w6.heap.size, 1, none⟩ = some (.int .i64 N) ∧ W'.cell? ⟨w6.heap.size, 2, none⟩ = some (.slice Aa cA.length ca) ∧ W'.cell? ⟨w6.heap.size, 3, none⟩ = some (.slice Ab cB.length cb) ∧ W'.cell? ⟨w6.heap.size, 4, none⟩ = some (.slice Af cF.length cf) ∧ W'.cell? ⟨w6.heap.size, 5, none⟩ = some (.slice none 0 0)) W) := fun W h =>
              have hx : ∀ (j : Nat) (v : Value), W7.cell? ⟨(ad6.add (i * 8)).block, (ad6.add (i * 8)).off + j, none⟩ = some v → W.cell? ⟨(ad6.add (i * 8)).block, (ad6.add (i * 8)).off + j, none⟩ = some v := fun j v hh => (h.cell (by show (ad6.add (i * 8)).block < _; rw [block_of_add]; exact hadb)).trans hh
              ⟨(h.cell (by rw [block_of_add]; exact hadb)).trans p0, hx _ _ p1, hx _ _ p2, hx _ _ p3, hx _ _ p4, hx _ _ p5, hx _ _ p6, hx _ _ p7, (HX7.out.bel h).cell 0, (HX7.out.bel h).cell 1, (HX7.out.bel h).cell 2, (HX7.out.bel h).cell 3, (HX7.out.bel h).cell 4, (HX7.out.bel h).cell 5⟩
            have HS0 := Lib.hid (HKK.out W7.drew (Below.refl _ _).drew)
            have HRi := Lib.hid (kRight_any gv (.string T) (.bool (ka i)) (.bool (kb i)) (.bool (kf i)) (kp i) (.slice Aa cA.length ca) (.slice Ab cB.length cb) (.slice Af cF.length cf) (.slice none 0 0) m (kq i) (kn i) (kl i) Q N es cF W7.drew (HG.out.below HB7.out.drew) (RI.below HRf7.out (Below.refl _ _).drew) (by omega) hm1 HBF.out HLF.out)
            clear p0 p1 p2 p3 p4 p5 p6 p7 hadb
            go_region_held3 (fun W' : World => W'.cell? (ad6.add (i * 8)) = some (.string T) ∧ W'.cell? ⟨(ad6.add (i * 8)).block, (ad6.add (i * 8)).off + 1, none⟩ = some (.bool (kq i)) ∧ W'.cell? ⟨(ad6.add (i * 8)).block, (ad6.add (i * 8)).off + 2, none⟩ = some (.bool (kn i)) ∧ W'.cell? ⟨(ad6.add (i * 8)).block, (ad6.add (i * 8)).off + 3, none⟩ = some (.bool (ka i)) ∧ W'.cell? ⟨(ad6.add (i * 8)).block, (ad6.add (i * 8)).off + 4, none⟩ = some (.bool (kb i)) ∧ W'.cell? ⟨(ad6.add (i * 8)).block, (ad6.add (i * 8)).off + 5, none⟩ = some (.bool (kf i)) ∧ W'.cell? ⟨(ad6.add (i * 8)).block, (ad6.add (i * 8)).off + 6, none⟩ = some (.int .i64 (kl i)) ∧ W'.cell? ⟨(ad6.add (i * 8)).block, (ad6.add (i * 8)).off + 7, none⟩ = some (kp i) ∧ W'.cell? ⟨w6.heap.size, 0, none⟩ = some (.int .i64 Q) ∧ W'.cell? ⟨w6.heap.size, 1, none⟩ = some (.int .i64 N) ∧ W'.cell? ⟨w6.heap.size, 2, none⟩ = some (.slice Aa cA.length ca) ∧ W'.cell? ⟨w6.heap.size, 3, none⟩ = some (.slice Ab cB.length cb) ∧ W'.cell? ⟨w6.heap.size, 4, none⟩ = some (.slice Af cF.length cf) ∧ W'.cell? ⟨w6.heap.size, 5, none⟩ = some (.slice none 0 0)) (first | exact HS0.out | exact HS8.out)
              (first | (go_at_call 49; refine HRi.out.mono ?_; rintro e w8 ⟨rfl, hb8⟩; have HBr := Lib.hid ((Below.refl W7.heap.size W7).drew.trans hb8); have HS8 := Lib.hid (HKK.out w8 HBr.out); clear hb8))
            have HB8 := Lib.hid (HB7.out.trans (HBr.out.mono HB7.out.size))
            by_cases hre : rightE m (kq i) (kn i) (kl i) Q N cF ≠ 0
            · have HR : Hid (L = rightE m (kq i) (kn i) (kl i) Q N cF) := by show _ = _; rw [HSpc3.out, if_pos hre]
              generalize rightE m (kq i) (kn i) (kl i) Q N cF = re at *
              have t3 : (re != 0) = true := by simpa using hre
              clear hre HSpc3
              go_wp2
              go_ret
              exact ⟨ret_i HR.out.symm, HB8.out⟩
            · have hre0 : rightE m (kq i) (kn i) (kl i) Q N cF = 0 := by omega
              obtain ⟨hQ, hN⟩ := right_ok hre0
              have HSp4 : Hid (L = provesE m es i Q N cA cB cF pf) := by show _ = _; rw [HSpc3.out, if_neg hre]
              have HQ := Lib.hid hQ
              have HN := Lib.hid hN
              have hx8 := HX7.out.bel HBr.out
              have hx9 := hx8.set 5 (.slice Ap pf.length cp)
              have hka9 := (HKa7.out.bel HBr.out).set (p := ⟨w6.heap.size, 5, none⟩) (by have := HKa6.out.1; show w6.heap.size ≠ _; omega) (.slice Ap pf.length cp)
              have hb9 := HB8.out.setCell (p := ⟨w6.heap.size, 5, none⟩) HB6.out.size (.slice Ap pf.length cp)
              have z5 := hx8.cell 5
              have y5 := hx8.frozen 5
              rw [hre0]
              clear hre hre0 hQ hN HSpc3 HRi HS0 HS8 HKK
              go_upto_region 20 with fail
              obtain ⟨W9, hW9⟩ : ∃ W9, W9 = w8.setCell { block := w6.heap.size, off := 5 } (.slice Ap pf.length cp) := ⟨_, rfl⟩
              rw [← hW9] at hx9 hka9 hb9 ⊢
              have hy8 : Below w6.heap.size w6 w8 := by
                have h1 : Below w6.heap.size w6 W7 := by rw [HW7.out]; exact below_alloc w6 _
                exact h1.trans (HBr.out.mono h1.size)
              have hy9 : Below w6.heap.size w6 W9 := by rw [hW9]; exact hy8.setCell (Nat.le_refl _) _
              obtain ⟨_, -, -, -, -, -, -, -, -, p7⟩ := hka9.2 i hi9
              have HK9 : Hid (∀ W : World, Below W9.heap.size W9 W → (fun W' : World => W'.cell? ⟨(ad6.add (i * 8)).block, (ad6.add (i * 8)).off + 7, none⟩ = some (.func (.func (kpn i)) #[] #[]) ∧ W'.cell? ⟨w6.heap.size, 0, none⟩ = some (.int .i64 Q) ∧ W'.cell? ⟨w6.heap.size, 1, none⟩ = some (.int .i64 N) ∧ W'.cell? ⟨w6.heap.size, 2, none⟩ = some (.slice Aa cA.length ca) ∧ W'.cell? ⟨w6.heap.size, 3, none⟩ = some (.slice Ab cB.length cb) ∧ W'.cell? ⟨w6.heap.size, 4, none⟩ = some (.slice Af cF.length cf) ∧ W'.cell? ⟨w6.heap.size, 5, none⟩ = some (.slice Ap pf.length cp)) W) := fun W hW =>
                ⟨(hW.cell (by show (ad6.add (i * 8)).block < _; rw [block_of_add]; exact hka9.1)).trans p7, (hx9.bel hW).cell 0, (hx9.bel hW).cell 1, (hx9.bel hW).cell 2, (hx9.bel hW).cell 3, (hx9.bel hW).cell 4, (hx9.bel hW).cell 5⟩
              have HS0 := Lib.hid (HK9.out W9.drew (Below.refl _ W9).drew)
              have HB9 := Lib.hid hb9
              have HPr := Lib.hid (prv_any gv (.slice Aa cA.length ca) (.slice Ab cB.length cb) (.slice Af cF.length cf) (.slice Ap pf.length cp) m i Q N es cA cB cF pf W9.drew hi9 (HG.out.below hb9.drew) (RI.below HRa6.out hy9.drew) (RI.below HRb6.out hy9.drew) (RI.below HRf6.out hy9.drew) (RI.below HPv6.out hy9.drew) hE hm1 hm HLA.out HQ.out HN.out HBA.out HPb.out HLF.out HLp.out)
              clear hy8 hy9 hx9 hka9 hb9 hx8 z5 y5 p7 hW9
              have hkp : kpn i = 63 ∨ kpn i = 67 ∨ kpn i = 69 ∨ kpn i = 71 ∨ kpn i = 72 ∨ kpn i = 73 ∨ kpn i = 75 ∨ kpn i = 77 ∨ kpn i = 78 := by
                match i, hi9 with
                | 0, _ => exact Or.inl rfl
                | 1, _ => exact Or.inr (Or.inl rfl)
                | 2, _ => exact Or.inr (Or.inr (Or.inl rfl))
                | 3, _ => exact Or.inr (Or.inr (Or.inr (Or.inl rfl)))
                | 4, _ => exact Or.inr (Or.inr (Or.inr (Or.inr (Or.inl rfl))))
                | 5, _ => exact Or.inr (Or.inr (Or.inr (Or.inr (Or.inr (Or.inl rfl)))))
                | 6, _ => exact Or.inr (Or.inr (Or.inr (Or.inr (Or.inr (Or.inr (Or.inl rfl))))))
                | 7, _ => exact Or.inr (Or.inr (Or.inr (Or.inr (Or.inr (Or.inr (Or.inr (Or.inl rfl)))))))
                | 8, _ => exact Or.inr (Or.inr (Or.inr (Or.inr (Or.inr (Or.inr (Or.inr (Or.inr (rfl))))))))
              generalize kpn i = kf_ at *
              rcases hkp with rfl | rfl | rfl | rfl | rfl | rfl | rfl | rfl | rfl
              · go_region_held3 (fun W' : World => W'.cell? ⟨(ad6.add (i * 8)).block, (ad6.add (i * 8)).off + 7, none⟩ = some (.func (.func (63)) #[] #[]) ∧ W'.cell? ⟨w6.heap.size, 0, none⟩ = some (.int .i64 Q) ∧ W'.cell? ⟨w6.heap.size, 1, none⟩ = some (.int .i64 N) ∧ W'.cell? ⟨w6.heap.size, 2, none⟩ = some (.slice Aa cA.length ca) ∧ W'.cell? ⟨w6.heap.size, 3, none⟩ = some (.slice Ab cB.length cb) ∧ W'.cell? ⟨w6.heap.size, 4, none⟩ = some (.slice Af cF.length cf) ∧ W'.cell? ⟨w6.heap.size, 5, none⟩ = some (.slice Ap pf.length cp)) (first | exact HS0.out | exact HS10.out)
                  (first | (go_at_call 63; refine HPr.out.mono ?_; rintro e w10 ⟨rfl, hb10⟩; have HW10 := Lib.hid ((Below.refl W9.heap.size W9).drew.trans hb10); have HS10 := Lib.hid (HK9.out w10 HW10.out); have HB10 := Lib.hid (HB9.out.trans (HW10.out.mono HB9.out.size)); clear hb10))
                go_wp2
                go_ret
                exact ⟨ret_i HSp4.out.symm, HB10.out⟩
              · go_region_held3 (fun W' : World => W'.cell? ⟨(ad6.add (i * 8)).block, (ad6.add (i * 8)).off + 7, none⟩ = some (.func (.func (67)) #[] #[]) ∧ W'.cell? ⟨w6.heap.size, 0, none⟩ = some (.int .i64 Q) ∧ W'.cell? ⟨w6.heap.size, 1, none⟩ = some (.int .i64 N) ∧ W'.cell? ⟨w6.heap.size, 2, none⟩ = some (.slice Aa cA.length ca) ∧ W'.cell? ⟨w6.heap.size, 3, none⟩ = some (.slice Ab cB.length cb) ∧ W'.cell? ⟨w6.heap.size, 4, none⟩ = some (.slice Af cF.length cf) ∧ W'.cell? ⟨w6.heap.size, 5, none⟩ = some (.slice Ap pf.length cp)) (first | exact HS0.out | exact HS10.out)
                  (first | (go_at_call 67; refine HPr.out.mono ?_; rintro e w10 ⟨rfl, hb10⟩; have HW10 := Lib.hid ((Below.refl W9.heap.size W9).drew.trans hb10); have HS10 := Lib.hid (HK9.out w10 HW10.out); have HB10 := Lib.hid (HB9.out.trans (HW10.out.mono HB9.out.size)); clear hb10))
                go_wp2
                go_ret
                exact ⟨ret_i HSp4.out.symm, HB10.out⟩
              · go_region_held3 (fun W' : World => W'.cell? ⟨(ad6.add (i * 8)).block, (ad6.add (i * 8)).off + 7, none⟩ = some (.func (.func (69)) #[] #[]) ∧ W'.cell? ⟨w6.heap.size, 0, none⟩ = some (.int .i64 Q) ∧ W'.cell? ⟨w6.heap.size, 1, none⟩ = some (.int .i64 N) ∧ W'.cell? ⟨w6.heap.size, 2, none⟩ = some (.slice Aa cA.length ca) ∧ W'.cell? ⟨w6.heap.size, 3, none⟩ = some (.slice Ab cB.length cb) ∧ W'.cell? ⟨w6.heap.size, 4, none⟩ = some (.slice Af cF.length cf) ∧ W'.cell? ⟨w6.heap.size, 5, none⟩ = some (.slice Ap pf.length cp)) (first | exact HS0.out | exact HS10.out)
                  (first | (go_at_call 69; refine HPr.out.mono ?_; rintro e w10 ⟨rfl, hb10⟩; have HW10 := Lib.hid ((Below.refl W9.heap.size W9).drew.trans hb10); have HS10 := Lib.hid (HK9.out w10 HW10.out); have HB10 := Lib.hid (HB9.out.trans (HW10.out.mono HB9.out.size)); clear hb10))
                go_wp2
                go_ret
                exact ⟨ret_i HSp4.out.symm, HB10.out⟩
              · go_region_held3 (fun W' : World => W'.cell? ⟨(ad6.add (i * 8)).block, (ad6.add (i * 8)).off + 7, none⟩ = some (.func (.func (71)) #[] #[]) ∧ W'.cell? ⟨w6.heap.size, 0, none⟩ = some (.int .i64 Q) ∧ W'.cell? ⟨w6.heap.size, 1, none⟩ = some (.int .i64 N) ∧ W'.cell? ⟨w6.heap.size, 2, none⟩ = some (.slice Aa cA.length ca) ∧ W'.cell? ⟨w6.heap.size, 3, none⟩ = some (.slice Ab cB.length cb) ∧ W'.cell? ⟨w6.heap.size, 4, none⟩ = some (.slice Af cF.length cf) ∧ W'.cell? ⟨w6.heap.size, 5, none⟩ = some (.slice Ap pf.length cp)) (first | exact HS0.out | exact HS10.out)
                  (first | (go_at_call 71; refine HPr.out.mono ?_; rintro e w10 ⟨rfl, hb10⟩; have HW10 := Lib.hid ((Below.refl W9.heap.size W9).drew.trans hb10); have HS10 := Lib.hid (HK9.out w10 HW10.out); have HB10 := Lib.hid (HB9.out.trans (HW10.out.mono HB9.out.size)); clear hb10))
                go_wp2
                go_ret
                exact ⟨ret_i HSp4.out.symm, HB10.out⟩
              · go_region_held3 (fun W' : World => W'.cell? ⟨(ad6.add (i * 8)).block, (ad6.add (i * 8)).off + 7, none⟩ = some (.func (.func (72)) #[] #[]) ∧ W'.cell? ⟨w6.heap.size, 0, none⟩ = some (.int .i64 Q) ∧ W'.cell? ⟨w6.heap.size, 1, none⟩ = some (.int .i64 N) ∧ W'.cell? ⟨w6.heap.size, 2, none⟩ = some (.slice Aa cA.length ca) ∧ W'.cell? ⟨w6.heap.size, 3, none⟩ = some (.slice Ab cB.length cb) ∧ W'.cell? ⟨w6.heap.size, 4, none⟩ = some (.slice Af cF.length cf) ∧ W'.cell? ⟨w6.heap.size, 5, none⟩ = some (.slice Ap pf.length cp)) (first | exact HS0.out | exact HS10.out)
                  (first | (go_at_call 72; refine HPr.out.mono ?_; rintro e w10 ⟨rfl, hb10⟩; have HW10 := Lib.hid ((Below.refl W9.heap.size W9).drew.trans hb10); have HS10 := Lib.hid (HK9.out w10 HW10.out); have HB10 := Lib.hid (HB9.out.trans (HW10.out.mono HB9.out.size)); clear hb10))
                go_wp2
                go_ret
                exact ⟨ret_i HSp4.out.symm, HB10.out⟩
              · go_region_held3 (fun W' : World => W'.cell? ⟨(ad6.add (i * 8)).block, (ad6.add (i * 8)).off + 7, none⟩ = some (.func (.func (73)) #[] #[]) ∧ W'.cell? ⟨w6.heap.size, 0, none⟩ = some (.int .i64 Q) ∧ W'.cell? ⟨w6.heap.size, 1, none⟩ = some (.int .i64 N) ∧ W'.cell? ⟨w6.heap.size, 2, none⟩ = some (.slice Aa cA.length ca) ∧ W'.cell? ⟨w6.heap.size, 3, none⟩ = some (.slice Ab cB.length cb) ∧ W'.cell? ⟨w6.heap.size, 4, none⟩ = some (.slice Af cF.length cf) ∧ W'.cell? ⟨w6.heap.size, 5, none⟩ = some (.slice Ap pf.length cp)) (first | exact HS0.out | exact HS10.out)
                  (first | (go_at_call 73; refine HPr.out.mono ?_; rintro e w10 ⟨rfl, hb10⟩; have HW10 := Lib.hid ((Below.refl W9.heap.size W9).drew.trans hb10); have HS10 := Lib.hid (HK9.out w10 HW10.out); have HB10 := Lib.hid (HB9.out.trans (HW10.out.mono HB9.out.size)); clear hb10))
                go_wp2
                go_ret
                exact ⟨ret_i HSp4.out.symm, HB10.out⟩
              · go_region_held3 (fun W' : World => W'.cell? ⟨(ad6.add (i * 8)).block, (ad6.add (i * 8)).off + 7, none⟩ = some (.func (.func (75)) #[] #[]) ∧ W'.cell? ⟨w6.heap.size, 0, none⟩ = some (.int .i64 Q) ∧ W'.cell? ⟨w6.heap.size, 1, none⟩ = some (.int .i64 N) ∧ W'.cell? ⟨w6.heap.size, 2, none⟩ = some (.slice Aa cA.length ca) ∧ W'.cell? ⟨w6.heap.size, 3, none⟩ = some (.slice Ab cB.length cb) ∧ W'.cell? ⟨w6.heap.size, 4, none⟩ = some (.slice Af cF.length cf) ∧ W'.cell? ⟨w6.heap.size, 5, none⟩ = some (.slice Ap pf.length cp)) (first | exact HS0.out | exact HS10.out)
                  (first | (go_at_call 75; refine HPr.out.mono ?_; rintro e w10 ⟨rfl, hb10⟩; have HW10 := Lib.hid ((Below.refl W9.heap.size W9).drew.trans hb10); have HS10 := Lib.hid (HK9.out w10 HW10.out); have HB10 := Lib.hid (HB9.out.trans (HW10.out.mono HB9.out.size)); clear hb10))
                go_wp2
                go_ret
                exact ⟨ret_i HSp4.out.symm, HB10.out⟩
              · go_region_held3 (fun W' : World => W'.cell? ⟨(ad6.add (i * 8)).block, (ad6.add (i * 8)).off + 7, none⟩ = some (.func (.func (77)) #[] #[]) ∧ W'.cell? ⟨w6.heap.size, 0, none⟩ = some (.int .i64 Q) ∧ W'.cell? ⟨w6.heap.size, 1, none⟩ = some (.int .i64 N) ∧ W'.cell? ⟨w6.heap.size, 2, none⟩ = some (.slice Aa cA.length ca) ∧ W'.cell? ⟨w6.heap.size, 3, none⟩ = some (.slice Ab cB.length cb) ∧ W'.cell? ⟨w6.heap.size, 4, none⟩ = some (.slice Af cF.length cf) ∧ W'.cell? ⟨w6.heap.size, 5, none⟩ = some (.slice Ap pf.length cp)) (first | exact HS0.out | exact HS10.out)
                  (first | (go_at_call 77; refine HPr.out.mono ?_; rintro e w10 ⟨rfl, hb10⟩; have HW10 := Lib.hid ((Below.refl W9.heap.size W9).drew.trans hb10); have HS10 := Lib.hid (HK9.out w10 HW10.out); have HB10 := Lib.hid (HB9.out.trans (HW10.out.mono HB9.out.size)); clear hb10))
                go_wp2
                go_ret
                exact ⟨ret_i HSp4.out.symm, HB10.out⟩
              · go_region_held3 (fun W' : World => W'.cell? ⟨(ad6.add (i * 8)).block, (ad6.add (i * 8)).off + 7, none⟩ = some (.func (.func (78)) #[] #[]) ∧ W'.cell? ⟨w6.heap.size, 0, none⟩ = some (.int .i64 Q) ∧ W'.cell? ⟨w6.heap.size, 1, none⟩ = some (.int .i64 N) ∧ W'.cell? ⟨w6.heap.size, 2, none⟩ = some (.slice Aa cA.length ca) ∧ W'.cell? ⟨w6.heap.size, 3, none⟩ = some (.slice Ab cB.length cb) ∧ W'.cell? ⟨w6.heap.size, 4, none⟩ = some (.slice Af cF.length cf) ∧ W'.cell? ⟨w6.heap.size, 5, none⟩ = some (.slice Ap pf.length cp)) (first | exact HS0.out | exact HS10.out)
                  (first | (go_at_call 78; refine HPr.out.mono ?_; rintro e w10 ⟨rfl, hb10⟩; have HW10 := Lib.hid ((Below.refl W9.heap.size W9).drew.trans hb10); have HS10 := Lib.hid (HK9.out w10 HW10.out); have HB10 := Lib.hid (HB9.out.trans (HW10.out.mono HB9.out.size)); clear hb10))
                go_wp2
                go_ret
                exact ⟨ret_i HSp4.out.symm, HB10.out⟩
end Go.Proofs.YtgcnijmmjlfabaaGreatDoor

namespace Go.Proofs.YtgcnijmmjlfabaaGreatDoor
open Go.RowKit Go.Shelf

/-- What Line answers. -/
def LineE (n : Int) (es : List Tri) (s : List UInt8) : Int := if ofE n es ≠ 0 then ofE n es else if 65536 < s.length then 19 else lineE n.toNat es s
theorem ofE_given (n : Int) (es : List Tri) : ofE n es = eGiven n es [] := rfl
theorem ofE_ok {n : Int} {es : List Tri} (h : ofE n es = 0) : gcheckE n es = 0 ∧ connB n es = true := by
  rw [ofE_given] at h
  exact ⟨(eGiven_ok h).1, (eGiven_ok h).2.1⟩
theorem kLn_any (g : Value) (n : Int) (es : List Tri) (s : List UInt8) (w : World) (hg : GV w g n es) (hlv : LV w) (h6 : ofE n es = 0 → n ≤ 6) :
    Calls Tryz.prog 10 #[g, strV s] w fun e w' => e = .returned (.int .i64 (LineE n es s)) ∧ Below w.heap.size w w' := by
  obtain ⟨A, c, rfl, -⟩ := hg.open_
  obtain ⟨W0, hW0⟩ : ∃ W0, W0 = w.alloc (.cells #[.int .i64 n, .slice A es.length c] 24) := ⟨_, rfl⟩
  have hb0 : Below w.heap.size w W0 := by rw [hW0]; exact below_alloc w _
  have hx0 : BL W0 w.heap.size 24 [.int .i64 n, .slice A es.length c] := by rw [hW0]; exact BL.new' w _ _
  have HB0 := Lib.hid hb0
  have c0 := hx0.cell 0
  have c1 := hx0.cell 1
  have HW0 := Lib.hid hW0
  have HOf := Lib.hid (kOf_any _ n es W0 (hg.below hb0))
  have HSp : Hid (LineE n es s = if ofE n es ≠ 0 then ofE n es else if 65536 < s.length then 19 else lineE n.toNat es s) := rfl
  have HLV := Lib.hid hlv
  clear hg hlv hb0 hx0 hW0
  go_enter Tryz.func10, Tryz.ntmps10
  go_upto_region 1 with fail
  rw [← HW0.out]
  go_wp2_with fail
  refine HOf.out.mono ?_
  rintro e w1 ⟨v, rfl, hx, hb1⟩
  have HB1 := Lib.hid (HB0.out.trans (hb1.mono HB0.out.size))
  by_cases h0 : ofE n es ≠ 0
  · have HR : Hid (LineE n es s = ofE n es) := by show _ = _; rw [HSp.out, if_pos h0]
    generalize ofE n es = o at *
    clear hx hb1 HSp
    go_wp2
    go_ret
    exact ⟨ret_i HR.out.symm, HB1.out⟩
  · have h00 : ofE n es = 0 := by omega
    have HGX := Lib.hid (hx h00)
    have h6' := h6 h00
    obtain ⟨hgc, hcc⟩ := ofE_ok h00
    obtain ⟨m, rfl, hm1, hm2, hE⟩ := gcheckE_zero hgc
    have HSp2 : Hid (LineE m es s = if 65536 < s.length then 19 else lineE m es s) := by show _ = _; rw [HSp.out, if_neg h0]; rfl
    rw [h00]
    have HLi0 : Hid (s.length ≤ 65536 → Calls Tryz.prog 25 #[v, strV s] w1 fun e w' => e = .returned (.int .i64 (lineE m es s)) ∧ Below w1.heap.size w1 w') := fun h => kLine_any v m es s w1 HGX.out (HLV.out.below HB1.out) hE hm1 (by omega) (by omega)
    have hsz : (⟨s.toArray⟩ : ByteArray).size = s.length := by simp [ByteArray.size]
    rw [show strV s = .string ⟨s.toArray⟩ from rfl] at *
    generalize (⟨s.toArray⟩ : ByteArray) = B at *
    have hex : (65536 : Nat) < s.length ∨ s.length ≤ 65536 := by omega
    rcases hex with h1 | h1
    · have HR : Hid (LineE m es s = 19) := by show _ = _; rw [HSp2.out, if_pos h1]
      clear hx HSp HSp2 h0 h00 hb1
      go_wp2
      go_ret
      exact ⟨ret_i HR.out.symm, HB1.out⟩
    · have HR : Hid (LineE m es s = lineE m es s) := by show _ = _; rw [HSp2.out, if_neg (by omega)]
      have HLi := Lib.hid (HLi0.out h1)
      clear hx HSp HSp2 h0 h00 hb1
      go_wp2_with fail
      refine HLi.out.mono ?_
      rintro e w2 ⟨rfl, hb2⟩
      have HB2 := Lib.hid (HB1.out.trans (hb2.mono HB1.out.size))
      clear hb2
      go_wp2
      go_ret
      exact ⟨ret_i HR.out.symm, HB2.out⟩
end Go.Proofs.YtgcnijmmjlfabaaGreatDoor

