/- Contract of the reference's numbers: a list of the call's own. -/
import Derived.Test.YtgcnijmmjlfabaaGreatDoorK33
set_option maxRecDepth 100000
set_option maxHeartbeats 16000000
namespace Go.Proofs.YtgcnijmmjlfabaaGreatDoor
open Go.RowKit Go.Shelf

theorem rNumsO_any (v : Value) (ws : List (List UInt8)) (w : World) (hv : RS w v ws) (hl : ws.length ≤ 100000) (hs : ∀ s ∈ ws, s.length ≤ 1000000) :
    Calls Tryz.prog 54 #[v] w fun e w' => ∃ vo, e = .returned (.tuple #[vo, .int .i64 (numsE ws)]) ∧ (numsE ws = 0 → OI w' w.heap.size vo (numsV ws)) ∧ Below w.heap.size w w' := by
  obtain ⟨i0, hi, hz0, hz1, hz2⟩ := info_parts int_info
  obtain ⟨A, c, rfl, hlc, hcell⟩ := hv.open_
  have HC := Lib.hid hcell
  have HS := Lib.hid hs
  clear hcell hv hs
  go_enter Tryz.func54, Tryz.ntmps54
  go_wp2_with fail
  go_loopw [4] (fun i wr => ∃ k : Nat, k ≤ ws.length ∧ i = .int .i64 (k : Int) ∧ Hid ((ws.take k).all canB = true) ∧ Hid (Below w.heap.size w wr)) (fun i _ => ws.length - (intOf i).toNat)
  case atStart => exact ⟨0, Nat.zero_le _, rfl, rfl, Below.refl _ _⟩
  case round =>
    obtain ⟨k, hk, rfl, hA, hb⟩ := hrel
    by_cases hlt : k < ws.length
    · obtain ⟨ad, rfl, hadb, hcl⟩ := HC.out k hlt
      have hc2 := (hb.out.cell (p := ad.add k) (by rw [block_of_add]; exact hadb)).trans hcl
      have hx : ws[k]? = some (ws.getD k []) := by rw [List.getD_eq_getElem?_getD, List.getElem?_eq_getElem hlt]; rfl
      have HX := Lib.hid hx
      generalize ws.getD k [] = s at *
      have HCan := Lib.hid (rChk_any s wr (HS.out s (List.mem_of_getElem? HX.out)))
      have h3 := chk3 (s := s)
      clear hcl hx
      have hcv : strV s = .string ⟨s.toArray⟩ := rfl
      rw [hcv] at HCan hc2
      clear hcv
      generalize (⟨s.toArray⟩ : ByteArray) = S at *
      generalize chkE s = ce at *
      cases hcb : canB s
      · have HR : Hid (numsE ws = 4) := by
          show _ = _; unfold numsE; rw [all_not HX.out hcb]; rfl
        have t3 : (ce == 3) = true := by rw [h3, hcb]; rfl
        clear hcb h3
        go_wp2_with fail
        refine HCan.out.mono ?_
        rintro e w2 ⟨rfl, hb2⟩
        have HB2 := Lib.hid (hb.out.trans (hb2.mono hb.out.size))
        clear hb2
        go_wp2
        go_ret2
        exact ⟨.slice none 0 0, by rw [HR.out] <;> rfl, fun h => absurd (HR.out.symm.trans h) (by decide), HB2.out⟩
      · have HA2 : Hid ((ws.take (k + 1)).all canB = true) := all_take HX.out hA.out hcb
        have t3 : (ce == 3) = false := by rw [h3, hcb]; rfl
        clear hcb h3
        go_wp2_with fail
        refine HCan.out.mono ?_
        rintro e w2 ⟨rfl, hb2⟩
        have HB2 := Lib.hid (hb.out.trans (hb2.mono hb.out.size))
        clear hb2
        go_wp2
        go_roundw
        case rel => exact ⟨k + 1, by omega, by go_num, HA2.out, HB2.out⟩
        case measure => simp [intOf]; omega
    · have HAll : Hid (ws.all canB = true) := by
        have := hA.out
        rwa [List.take_of_length_le (by omega)] at this
      have HNs : Hid (numsE ws = if ws.all smallB = false then 2 else 0) := by
        show _ = _; unfold numsE; rw [HAll.out]; rfl
      go_wp2_with fail
      clear hA hlt hk
      go_loopw [5, 6] (fun o i wr => ∃ (k : Nat) (vo : Value), vo = o ∧ k ≤ ws.length ∧ i = .int .i64 (k : Int) ∧ Hid ((ws.take k).all smallB = true) ∧ Hid (OI wr w.heap.size o (numsV (ws.take k))) ∧ Hid (Below w.heap.size w wr)) (fun _ i _ => ws.length - (intOf i).toNat)
      case atStart => exact ⟨0, _, rfl, Nat.zero_le _, rfl, rfl, OI.nil_ _ _, hb.out⟩
      case round =>
        clear hb
        obtain ⟨k, vo, rfl, hk, rfl, hA, ho, hbk⟩ := hrel
        by_cases hlt : k < ws.length
        · obtain ⟨ad, rfl, hadb, hcl⟩ := HC.out k hlt
          have hc2 := (hbk.out.cell (p := ad.add k) (by rw [block_of_add]; exact hadb)).trans hcl
          have hx : ws[k]? = some (ws.getD k []) := by rw [List.getD_eq_getElem?_getD, List.getElem?_eq_getElem hlt]; rfl
          have HX := Lib.hid hx
          generalize ws.getD k [] = s at *
          have hcan : canB s = true := List.all_eq_true.1 HAll.out s (List.mem_of_getElem? HX.out)
          have hsl := HS.out s (List.mem_of_getElem? HX.out)
          have HAt := Lib.hid (zSmall_any s wr hsl)
          have hnl : (numsV (ws.take k)).length ≤ ws.length := by unfold numsV; rw [List.length_map, List.length_take]; omega
          have HTk : Hid (numsV (ws.take (k + 1)) = numsV (ws.take k) ++ [wv s]) := by
            show _ = _; unfold numsV; rw [List.take_add_one, HX.out, List.map_append]; rfl
          have HA2 : Hid (-1048576 ≤ wv s ∧ wv s ≤ 1048576 → (ws.take (k + 1)).all smallB = true) := fun h => all_take HX.out hA.out (by unfold smallB; simp; exact h)
          have HBad : Hid (smallB s = false → numsE ws = 2) := fun h => by
            rw [HNs.out, all_not HX.out h]; rfl
          have HSn : Hid (smE s ≠ 0 → smallB s = false) := sm_not hcan
          have HSw : Hid (¬ (-1048576 ≤ wv s ∧ wv s ≤ 1048576) → smallB s = false) := fun h => by unfold smallB; simp; omega
          have hcv : strV s = .string ⟨s.toArray⟩ := rfl
          rw [hcv] at HAt hc2
          clear hcv hcan hsl hcl hx
          generalize (⟨s.toArray⟩ : ByteArray) = S at *
          generalize wv s = z at *
          generalize smE s = se at *
          go_wp2_with fail
          refine HAt.out.mono ?_
          rintro e w2 ⟨zz, rfl, hzz, hb2⟩
          have HB2 := Lib.hid (hbk.out.trans (hb2.mono hbk.out.size))
          have HO2 : Hid (OI w2 w.heap.size vo (numsV (ws.take k))) := ho.out.below hb2
          clear hb2 hc2
          by_cases hse : se ≠ 0
          · have HR : Hid (numsE ws = 2) := HBad.out (HSn.out hse)
            have t4 : (se != 0) = true := by simpa using hse
            clear HA2 HBad hse hzz HSn HSw
            go_wp2
            go_ret2
            exact ⟨.slice none 0 0, by rw [HR.out] <;> rfl, fun h => absurd (HR.out.symm.trans h) (by decide), HB2.out⟩
          · obtain rfl : se = 0 := by omega
            obtain rfl := hzz rfl
            clear hse hzz HSn
            by_cases hsm : -1048576 ≤ zz ∧ zz ≤ 1048576
            · have HA3 := Lib.hid (HA2.out hsm)
              clear HA2 HBad HSw
              obtain ⟨hov, hrv, hfin⟩ := OI.snoc HO2.out zz HB2.out
              have HOv := Lib.hid hov
              have HRv := Lib.hid hrv
              have HFin := Lib.hid hfin
              have hszB := HB2.out.size
              clear hov hrv hfin
              generalize numsV (ws.take k) = os at *
              go_wp2_with (at_builtin; refine wpList_appendV _ rfl _ _ _ rfl 3 i0 _ 8 Tryz.underlying42 hi hz0 hz1 hz2 rfl w.heap.size _ _ rfl HOv.out _ _ rfl HRv.out (one_ones rfl) (by first | omega | (simp; omega)) (by first | omega | (simp; omega)) (by first | omega | (simp; omega)) ?_; intro v1 w3 hown hg hat; obtain ⟨hf1, hf2⟩ := HFin.out v1 w3 hown hg; have HF1 := Lib.hid hf1; have HF2 := Lib.hid hf2; clear hown hg hat hf1 hf2)
              go_wp2
              go_roundw
              case rel => exact ⟨k + 1, _, rfl, by omega, by go_num, HA3.out, by rw [HTk.out]; exact HF1.out, HF2.out⟩
              case measure => simp [intOf]; omega
            · have HR : Hid (numsE ws = 2) := HBad.out (HSw.out hsm)
              clear HA2 HBad HSw
              by_cases hlo : zz < -1048576
              · clear hsm
                go_wp2
                go_ret2
                exact ⟨.slice none 0 0, by rw [HR.out] <;> rfl, fun h => absurd (HR.out.symm.trans h) (by decide), HB2.out⟩
              · have hhi : 1048576 < zz := by omega
                clear hsm
                go_wp2
                go_ret2
                exact ⟨.slice none 0 0, by rw [HR.out] <;> rfl, fun h => absurd (HR.out.symm.trans h) (by decide), HB2.out⟩
        · have HAs : Hid (ws.all smallB = true) := by
            have := hA.out
            rwa [List.take_of_length_le (by omega)] at this
          have HR : Hid (numsE ws = 0) := by show _ = _; rw [HNs.out, HAs.out]; rfl
          have HO2 : Hid (OI wr w.heap.size vo (numsV ws)) := by
            have := ho.out
            rw [List.take_of_length_le (by omega)] at this
            exact this
          clear hA ho
          go_wp2
          go_ret2
          exact ⟨vo, by rw [HR.out] <;> rfl, fun _ => HO2.out, hbk.out⟩
end Go.Proofs.YtgcnijmmjlfabaaGreatDoor

