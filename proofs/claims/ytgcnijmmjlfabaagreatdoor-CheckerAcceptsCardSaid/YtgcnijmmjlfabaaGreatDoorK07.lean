/- Contract of the checker's connected.
   Contract of the checker's rest.
   Contract of the checker's leads.
   A list of lists of ints of the call's own: each row a slice of its own, and one append.
   The rule of Cramer, as the reference uses it: what its tables' determinants tell. No program in sight.
   Contracts of the references' Total and Solve.
   Contract of the checker's below. -/
import Derived.Test.YtgcnijmmjlfabaaGreatDoorK06
set_option maxRecDepth 100000
set_option maxHeartbeats 16000000
namespace Go.Proofs.YtgcnijmmjlfabaaGreatDoor
open Go.RowKit Go.Shelf

theorem mem_cast {k : Nat} {l : List Nat} : ((k : Int) ∈ l.map fun j : Nat => (j : Int)) ↔ k ∈ l := by
  rw [List.mem_map]
  constructor
  · rintro ⟨j, hj, he⟩
    rw [← Int.ofNat_inj.1 he]; exact hj
  · intro h
    exact ⟨k, h, rfl⟩
theorem kConn_any (gv : Value) (n : Nat) (es : List Tri) (w : World) (hg : GX w gv n es) (hE : Edges n es) (h1 : 1 ≤ n) (hn : n ≤ 12) :
    Calls Tryz.prog 41 #[gv] w fun e w' => e = .returned (.bool (connB n es)) ∧ Below w.heap.size w w' := by
  obtain ⟨i0, hi, hz0, hz1, hz2⟩ := info_parts int_info
  obtain ⟨b, vj, vv, rfl, hb, hrj, -⟩ := hg
  obtain ⟨Aj, cj, rfl, -, -, hrows⟩ := hrj.open_
  have hjl : (joinsL n es).length = n := by simp [joinsL]
  rw [hjl] at hb hrows
  have HBl := Lib.hid hb
  have HRows := Lib.hid hrows
  have HRow : Hid (∀ v row, v < n → (joinsL n es)[v]? = some row → row.length = n ∧ ∀ k z, k < n → row[k]? = some z → z = wgt es v k) := fun v row hv hr => by
    rw [joins_row hv] at hr
    cases hr
    exact ⟨by simp, fun k z hk hz => by simp [hk] at hz; exact hz.symm⟩
  have HFin : Hid (∀ l : List Nat, SeenI n (wgt es) l.length l → decide ((l.length : Int) = n) = connB n es) := fun l hl => by
    have h2 := hl.conn (wgt_sym es)
    have h3 := connB_iff h1 hn hE
    by_cases e : connB n es = true
    · rw [e]; exact decide_eq_true (by rw [h2.2 (h3.1 e)])
    · have e' : connB n es = false := by simpa using e
      rw [e']
      refine decide_eq_false fun h => e (h3.2 (h2.1 (by omega)))
  have ho0 := own_lit w 0
  have hb0 := below_alloc w (.cells #[.int .i64 0] 3)
  obtain ⟨W1, hW1⟩ : ∃ W1, W1 = w.alloc (.cells #[.int .i64 0] 3) := ⟨_, rfl⟩
  rw [← hW1] at ho0 hb0
  have HW1 := Lib.hid hW1
  have HO0 : Hid (OI W1 w.heap.size (.slice (some ⟨w.heap.size, 0, none⟩) 1 1) ([0].map fun j : Nat => (j : Int))) := ho0
  have HB0 := Lib.hid hb0
  have HS0 : Hid (SeenI n (wgt es) 0 [0]) := SeenI.start h1
  clear hb hrj hE hrows hjl hW1 ho0 hb0
  go_enter Tryz.func41, Tryz.ntmps41
  go_wp2_with fail
  rw [← HW1.out]
  go_loopw [3, 4] (fun sv ii wr => ∃ (i : Nat) (l : List Nat), i ≤ l.length ∧ ii = .int .i64 (i : Int) ∧ Hid (SeenI n (wgt es) i l) ∧ Hid (OI wr w.heap.size sv (l.map fun j : Nat => (j : Int))) ∧ Hid (Below w.heap.size w wr)) (fun _ i _ => n - (intOf i).toNat)
  case atStart => exact ⟨0, [0], Nat.zero_le _, rfl, HS0.out, HO0.out, HB0.out⟩
  case round =>
    obtain ⟨i, l, hil, rfl, hsi, ho, hbw⟩ := hrel
    have hln := hsi.out.le
    obtain ⟨Av, cv, rfl, -, -, hcl⟩ := (OI.ri ho.out).open_
    simp only [List.length_map] at ho ⊢ hcl
    by_cases hlt : i < l.length
    · obtain ⟨ad, z, rfl, -, hz, hcz⟩ := hcl i hlt
      have hzu : z = (l.getD i 0 : Nat) := by
        have := hz.out
        rw [List.getElem?_map, List.getElem?_eq_getElem hlt] at this
        rw [List.getD_eq_getElem?_getD, List.getElem?_eq_getElem hlt]
        exact (Option.some.inj this).symm
      have hun : l.getD i 0 < n := hsi.out.2.1 _ (by rw [List.getD_eq_getElem?_getD, List.getElem?_eq_getElem hlt]; exact List.getElem_mem hlt)
      obtain ⟨u, hu⟩ : ∃ u, u = l.getD i 0 := ⟨_, rfl⟩
      have HU := Lib.hid hu
      rw [← hu] at hzu hun
      subst hzu
      obtain ⟨adj, row, Ar, cr, rfl, hjb, hrow, hcj, hrr⟩ := HRows.out u hun
      obtain ⟨hrl, hrv⟩ := HRow.out u row hun hrow.out
      obtain ⟨A9, c9, he9, -, -, hc9⟩ := hrr.open_
      simp only [Value.slice.injEq, true_and] at he9
      obtain ⟨rfl, rfl⟩ := he9
      rw [hrl] at hcj hc9
      have HC9 := Lib.hid hc9
      have HRv := Lib.hid hrv
      have gb := HBl.out.bel hbw.out
      have g1 := gb.cell 1
      have g2 := (hbw.out.cell (p := adj.add u) (by rw [block_of_add]; exact hjb)).trans hcj
      have HP0 := Lib.hid hsi.out.begin
      have HLt := Lib.hid hlt
      obtain ⟨wo, rfl⟩ : ∃ wo, wo = wr := ⟨_, rfl⟩
      clear hrl hrv hc9 hcj gb hrr hrow hjb hu hz hcl hsi
      go_wp2_with fail
      go_quiet (fail)
      have HB1 := Lib.hid (below_drewN hbw.out nq)
      have HO1 := Lib.hid (OI.below ho.out (below_drewN (Below.refl wo.heap.size wo) nq))
      clear g1 g2 ho hbw hcz
      go_wp2_with fail
      go_loopw [3, 25] (fun sv kk wr => ∃ (k : Nat) (l : List Nat), k ≤ n ∧ kk = .int .i64 (k : Int) ∧ Hid (i < l.length) ∧ Hid (u = l.getD i 0) ∧ Hid (SeenP n (wgt es) i k l) ∧ Hid (OI wr w.heap.size sv (l.map fun j : Nat => (j : Int))) ∧ Hid (Below w.heap.size w wr)) (fun _ i _ => n - (intOf i).toNat)
      case atStart => exact ⟨0, l, Nat.zero_le _, rfl, HLt.out, HU.out, HP0.out, HO1.out, HB1.out⟩
      case round =>
        obtain ⟨k, l, hkn, rfl, hil, hul, hsp, hok, hbk⟩ := hrel
        have hln := hsp.out.1.le
        by_cases hkt : k < n
        · obtain ⟨ad9, z, rfl, h9b, hz, hcz⟩ := HC9.out k hkt
          have hzw := HRv.out k z hkt hz.out
          have r1 := (hbk.out.cell (p := ad9.add k) (by rw [block_of_add]; exact h9b)).trans hcz
          have HCon := Lib.hid (ContainsI_any _ _ (k : Int) _ (OI.ri hok.out) (by simp; omega))
          have HMem : Hid (decide ((k : Int) ∈ l.map fun j : Nat => (j : Int)) = decide (k ∈ l)) := by show _ = _; rw [decide_eq_decide]; exact mem_cast
          rw [HMem.out] at HCon
          obtain ⟨Av, cv, rfl, -, -, -⟩ := (OI.ri hok.out).open_
          have HOk0 := hok
          simp only [List.length_map] at hok HCon
          clear hcz hz
          by_cases hpos : 0 < z
          · by_cases hmem : k ∈ l
            · rw [decide_eq_true hmem] at HCon
              have HN : Hid (SeenP n (wgt es) i (k + 1) l) := hsp.out.keep fun _ => hmem
              clear hmem hzw hln
              go_wp2_with fail
              refine HCon.out.mono ?_
              rintro e w3 ⟨rfl, rfl⟩
              go_wp2
              go_roundw
              case rel => exact ⟨k + 1, l, by omega, by go_num, hil.out, hul.out, HN.out, hok.out, hbk.out⟩
              case measure => simp [intOf]; omega
            · rw [decide_eq_false hmem] at HCon
              have HN : Hid (SeenP n (wgt es) i (k + 1) (l ++ [k])) := hsp.out.more hil.out hkt (by rw [← hul.out, ← hzw]; exact hpos) hmem
              have HL2 : Hid (i < (l ++ [k]).length) := by show _ < _; rw [List.length_append]; have := hil.out; omega
              have HU2 : Hid (u = (l ++ [k]).getD i 0) := by show _ = _; rw [getD_app hil.out]; exact hul.out
              have HMp : Hid ((l ++ [k]).map (fun j : Nat => (j : Int)) = l.map (fun j : Nat => (j : Int)) ++ [(k : Int)]) := by show _ = _; simp
              obtain ⟨hov, hrv, hfin⟩ := OI.snoc hok.out (k:Int) hbk.out
              have HOv := Lib.hid hov
              have HRv := Lib.hid hrv
              have HFin := Lib.hid hfin
              have hszB := hbk.out.size
              clear hov hrv hfin
              clear hmem hzw
              go_wp2_with fail
              refine HCon.out.mono ?_
              rintro e w3 ⟨rfl, rfl⟩
              go_wp2_with (at_builtin; refine wpList_appendV _ rfl _ _ _ rfl 3 i0 _ 8 Tryz.underlying42 hi hz0 hz1 hz2 rfl w.heap.size _ _ rfl HOv.out _ _ rfl HRv.out (one_ones rfl) (by first | omega | (simp; omega)) (by first | omega | (simp; omega)) (by first | omega | (simp; omega)) ?_; intro v1 w3 hown hg hat; obtain ⟨hf1, hf2⟩ := HFin.out v1 w3 hown hg; have HF1 := Lib.hid hf1; have HF2 := Lib.hid hf2; clear hown hg hat hf1 hf2)
              go_wp2
              go_roundw
              case rel => exact ⟨k + 1, l ++ [k], by omega, by go_num, HL2.out, HU2.out, HN.out, by rw [HMp.out]; exact HF1.out, HF2.out⟩
              case measure => simp [intOf]; omega
          · have HN : Hid (SeenP n (wgt es) i (k + 1) l) := hsp.out.keep fun h => by rw [← hul.out, ← hzw] at h; exact absurd h hpos
            clear hzw hln
            go_wp2
            go_roundw
            case rel => exact ⟨k + 1, l, by omega, by go_num, hil.out, hul.out, HN.out, HOk0.out, hbk.out⟩
            case measure => simp [intOf]; omega
        · obtain rfl : k = n := by omega
          have HN := Lib.hid hsp.out.done
          have hil2 := hil.out
          obtain ⟨Av, cv, rfl, -, -, -⟩ := (OI.ri hok.out).open_
          go_wp2
          go_roundw
          case rel => exact ⟨i + 1, l, hil2, by go_num, HN.out, hok.out, hbk.out⟩
          case measure => simp [intOf]; omega
    · obtain rfl : i = l.length := by omega
      have HR := Lib.hid (HFin.out l hsi.out)
      have g0 := (HBl.out.bel hbw.out).cell 0
      clear hsi hcl
      go_wp2
      go_ret
      exact ⟨ret_b HR.out, hbw.out⟩
end Go.Proofs.YtgcnijmmjlfabaaGreatDoor

namespace Go.Proofs.YtgcnijmmjlfabaaGreatDoor
open Go.RowKit Go.Shelf

/-- The greatest stable configuration without a. -/
def restL (n : Nat) (es : List Tri) (q : Nat) (a : List Int) : List Int := (List.range n).map fun v => if v = q then -(a.getD q 0) else valK es v n - a.getD v 0 - 1
theorem restL_len (n : Nat) (es : List Tri) (q : Nat) (a : List Int) : (restL n es q a).length = n := by simp [restL]
theorem restL_at {n : Nat} {es : List Tri} {q : Nat} {a : List Int} {v : Nat} (hv : v < n) : (restL n es q a).getD v 0 = if v = q then -(a.getD q 0) else valK es v n - a.getD v 0 - 1 := by
  unfold restL
  rw [List.getD_eq_getElem?_getD, List.getElem?_map, List.getElem?_range hv]; rfl
theorem valsL_at {n : Nat} {es : List Tri} {v : Nat} (hv : v < n) : (valsL n es).getD v 0 = valK es v n := by
  unfold valsL
  rw [List.getD_eq_getElem?_getD, List.getElem?_map, List.getElem?_range hv]; rfl
theorem valsL_len (n : Nat) (es : List Tri) : (valsL n es).length = n := by simp [valsL]
theorem valsL_bd {n : Nat} {es : List Tri} (hE : Edges n es) (hn : n ≤ 12) : Bd 600 (valsL n es) := fun v => by
  by_cases hv : v < n
  · rw [valsL_at hv]
    have := valK_le hE v n
    omega
  · rw [List.getD_eq_getElem?_getD, List.getElem?_eq_none (by rw [valsL_len]; omega)]
    simp
theorem kRest_any (gv va vb vf vp : Value) (n q : Nat) (nn : Int) (es : List Tri) (a : List Int) (w : World) (hg : GX w gv n es) (ha : RI w va a) (hE : Edges n es) (hn : n ≤ 12) (hq : q < n) (hal : a.length = n) (hab : Bd 2000000 a) :
    Calls Tryz.prog 76 #[gv, .agg #[.int .i64 (q : Int), .int .i64 nn, va, vb, vf, vp]] w fun e w' => ∃ v, e = .returned v ∧ OI w' w.heap.size v (restL n es q a) ∧ Below w.heap.size w w' := by
  obtain ⟨Aa, ca, rfl, -⟩ := ha.open_
  rw [hal] at ha ⊢
  obtain ⟨W0, hW0⟩ : ∃ W0, W0 = w.alloc (.cells #[.int .i64 (q : Int), .int .i64 nn, .slice Aa n ca, vb, vf, vp] 87) := ⟨_, rfl⟩
  have hb0 : Below w.heap.size w W0 := by rw [hW0]; exact below_alloc w _
  have hbx : BL W0 w.heap.size 87 [.int .i64 (q : Int), .int .i64 nn, .slice Aa n ca, vb, vf, vp] := by rw [hW0]; exact BL.new' w _ _
  have hgw := hg.below hb0
  obtain ⟨b, vj, vv, rfl, hb, -, hvv⟩ := hgw
  obtain ⟨Av, cv, rfl, -⟩ := hvv.open_
  rw [valsL_len] at hb hvv
  have ha0 := RI.below ha hb0
  obtain ⟨A9, c9, he9, -, -, hca⟩ := ha0.open_
  simp only [Value.slice.injEq] at he9
  obtain ⟨rfl, -, rfl⟩ := he9
  obtain ⟨ad, z, rfl, hadb, hz, hcz⟩ := hca q (by omega)
  have hzz := getD_of' hz.out
  have g2 := hb.cell 2
  have x0 := hbx.cell 0
  have x2 := hbx.cell 2
  have HK : Hid (∀ W, Below W0.heap.size W0 W → (W.cell? ⟨b, 2, none⟩ = some (.slice Av n cv) ∧ W.cell? ⟨w.heap.size, 0, none⟩ = some (.int .i64 (q : Int)) ∧ W.cell? ⟨w.heap.size, 2, none⟩ = some (.slice (some ad) n ca) ∧ W.cell? (ad.add q) = some (.int .i64 z)) ∧ Below w.heap.size w W) := fun W hW =>
    ⟨⟨(hW.cell (p := ⟨b, 2, none⟩) (block_lt_of_cell g2)).trans g2, (hW.cell (p := ⟨w.heap.size, 0, none⟩) (block_lt_of_cell x0)).trans x0, (hW.cell (p := ⟨w.heap.size, 2, none⟩) (block_lt_of_cell x2)).trans x2, (hW.cell (p := ad.add q) (by rw [block_of_add]; exact hadb)).trans hcz⟩, hb0.trans (hW.mono hb0.size)⟩
  have hvb := valsL_bd hE hn
  have hLe := fun W (hW : Below W0.heap.size W0 W) => kLess_any (.slice Av n cv) (.slice (some ad) n ca) n (valsL n es) a W (RI.below hvv hW) (RI.below ha0 hW) (valsL_len n es) hal (by omega) (hvb.mono (by decide)) (hab.mono (by decide))
  have HLe := Lib.hid (hLe W0.drew (Below.refl _ _).drew)
  have HK0 := Lib.hid (HK.out W0.drew (Below.refl _ _).drew).1
  have HW0 := Lib.hid hW0
  have HB0 := Lib.hid hb0
  have hml : (plusL (valsL n es) a (-1)).length = n := by simp [plusL, valsL_len, hal]
  have HMl := Lib.hid hml
  have HMi : Hid (∀ j, j < n → (plusL (valsL n es) a (-1)).getD j 0 = valK es j n - a.getD j 0) := fun j hj => by rw [minus_at (valsL_len n es) hal hj, valsL_at hj]
  have HBd : Hid (∀ j, -3000000 ≤ valK es j n - a.getD j 0 ∧ valK es j n - a.getD j 0 ≤ 3000000) := fun j => by
    have h1 := valK_le hE j n
    have h2 := hab j
    omega
  have HFin : Hid (∀ os : List Int, os.length = n → (∀ j, j < n → os.getD j 0 = valK es j n - a.getD j 0 - 1) → os.set q (-z) = restL n es q a) := fun os h1 h2 =>
    list_eq' (by simpa using h1) (restL_len n es q a) fun v hv => by
      rw [getD_set' (by omega), restL_at hv, hzz, h2 v hv]
  have hzb := hab q
  rw [hzz] at hzb
  clear ha hE hal hb hbx hb0 hW0 hg hca hz hzz hab hvv ha0 hcz hadb hvb hLe hml g2 x0 x2
  go_enter Tryz.func76, Tryz.ntmps76
  go_wp2_with fail
  rw [← HW0.out]
  go_region_held3 (fun W' : World => W'.cell? ⟨b, 2, none⟩ = some (.slice Av n cv) ∧ W'.cell? ⟨w.heap.size, 0, none⟩ = some (.int .i64 (q : Int)) ∧ W'.cell? ⟨w.heap.size, 2, none⟩ = some (.slice (some ad) n ca) ∧ W'.cell? (ad.add q) = some (.int .i64 z)) (first | exact HK0.out | exact HSc.out)
    (first | (go_at_call 113; (with_reducible refine HLe.out.mono ?_); rintro e w8 ⟨v8, rfl, ho8, hb8⟩; have HBc := Lib.hid ((Below.refl W0.heap.size W0).drew.trans hb8); have HSc := Lib.hid (HK.out w8 HBc.out).1; have HO8 := Lib.hid ho8; clear hb8 ho8))
  obtain ⟨g8, cap8, rfl, -⟩ := OV.shape_ HO8.out (by rw [List.length_map, HMl.out]; omega)
  have ho8 := HO8.out
  rw [List.length_map, HMl.out] at ho8 ⊢
  have HO9 : Hid (OI w8 W0.heap.size (.slice (some ⟨g8, 0, none⟩) n cap8) (plusL (valsL n es) a (-1))) := OV.mono ho8 (Below.refl W0.heap.size W0).drew.size
  have HB9 := Lib.hid (HK.out w8 HBc.out).2
  have hxb : w.heap.size < W0.heap.size := by have := block_lt_of_cell (HK.out W0 (Below.refl _ _)).1.2.1; exact this
  have hadb : ad.block < W0.heap.size := by have := block_lt_of_cell (HK.out W0 (Below.refl _ _)).1.2.2.2; rwa [block_of_add] at this
  have HC9 : Hid (∀ W, Below W0.heap.size w8 W → W.cell? ⟨w.heap.size, 0, none⟩ = some (.int .i64 (q : Int)) ∧ W.cell? ⟨w.heap.size, 2, none⟩ = some (.slice (some ad) n ca) ∧ W.cell? (ad.add q) = some (.int .i64 z)) := fun W hW => by
    obtain ⟨h1, h2, h3⟩ := HSc.out.2
    exact ⟨(hW.cell (p := ⟨w.heap.size, 0, none⟩) hxb).trans h1, (hW.cell (p := ⟨w.heap.size, 2, none⟩) hxb).trans h2, (hW.cell (p := ad.add q) (by rw [block_of_add]; exact hadb)).trans h3⟩
  have hsz0 := HB0.out.size
  clear ho8 HO8 HSc HBc HK HK0 HLe
  go_wp2_with fail
  go_loopw [16] (fun i wr => ∃ (k : Nat) (os : List Int), k ≤ n ∧ i = .int .i64 (k : Int) ∧ Hid (os.length = n) ∧ Hid (∀ j, j < n → os.getD j 0 = if j < k then valK es j n - a.getD j 0 - 1 else valK es j n - a.getD j 0) ∧ Hid (OI wr W0.heap.size (.slice (some ⟨g8, 0, none⟩) n cap8) os) ∧ Hid (Below W0.heap.size w8 wr)) (fun i _ => n - (intOf i).toNat)
  case atStart => exact ⟨0, _, Nat.zero_le _, rfl, HMl.out, fun j hj => by rw [if_neg (by omega)]; exact HMi.out j hj, HO9.out, Below.refl _ _⟩
  case round =>
    obtain ⟨k, os, hk, rfl, hl, hg, ho, hb⟩ := hrel
    by_cases hlt : k < n
    · obtain ⟨-, hgB, q1, q2, q3⟩ := OI.at' ho.out (k := k) (by rw [hl.out]; exact hlt)
      have hgk := hg.out k hlt
      rw [if_neg (by omega)] at hgk
      have hbk := HBd.out k
      rw [← hgk] at hbk
      have HS := Lib.hid (q3 (os.getD k 0 - 1)).1
      have HB2 := Lib.hid (hb.out.setCell (p := ⟨g8, k, none⟩) hgB (.int .i64 (os.getD k 0 - 1)))
      have HL2 : Hid ((os.set k (os.getD k 0 - 1)).length = n) := by show _ = _; rw [List.length_set]; exact hl.out
      have HG2 : Hid (∀ j, j < n → (os.set k (os.getD k 0 - 1)).getD j 0 = if j < k + 1 then valK es j n - a.getD j 0 - 1 else valK es j n - a.getD j 0) := fun j hj => by
        rw [getD_set' (by rw [hl.out]; exact hlt)]
        by_cases e : j = k
        · rw [if_pos e, e, if_pos (by omega), hgk]
        · rw [if_neg e, hg.out j hj]
          by_cases e2 : j < k
          · rw [if_pos e2, if_pos (by omega)]
          · rw [if_neg e2, if_neg (by omega)]
      clear q3 hgk hgB
      generalize os.getD k 0 = o at *
      go_wp2
      go_roundw
      case rel => exact ⟨k + 1, _, by omega, by go_num, HL2.out, HG2.out, HS.out, HB2.out⟩
      case measure => simp [intOf]; omega
    · obtain rfl : k = n := by omega
      have he := HFin.out os hl.out fun j hj => by rw [hg.out j hj, if_pos hj]
      have HE := Lib.hid he
      obtain ⟨d0, d2, d3⟩ := HC9.out _ hb.out
      obtain ⟨-, hgB, q1, q2, q3⟩ := OI.at' ho.out (k := q) (by rw [hl.out]; exact hq)
      have HS := Lib.hid (q3 (-z)).1
      have HB2 := Lib.hid (hb.out.setCell (p := ⟨g8, q, none⟩) hgB (.int .i64 (-z)))
      have hw : IntKind.i64.wrap (-z) = -z := by simp (disch := omega) only [IntWalk.i64_in]
      clear he q3 hgB
      generalize os.getD q 0 = o at *
      go_wp2_with fail
      refine wp_region_still_tail 11 (by kernel_rfl) (by kernel_rfl) ?_
      change wpStill _ _ wr.drew _ _ _
      simp only [List.take_succ_cons, List.take_zero, List.drop_succ_cons, List.drop_zero]
      repeat still_step
      refine wpStill_nil ?_
      change wpList _ _ _ _ _ wr.drew
      go_wp2
      go_ret
      exact ⟨_, rfl, by rw [← HE.out]; exact OV.mono (OI.below HS.out (Below.refl _ _).drew) hsz0, HB9.out.trans ((HB2.out.drew).mono hsz0)⟩
end Go.Proofs.YtgcnijmmjlfabaaGreatDoor

namespace Go.Proofs.YtgcnijmmjlfabaaGreatDoor
open Go.RowKit Go.Shelf

/-- A function value that says p of a list of n ints, in the world w and whatever follows it. -/
def CloK (P : Program) (w : World) (fv : Value) (n : Nat) (p : List Int → Bool) : Prop :=
  ∃ fn caps, fv = .func (.func fn) #[] caps ∧ (∀ args W, (callFunc fn args).run P W = .ok (.enter fn args) W) ∧ ∀ W, Below w.heap.size w W → ∀ v x, RI W v x → x.length = n → Calls P fn (#[v] ++ caps) W fun e w' => e = .returned (.bool (p x)) ∧ Below W.heap.size W w'
theorem CloK.below {P : Program} {w w' : World} {fv : Value} {n : Nat} {p : List Int → Bool} (h : CloK P w fv n p) (hb : Below w.heap.size w w') : CloK P w' fv n p := by
  obtain ⟨fn, caps, e, hen, hc⟩ := h
  exact ⟨fn, caps, e, hen, fun W hW v x hx hl => hc W (hb.trans (hW.mono hb.size)) v x hx hl⟩
/-- What the checker answers to a script that should lead to chips for which p holds. -/
def leadsE (n : Nat) (es : List Tri) (a pf : List Int) (p : List Int → Bool) : Int :=
  if (pf.length : Int) ≠ n then 8 else if p (appLk n es a pf) = true then 0 else 16
theorem kLeads_any (gv va vb vf vp fv : Value) (n : Nat) (q nn : Int) (es : List Tri) (a pf : List Int) (p : List Int → Bool) (w : World) (hg : GX w gv n es) (ha : RI w va a) (hp : RI w vp pf) (hf : CloK Tryz.prog w fv n p) (hE : Edges n es) (hn : n ≤ 12) (hal : a.length = n) (hab : Bd 2000000 a) (hpb : Bd 2000000 pf) :
    Calls Tryz.prog 64 #[gv, .agg #[.int .i64 q, .int .i64 nn, va, vb, vf, vp], fv] w fun e w' => e = .returned (.int .i64 (leadsE n es a pf p)) ∧ Below w.heap.size w w' := by
  obtain ⟨Aa, ca, rfl, -⟩ := ha.open_
  obtain ⟨Ap, cp, rfl, -⟩ := hp.open_
  rw [hal] at ha ⊢
  obtain ⟨W0, hW0⟩ : ∃ W0, W0 = w.alloc (.cells #[.int .i64 q, .int .i64 nn, .slice Aa n ca, vb, vf, .slice Ap pf.length cp] 87) := ⟨_, rfl⟩
  have hb0 : Below w.heap.size w W0 := by rw [hW0]; exact below_alloc w _
  have hbx : BL W0 w.heap.size 87 [.int .i64 q, .int .i64 nn, .slice Aa n ca, vb, vf, .slice Ap pf.length cp] := by rw [hW0]; exact BL.new' w _ _
  have HG := Lib.hid (hg.below hb0)
  have hgw := hg.below hb0
  obtain ⟨b, vj, vv, rfl, hb, -, -⟩ := hgw
  have g0 := hb.cell 0
  have x2 := hbx.cell 2
  have x5 := hbx.cell 5
  have HA := Lib.hid (RI.below ha hb0)
  have HP := Lib.hid (RI.below hp hb0)
  have HB0 := Lib.hid hb0
  have HW0 := Lib.hid hW0
  have HX := Lib.hid hbx
  obtain ⟨fn, caps, rfl, hen, hcall⟩ := hf.below hb0
  have HC := Lib.hid hcall
  have HPr : Hid (∀ (c : Bool) (W : World), Calls Tryz.prog 107 #[.bool c] W fun e w' => e = .returned (.int .i64 (if c then 0 else 16)) ∧ W = w') := fun c W => kProof_any c W
  by_cases hpn : (pf.length : Int) = n
  · have t : ((pf.length : Int) != (n : Int)) = false := by simpa using hpn
    have hpn' : pf.length = n := by omega
    have HAp : Hid (∀ W : World, Below W0.heap.size W0 W → Calls Tryz.prog 108 #[.pointer (some ⟨b, 0, none⟩), .slice Aa n ca, .slice Ap pf.length cp] W fun e w' => ∃ v, e = .returned v ∧ OI w' W.heap.size v (appLk n es a pf) ∧ Below W.heap.size W w') := fun W h =>
      kApp_any _ _ _ n es a pf W (HG.out.below h) (RI.below HA.out h) (RI.below HP.out h) hE hn hal hpn' (hab.mono (by decide)) hpb
    have HSpec : Hid (leadsE n es a pf p = if p (appLk n es a pf) = true then 0 else 16) := by show _ = _; unfold leadsE; rw [if_neg (by omega)]
    have HXl := Lib.hid (appLk_len n es a pf)
    clear ha hp hE hal hb hbx hb0 hW0 hg hab hpb hcall hpn hpn' hf
    generalize appLk n es a pf = x at *
    go_enter Tryz.func64, Tryz.ntmps64
    go_wp2_with fail
    rw [← HW0.out]
    go_quiet (fail)
    have HBz := Lib.hid (below_drewN (Below.refl W0.heap.size W0) nq)
    have HBf := Lib.hid (HB0.out.trans (HBz.out.mono HB0.out.size))
    go_wp2_with fail
    refine (HAp.out _ HBz.out).mono ?_
    rintro e w3 ⟨v3, rfl, ho3, hb3⟩
    have HB3 := Lib.hid (HBz.out.trans (hb3.mono HBz.out.size))
    have HC3 := Lib.hid (HC.out w3 HB3.out v3 x ho3.rv HXl.out)
    have HB4 := Lib.hid (HB0.out.trans (HB3.out.mono HB0.out.size))
    clear hb3 ho3
    generalize p x = pb at *
    go_wp2_with fail
    refine HC3.out.mono ?_
    rintro e w4 ⟨rfl, hb4⟩
    have HB5 := Lib.hid (HB4.out.trans (hb4.mono HB4.out.size))
    clear hb4
    cases pb
    · go_wp2_with fail
      refine (HPr.out _ _).mono ?_
      rintro e w5 ⟨rfl, rfl⟩
      go_wp2
      go_ret
      exact ⟨ret_i (by rw [HSpec.out] <;> rfl), HB5.out⟩
    · go_wp2_with fail
      refine (HPr.out _ _).mono ?_
      rintro e w5 ⟨rfl, rfl⟩
      go_wp2
      go_ret
      exact ⟨ret_i (by rw [HSpec.out] <;> rfl), HB5.out⟩
  · have t : ((pf.length : Int) != (n : Int)) = true := by simpa using hpn
    have HR : Hid (leadsE n es a pf p = 8) := by show _ = _; unfold leadsE; rw [if_pos hpn]
    clear ha hp hE hal hb hbx hb0 hW0 hg hab hpb hcall hpn hf
    go_enter Tryz.func64, Tryz.ntmps64
    go_wp2_with fail
    rw [← HW0.out]
    go_quiet (fail)
    go_wp2
    go_ret
    exact ⟨ret_i HR.out.symm, below_drewN HB0.out _⟩
end Go.Proofs.YtgcnijmmjlfabaaGreatDoor

namespace Go.Proofs.YtgcnijmmjlfabaaGreatDoor
open Go.RowKit Go.Shelf

theorem ints_info : (Tryz.prog.info? 42).map (fun i => (i.zero, i.size, i.bytes)) = some (some (.slice none 0 0), 1, 24) := by kernel_rfl
theorem OV.blk {w : World} {B : Nat} {e : TypeId} {v : Value} {us : List Value} (h : OV w B e v us) {k : Nat} (hk : v.ownBlock = some k) : ∃ cur, w.heap[k]? = some (.cells cur e (0, 0)) := by
  rcases h.1.2 with ⟨rfl, _⟩ | ⟨g, cap, cur, rfl, _, hh, _⟩
  · cases hk
  · simp only [Value.ownBlock, Option.some.injEq] at hk; subst hk; exact ⟨cur, hh⟩
theorem OV.keptBox {w w' : World} {B k : Nat} {e e' : TypeId} {v : Value} {us : List Value} {cs : Array Value} {fr : Nat × Nat} (h : OV w B e v us) (hb : w.heap[k]? = some (.cells cs e' fr)) (hne : e ≠ e') (hg : w.grownBy w' (some k)) : OV w' B e v us := by
  refine ⟨h.1.kept hg ?_, h.2⟩
  cases hv : v.ownBlock with
  | none => exact .inl rfl
  | some j =>
    right; intro ej
    obtain ⟨cur, hc⟩ := h.blk hv
    injection ej with ej
    subst ej
    rw [hb] at hc
    injection hc with hc
    injection hc with _ hc
    exact hne hc.symm
theorem OV.keptOwn {w w' : World} {B B' : Nat} {e e' : TypeId} {v v' : Value} {us us' : List Value} (h : OV w B e v us) (h' : OV w B' e' v' us') (hne : e ≠ e') (hg : w.grownBy w' v'.ownBlock) : OV w' B e v us := by
  cases hv : v'.ownBlock with
  | none => rw [hv] at hg; exact ⟨h.1.kept hg (by cases v.ownBlock <;> simp), h.2⟩
  | some k => rw [hv] at hg; obtain ⟨cur, hc⟩ := h'.blk hv; exact h.keptBox hc hne hg
/-- The list's own row, each element a slice of the call's own. -/
def OL (B : Nat) (W : World) (o : Value) (rows : List (List Int)) : Prop :=
  ∃ items : List (Value × List Int), OV W B 42 o (items.map (·.1)) ∧ items.map (·.2) = rows ∧ ∀ x ∈ items, OI W B x.1 x.2
theorem OL.nil_ (B : Nat) (W : World) : OL B W (.slice none 0 0) [] := ⟨[], OV.nil_ _ _ _, rfl, fun x hx => by simp at hx⟩
theorem OL.below {B : Nat} {w W : World} {o : Value} {rows : List (List Int)} (h : OL B w o rows) (hb : Below w.heap.size w W) : OL B W o rows := by
  obtain ⟨items, h1, h2, h3⟩ := h
  exact ⟨items, h1.below hb, h2, fun x hx => (h3 x hx).below hb⟩
theorem OL.rr {B : Nat} {W : World} {o : Value} {rows : List (List Int)} (h : OL B W o rows) : RR W o rows := by
  obtain ⟨items, h1, rfl, h3⟩ := h
  refine ⟨items.map (·.1), OV.rv h1, by simp, fun k z hk => ?_⟩
  rw [List.getElem?_map] at hk
  obtain ⟨x, hx, rfl⟩ := Option.map_eq_some_iff.1 hk
  exact ⟨x.1, by rw [List.getElem?_map, hx]; rfl, OV.rv (h3 x (List.mem_of_getElem? hx))⟩
/-- What the walk needs ahead of an append of a row, and what it has behind. -/
theorem OL.snoc {B : Nat} {w : World} {o : Value} {rows : List (List Int)} {A : Option Addr} {n c : Nat} {row : List Int} (h : OL B w o rows) (hr : OI w B (.slice A n c) row) :
    ∃ us : List Value, us.length = rows.length ∧ OV (w.alloc (.cells #[.slice A n c] 42)) B 42 o us ∧ RV (w.alloc (.cells #[.slice A n c] 42)) (.slice (some ⟨w.heap.size, 0, none⟩) 1 1) [.slice A n c] ∧
      ∀ v1 w3, OV w3 B 42 v1 (us ++ [.slice A n c]) → (w.alloc (.cells #[.slice A n c] 42)).grownBy w3 o.ownBlock → OL B w3 v1 (rows ++ [row]) ∧ ∀ (B0 : Nat) (w0 : World), Below B0 w0 w → B0 ≤ B → B ≤ w.heap.size → B0 ≤ w.heap.size → Below B0 w0 w3 := by
  obtain ⟨items, h1, rfl, h3⟩ := h
  have hba := below_alloc w (.cells #[.slice A n c] 42)
  have hov := h1.below hba
  refine ⟨items.map (·.1), by simp, hov, RV.ones w _ _, fun v1 w3 hown hg => ⟨⟨items ++ [(.slice A n c, row)], by simpa using hown, by simp, fun x hx => ?_⟩, fun B0 w0 hb h0 h4 h5 => ?_⟩⟩
  · rcases List.mem_append.1 hx with hx | hx
    · exact OV.keptOwn (OI.below (h3 x hx) hba) hov (by decide) hg
    · rw [List.mem_singleton.1 hx]; exact OV.keptOwn (OI.below hr hba) hov (by decide) hg
  · exact (hb.trans (hba.mono h5)).grown hg (by simp; omega) fun k hk => by have := (hov.1.lt k hk).1; omega

end Go.Proofs.YtgcnijmmjlfabaaGreatDoor

namespace Go.Proofs.YtgcnijmmjlfabaaGreatDoor

theorem map_getD {α : Type} (f : Nat → α) (m : Nat) (z : α) {i : Nat} (hi : i < m) : ((List.range m).map f).getD i z = f i := by
  simp [List.getD_eq_getElem?_getD, hi]
end Go.Proofs.YtgcnijmmjlfabaaGreatDoor

namespace Go.Proofs.YtgcnijmmjlfabaaGreatDoor
open Go.RowKit Go.Shelf

theorem sum_take_bd {zs : List Int} {B : Int} (hB : 0 ≤ B) (hb : Bd B zs) (k : Nat) : -(B * k) ≤ (zs.take k).sum ∧ (zs.take k).sum ≤ B * k := by
  induction k with
  | zero => simp
  | succ k ih =>
    rw [List.take_add_one, List.sum_append]
    have h := hb k
    rw [List.getD_eq_getElem?_getD] at h
    have : B * ((k + 1 : Nat) : Int) = B * k + B := by push_cast; rw [Int.mul_add, Int.mul_one]
    rw [this]
    cases e : zs[k]? with
    | none => simp; omega
    | some z => rw [e] at h; simp only [Option.getD_some] at h; simp; omega
end Go.Proofs.YtgcnijmmjlfabaaGreatDoor

namespace Go.Proofs.YtgcnijmmjlfabaaGreatDoor
open Go.RowKit Go.Shelf

/-- What the checker answers to a proof that a rank is at most nn. -/
def belowE (n : Nat) (es : List Tri) (nn : Int) (a pf : List Int) : Int :=
  if (pf.length : Int) ≠ 3 * n then 8 else if (decide (0 ≤ pf.getD n 0) && decide (pf.getD n 0 < n)) = false then 2
  else if effB (pf.take n) = false ∨ (pf.take n).sum ≠ nn + 1 then 16 else losesE n es (plusL a (pf.take n) (-1)) (pf.drop n)
theorem add_zero' (a : Addr) : a.add 0 = a := by cases a; simp [Addr.add]
theorem RI.pre {w : World} {a : Addr} {n c : Nat} {l : List Int} (h : RI w (.slice (some a) n c) l) {j : Nat} (hj : j ≤ l.length) : RI w (.slice (some a) j c) (l.take j) := by
  have := RI.sub h (i := 0) (j := j) (Nat.zero_le _) hj
  rw [add_zero', Nat.sub_zero, Nat.sub_zero, List.drop_zero] at this
  exact this
theorem RI.suf {w : World} {a : Addr} {n c : Nat} {l : List Int} (h : RI w (.slice (some a) n c) l) {i : Nat} (hi : i ≤ l.length) : RI w (.slice (some (a.add i)) (l.length - i) (c - i)) (l.drop i) := by
  have := RI.sub h (i := i) (j := l.length) hi (Nat.le_refl _)
  rw [List.take_of_length_le (Nat.le_refl _)] at this
  exact this
theorem sum_take_succ' {l : List Int} {k : Nat} {z : Int} (h : l[k]? = some z) : (l.take (k + 1)).sum = (l.take k).sum + z := by
  rw [List.take_add_one, h]; simp
theorem kBelow_any (gv va vb vf vp : Value) (n : Nat) (q nn : Int) (es : List Tri) (a pf : List Int) (w : World) (hg : GX w gv n es) (ha : RI w va a) (hp : RI w vp pf) (hE : Edges n es) (hn1 : 1 ≤ n) (hn : n ≤ 12) (hal : a.length = n) (hab : Bd 2000000 a) (hpb : Bd 2000000 pf) (hnn : -1 ≤ nn ∧ nn ≤ 12) :
    Calls Tryz.prog 72 #[gv, .agg #[.int .i64 q, .int .i64 nn, va, vb, vf, vp]] w fun e w' => e = .returned (.int .i64 (belowE n es nn a pf)) ∧ Below w.heap.size w w' := by
  obtain ⟨Aa, ca, rfl, -⟩ := ha.open_
  obtain ⟨Ap, cp, rfl, hlc, -, hcp⟩ := hp.open_
  rw [hal] at ha ⊢
  obtain ⟨W0, hW0⟩ : ∃ W0, W0 = w.alloc (.cells #[.int .i64 q, .int .i64 nn, .slice Aa n ca, vb, vf, .slice Ap pf.length cp] 87) := ⟨_, rfl⟩
  have hb0 : Below w.heap.size w W0 := by rw [hW0]; exact below_alloc w _
  have hbx : BL W0 w.heap.size 87 [.int .i64 q, .int .i64 nn, .slice Aa n ca, vb, vf, .slice Ap pf.length cp] := by rw [hW0]; exact BL.new' w _ _
  have HG := Lib.hid (hg.below hb0)
  have hgw := hg.below hb0
  obtain ⟨b, vj, vv, rfl, hb, -, -⟩ := hgw
  have g0 := hb.cell 0
  have x1 := hbx.cell 1
  have x2 := hbx.cell 2
  have x5 := hbx.cell 5
  have HA := Lib.hid (RI.below ha hb0)
  have HP := Lib.hid (RI.below hp hb0)
  have HB0 := Lib.hid hb0
  have HW0 := Lib.hid hW0
  by_cases hpn : (pf.length : Int) = 3 * n
  · have t : ((pf.length : Int) != 3 * (n : Int)) = false := by simpa using hpn
    have hpn' : pf.length = 3 * n := by omega
    obtain ⟨ad, z, rfl, hadb, hz, hcz⟩ := hcp n (by omega)
    have hzz := getD_of' hz.out
    have hel : (pf.take n).length = n := by simp; omega
    have hll : (pf.drop n).length = 2 * n := by simp; omega
    have hpre := RI.pre HP.out (j := n) (by omega)
    have hsuf := RI.suf HP.out (i := n) (by omega)
    rw [hpn'] at hsuf
    have HE := Lib.hid hpre
    have HL := Lib.hid hsuf
    have HV : Hid (∀ W : World, Below W0.heap.size W0 W → Calls Tryz.prog 40 #[.pointer (some ⟨b, 0, none⟩), .int .i64 z] W fun e w' => e = .returned (.bool (decide (0 ≤ z) && decide (z < n))) ∧ W = w') := fun W h => kVertex_any _ n es z W (HG.out.below h)
    have HEf : Hid (∀ W : World, Below W0.heap.size W0 W → Calls Tryz.prog 68 #[.slice (some ad) n cp] W fun e w' => e = .returned (.bool (effB (pf.take n))) ∧ W = w') := fun W h => kEff_any _ _ W (RI.below HE.out h)
    have hb8 : Bd 100000000 (pf.take n) := by have := hpb.sub (by decide) 0 n; rw [List.drop_zero] at this; exact this.mono (by decide)
    have HLe : Hid (∀ W : World, Below W0.heap.size W0 W → Calls Tryz.prog 113 #[.slice Aa n ca, .slice (some ad) n cp] W fun e w' => ∃ v, e = .returned v ∧ OI w' W.heap.size v (plusL a (pf.take n) (-1)) ∧ Below W.heap.size W w') := fun W h =>
      kLess_any _ _ n a (pf.take n) W (RI.below HA.out h) (RI.below HE.out h) hal hel (by omega) (hab.mono (by decide)) hb8
    have hml : (plusL a (pf.take n) (-1)).length = n := by simp [plusL, hal]; omega
    have HMl := Lib.hid hml
    have hmb : Bd 20000000 (plusL a (pf.take n) (-1)) := fun v => by
      by_cases hv : v < n
      · rw [minus_at hal hel hv]
        have h1 := hab v
        have h2 := hpb.sub (by decide) 0 n v
        rw [List.drop_zero] at h2
        omega
      · rw [List.getD_eq_getElem?_getD, List.getElem?_eq_none (by rw [hml]; omega)]; simp
    have hdb : Bd 2000000 (pf.drop n) := by have := hpb.sub (by decide) n pf.length; rwa [List.take_of_length_le (Nat.le_refl _)] at this
    have HLo : Hid (∀ (v : Value) (W : World), Below W0.heap.size W0 W → RI W v (plusL a (pf.take n) (-1)) → Calls Tryz.prog 70 #[.pointer (some ⟨b, 0, none⟩), v, .slice (some (ad.add n)) (3 * n - n) (cp - n)] W fun e w' => e = .returned (.int .i64 (losesE n es (plusL a (pf.take n) (-1)) (pf.drop n))) ∧ Below W.heap.size W w') := fun v W h h2 =>
      kLoses_any _ v _ n es _ (pf.drop n) W (HG.out.below h) h2 (RI.below HL.out h) hE hn1 hn hml hmb hdb (by omega)
    have HSpec : Hid (belowE n es nn a pf = if (decide (0 ≤ z) && decide (z < n)) = false then 2 else if effB (pf.take n) = false ∨ (pf.take n).sum ≠ nn + 1 then 16 else losesE n es (plusL a (pf.take n) (-1)) (pf.drop n)) := by
      show _ = _; unfold belowE; rw [if_neg (by omega), hzz]
    have HT0 : Hid ((pf.take 0).sum = 0) := by simp [Hid]
    have HSum : Hid (∀ k z, k < n → pf[k]? = some z → (pf.take (k + 1)).sum = (pf.take k).sum + z ∧ -2000000 ≤ z ∧ z ≤ 2000000) := fun k z _ h => ⟨sum_take_succ' h, by have := hpb k; rw [getD_of' h] at this; exact this⟩
    have HSb : Hid (∀ k : Nat, -2000000 * (k : Int) ≤ (pf.take k).sum ∧ (pf.take k).sum ≤ 2000000 * (k : Int)) := fun k => by
      have := sum_take_bd (B := 2000000) (by decide) hpb k
      omega
    have HCp : Hid (∀ k, k < n → ∃ y, pf[k]? = some y ∧ W0.cell? (ad.add k) = some (.int .i64 y) ∧ ad.block < W0.heap.size) := fun k hk => by
      obtain ⟨ad', y, he, hb', hy, hcl⟩ := hcp k (by omega)
      cases he
      exact ⟨y, hy.out, (HB0.out.cell (p := ad.add k) (by rw [block_of_add]; exact hb')).trans hcl, by have := HB0.out.size; omega⟩
    have hcz0 := (HB0.out.cell (p := ad.add n) (by rw [block_of_add]; exact hadb)).trans hcz
    have hadb0 : ad.block < W0.heap.size := by have := HB0.out.size; omega
    rw [hpn'] at hlc HW0 x5 ⊢
    clear ha hp hE hal hb hbx hb0 hW0 hg hab hpb hpn hcp t hpn' hz hzz hcz hadb hel hll hpre hsuf hml hmb hdb hb8 HP
    have t : (((3 * n : Nat) : Int) != 3 * (n : Int)) = false := by rw [bne_eq_false_iff_eq]; push_cast; rfl
    go_enter Tryz.func72, Tryz.ntmps72
    go_wp2_with fail
    rw [← HW0.out]
    go_quiet (fail)
    have HBy := Lib.hid (below_drewN (Below.refl W0.heap.size W0) nq)
    obtain ⟨n1, rfl⟩ : ∃ n1, n1 = nq := ⟨_, rfl⟩
    go_wp2_with fail
    go_quiet (fail)
    have HBz := Lib.hid (below_drewN HBy.out nq)
    obtain ⟨W2, HW2⟩ : ∃ W2, Hid (W2 = (W0.drewN n1).drewN nq) := ⟨_, rfl⟩
    have HCe : Hid (∀ k, k < n → ∃ y, pf[k]? = some y ∧ W2.cell? (ad.add k) = some (.int .i64 y) ∧ ad.block < W2.heap.size) := fun k hk => by
      obtain ⟨y, h1, h2, h3⟩ := HCp.out k hk
      rw [HW2.out]
      exact ⟨y, h1, by simpa using h2, by simpa using h3⟩
    have y0 : W2.cell? (ad.add n) = some (.int .i64 z) := by rw [HW2.out]; simpa using hcz0
    have y3 : ad.block < W2.heap.size := by rw [HW2.out]; simpa using hadb0
    have y1 : W2.cell? ⟨w.heap.size, 1, none⟩ = some (.int .i64 nn) := by rw [HW2.out]; simpa using x1
    have y2 : W2.cell? ⟨w.heap.size, 2, none⟩ = some (.slice Aa n ca) := by rw [HW2.out]; simpa using x2
    rw [← HW2.out] at HBz ⊢
    clear HBy HCp HW2 x1 x2 x5 g0 hcz0 hadb0
    go_wp2_with fail
    refine (HV.out _ HBz.out).mono ?_
    rintro e w3 ⟨rfl, rfl⟩
    generalize (decide (0 ≤ z) && decide (z < (n : Int))) = tv at *
    have HBf := Lib.hid (HB0.out.trans (HBz.out.mono HB0.out.size))
    cases tv
    · go_wp2
      go_ret
      exact ⟨ret_i (by rw [HSpec.out] <;> rfl), HBf.out⟩
    · go_wp2_with fail
      go_loop [7, 41] (fun s i => ∃ k : Nat, k ≤ n ∧ s = .int .i64 (pf.take k).sum ∧ i = .int .i64 (k : Int)) (fun _ i => n - (intOf i).toNat)
      case atStart => exact ⟨0, Nat.zero_le _, by rw [HT0.out], rfl⟩
      case round =>
        obtain ⟨k, hk, rfl, rfl⟩ := hrel
        have hsb := HSb.out k
        by_cases hlt : k < n
        · obtain ⟨y, hy, hcy, -⟩ := HCe.out k hlt
          obtain ⟨h1, h2, h3⟩ := HSum.out k y hlt hy
          have HS1 := Lib.hid h1
          clear h1 hy HCe HSum
          generalize (pf.take k).sum = s at *
          go_wp2
          go_round
          case rel => exact ⟨k + 1, by omega, by rw [HS1.out], by go_num⟩
          case measure => simp [intOf]; omega
        · obtain rfl : k = n := by omega
          clear HCe HSum
          generalize (pf.take k).sum = s at *
          go_wp2_with fail
          refine (HEf.out _ HBz.out).mono ?_
          rintro e w4 ⟨rfl, rfl⟩
          generalize effB (pf.take k) = ef at *
          cases ef
          · have HR : Hid (belowE k es nn a pf = 16) := by show _ = _; rw [HSpec.out]; simp
            go_wp2
            go_ret
            exact ⟨ret_i HR.out.symm, HBf.out⟩
          · by_cases hs : s = nn + 1
            · have t : (s != nn + 1) = false := by simpa using hs
              have HR : Hid (belowE k es nn a pf = losesE k es (plusL a (pf.take k) (-1)) (pf.drop k)) := by show _ = _; rw [HSpec.out]; simp [hs]
              clear hs
              go_wp2_with fail
              refine (HLe.out _ HBz.out).mono ?_
              rintro e w5 ⟨v5, rfl, ho5, hb5⟩
              have HB5 := Lib.hid (HBz.out.trans (hb5.mono HBz.out.size))
              have HL5 := Lib.hid (HLo.out v5 w5 HB5.out ho5.rv)
              clear ho5 hb5
              go_wp2_with fail
              refine HL5.out.mono ?_
              rintro e w6 ⟨rfl, hb6⟩
              have HB6 := Lib.hid (HB5.out.trans (hb6.mono HB5.out.size))
              clear hb6
              go_wp2
              go_ret
              exact ⟨ret_i HR.out.symm, HB0.out.trans (HB6.out.mono HB0.out.size)⟩
            · have t : (s != nn + 1) = true := by simpa using hs
              have HR : Hid (belowE k es nn a pf = 16) := by show _ = _; rw [HSpec.out]; simp [hs]
              clear hs
              go_wp2
              go_ret
              exact ⟨ret_i HR.out.symm, HBf.out⟩
  · have t : ((pf.length : Int) != 3 * (n : Int)) = true := by simpa using hpn
    have HR : Hid (belowE n es nn a pf = 8) := by show _ = _; unfold belowE; rw [if_pos hpn]
    clear ha hp hE hal hb hbx hb0 hW0 hg hab hpb hpn hcp
    go_enter Tryz.func72, Tryz.ntmps72
    go_wp2_with fail
    rw [← HW0.out]
    go_quiet (fail)
    go_wp2
    go_ret
    exact ⟨ret_i HR.out.symm, below_drewN HB0.out _⟩
end Go.Proofs.YtgcnijmmjlfabaaGreatDoor

