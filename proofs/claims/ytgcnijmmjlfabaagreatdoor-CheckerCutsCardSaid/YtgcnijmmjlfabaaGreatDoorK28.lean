/- Contract of the reference's covers.
   Contract of the reference's below. -/
import Derived.Test.YtgcnijmmjlfabaaGreatDoorK27
set_option maxRecDepth 100000
set_option maxHeartbeats 16000000
namespace Go.Proofs.YtgcnijmmjlfabaaGreatDoor
open Go.RowKit Go.Shelf

theorem efl_bd {m deg : Nat} (hd : deg ≤ 12) {x : List Int} (h : x ∈ eflL m deg) : Bd 12 x :=
  dvsL_bd (n := m + 1) hd (by rw [dvs_lst deg (by omega)]; exact h)
theorem plus_len2 {a b : List Int} {n : Nat} (k : Int) (ha : a.length = n) (hb : b.length = n) : (plusL a b k).length = n := by simp [plusL, ha, hb]
theorem rCovers_any (g vd vl : Value) (n deg : Nat) (es : List Tri) (d l : List Int) (w : World) (hg : GV w g n es) (hd : RI w vd d) (hl : RI w vl l) (hE : Edges n es) (hn1 : 1 ≤ n) (hn : n ≤ 6) (hdeg : deg ≤ 12) (hdl : d.length = n) (hdb : Bd 1048576 d) (hlb : Bd 1048576 l) (hll : l.length ≤ 100000) :
    Calls Tryz.prog 89 #[g, vd, .int .i64 (deg : Int), vl] w fun e w' => e = .returned (.int .i64 (coversE n es deg d l)) ∧ Below w.heap.size w w' := by
  obtain ⟨A, c, rfl, -⟩ := hg.open_
  obtain ⟨W0, hW0⟩ : ∃ W0, W0 = w.alloc (.cells #[.int .i64 (n:Int), .slice A es.length c] 24) := ⟨_, rfl⟩
  have hb0 : Below w.heap.size w W0 := by rw [hW0]; exact below_alloc w _
  have hx0 : BL W0 w.heap.size 24 [.int .i64 (n:Int), .slice A es.length c] := by rw [hW0]; exact BL.new' w _ _
  have c0 := hx0.cell 0
  have c1 := hx0.cell 1
  have HX0 := Lib.hid hx0
  have HG0 := Lib.hid (hg.below hb0)
  have HB0 := Lib.hid hb0
  have HW0 := Lib.hid hW0
  rw [hW0] at c0 c1
  clear hg hx0 hW0
  have hd0 := RI.below hd hb0
  have hl0 := RI.below hl hb0
  obtain ⟨A1, e1, rfl, -, -, -⟩ := hd0.open_
  obtain ⟨A2, e2, rfl, hlc, -, hcl⟩ := hl0.open_
  have HD0 := Lib.hid hd0
  have HL0 := Lib.hid hl0
  have HCl := Lib.hid hcl
  have HCle : Hid (∀ k, k < n → cntN deg k ≤ 6188) := fun k hk => cnt_le k (by omega) deg (by omega)
  have HCs : Hid (∀ k, cntN deg (k + 1) = cntN deg k * (deg + (k + 1)) / (k + 1)) := fun k => rfl
  have HC0 : Hid (cntN deg 0 = 1) := rfl
  have HLi : Hid (∀ W, Calls Tryz.prog 126 #[.int .i64 (n : Int), .int .i64 (deg : Int)] W fun e w' => ∃ v, e = .returned v ∧ RR w' v (dvsL n deg) ∧ Below W.heap.size W w') := fun W => by
    have h := rListed_any (n - 1) deg W (by omega) hdeg
    rw [show n - 1 + 1 = n by omega] at h
    exact h.mono (by
      rintro e w' ⟨v, h1, h2, h3⟩
      exact ⟨v, h1, by rw [dvs_lst deg hn1]; exact h2.rr, h3⟩)
  have HLl : Hid (∀ x ∈ dvsL n deg, x.length = n ∧ Bd 12 x) := fun x hx => by
    rw [dvs_lst deg hn1] at hx
    exact ⟨by rw [lst_len _ _ x hx]; omega, efl_bd hdeg hx⟩
  have HPl : Hid (∀ (x : List Int) (v : Value) (W : World), x ∈ dvsL n deg → Below W0.heap.size W0 W → RI W v x → Calls Tryz.prog 93 #[.slice A1 d.length e1, v, .int .i64 (-1)] W fun e w' => ∃ v, e = .returned v ∧ OI w' W.heap.size v (plusL d x (-1)) ∧ Below W.heap.size W w') := fun x v W hx hW hv =>
    rPlus_any _ _ d x (-1) W (RI.below HD0.out hW) hv (by rw [hdl, (HLl.out x hx).1]) (by omega) (fun j _ => by
      have q1 := hdb j
      have q2 := (HLl.out x hx).2 j
      omega)
  have HAp : Hid (∀ (x s : List Int) (v vs : Value) (W : World), x ∈ dvsL n deg → Below W0.heap.size W0 W → RI W v (plusL d x (-1)) → RI W vs s → s.length = n → Bd 1048576 s → Calls Tryz.prog 87 #[.agg #[.int .i64 (n : Int), .slice A es.length c], v, vs] W fun e w' => ∃ v, e = .returned v ∧ OI w' W.heap.size v (appLk n es (plusL d x (-1)) s) ∧ Below W.heap.size W w') := fun x s v vs W hx hW hv hvs hsl hsb =>
    rAppW_any _ _ _ n es _ s W (HG0.out.below hW) hv hvs hE (by omega) (plus_len2 (-1) hdl (HLl.out x hx).1) hsl (fun j => by
      by_cases hj : j < n
      · rw [minus_at hdl (HLl.out x hx).1 hj]
        have q1 := hdb j
        have q2 := (HLl.out x hx).2 j
        omega
      · rw [List.getD_eq_getElem?_getD, List.getElem?_eq_none (by rw [plus_len2 (-1) hdl (HLl.out x hx).1]; omega)]; simp) hsb
  have HLb := Lib.hid hlb
  have HB00 : Hid (W0.heap.size ≤ W0.heap.size) := Nat.le_refl _
  have g0 := HX0.out.cell 0
  have g1 := HX0.out.cell 1
  have hdl6 : d.length = n := hdl
  have HDl := Lib.hid hdl
  clear hd hl hE hdb hlb hd0 hl0 hcl hb0 hdl hdl6
  go_enter Tryz.func89, Tryz.ntmps89
  go_upto_region 1 with fail
  rw [← HW0.out]
  clear c0 c1
  go_wp2_with fail
  go_loop [9, 10] (fun c k => ∃ j : Nat, j + 1 ≤ n ∧ c = .int .i64 ((cntN deg j : Nat) : Int) ∧ k = .int .i64 ((j : Int) + 1)) (fun _ k => n - (intOf k).toNat)
  case atStart => exact ⟨0, by omega, by rw [HC0.out]; rfl, rfl⟩
  case round =>
    obtain ⟨j, hj, rfl, rfl⟩ := hrel
    have hc := HCle.out j (by omega)
    by_cases hlt : j + 1 < n
    · have hs := HCs.out j
      have hc2 := HCle.out (j + 1) (by omega)
      obtain ⟨ck, hck⟩ : ∃ ck, ck = cntN deg (j + 1) := ⟨_, rfl⟩
      rw [← hck] at hs hc2
      have HCk := Lib.hid hck
      clear hck
      generalize cntN deg j = cj at *
      have HE : Hid (((ck : Nat) : Int) = (cj : Int) * ((deg : Int) + ((j : Int) + 1)) / ((j : Int) + 1)) := by
        show _ = _
        rw [hs]; push_cast; rfl
      have hm : (cj : Int) * ((deg : Int) + ((j : Int) + 1)) ≤ 6188 * 20 := Int.mul_le_mul (by omega) (by omega) (by omega) (by omega)
      have hm0 : 0 ≤ (cj : Int) * ((deg : Int) + ((j : Int) + 1)) := Int.mul_nonneg (by omega) (by omega)
      clear hs
      go_wp2
      go_round
      case rel => exact ⟨j + 1, by omega, by rw [← HCk.out, HE.out], by push_cast; rfl⟩
      case measure => simp [intOf]; omega
    · have hcj : cntN deg (n - 1) = cntN deg j := by rw [show n - 1 = j by omega]
      have hdvl := dvsL_length (n := n) (deg := deg) hn1 hn hdeg
      rw [hcj] at hdvl
      have HSpec : Hid (coversE n es deg d l = if (l.length : Int) ≠ ((cntN deg j : Nat) : Int) * n then 8
        else if ((List.range (dvsL n deg).length).all fun i => coverAt n es d l i ((dvsL n deg).getD i [])) = true then 0 else 16) := by
        show _ = _
        unfold coversE; rw [hcj]
      have HDv := Lib.hid hdvl
      clear hcj hdvl
      generalize cntN deg j = cj at *
      have hm : (cj : Int) * (n : Int) ≤ 6188 * 6 := Int.mul_le_mul (by omega) (by omega) (by omega) (by omega)
      have hm0 : 0 ≤ (cj : Int) * (n : Int) := Int.mul_nonneg (by omega) (by omega)
      by_cases hpn : (l.length : Int) = (cj : Int) * (n : Int)
      · have t : ((l.length : Int) != (cj : Int) * (n : Int)) = false := by simpa using hpn
        rw [if_neg (fun h => h hpn)] at HSpec
        have hpn' : l.length = cj * n := by exact_mod_cast hpn
        have HPn := Lib.hid hpn'
        clear hpn hpn'
        go_wp2_with fail
        refine (HLi.out W0).mono ?_
        rintro e w1 ⟨v1, rfl, hr1, hb1⟩
        obtain ⟨Ar, cr, rfl, -, -, hrows⟩ := hr1.open_
        have HRows := Lib.hid hrows
        have HB1 := Lib.hid hb1
        have HX1 := Lib.hid (HX0.out.bel hb1)
        have HMem : Hid (∀ (k : Nat) (x : List Int), (dvsL n deg)[k]? = some x → x ∈ dvsL n deg) := fun k x hk => List.mem_of_getElem? hk
        clear hr1 hb1 hrows g0 g1 HLi t hm hm0
        generalize hrr : dvsL n deg = rows at *
        clear hrr
        have hrl : rows.length ≤ 6188 := by rw [HDv.out]; exact hc
        go_wp2_with fail
        go_loopw [12] (fun ii wr => ∃ i : Nat, i ≤ rows.length ∧ ii = .int .i64 (i : Int) ∧ Hid (∀ k, k < i → coverAt n es d l k (rows.getD k []) = true) ∧ Hid (Below w1.heap.size w1 wr)) (fun ii _ => rows.length - (intOf ii).toNat)
        case atStart => exact ⟨0, Nat.zero_le _, rfl, fun k hk => absurd hk (by omega), Below.refl _ _⟩
        case round =>
          obtain ⟨i, hi, rfl, hA, hbi⟩ := hrel
          have HBw := Lib.hid (HB1.out.trans (hbi.out.mono HB1.out.size))
          by_cases hil : i < rows.length
          · obtain ⟨adr, x, A3, c3, hAr, hadb, hx, hcx, hxr⟩ := HRows.out i hil
            subst hAr
            have HXm := Lib.hid (HMem.out i x hx.out)
            obtain ⟨lo, hlo⟩ : ∃ lo, lo = i * n := ⟨_, rfl⟩
            have hle : (i + 1) * n ≤ cj * n := Nat.mul_le_mul_right n (by rw [← HDv.out]; omega)
            rw [Nat.succ_mul, ← hlo, ← HPn.out] at hle
            obtain ⟨adl, q, hA2, -, -, -⟩ := HCl.out 0 (by omega)
            subst hA2
            have hsub := RI.sub HL0.out (i := lo) (j := lo + n) (by omega) hle
            have hsl : ((l.take (lo + n)).drop lo).length = n := by simp; omega
            have hsb := HLb.out.sub (by decide) lo (lo + n)
            have hct : (l.take (lo + n)).drop lo = (l.drop lo).take n := by rw [List.drop_take, Nat.add_sub_cancel_left]
            rw [show lo + n - lo = n by omega] at hsub
            have HCv : Hid (coverAt n es d l i x = effB (appLk n es (plusL d x (-1)) ((l.take (lo + n)).drop lo))) := by show _ = _; rw [hct, hlo]; rfl
            have w0 : (i : Int) * (n : Int) = (lo : Int) := by rw [hlo]; push_cast; rfl
            have w1' : ((i : Int) + 1) * (n : Int) = (lo : Int) + (n : Int) := by rw [Int.add_mul, w0, Int.one_mul]
            obtain ⟨hi, hhi⟩ : ∃ hi, hi = lo + n := ⟨_, rfl⟩
            have k0 : IntKind.i64.wrap ((i : Int) * (n : Int)) = (lo : Int) := by rw [w0]; simp (disch := omega) only [IntWalk.i64_in]
            have k1 : IntKind.i64.wrap (((i : Int) + 1) * (n : Int)) = (hi : Int) := by rw [w1']; simp (disch := omega) only [IntWalk.i64_in]; omega
            have k8 : IntKind.i64.wrap ((i : Int) + 1) = (i : Int) + 1 := by simp (disch := omega) only [IntWalk.i64_in]
            have k2 : (lo : Int) ≤ (hi : Int) := by omega
            have k3 : (hi : Int) ≤ (e2 : Int) := by omega
            have k4 : (hi : Int) ≤ (l.length : Int) := by omega
            have k5 : e2 ≠ lo := by omega
            have k6 : lo ≤ hi := by omega
            have k7 : hi ≤ e2 := by omega
            have hhn : hi - lo = n := by omega
            rw [← hhi] at hsub hsl hsb hct HCv hle
            rw [← hhn] at hsub
            have HPlx := Lib.hid (HPl.out x _ wr.drew HXm.out HBw.out.drew (RI.below (RI.below hxr hbi.out) (Below.refl _ _).drew))
            have HApx : Hid (∀ (v : Value) (W : World), Below wr.drew.heap.size wr.drew W → RI W v (plusL d x (-1)) → Calls Tryz.prog 87 #[.agg #[.int .i64 (n : Int), .slice A es.length c], v, .slice (some (adl.add lo)) (hi - lo) (e2 - lo)] W fun e w' => ∃ v, e = .returned v ∧ OI w' W.heap.size v (appLk n es (plusL d x (-1)) ((l.take hi).drop lo)) ∧ Below W.heap.size W w') := fun v W h1 h2 =>
              HAp.out x _ v _ W HXm.out (HBw.out.drew.trans (h1.mono HBw.out.drew.size)) h2 (RI.below hsub (HBw.out.drew.trans (h1.mono HBw.out.drew.size))) hsl hsb
            have hy0 := (HX1.out.bel hbi.out).cell 0
            have hy1 := (HX1.out.bel hbi.out).cell 1
            have hy2 : wr.cell? (adr.add i) = some (.slice A3 x.length c3) := (hbi.out.cell (by rw [block_of_add]; exact hadb)).trans hcx
            have HK : Hid (∀ W, Below wr.drew.heap.size wr.drew W → (W.cell? ⟨w.heap.size, 0, none⟩ = some (.int .i64 (n : Int)) ∧ W.cell? ⟨w.heap.size, 1, none⟩ = some (.slice A es.length c) ∧ W.cell? (adr.add i) = some (.slice A3 x.length c3))) := fun W hW =>
              ⟨(hW.cell (p := ⟨w.heap.size, 0, none⟩) (block_lt_of_cell hy0)).trans hy0, (hW.cell (p := ⟨w.heap.size, 1, none⟩) (block_lt_of_cell hy1)).trans hy1, (hW.cell (p := adr.add i) (block_lt_of_cell hy2)).trans hy2⟩
            have HK0 := Lib.hid (HK.out wr.drew (Below.refl _ _))
            have HXl := Lib.hid (appLk_len n es (plusL d x (-1)) ((l.take hi).drop lo))
            have HXi := Lib.hid hx.out
            have HA2 : Hid (coverAt n es d l i x = true → ∀ k, k < i + 1 → coverAt n es d l k (rows.getD k []) = true) := fun h k hk => by
              by_cases e : k = i
              · subst e
                rw [List.getD_eq_getElem?_getD, HXi.out]; exact h
              · exact hA.out k (by omega)
            have HA3 : Hid (coverAt n es d l i x = false → coversE n es deg d l = 16) := fun h => by
              rw [HSpec.out, if_neg]
              rw [List.all_eq_true]
              intro hall
              have := hall i (List.mem_range.2 hil)
              rw [List.getD_eq_getElem?_getD, HXi.out] at this
              rw [show (some x).getD [] = x from rfl, h] at this
              cases this
            rw [HCv.out] at HA2 HA3
            clear hsub hsl hsb hct hx hcx hxr hadb hlo hle w0 w1' hA hhi hhn
            generalize appLk n es (plusL d x (-1)) ((l.take hi).drop lo) = y at *
            have HPd : Hid (∀ (v : Value) (W : World), RI W v y → Calls Tryz.prog 86 #[v] W fun e w' => e = .returned (.bool (effB y)) ∧ W = w') := fun v W h => rPaid_any v y W h (by rw [HXl.out]; omega)
            generalize effB y = ef at *
            clear hy0 hy1 hy2
            go_wp2_with fail
            go_region_held3 (fun W : World => W.cell? ⟨w.heap.size, 0, none⟩ = some (.int .i64 (n : Int)) ∧ W.cell? ⟨w.heap.size, 1, none⟩ = some (.slice A es.length c) ∧ W.cell? (adr.add i) = some (.slice A3 x.length c3)) (first | exact HK0.out | exact HSa.out | exact HSb.out)
              (first
                | (go_at_call 93; (with_reducible refine HPlx.out.mono ?_); rintro e w6 ⟨v6, rfl, ho6, hb6⟩; have HBa := Lib.hid hb6; have HSa := Lib.hid (HK.out w6 hb6); have HAy := Lib.hid (HApx.out v6 w6 hb6 ho6.rv); clear ho6 hb6)
                | (go_at_call 87; (with_reducible refine HAy.out.mono ?_); rintro e w7 ⟨v7, rfl, ho7, hb7⟩; have HBb := Lib.hid (HBa.out.trans (hb7.mono HBa.out.size)); have HSb := Lib.hid (HK.out w7 HBb.out); have HPy := Lib.hid (HPd.out v7 w7 ho7.rv); clear ho7 hb7)
                | (go_at_call 86; (with_reducible refine HPy.out.mono ?_); rintro e w8 ⟨rfl, rfl⟩))
            all_goals
              have HB8 := Lib.hid (hbi.out.trans (((Below.refl wr.heap.size wr).drew.trans (HBb.out.mono (Nat.le_refl _))).mono hbi.out.size))
              cases ef
              · have HR := Lib.hid (HA3.out rfl)
                go_wp2
                go_ret
                exact ⟨ret_i HR.out.symm, HB0.out.trans ((HB1.out.trans (HB8.out.mono HB1.out.size)).mono HB0.out.size)⟩
              · have HN := Lib.hid (HA2.out rfl)
                go_wp2
                go_roundw
                case rel => exact ⟨i + 1, by omega, by go_num, HN.out, HB8.out⟩
                case measure => simp [intOf]; omega
          · obtain rfl : i = rows.length := by omega
            have HR : Hid (coversE n es deg d l = 0) := by
              show _ = _
              rw [HSpec.out, if_pos]
              rw [List.all_eq_true]
              exact fun k hk => hA.out k (List.mem_range.1 hk)
            clear hA
            go_wp2
            go_ret
            exact ⟨ret_i HR.out.symm, HB0.out.trans (HBw.out.mono HB0.out.size)⟩
      · have t : ((l.length : Int) != (cj : Int) * (n : Int)) = true := by simpa using hpn
        have HR : Hid (coversE n es deg d l = 8) := by show _ = _; rw [HSpec.out, if_pos hpn]
        clear hpn
        go_wp2
        go_ret
        exact ⟨ret_i HR.out.symm, HB0.out⟩
end Go.Proofs.YtgcnijmmjlfabaaGreatDoor

namespace Go.Proofs.YtgcnijmmjlfabaaGreatDoor
open Go.RowKit Go.Shelf

theorem rTotW_any (v : Value) (zs : List Int) (w : World) (hv : RI w v zs) (h100 : zs.length ≤ 100) (hb : Bd 2000000 zs) :
    Calls Tryz.prog 127 #[v] w fun e w' => e = .returned (.int .i64 zs.sum) ∧ w = w' := by
  obtain ⟨A, c, rfl, hlc, hc, hcell⟩ := hv.open_
  have HC := Lib.hid hcell
  have HBd := Lib.hid hb
  clear hcell hv hb
  go_enter Tryz.func127, Tryz.ntmps127
  go_wp2
  go_loop [3, 4] (fun s i => ∃ k : Nat, k ≤ zs.length ∧ s = .int .i64 (zs.take k).sum ∧ i = .int .i64 (k : Int)) (fun _ i => zs.length - (intOf i).toNat)
  case atStart => exact ⟨0, Nat.zero_le _, rfl, rfl⟩
  case round =>
    obtain ⟨k, hk, rfl, rfl⟩ := hrel
    by_cases hlt : k < zs.length
    · obtain ⟨ad, z, rfl, _, hz, hcl⟩ := HC.out k hlt
      have h1 := sum_take_bd (by decide) HBd.out k
      have h2 := HBd.out k
      rw [List.getD_eq_getElem?_getD, hz.out] at h2
      simp only [Option.getD_some] at h2
      have HS : Hid ((zs.take (k + 1)).sum = (zs.take k).sum + z) := by show _ = _; rw [List.take_add_one, hz.out, List.sum_append]; simp
      clear HC hz
      generalize (zs.take k).sum = x at *
      go_wp2
      go_round
      case rel => exact ⟨k + 1, by omega, by rw [HS.out], by go_num⟩
      case measure => simp [intOf]; omega
    · have HS : Hid ((zs.take k).sum = zs.sum) := by show _ = _; rw [List.take_of_length_le (by omega)]
      go_wp2
      go_ret
      exact ⟨ret_i HS.out, rfl⟩
theorem rBelow_any (g va vb vf vl : Value) (n : Nat) (kk Q N : Int) (es : List Tri) (d l : List Int) (w : World) (hg : GV w g n es) (ha : RI w va d) (hl : RI w vl l) (hE : Edges n es) (hn1 : 1 ≤ n) (hn : n ≤ 12) (hdl : d.length = n) (hdb : Bd 1048576 d) (hlb : Bd 1048576 l) (hN : -1 ≤ N ∧ N ≤ 12) (hll : l.length ≤ 100000) :
    Calls Tryz.prog 90 #[g, .agg #[.int .i64 kk, .int .i64 Q, .int .i64 N, va, vb, vf], vl] w fun e w' => e = .returned (.int .i64 (belowE n es N d l)) ∧ Below w.heap.size w w' := by
  obtain ⟨A, c, rfl, -⟩ := hg.open_
  obtain ⟨W0, hW0⟩ : ∃ W0, W0 = (w.alloc (.cells #[.int .i64 (n:Int), .slice A es.length c] 24)).alloc (.cells #[.int .i64 kk, .int .i64 Q, .int .i64 N, va, vb, vf] 91) := ⟨_, rfl⟩
  have hb0 : Below w.heap.size w W0 := by rw [hW0]; exact (below_alloc w _).alloc (by simp) _
  have hxg : BL W0 w.heap.size 24 [.int .i64 (n:Int), .slice A es.length c] := by rw [hW0]; exact (BL.new' w _ _).alloc _
  have hxc : BL W0 (w.heap.size + 1) 91 [.int .i64 kk, .int .i64 Q, .int .i64 N, va, vb, vf] := by
    rw [hW0]
    have := BL.new' (w.alloc (.cells #[.int .i64 (n:Int), .slice A es.length c] 24)) #[.int .i64 kk, .int .i64 Q, .int .i64 N, va, vb, vf] 91
    rwa [World.size_alloc] at this
  have HXg := Lib.hid hxg
  have HXc := Lib.hid hxc
  have HG0 := Lib.hid (hg.below hb0)
  have HB0 := Lib.hid hb0
  have HW0 := Lib.hid hW0
  clear hg hxg hxc hW0
  have hl0 := RI.below hl hb0
  have HA0 := Lib.hid (RI.below ha hb0)
  obtain ⟨A2, e2, rfl, hlc, -, hcl⟩ := hl0.open_
  have g0 := HXg.out.cell 0
  by_cases hpn : (l.length : Int) = 3 * n
  · have t : ((l.length : Int) != 3 * (n : Int)) = false := by simpa using hpn
    obtain ⟨adl, q, rfl, hqb, hq, hcq⟩ := hcl n (by omega)
    have hqq := getD_of' hq.out
    have hpre := RI.pre hl0 (j := n) (by omega)
    have hsuf := RI.suf hl0 (i := n) (by omega)
    have hel : (l.take n).length = n := by simp; omega
    have hdl2 : (l.drop n).length = 2 * n := by simp; omega
    have hb8 : Bd 1048576 (l.take n) := by have := hlb.sub (by decide) 0 n; rwa [List.drop_zero] at this
    have hdb8 : Bd 1048576 (l.drop n) := by have := hlb.sub (by decide) n l.length; rwa [List.take_of_length_le (Nat.le_refl _)] at this
    have HE := Lib.hid hpre
    have HS0 := Lib.hid hsuf
    have HV : Hid (∀ (W : World), Below W0.heap.size W0 W → Calls Tryz.prog 101 #[.agg #[.int .i64 (n : Int), .slice A es.length c], .int .i64 q] W fun e w' => e = .returned (.bool (vtxB n q)) ∧ Below W.heap.size W w') := fun W h => rVertex_any _ n es q W (HG0.out.below h)
    have HPd : Hid (∀ W, Below W0.heap.size W0 W → Calls Tryz.prog 86 #[.slice (some adl) n e2] W fun e w' => e = .returned (.bool (effB (l.take n))) ∧ w' = W) := fun W h => (rPaid_any _ (l.take n) W (RI.below HE.out h) (by omega)).mono fun e w' ⟨h1, h2⟩ => ⟨h1, h2.symm⟩
    have HTt : Hid (∀ W, Below W0.heap.size W0 W → Calls Tryz.prog 127 #[.slice (some adl) n e2] W fun e w' => e = .returned (.int .i64 (l.take n).sum) ∧ w' = W) := fun W h => (rTotW_any _ (l.take n) W (RI.below HE.out h) (by omega) (hb8.mono (by decide))).mono fun e w' ⟨h1, h2⟩ => ⟨h1, h2.symm⟩
    have HPl : Hid (∀ W, Below W0.heap.size W0 W → Calls Tryz.prog 93 #[va, .slice (some adl) n e2, .int .i64 (-1)] W fun e w' => ∃ v, e = .returned v ∧ OI w' W.heap.size v (plusL d (l.take n) (-1)) ∧ Below W.heap.size W w') := fun W h =>
      rPlus_any _ _ d (l.take n) (-1) W (RI.below HA0.out h) (RI.below HE.out h) (by rw [hdl, hel]) (by omega) (fun j _ => by
        have q1 := hdb j
        have q2 := hb8 j
        omega)
    have HLo : Hid (∀ (v : Value) (W : World), Below W0.heap.size W0 W → RI W v (plusL d (l.take n) (-1)) → Calls Tryz.prog 88 #[.agg #[.int .i64 (n : Int), .slice A es.length c], v, .slice (some (adl.add n)) (l.length - n) (e2 - n)] W fun e w' => e = .returned (.int .i64 (losesE n es (plusL d (l.take n) (-1)) (l.drop n))) ∧ Below W.heap.size W w') := fun v W h h2 =>
      rLoses_any _ v _ n es _ (l.drop n) W (HG0.out.below h) h2 (RI.below HS0.out h) hE hn1 hn (plus_len2 (-1) hdl hel) (fun j => by
        by_cases hj : j < n
        · rw [minus_at hdl hel hj]
          have q1 := hdb j
          have q2 := hb8 j
          omega
        · rw [List.getD_eq_getElem?_getD, List.getElem?_eq_none (by rw [plus_len2 (-1) hdl hel]; omega)]; simp) hdb8 hdl2
    have hsumb := sum_take_bd (B := 1048576) (by decide) hlb n
    have HSpec : Hid (belowE n es N d l = if vtxB n q = false then 2 else if effB (l.take n) = false ∨ (l.take n).sum ≠ N + 1 then 16 else losesE n es (plusL d (l.take n) (-1)) (l.drop n)) := by
      show _ = _; unfold belowE; rw [if_neg (by omega), hqq]; rfl
    have k1 : (n : Int) ≤ (e2 : Int) := by omega
    have k2 : (n : Int) < (l.length : Int) := by omega
    have k3 : (l.length : Int) ≤ (e2 : Int) := by omega
    have k6 : (n : Int) ≤ (l.length : Int) := by omega
    have k7 : n ≤ l.length := by omega
    have k4 : e2 ≠ n := by omega
    have k5 : IntKind.i64.wrap (3 * (n : Int)) = 3 * (n : Int) := by simp (disch := omega) only [IntWalk.i64_in]
    have HKs : Hid (∀ W : World, Below W0.heap.size W0 W → (W.cell? ⟨w.heap.size, 0, none⟩ = some (.int .i64 (n : Int)) ∧ W.cell? ⟨w.heap.size, 1, none⟩ = some (.slice A es.length c) ∧ W.cell? (adl.add n) = some (.int .i64 q)) ∧ (W.cell? ⟨w.heap.size + 1, 2, none⟩ = some (.int .i64 N) ∧ W.cell? ⟨w.heap.size + 1, 3, none⟩ = some va)) := fun W hW =>
      ⟨⟨(HXg.out.bel hW).cell 0, (HXg.out.bel hW).cell 1, (hW.cell (p := adl.add n) (by rw [block_of_add]; exact hqb)).trans hcq⟩, (HXc.out.bel hW).cell 2, (HXc.out.bel hW).cell 3⟩
    have HVa := Lib.hid (HV.out W0.drew (Below.refl _ _).drew)
    have HK0 := Lib.hid (HKs.out W0.drew (Below.refl _ _).drew).1
    clear ha hl hE hdl hdb hlb hl0 hcl hpn hqb hq hcq hqq hpre hsuf hel hdl2 hb8 hdb8 hb0
    generalize vtxB n q = vt at *
    generalize effB (l.take n) = ef at *
    generalize losesE n es (plusL d (l.take n) (-1)) (l.drop n) = LE at *
    generalize plusL d (l.take n) (-1) = x at *
    generalize (l.take n).sum = s at *
    generalize belowE n es N d l = BE at *
    generalize l.length = L at *
    go_enter Tryz.func90, Tryz.ntmps90
    go_upto_region 1 with fail
    rw [← HW0.out]
    go_wp2_with fail
    go_region_held3 (fun W : World => W.cell? ⟨w.heap.size, 0, none⟩ = some (.int .i64 (n : Int)) ∧ W.cell? ⟨w.heap.size, 1, none⟩ = some (.slice A es.length c) ∧ W.cell? (adl.add n) = some (.int .i64 q)) (first | exact HK0.out | exact HSb.out)
      (first | (go_at_call 101; refine HVa.out.mono ?_; rintro e w1 ⟨rfl, hb1⟩; have HB1 := Lib.hid ((Below.refl W0.heap.size W0).drew.trans hb1); have HSb := Lib.hid (HKs.out w1 HB1.out).1; clear hb1))
    clear HK0 HSb HVa g0
    have HBf := Lib.hid (HB0.out.trans (HB1.out.mono HB0.out.size))
    cases vt
    · have HR : Hid (BE = 2) := by show _ = _; rw [HSpec.out, if_pos rfl]
      go_wp2
      go_ret
      exact ⟨ret_i HR.out.symm, HBf.out⟩
    · rw [if_neg (by simp)] at HSpec
      have HPn : Hid (∀ m, Calls Tryz.prog 86 #[.slice (some adl) n e2] (w1.drewN m) fun e w' => e = .returned (.bool ef) ∧ w' = w1.drewN m) := fun m => HPd.out _ (below_drewN HB1.out m)
      have HTn : Hid (∀ m, Calls Tryz.prog 127 #[.slice (some adl) n e2] (w1.drewN m) fun e w' => e = .returned (.int .i64 s) ∧ w' = w1.drewN m) := fun m => HTt.out _ (below_drewN HB1.out m)
      obtain ⟨⟨y0, y1, y2⟩, y3, y4⟩ := HKs.out w1 HB1.out
      cases ef
      · have HR : Hid (BE = 16) := by show _ = _; rw [HSpec.out, if_pos (.inl rfl)]
        go_wp2_with fail
        go_quiet (first | (go_at_call 86; exact Calls.quiet_of_same (HPn.out _)) | (go_at_call 127; exact Calls.quiet_of_same (HTn.out _)))
        go_wp2
        go_ret
        exact ⟨ret_i HR.out.symm, below_drewN HBf.out _⟩
      · by_cases hs : s = N + 1
        · have t2 : (s != N + 1) = false := by simpa using hs
          have HR : Hid (BE = LE) := by show _ = _; rw [HSpec.out, if_neg (by simp [hs])]
          clear hs
          go_wp2_with fail
          go_quiet (first | (go_at_call 86; exact Calls.quiet_of_same (HPn.out _)) | (go_at_call 127; exact Calls.quiet_of_same (HTn.out _)))
          clear HPn HTn HPd HTt y0 y1 y2 y3 y4
          have HB2 := Lib.hid (below_drewN HB1.out nq)
          obtain ⟨w2, hw2⟩ : ∃ w2, w2 = w1.drewN nq := ⟨_, rfl⟩
          rw [← hw2] at HB2 ⊢
          clear hw2
          have HPx := Lib.hid (HPl.out w2.drew HB2.out.drew)
          have HK2 : Hid (∀ W, Below w2.drew.heap.size w2.drew W → (W.cell? ⟨w.heap.size, 0, none⟩ = some (.int .i64 (n : Int)) ∧ W.cell? ⟨w.heap.size, 1, none⟩ = some (.slice A es.length c) ∧ W.cell? ⟨w.heap.size + 1, 3, none⟩ = some va)) := fun W hW => by
            have h := HKs.out W (HB2.out.drew.trans (hW.mono HB2.out.drew.size))
            exact ⟨h.1.1, h.1.2.1, h.2.2⟩
          have HLx : Hid (∀ (v : Value) (W : World), Below w2.drew.heap.size w2.drew W → RI W v x → Calls Tryz.prog 88 #[.agg #[.int .i64 (n : Int), .slice A es.length c], v, .slice (some (adl.add n)) (L - n) (e2 - n)] W fun e w' => e = .returned (.int .i64 LE) ∧ Below W.heap.size W w') := fun v W h1 h2 =>
            HLo.out v W (HB2.out.drew.trans (h1.mono HB2.out.drew.size)) h2
          have HS2 := Lib.hid (HK2.out w2.drew (Below.refl _ _))
          go_wp2_with fail
          go_region_held3 (fun W : World => W.cell? ⟨w.heap.size, 0, none⟩ = some (.int .i64 (n : Int)) ∧ W.cell? ⟨w.heap.size, 1, none⟩ = some (.slice A es.length c) ∧ W.cell? ⟨w.heap.size + 1, 3, none⟩ = some va) (first | exact HS2.out | exact HSa.out | exact HSb.out)
            (first
              | (go_at_call 93; (with_reducible refine HPx.out.mono ?_); rintro e w6 ⟨v6, rfl, ho6, hb6⟩; have HBa := Lib.hid hb6; have HSa := Lib.hid (HK2.out w6 hb6); have HLy := Lib.hid (HLx.out v6 w6 hb6 ho6.ri); clear ho6 hb6)
              | (go_at_call 88; (with_reducible refine HLy.out.mono ?_); rintro e w7 ⟨rfl, hb7⟩; have HBb := Lib.hid (HBa.out.trans (hb7.mono HBa.out.size)); have HSb := Lib.hid (HK2.out w7 HBb.out); clear hb7))
          all_goals
            have HBz := Lib.hid (HB0.out.trans ((HB2.out.drew.trans (HBb.out.mono HB2.out.drew.size)).mono HB0.out.size))
            go_wp2
            go_ret
            exact ⟨ret_i HR.out.symm, HBz.out⟩
        · have t2 : (s != N + 1) = true := by simpa using hs
          have HR : Hid (BE = 16) := by show _ = _; rw [HSpec.out, if_pos (.inr hs)]
          clear hs
          go_wp2_with fail
          go_quiet (first | (go_at_call 86; exact Calls.quiet_of_same (HPn.out _)) | (go_at_call 127; exact Calls.quiet_of_same (HTn.out _)))
          go_wp2
          go_ret
          exact ⟨ret_i HR.out.symm, below_drewN HBf.out _⟩
  · have t : ((l.length : Int) != 3 * (n : Int)) = true := by simpa using hpn
    have HR : Hid (belowE n es N d l = 8) := by show _ = _; unfold belowE; rw [if_pos hpn]
    clear ha hl hE hdl hdb hlb hl0 hcl hpn hb0
    go_enter Tryz.func90, Tryz.ntmps90
    go_upto_region 1 with fail
    rw [← HW0.out]
    go_wp2
    go_ret
    exact ⟨ret_i HR.out.symm, HB0.out⟩
end Go.Proofs.YtgcnijmmjlfabaaGreatDoor

