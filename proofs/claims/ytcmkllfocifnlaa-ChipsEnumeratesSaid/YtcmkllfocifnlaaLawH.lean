/- The walks of the laws of layer 17: each returns true. -/
import Derived.Test.YtcmkllfocifnlaaLawA
import Derived.Test.YtcmkllfocifnlaaLawMath
import Derived.Test.YtcmkllfocifnlaaRefC
namespace Go.Proofs.Ytcmkllfocifnlaa
open Go.RowKit Go.Shelf

theorem stepR_up {zs os : List Int} (h : stepR zs = some os) : cmpL zs os = -1 := by
  induction zs generalizing os with
  | nil => cases h
  | cons a r ih =>
    rw [stepR_cons] at h
    cases hr : stepR r with
    | some r' =>
      rw [hr] at h
      simp only [Option.some.injEq] at h
      subst h
      simp only [cmpL, if_neg (Int.lt_irrefl a)]
      exact ih hr
    | none =>
      rw [hr] at h
      simp only at h
      split at h
      · cases h
      · simp only [Option.some.injEq] at h
        subst h
        simp only [cmpL, if_pos (show a < a + 1 by omega)]
theorem chain_at {zs : List Int} {L : List (List Int)} (h : IsChain zs L) (k : Nat) (x : List Int) (hk : L[k]? = some x) : stepL x = L[k + 1]? := by
  induction h generalizing k with
  | one h1 =>
    cases k with
    | zero => simp at hk; subst hk; simpa using h1
    | succ k => simp at hk
  | more h1 h2 ih =>
    cases k with
    | zero =>
      simp at hk; subst hk
      obtain ⟨r, rfl⟩ := h2.head
      simpa using h1
    | succ k => simp only [List.getElem?_cons_succ] at hk ⊢; exact ih k hk
theorem cnt_small : ∀ m, m < 5 → ∀ q, q < 7 → cnt m q ≤ 210 := by decide +kernel

def EnumRel (wa : World) (n : Nat) (i : Value) (wr : World) : Prop := ∃ k : Nat, k ≤ n ∧ i = .int .i64 k ∧ Hid (Below wa.heap.size wa wr)

set_option maxRecDepth 100000 in
set_option maxHeartbeats 8000000 in
theorem Enum_any (m q : Nat) (hm1 : m < 5) (hq : q < 7) (x0 x1 : Nat) (h0 : x0 < 256) (h1 : x1 < 256) (e0 : x0 % 5 = m) (e1 : x1 % 7 = q) (w : World) : Calls Try.prog 7 #[.int .u8 x0, .int .u8 x1] w (Yes w) := by
  have hc := cnt_small m hm1 q hq
  have hvn : ¬ ((1 + (m : Int)) < 1 ∨ 12 < (1 + (m : Int))) := by omega
  have hAll := Lib.hid (show allL (1 + (m : Int)) (q : Int) = (comps m q, 0) by
    have e : vertE (1 + (m : Int)) = 0 := by simp only [vertE, hvn, if_false]
    have e2 : ¬ ((q : Int) < 0 ∨ 1048576 < (q : Int)) := by omega
    simp only [allL, e, ne_eq, not_true_eq_false, if_false, e2, Int.toNat_natCast, show (1 + (m : Int)).toNat - 1 = m by omega, show ¬ 16384 < cnt m q by omega])
  have hch := Lib.hid (comps_chain m q)
  have hgood : Hid (∀ z ∈ comps m q, z.length = m + 1 ∧ z.sum = q ∧ ∀ t ∈ z, 0 ≤ t ∧ t ≤ q) := fun z hz => by
    obtain ⟨a1, a2, a3⟩ := comps_mem hz
    exact ⟨a1, a2, fun t ht => ⟨a3 t ht, by have := le_sum a3 ht; omega⟩⟩
  have hlen : Hid ((comps m q).length = cnt m q) := rfl
  have hcnt := Lib.hid hc
  have hmod0 : ((x0 : Int).tmod 5) = (m : Int) := by rw [Int.tmod_eq_emod_of_nonneg (by omega)]; omega
  have hmod1 : ((x1 : Int).tmod 7) = (q : Int) := by rw [Int.tmod_eq_emod_of_nonneg (by omega)]; omega
  clear hc hvn e0 e1
  have hcm : Hid (∀ j, j ≤ m → cnt j q ≤ 210) := fun j hj => Nat.le_trans (cnt_mono hj q) hcnt.out
  generalize comps m q = L at *
  go_enter Try.func7, Try.ntmps7
  go_wp2_with fail
  refine (All_any _ _ _).mono ?_
  rw [hAll.out]
  rintro e wa ⟨v1, rfl, hr, hb⟩
  have HW := Lib.hid hb
  obtain ⟨A, c, rfl, hlc, hn, hcell⟩ := hr.open_
  have HC := Lib.hid hcell
  clear hr hb hcell
  go_wp2_with fail
  go_loop [9, 10] (fun d i => ∃ (j x : Nat), j ≤ m ∧ i = .int .i64 ((j : Int) + 1) ∧ d = .int .i64 x ∧ Hid (x = cnt j q)) (fun _ i => m + 1 - (intOf i).toNat)
  case atStart => exact ⟨0, 1, Nat.zero_le _, rfl, rfl, rfl⟩
  case round =>
    obtain ⟨j, x, hj, rfl, rfl, hx⟩ := hrel
    have hxb : x ≤ 210 := by rw [hx.out]; exact hcm.out j hj
    by_cases hlt : j < m
    · have hb : 0 ≤ (x : Int) * ((q : Int) + ((j : Int) + 1)) ∧ (x : Int) * ((q : Int) + ((j : Int) + 1)) ≤ 21000 := by
        constructor
        · exact Int.mul_nonneg (by omega) (by omega)
        · exact Int.le_trans (Int.mul_le_mul (show (x : Int) ≤ 210 by omega) (show (q : Int) + ((j : Int) + 1) ≤ 100 by omega) (by omega) (by omega)) (by omega)
      have hdiv : (x : Int) * ((q : Int) + ((j : Int) + 1)) / ((j : Int) + 1) = (cnt (j + 1) q : Int) := by
        rw [hx.out, ← cnt_div j q]; push_cast; rw [Int.add_assoc]
      obtain ⟨y, hy⟩ : ∃ y, y = cnt (j + 1) q := ⟨_, rfl⟩
      rw [← hy] at hdiv
      have HY := Lib.hid hy
      clear hy
      go_wp2
      go_round
      case rel => exact ⟨j + 1, y, by omega, by go_num, by rw [hdiv], HY.out⟩
      case measure => simp [intOf]; omega
    · obtain rfl : x = L.length := by rw [hx.out, hlen.out, show j = m by omega]
      clear hx hj hcm hxb
      go_wp2_with fail
      go_loopw [55] (fun i wr => EnumRel wa L.length i wr) (fun i _ => L.length - (intOf i).toNat)
      case atStart => exact ⟨0, Nat.zero_le _, rfl, Below.refl _ _⟩
      case round =>
        obtain ⟨k, hk, rfl, hbel⟩ := hrel
        by_cases hlt : k < L.length
        · obtain ⟨ad, zs, A1, c1, rfl, hadb, hz, hcl, hrd⟩ := HC.out k hlt
          have hc1 : wr.cell? (ad.add k) = some (.slice A1 zs.length c1) := (hbel.out.cell (by rw [block_of_add]; exact hadb)).trans hcl
          obtain ⟨g1, g2, g3⟩ := hgood.out zs (List.mem_of_getElem? hz.out)
          have rD := Lib.hid (hrd.below hbel.out)
          have hst := chain_at hch.out k zs hz.out
          have hin : zs.all InB = true := List.all_eq_true.2 fun t ht => by have := g3 t ht; rw [inB_iff]; omega
          have hck : checkE zs zs.length = 0 := checkE_mk (by omega) (by omega) hin
          have hpos : zs.all (fun z => decide (0 ≤ z)) = true := List.all_eq_true.2 fun t ht => by have := g3 t ht; simp; omega
          have e3 := Lib.hid (show degL zs = ((q : Int), 0) by simp only [degL, hck, ne_eq, not_true_eq_false, if_false, g2])
          have e4 := Lib.hid (show effL zs = (true, 0) by simp only [effL, hck, ne_eq, not_true_eq_false, if_false, hpos])
          have hnx : nextL zs = match stepL zs with | none => (([], false), 0) | some z => ((z, true), 0) := by
            simp only [nextL, hck, ne_eq, not_true_eq_false, if_false, hpos, Bool.true_eq_false, g2, show ¬ 1048576 < (q : Int) by omega]
            cases stepL zs <;> rfl
          have HL := Lib.hid g1
          have hzl : zs.length = m + 1 := g1
          rw [hzl] at hc1 rD
          by_cases hmore : k + 1 < L.length
          · obtain ⟨ad', zs', A2, c2, e', hadb', hz', hcl', hrd'⟩ := HC.out (k + 1) hmore
            obtain rfl := Option.some.inj e'
            have hc2 : wr.cell? (ad.add (k + 1)) = some (.slice A2 zs'.length c2) := (hbel.out.cell (by rw [block_of_add]; exact hadb)).trans hcl'
            have rX := Lib.hid (hrd'.below hbel.out)
            have hzl' : zs'.length = m + 1 := (hgood.out zs' (List.mem_of_getElem? hz'.out)).1
            have hs : stepL zs = some zs' := by rw [hst, hz'.out]
            have e5 := Lib.hid (show nextL zs = ((zs', true), 0) by rw [hnx, hs])
            have e6 := Lib.hid (show cmpL zs zs' = -1 from stepR_up (by rw [← stepL_eq]; exact hs))
            have hll := Lib.hid (show zs.length = zs'.length by omega)
            rw [hzl'] at hc2 rX
            have HC2 := Lib.hid hc2
            have HAD := Lib.hid (show ad.block < wr.heap.size from Nat.lt_of_lt_of_le hadb hbel.out.size)
            have hmI : (k : Int) + 1 < (L.length : Int) := by omega
            clear hs hzl hzl' hnx hck hpos hin hst g1 g2 g3 hcl hcl' hrd hrd' hadb hadb' e' hz hz' HC hc2
            have hE := Lib.hid (Below.refl wr.heap.size wr)
            go_wp2_with fail
            refine (Degree_any _ zs _ rD.out).mono ?_
            rw [e3.out]
            rintro e wk1 ⟨rfl, hb⟩
            have rD := Lib.hid (rD.out.below hb)
            have rX := Lib.hid (rX.out.below hb)
            have hE := Lib.hid (hE.out.trans (hb.mono hE.out.size))
            clear hb 
            go_wp2_with fail
            refine (Effective_any _ zs _ rD.out).mono ?_
            rw [e4.out]
            rintro e wk2 ⟨rfl, hb⟩
            have rD := Lib.hid (rD.out.below hb)
            have rX := Lib.hid (rX.out.below hb)
            have hE := Lib.hid (hE.out.trans (hb.mono hE.out.size))
            clear hb 
            go_wp2_with fail
            refine (Next_any _ zs _ rD.out).mono ?_
            rw [e5.out]
            rintro e wk3 ⟨v3, rfl, ho, hb⟩
            have rD := Lib.hid (rD.out.below hb)
            have rX := Lib.hid (rX.out.below hb)
            have hE := Lib.hid (hE.out.trans (hb.mono hE.out.size))
            have r3 := Lib.hid ho.ri
            clear hb 
            obtain ⟨A3, c3, rfl, -⟩ := r3.out.open_
            have hcx := (hE.out.cell (by rw [block_of_add]; exact HAD.out)).trans HC2.out
            have hcy : wk3.cell? ⟨ad.block, ad.off + (k + 1), none⟩ = _ := (by rw [show (⟨ad.block, ad.off + (k + 1), none⟩ : Addr) = ad.add (k + 1) by simp [Addr.add], hcx])
            clear hcx
            go_wp2_with fail
            refine (Same_any _ _ zs' zs' _ r3.out rX.out).mono ?_
            rw [eqL_same]
            rintro e wk4 ⟨rfl, hb⟩
            have hb := Dr.below (show Dr _ wk4 from hb) (wk3).heap.size
            have rD := Lib.hid (rD.out.below hb)
            have rX := Lib.hid (rX.out.below hb)
            have r3 := Lib.hid (r3.out.below hb)
            have hE := Lib.hid (hE.out.trans (hb.mono hE.out.size))
            clear hb 
            go_wp2_with fail
            refine (Order_any _ _ zs zs' _ rD.out r3.out hll.out).mono ?_
            rw [e6.out]
            rintro e wk5 ⟨rfl, hb⟩
            have hb := Dr.below (show Dr _ wk5 from hb) (wk4).heap.size
            have rD := Lib.hid (rD.out.below hb)
            have rX := Lib.hid (rX.out.below hb)
            have r3 := Lib.hid (r3.out.below hb)
            have hE := Lib.hid (hE.out.trans (hb.mono hE.out.size))
            clear hb 
            go_wp2
            go_roundw
            case rel => exact ⟨k + 1, by omega, by go_num, hbel.out.trans (hE.out.mono hbel.out.size)⟩
            case measure => simp [intOf]; omega
          · have hs : stepL zs = none := by rw [hst, List.getElem?_eq_none (by omega)]
            have e5 := Lib.hid (show nextL zs = (([], false), 0) by rw [hnx, hs])
            have hkl : L.length = k + 1 := by omega
            have hmI : ¬ (k : Int) + 1 < (L.length : Int) := by omega
            clear hs hzl hnx hck hpos hin hst g1 g2 g3 hcl hrd hadb hz HC hmore hkl
            have hE := Lib.hid (Below.refl wr.heap.size wr)
            go_wp2_with fail
            refine (Degree_any _ zs _ rD.out).mono ?_
            rw [e3.out]
            rintro e wk1 ⟨rfl, hb⟩
            have rD := Lib.hid (rD.out.below hb)
            have hE := Lib.hid (hE.out.trans (hb.mono hE.out.size))
            clear hb 
            go_wp2_with fail
            refine (Effective_any _ zs _ rD.out).mono ?_
            rw [e4.out]
            rintro e wk2 ⟨rfl, hb⟩
            have rD := Lib.hid (rD.out.below hb)
            have hE := Lib.hid (hE.out.trans (hb.mono hE.out.size))
            clear hb 
            go_wp2_with fail
            refine (Next_any _ zs _ rD.out).mono ?_
            rw [e5.out]
            rintro e wk3 ⟨v3, rfl, ho, hb⟩
            have rD := Lib.hid (rD.out.below hb)
            have hE := Lib.hid (hE.out.trans (hb.mono hE.out.size))
            have r3 := Lib.hid ho.ri
            clear hb 
            go_wp2
            go_roundw
            case rel => exact ⟨k + 1, by omega, by go_num, hbel.out.trans (hE.out.mono hbel.out.size)⟩
            case measure => simp [intOf]; omega
        · go_wp2_with fail
          refine (awake_any _).mono ?_
          rintro e wy ⟨rfl, hb⟩
          have HB := Lib.hid hb
          clear hb
          go_wp2
          go_ret
          exact ⟨rfl, (HW.out.trans (hbel.out.mono HW.out.size)).trans (HB.out.mono (Nat.le_trans HW.out.size hbel.out.size))⟩

theorem wf_u8 {x : Int} (h : (Lit.int .u8 x).wf = true) : 0 ≤ x ∧ x < 256 := by
  simp [Lit.wf, IntKind.min, IntKind.max, IntKind.signed, IntKind.bits] at h
  omega
theorem ChipsEnumerates_law (x0 x1 : Int) (w : World) (h0 : (Lit.int .u8 x0).wf = true) (h1 : (Lit.int .u8 x1).wf = true) : Calls Try.prog 7 #[.int .u8 x0, .int .u8 x1] w (Yes w) := by
  have a0 := wf_u8 h0
  have a1 := wf_u8 h1
  obtain ⟨n0, rfl⟩ := Int.eq_ofNat_of_zero_le a0.1
  obtain ⟨n1, rfl⟩ := Int.eq_ofNat_of_zero_le a1.1
  exact Enum_any (n0 % 5) (n1 % 7) (by omega) (by omega) n0 n1 (by omega) (by omega) rfl rfl w
end Go.Proofs.Ytcmkllfocifnlaa
