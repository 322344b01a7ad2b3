/- Contracts of the reference's Numbers, Written, Check, Claimed. (printed by gen/written57.py) -/
import Derived.Test.YteamhbohgoclgaaGreatDoorP33
set_option maxRecDepth 100000
set_option maxHeartbeats 16000000
namespace Go.Proofs.YteamhbohgoclgaaGreatDoor
open Go.RowKit Go.Shelf
section
variable {P : Program} {w : World}
theorem append_mix (t t2 e : TypeId) (h : P.underlying t = some (.slice e)) (h2 : P.underlying t2 = some (.slice e)) (i : TypeInfo) (hi : P.info? e = some i) (ty : TypeId) (s x : Value) : (Builtin.append_ #[t, t2] ty #[s, x]).run P w = (Builtin.append_ #[t, t] ty #[s, x]).run P w := by
  cases s <;> simp [Builtin.append_, run_underlying h, run_underlying h2, sizeOf, typeInfo, hi]
theorem wpList_appendM {ops : Array Oper} {rest : List Oper} {o : Oper} {a : Act} {Q : Exit → Act → World → Prop} (hgd : o.guard = none) (s x : Operand) (t t2 : TypeId)
    (ho : o.op = .call { callee := .builtin .append, args := #[s, x], argTypes := #[t, t2] })
    (e : TypeId) (i : TypeInfo) (z : Value) (bytes : Nat) (ht : P.underlying t = some (.slice e)) (ht2 : P.underlying t2 = some (.slice e)) (hi : P.info? e = some i) (hz : i.zero = some z)
    (hsize : i.size = 1) (hby : i.bytes = bytes) (hzs : z.cells.size = 1) (B : Nat) (v : Value) (us : List Value) (hs : a.eval s = v) (hown : OV w B e v us)
    (vx : Value) (news : List Value) (hx : a.eval x = vx) (hr : RV w vx news)
    (h1 : ∀ u ∈ news, u.oneCell' = true) (hb1 : us.length + news.length ≤ 17592186044415) (hb2 : (us.length + news.length) * bytes ≤ 140737488355328) (hB : B ≤ w.heap.size)
    (h : ∀ v' w', OV w' B e v' (us ++ news) → w.grownBy w' v.ownBlock → (v'.ownBlock = v.ownBlock ∨ v'.ownBlock = some w.heap.size) → wpList P ops Q rest (a.put o.dst v') w') : wpList P ops Q (o :: rest) a w := by
  refine wpList_plain hgd fun K hK => ?_
  obtain ⟨v', w', hrun, h2, h3, h4⟩ := run_appendV (P := P) w t o.type e i z bytes ht hi hz hsize hby hzs B v us hown vx news hr h1 hb1 hb2 hB
  rw [← append_mix t t2 e ht ht2 i hi] at hrun
  unfold Oper.wp execOp
  simp only [ho, resolve, invoke, builtin, Sem.run_bind, Sem.run_pure, Result.andThen_ok, List.map_toArray, List.map_cons, List.map_nil, hs, hx, hrun]
  exact hK _ _ (h v' w' h2 h3 h4)
end
theorem zOfV_any (n : Int) (w : World) (hb : B15 n) :
    Calls Tryz.prog 96 #[.int .i64 n] w fun e w' => e = .returned (zV n) ∧ Below w.heap.size w w' :=
  (zOf_any n w hb).mono fun _ _ h => by
    obtain ⟨v, h1, h2, h3⟩ := h
    exact ⟨by rw [h1, zsP_zv h3], h2⟩
theorem rNumbersT_any (v : Value) (l : List Int) (w : World) (hv : RI w v l) (hl : l.length ≤ 10000) (hr : ∀ z ∈ l, -1048576 ≤ z ∧ z ≤ 1048576) :
    Calls Tryz.prog 63 #[v] w fun e w' => e = .returned (.string ⟨(numT l).toArray⟩) ∧ Below w.heap.size w w' := by
  obtain ⟨A, c, rfl, hlc, -, hcell⟩ := hv.open_
  have HC := Hd hcell
  have HRn := Hd hr
  have HNl : Hid (∀ k, k ≤ l.length → (numT (l.take k)).length ≤ 21 * k) := fun k hk => by
    have h := numT_len (l.take k) (fun z hz => by have := hr z (List.mem_of_mem_take hz); omega)
    rw [List.length_take] at h; omega
  clear hv hcell hr
  go_enter Tryz.func63, Tryz.ntmps63
  go_wp2_with fail
  go_loopw [3, 4] (fun s i wr => ∃ (k : Nat) (S : ByteArray), k ≤ l.length ∧ i = .int .i64 (k : Int) ∧ s = .string S ∧ Hid (S = ⟨(numT (l.take k)).toArray⟩) ∧ Hid (Below w.heap.size w wr)) (fun _ i _ => l.length - (intOf i).toNat)
  case atStart => exact ⟨0, _, Nat.zero_le _, rfl, rfl, rfl, Below.refl _ _⟩
  case round =>
    obtain ⟨k, S, hk, rfl, rfl, hS, hb⟩ := hrel
    by_cases hlt : k < l.length
    · obtain ⟨ad, z, rfl, hab, hx, hcl⟩ := HC.out k hlt
      have hcw := (hb.out.cell (p := ad.add k) (by rw [block_of_add]; exact hab)).trans hcl
      have hzr := HRn.out z (List.mem_of_getElem? hx.out)
      have HI := Hd (zOfV_any z wr (by unfold B15; omega))
      have hzl := itoa_len z (by omega) (by omega)
      have hnk := HNl.out k hk
      have hadd := fun W => run_string_add_lists (P := Tryz.prog) W [32] (Go.Lib.itoa z) (by simp) (by omega)
      have hadd2 := fun W => run_string_add_lists (P := Tryz.prog) W (numT (l.take k)) (32 :: Go.Lib.itoa z) (by omega) (by simp; omega)
      have HSn : Hid (numT (l.take k) ++ 32 :: Go.Lib.itoa z = numT (l.take (k + 1))) := by
        show _ = _
        rw [← numT_snoc]
        obtain ⟨h1, h2⟩ := List.getElem?_eq_some_iff.1 hx.out
        rw [List.take_succ_eq_append_getElem h1, h2]
      rw [HSn.out, ← hS.out] at hadd2
      unfold zV at HI
      rw [show [32] ++ Go.Lib.itoa z = 32 :: Go.Lib.itoa z from rfl] at hadd
      obtain ⟨S2, hS2⟩ : ∃ S2, S2 = ByteArray.mk (numT (l.take (k + 1))).toArray := ⟨_, rfl⟩
      rw [← hS2] at hadd2
      have HS2 := Hd hS2
      generalize (ByteArray.mk (32 :: Go.Lib.itoa z).toArray) = P2 at *
      generalize (ByteArray.mk (Go.Lib.itoa z).toArray) = P1 at *
      clear hcl hx hzr hzl hnk hS2 HSn hS
      go_wp2_with fail
      refine HI.out.mono ?_
      rintro e w2 ⟨rfl, hb2⟩
      have HB2 := Hd (hb.out.trans (hb2.mono hb.out.size))
      clear hb2 HI
      go_wp2
      go_roundw
      case rel => exact ⟨k + 1, _, by omega, by go_num, rfl, HS2.out, HB2.out⟩
      case measure => simp [intOf]; omega
    · have hR : Hid (S = ⟨(numT l).toArray⟩) := by show _ = _; rw [hS.out, List.take_of_length_le (by omega)]
      clear hS
      go_wp2
      go_ret
      exact ⟨by rw [← hR.out]; rfl, hb.out⟩
theorem rWritten_any (va vb vf : Value) (k : Nat) (Q N : Int) (a b f : List Int) (w : World) (hk : k < 9) (ha : RI w va a) (hb : RI w vb b) (hf : RI w vf f) (hal : a.length ≤ 1000) (hbl : b.length ≤ 1000) (hfl : f.length ≤ 1000)
    (hr : ∀ z ∈ txtL k Q N a b f, -1048576 ≤ z ∧ z ≤ 1048576) (hf0 : kf k = false → f = []) :
    Calls Tryz.prog 33 #[.agg #[.int .i64 (k : Int), .int .i64 Q, .int .i64 N, va, vb, vf]] w fun e w' => e = .returned (strV (txtS k Q N a b f)) ∧ Below w.heap.size w w' := by
  obtain ⟨i0, hi, hz0, hz1, hz2⟩ := info_parts int_info
  have hU := fun (i : Nat) (W : World) (hi : i < 5) => uses_any k i hk hi W
  have HWd := Hd (fun W => Word_any k hk W)
  have hpt : (kq k = false ∧ kn k = false ∧ kf k = false) ∨ (kq k = false ∧ kn k = true ∧ kf k = false) ∨ (kq k = true ∧ kn k = false ∧ kf k = false) ∨ (kq k = false ∧ kn k = false ∧ kf k = true) := by
    match k, hk with
    | 0, _ | 1, _ | 2, _ | 3, _ | 4, _ | 5, _ | 6, _ | 7, _ | 8, _ => decide
  have hkwl : (kwL.getD k []).length ≤ 11 := by
    match k, hk with
    | 0, _ | 1, _ | 2, _ | 3, _ | 4, _ | 5, _ | 6, _ | 7, _ | 8, _ => decide
  obtain ⟨kk, hkk⟩ : ∃ kk : Int, kk = (k : Int) := ⟨_, rfl⟩
  rw [← hkk]
  rw [← hkk] at hU HWd
  obtain ⟨Aa, ca, rfl, -, hla, -⟩ := ha.open_
  obtain ⟨Ab, cb, rfl, -, hlb, -⟩ := hb.open_
  obtain ⟨Af, cf, rfl, -, hlf, -⟩ := hf.open_
  obtain ⟨W0, hW0⟩ : ∃ W0, W0 = w.alloc (.cells #[.int .i64 kk, .int .i64 Q, .int .i64 N, .slice Aa a.length ca, .slice Ab b.length cb, .slice Af f.length cf] 47) := ⟨_, rfl⟩
  have hb0 : Below w.heap.size w W0 := by rw [hW0]; exact below_alloc w _
  have hxc : BL W0 w.heap.size 47 [.int .i64 kk, .int .i64 Q, .int .i64 N, .slice Aa a.length ca, .slice Ab b.length cb, .slice Af f.length cf] := by rw [hW0]; exact BL.new' w _ _
  have HXc := Hd hxc
  have HB0 := Hd hb0
  have HW0 := Hd hW0
  have HA : Hid (∀ W, Below W0.heap.size W0 W → RI W (.slice Aa a.length ca) a) := fun W h => RI.below ha (hb0.trans (h.mono hb0.size))
  have HD : Hid (∀ W, Below W0.heap.size W0 W → RI W (.slice Ab b.length cb) b) := fun W h => RI.below hb (hb0.trans (h.mono hb0.size))
  have HF : Hid (∀ W, Below W0.heap.size W0 W → RI W (.slice Af f.length cf) f) := fun W h => RI.below hf (hb0.trans (h.mono hb0.size))
  have HK : Hid (∀ W : World, Below W0.heap.size W0 W → W.cell? ⟨w.heap.size, 0, none⟩ = some (.int .i64 kk) ∧ W.cell? ⟨w.heap.size, 1, none⟩ = some (.int .i64 Q) ∧ W.cell? ⟨w.heap.size, 2, none⟩ = some (.int .i64 N) ∧ W.cell? ⟨w.heap.size, 3, none⟩ = some (.slice Aa a.length ca) ∧ W.cell? ⟨w.heap.size, 4, none⟩ = some (.slice Ab b.length cb) ∧ W.cell? ⟨w.heap.size, 5, none⟩ = some (.slice Af f.length cf)) := fun W h =>
    ⟨(HXc.out.bel h).cell 0, (HXc.out.bel h).cell 1, (HXc.out.bel h).cell 2, (HXc.out.bel h).cell 3, (HXc.out.bel h).cell 4, (HXc.out.bel h).cell 5⟩
  have HU0 : Hid (∀ W, Calls Tryz.prog 61 #[.int .i64 kk, .int .i64 0] W fun e w' => e = .returned (.bool (kq k)) ∧ Below W.heap.size W w') := fun W => hU 0 W (by decide)
  have HU1 : Hid (∀ W, Calls Tryz.prog 61 #[.int .i64 kk, .int .i64 1] W fun e w' => e = .returned (.bool (kn k)) ∧ Below W.heap.size W w') := fun W => hU 1 W (by decide)
  have HU4 : Hid (∀ W, Calls Tryz.prog 61 #[.int .i64 kk, .int .i64 4] W fun e w' => e = .returned (.bool (kf k)) ∧ Below W.heap.size W w') := fun W => hU 4 W (by decide)
  have HR : Hid (txtS k Q N a b f = kwL.getD k [] ++ numT (txtL k Q N a b f)) := rfl
  have HTx : Hid (txtL k Q N a b f = (if kq k then [Q] else []) ++ (if kn k then [N] else []) ++ a ++ b ++ (if kf k then (f.length : Int) :: f else [])) := rfl
  generalize txtS k Q N a b f = E at *
  generalize txtL k Q N a b f = L at *
  have HRn := Hd hr
  have HPt := Hd hpt
  have HF0 := Hd hf0
  have HXa := Hd (ints_one a)
  have HXb := Hd (ints_one b)
  have HXf := Hd (ints_one f)
  obtain ⟨S, hS⟩ : ∃ S : ByteArray, S = ⟨(kwL.getD k []).toArray⟩ := ⟨_, rfl⟩
  rw [show strV (kwL.getD k []) = .string S by rw [hS]; rfl] at HWd
  have HS := Hd hS
  obtain ⟨x0, x1, x2, x3, x4, x5⟩ := HK.out W0 (Below.refl _ _)
  rw [HW0.out] at x0 x1 x2 x3 x4 x5
  clear hU hxc hb0 hW0 ha hb hf hr hpt hkk hS hf0
  generalize kq k = xq at *
  generalize kn k = xn at *
  generalize kf k = xf at *
  have h1000 : a.length + b.length + f.length ≤ 3000 := by omega
  go_enter Tryz.func33, Tryz.ntmps33
  go_wp2_with fail
  rw [← HW0.out]
  rcases HPt.out with ⟨rfl, rfl, rfl⟩ | ⟨rfl, rfl, rfl⟩ | ⟨rfl, rfl, rfl⟩ | ⟨rfl, rfl, rfl⟩
  · skip
    have HB_0 := Hd (Below.refl W0.heap.size W0)
    have HO_0 := Hd (OI.nil_ W0 W0.heap.size)
    refine (HU0.out _).mono ?_
    rintro e w1 ⟨rfl, hb1⟩
    have HB_1 := Hd (HB_0.out.trans (hb1.mono HB_0.out.size))
    have HO_1 := Hd (HO_0.out.below hb1)
    clear hb1 x0 x1 x2 x3 x4 x5
    obtain ⟨x0, x1, x2, x3, x4, x5⟩ := HK.out w1 HB_1.out
    go_wp2_with fail
    refine (HU1.out _).mono ?_
    rintro e w2 ⟨rfl, hb1⟩
    have HB_2 := Hd (HB_1.out.trans (hb1.mono HB_1.out.size))
    have HO_2 := Hd (HO_1.out.below hb1)
    clear hb1 x0 x1 x2 x3 x4 x5
    obtain ⟨x0, x1, x2, x3, x4, x5⟩ := HK.out w2 HB_2.out
    have HOv_2 : Hid (OV w2 W0.heap.size 3 (.slice none 0 0) (([]).map (.int .i64))) := HO_2.out
    have HRv_2 : Hid (RV w2 (.slice Aa a.length ca) (a.map (.int .i64))) := HA.out _ HB_2.out
    have hsz2 := HB_2.out.size
    go_wp2_with (at_builtin; first
      | (refine wpList_appendM rfl _ _ _ _ rfl 3 i0 _ 8 Tryz.underlying37 Tryz.underlying38 hi hz0 hz1 hz2 rfl W0.heap.size _ _ rfl HOv_2.out _ _ rfl HRv_2.out HXa.out (by first | omega | (simp; done) | (simp; omega)) (by first | omega | (simp; done) | (simp; omega)) (by first | omega | (simp; done) | (simp; omega)) ?_; intro v3 w3 hown hg hat; have HO_3 : Hid (OI w3 W0.heap.size v3 ([] ++ a)) := (by show OV _ _ _ _ _; rw [List.map_append]; exact hown); have HB_3 := Hd (below_own HB_2.out HB_2.out.size HO_2.out hg); have hsz3 := HB_3.out.size; obtain ⟨y0, y1, y2, y3, y4, y5⟩ := HK.out w3 HB_3.out; have HOv_3 : Hid (OV w3 W0.heap.size 3 v3 (([] ++ a).map (.int .i64))) := HO_3.out; have HRv_3 : Hid (RV w3 (.slice Ab b.length cb) (b.map (.int .i64))) := HD.out _ HB_3.out; clear hown hg hat)
      | (refine wpList_appendM rfl _ _ _ _ rfl 3 i0 _ 8 Tryz.underlying37 Tryz.underlying38 hi hz0 hz1 hz2 rfl W0.heap.size _ _ rfl HOv_3.out _ _ rfl HRv_3.out HXb.out (by first | omega | (simp; done) | (simp; omega)) (by first | omega | (simp; done) | (simp; omega)) (by first | omega | (simp; done) | (simp; omega)) ?_; intro v4 w4 hown hg hat; have HO_4 : Hid (OI w4 W0.heap.size v4 ([] ++ a ++ b)) := (by show OV _ _ _ _ _; rw [List.map_append]; exact hown); have HB_4 := Hd (below_own HB_3.out HB_3.out.size HO_3.out hg); have hsz4 := HB_4.out.size; obtain ⟨y0, y1, y2, y3, y4, y5⟩ := HK.out w4 HB_4.out; skip; clear hown hg hat))
    refine (HU4.out _).mono ?_
    rintro e w5 ⟨rfl, hb1⟩
    have HB_5 := Hd (HB_4.out.trans (hb1.mono HB_4.out.size))
    have HO_5 := Hd (HO_4.out.below hb1)
    clear hb1 x0 x1 x2 x3 x4 x5
    obtain ⟨x0, x1, x2, x3, x4, x5⟩ := HK.out w5 HB_5.out
    have HOv_5 : Hid (OV w5 W0.heap.size 3 v4 (([] ++ a ++ b).map (.int .i64))) := HO_5.out
    have HRv_5 : Hid (RV w5 (.slice Af f.length cf) (f.map (.int .i64))) := HF.out _ HB_5.out
    have hsz5 := HB_5.out.size
    go_wp2_with (at_builtin; first
      | (refine wpList_appendV _ rfl _ _ _ rfl 3 i0 _ 8 Tryz.underlying37 hi hz0 hz1 hz2 rfl W0.heap.size _ _ rfl HOv_5.out _ _ rfl HRv_5.out HXf.out (by first | omega | (simp; done) | (simp; omega)) (by first | omega | (simp; done) | (simp; omega)) (by first | omega | (simp; done) | (simp; omega)) ?_; intro v6 w6 hown hg hat; have HO_6 : Hid (OI w6 W0.heap.size v6 ([] ++ a ++ b ++ f)) := (by show OV _ _ _ _ _; rw [List.map_append]; exact hown); have HB_6 := Hd (below_own HB_5.out HB_5.out.size HO_5.out hg); have hsz6 := HB_6.out.size; obtain ⟨y0, y1, y2, y3, y4, y5⟩ := HK.out w6 HB_6.out; skip; clear hown hg hat))
    have HEq : Hid ([] ++ a ++ b ++ f = L) := by show _ = _; rw [HTx.out]; simp [HF0.out (by first | trivial | rfl)]
    refine (HWd.out _).mono ?_
    rintro e wd ⟨rfl, hb1⟩
    have HBd := Hd (HB_6.out.trans (hb1.mono HB_6.out.size))
    have HOd := Hd (HO_6.out.below hb1)
    have hL1 : L.length ≤ 3003 := by rw [HTx.out]; simp; omega
    have HLd : Hid (RI wd v6 L) := by show RI _ _ _; rw [← HEq.out]; exact HOd.out.ri
    have hnl := numT_len L (fun z hz => by have := HRn.out z hz; omega)
    have HNm := Hd (rNumbersT_any v6 L wd HLd.out (by omega) HRn.out)
    have hadd := fun W => run_string_add_lists (P := Tryz.prog) W (kwL.getD k []) (numT L) (by omega) (by omega)
    rw [← HS.out] at hadd
    obtain ⟨NS, hNS⟩ : ∃ NS, NS = ByteArray.mk (numT L).toArray := ⟨_, rfl⟩
    obtain ⟨PS, hPS⟩ : ∃ PS, PS = ByteArray.mk (kwL.getD k [] ++ numT L).toArray := ⟨_, rfl⟩
    rw [← hNS, ← hPS] at hadd
    rw [← hNS] at HNm
    have HE : Hid (strV E = .string PS) := by show _ = _; rw [HR.out, hPS]; rfl
    clear hb1 hNS hPS hnl hL1 HEq
    go_wp2_with fail
    refine HNm.out.mono ?_
    rintro e wn ⟨rfl, hb1⟩
    have HBn := Hd (HBd.out.trans (hb1.mono HBd.out.size))
    clear hb1
    go_wp2
    go_ret
    exact ⟨by rw [HE.out]; rfl, HB0.out.trans (HBn.out.mono HB0.out.size)⟩
  · skip
    have HB_0 := Hd (Below.refl W0.heap.size W0)
    have HO_0 := Hd (OI.nil_ W0 W0.heap.size)
    refine (HU0.out _).mono ?_
    rintro e w1 ⟨rfl, hb1⟩
    have HB_1 := Hd (HB_0.out.trans (hb1.mono HB_0.out.size))
    have HO_1 := Hd (HO_0.out.below hb1)
    clear hb1 x0 x1 x2 x3 x4 x5
    obtain ⟨x0, x1, x2, x3, x4, x5⟩ := HK.out w1 HB_1.out
    go_wp2_with fail
    refine (HU1.out _).mono ?_
    rintro e w2 ⟨rfl, hb1⟩
    have HB_2 := Hd (HB_1.out.trans (hb1.mono HB_1.out.size))
    have HO_2 := Hd (HO_1.out.below hb1)
    clear hb1 x0 x1 x2 x3 x4 x5
    obtain ⟨x0, x1, x2, x3, x4, x5⟩ := HK.out w2 HB_2.out
    obtain ⟨hov, hrv, hfin⟩ := OI.snoc HO_2.out N HB_2.out
    have HOv_2 := Hd hov
    have HRv_2 := Hd hrv
    have HFin_2 := Hd hfin
    clear hov hrv hfin
    have hsz2 := HB_2.out.size
    go_wp2_with (at_builtin; first
      | (refine wpList_appendV _ rfl _ _ _ rfl 3 i0 _ 8 Tryz.underlying37 hi hz0 hz1 hz2 rfl W0.heap.size _ _ rfl HOv_2.out _ _ rfl HRv_2.out (one_ones rfl) (by first | omega | (simp; done) | (simp; omega)) (by first | omega | (simp; done) | (simp; omega)) (by first | omega | (simp; done) | (simp; omega)) ?_; intro v3 w3 hown hg hat; obtain ⟨hf1, hf2⟩ := HFin_2.out v3 w3 hown hg; have HO_3 : Hid (OI w3 W0.heap.size v3 ([] ++ [N])) := hf1; have HB_3 := Hd hf2; clear hf1 hf2; have hsz3 := HB_3.out.size; obtain ⟨y0, y1, y2, y3, y4, y5⟩ := HK.out w3 HB_3.out; have HOv_3 : Hid (OV w3 W0.heap.size 3 v3 (([] ++ [N]).map (.int .i64))) := HO_3.out; have HRv_3 : Hid (RV w3 (.slice Aa a.length ca) (a.map (.int .i64))) := HA.out _ HB_3.out; clear hown hg hat)
      | (refine wpList_appendM rfl _ _ _ _ rfl 3 i0 _ 8 Tryz.underlying37 Tryz.underlying38 hi hz0 hz1 hz2 rfl W0.heap.size _ _ rfl HOv_3.out _ _ rfl HRv_3.out HXa.out (by first | omega | (simp; done) | (simp; omega)) (by first | omega | (simp; done) | (simp; omega)) (by first | omega | (simp; done) | (simp; omega)) ?_; intro v4 w4 hown hg hat; have HO_4 : Hid (OI w4 W0.heap.size v4 ([] ++ [N] ++ a)) := (by show OV _ _ _ _ _; rw [List.map_append]; exact hown); have HB_4 := Hd (below_own HB_3.out HB_3.out.size HO_3.out hg); have hsz4 := HB_4.out.size; obtain ⟨y0, y1, y2, y3, y4, y5⟩ := HK.out w4 HB_4.out; have HOv_4 : Hid (OV w4 W0.heap.size 3 v4 (([] ++ [N] ++ a).map (.int .i64))) := HO_4.out; have HRv_4 : Hid (RV w4 (.slice Ab b.length cb) (b.map (.int .i64))) := HD.out _ HB_4.out; clear hown hg hat)
      | (refine wpList_appendM rfl _ _ _ _ rfl 3 i0 _ 8 Tryz.underlying37 Tryz.underlying38 hi hz0 hz1 hz2 rfl W0.heap.size _ _ rfl HOv_4.out _ _ rfl HRv_4.out HXb.out (by first | omega | (simp; done) | (simp; omega)) (by first | omega | (simp; done) | (simp; omega)) (by first | omega | (simp; done) | (simp; omega)) ?_; intro v5 w5 hown hg hat; have HO_5 : Hid (OI w5 W0.heap.size v5 ([] ++ [N] ++ a ++ b)) := (by show OV _ _ _ _ _; rw [List.map_append]; exact hown); have HB_5 := Hd (below_own HB_4.out HB_4.out.size HO_4.out hg); have hsz5 := HB_5.out.size; obtain ⟨y0, y1, y2, y3, y4, y5⟩ := HK.out w5 HB_5.out; skip; clear hown hg hat))
    refine (HU4.out _).mono ?_
    rintro e w6 ⟨rfl, hb1⟩
    have HB_6 := Hd (HB_5.out.trans (hb1.mono HB_5.out.size))
    have HO_6 := Hd (HO_5.out.below hb1)
    clear hb1 x0 x1 x2 x3 x4 x5
    obtain ⟨x0, x1, x2, x3, x4, x5⟩ := HK.out w6 HB_6.out
    have HOv_6 : Hid (OV w6 W0.heap.size 3 v5 (([] ++ [N] ++ a ++ b).map (.int .i64))) := HO_6.out
    have HRv_6 : Hid (RV w6 (.slice Af f.length cf) (f.map (.int .i64))) := HF.out _ HB_6.out
    have hsz6 := HB_6.out.size
    go_wp2_with (at_builtin; first
      | (refine wpList_appendV _ rfl _ _ _ rfl 3 i0 _ 8 Tryz.underlying37 hi hz0 hz1 hz2 rfl W0.heap.size _ _ rfl HOv_6.out _ _ rfl HRv_6.out HXf.out (by first | omega | (simp; done) | (simp; omega)) (by first | omega | (simp; done) | (simp; omega)) (by first | omega | (simp; done) | (simp; omega)) ?_; intro v7 w7 hown hg hat; have HO_7 : Hid (OI w7 W0.heap.size v7 ([] ++ [N] ++ a ++ b ++ f)) := (by show OV _ _ _ _ _; rw [List.map_append]; exact hown); have HB_7 := Hd (below_own HB_6.out HB_6.out.size HO_6.out hg); have hsz7 := HB_7.out.size; obtain ⟨y0, y1, y2, y3, y4, y5⟩ := HK.out w7 HB_7.out; skip; clear hown hg hat))
    have HEq : Hid ([] ++ [N] ++ a ++ b ++ f = L) := by show _ = _; rw [HTx.out]; simp [HF0.out (by first | trivial | rfl)]
    refine (HWd.out _).mono ?_
    rintro e wd ⟨rfl, hb1⟩
    have HBd := Hd (HB_7.out.trans (hb1.mono HB_7.out.size))
    have HOd := Hd (HO_7.out.below hb1)
    have hL1 : L.length ≤ 3003 := by rw [HTx.out]; simp; omega
    have HLd : Hid (RI wd v7 L) := by show RI _ _ _; rw [← HEq.out]; exact HOd.out.ri
    have hnl := numT_len L (fun z hz => by have := HRn.out z hz; omega)
    have HNm := Hd (rNumbersT_any v7 L wd HLd.out (by omega) HRn.out)
    have hadd := fun W => run_string_add_lists (P := Tryz.prog) W (kwL.getD k []) (numT L) (by omega) (by omega)
    rw [← HS.out] at hadd
    obtain ⟨NS, hNS⟩ : ∃ NS, NS = ByteArray.mk (numT L).toArray := ⟨_, rfl⟩
    obtain ⟨PS, hPS⟩ : ∃ PS, PS = ByteArray.mk (kwL.getD k [] ++ numT L).toArray := ⟨_, rfl⟩
    rw [← hNS, ← hPS] at hadd
    rw [← hNS] at HNm
    have HE : Hid (strV E = .string PS) := by show _ = _; rw [HR.out, hPS]; rfl
    clear hb1 hNS hPS hnl hL1 HEq
    go_wp2_with fail
    refine HNm.out.mono ?_
    rintro e wn ⟨rfl, hb1⟩
    have HBn := Hd (HBd.out.trans (hb1.mono HBd.out.size))
    clear hb1
    go_wp2
    go_ret
    exact ⟨by rw [HE.out]; rfl, HB0.out.trans (HBn.out.mono HB0.out.size)⟩
  · skip
    have HB_0 := Hd (Below.refl W0.heap.size W0)
    have HO_0 := Hd (OI.nil_ W0 W0.heap.size)
    refine (HU0.out _).mono ?_
    rintro e w1 ⟨rfl, hb1⟩
    have HB_1 := Hd (HB_0.out.trans (hb1.mono HB_0.out.size))
    have HO_1 := Hd (HO_0.out.below hb1)
    clear hb1 x0 x1 x2 x3 x4 x5
    obtain ⟨x0, x1, x2, x3, x4, x5⟩ := HK.out w1 HB_1.out
    obtain ⟨hov, hrv, hfin⟩ := OI.snoc HO_1.out Q HB_1.out
    have HOv_1 := Hd hov
    have HRv_1 := Hd hrv
    have HFin_1 := Hd hfin
    clear hov hrv hfin
    have hsz1 := HB_1.out.size
    go_wp2_with (at_builtin; first
      | (refine wpList_appendV _ rfl _ _ _ rfl 3 i0 _ 8 Tryz.underlying37 hi hz0 hz1 hz2 rfl W0.heap.size _ _ rfl HOv_1.out _ _ rfl HRv_1.out (one_ones rfl) (by first | omega | (simp; done) | (simp; omega)) (by first | omega | (simp; done) | (simp; omega)) (by first | omega | (simp; done) | (simp; omega)) ?_; intro v2 w2 hown hg hat; obtain ⟨hf1, hf2⟩ := HFin_1.out v2 w2 hown hg; have HO_2 : Hid (OI w2 W0.heap.size v2 ([] ++ [Q])) := hf1; have HB_2 := Hd hf2; clear hf1 hf2; have hsz2 := HB_2.out.size; obtain ⟨y0, y1, y2, y3, y4, y5⟩ := HK.out w2 HB_2.out; skip; clear hown hg hat))
    refine (HU1.out _).mono ?_
    rintro e w3 ⟨rfl, hb1⟩
    have HB_3 := Hd (HB_2.out.trans (hb1.mono HB_2.out.size))
    have HO_3 := Hd (HO_2.out.below hb1)
    clear hb1 x0 x1 x2 x3 x4 x5
    obtain ⟨x0, x1, x2, x3, x4, x5⟩ := HK.out w3 HB_3.out
    have HOv_3 : Hid (OV w3 W0.heap.size 3 v2 (([] ++ [Q]).map (.int .i64))) := HO_3.out
    have HRv_3 : Hid (RV w3 (.slice Aa a.length ca) (a.map (.int .i64))) := HA.out _ HB_3.out
    have hsz3 := HB_3.out.size
    go_wp2_with (at_builtin; first
      | (refine wpList_appendM rfl _ _ _ _ rfl 3 i0 _ 8 Tryz.underlying37 Tryz.underlying38 hi hz0 hz1 hz2 rfl W0.heap.size _ _ rfl HOv_3.out _ _ rfl HRv_3.out HXa.out (by first | omega | (simp; done) | (simp; omega)) (by first | omega | (simp; done) | (simp; omega)) (by first | omega | (simp; done) | (simp; omega)) ?_; intro v4 w4 hown hg hat; have HO_4 : Hid (OI w4 W0.heap.size v4 ([] ++ [Q] ++ a)) := (by show OV _ _ _ _ _; rw [List.map_append]; exact hown); have HB_4 := Hd (below_own HB_3.out HB_3.out.size HO_3.out hg); have hsz4 := HB_4.out.size; obtain ⟨y0, y1, y2, y3, y4, y5⟩ := HK.out w4 HB_4.out; have HOv_4 : Hid (OV w4 W0.heap.size 3 v4 (([] ++ [Q] ++ a).map (.int .i64))) := HO_4.out; have HRv_4 : Hid (RV w4 (.slice Ab b.length cb) (b.map (.int .i64))) := HD.out _ HB_4.out; clear hown hg hat)
      | (refine wpList_appendM rfl _ _ _ _ rfl 3 i0 _ 8 Tryz.underlying37 Tryz.underlying38 hi hz0 hz1 hz2 rfl W0.heap.size _ _ rfl HOv_4.out _ _ rfl HRv_4.out HXb.out (by first | omega | (simp; done) | (simp; omega)) (by first | omega | (simp; done) | (simp; omega)) (by first | omega | (simp; done) | (simp; omega)) ?_; intro v5 w5 hown hg hat; have HO_5 : Hid (OI w5 W0.heap.size v5 ([] ++ [Q] ++ a ++ b)) := (by show OV _ _ _ _ _; rw [List.map_append]; exact hown); have HB_5 := Hd (below_own HB_4.out HB_4.out.size HO_4.out hg); have hsz5 := HB_5.out.size; obtain ⟨y0, y1, y2, y3, y4, y5⟩ := HK.out w5 HB_5.out; skip; clear hown hg hat))
    refine (HU4.out _).mono ?_
    rintro e w6 ⟨rfl, hb1⟩
    have HB_6 := Hd (HB_5.out.trans (hb1.mono HB_5.out.size))
    have HO_6 := Hd (HO_5.out.below hb1)
    clear hb1 x0 x1 x2 x3 x4 x5
    obtain ⟨x0, x1, x2, x3, x4, x5⟩ := HK.out w6 HB_6.out
    have HOv_6 : Hid (OV w6 W0.heap.size 3 v5 (([] ++ [Q] ++ a ++ b).map (.int .i64))) := HO_6.out
    have HRv_6 : Hid (RV w6 (.slice Af f.length cf) (f.map (.int .i64))) := HF.out _ HB_6.out
    have hsz6 := HB_6.out.size
    go_wp2_with (at_builtin; first
      | (refine wpList_appendV _ rfl _ _ _ rfl 3 i0 _ 8 Tryz.underlying37 hi hz0 hz1 hz2 rfl W0.heap.size _ _ rfl HOv_6.out _ _ rfl HRv_6.out HXf.out (by first | omega | (simp; done) | (simp; omega)) (by first | omega | (simp; done) | (simp; omega)) (by first | omega | (simp; done) | (simp; omega)) ?_; intro v7 w7 hown hg hat; have HO_7 : Hid (OI w7 W0.heap.size v7 ([] ++ [Q] ++ a ++ b ++ f)) := (by show OV _ _ _ _ _; rw [List.map_append]; exact hown); have HB_7 := Hd (below_own HB_6.out HB_6.out.size HO_6.out hg); have hsz7 := HB_7.out.size; obtain ⟨y0, y1, y2, y3, y4, y5⟩ := HK.out w7 HB_7.out; skip; clear hown hg hat))
    have HEq : Hid ([] ++ [Q] ++ a ++ b ++ f = L) := by show _ = _; rw [HTx.out]; simp [HF0.out (by first | trivial | rfl)]
    refine (HWd.out _).mono ?_
    rintro e wd ⟨rfl, hb1⟩
    have HBd := Hd (HB_7.out.trans (hb1.mono HB_7.out.size))
    have HOd := Hd (HO_7.out.below hb1)
    have hL1 : L.length ≤ 3003 := by rw [HTx.out]; simp; omega
    have HLd : Hid (RI wd v7 L) := by show RI _ _ _; rw [← HEq.out]; exact HOd.out.ri
    have hnl := numT_len L (fun z hz => by have := HRn.out z hz; omega)
    have HNm := Hd (rNumbersT_any v7 L wd HLd.out (by omega) HRn.out)
    have hadd := fun W => run_string_add_lists (P := Tryz.prog) W (kwL.getD k []) (numT L) (by omega) (by omega)
    rw [← HS.out] at hadd
    obtain ⟨NS, hNS⟩ : ∃ NS, NS = ByteArray.mk (numT L).toArray := ⟨_, rfl⟩
    obtain ⟨PS, hPS⟩ : ∃ PS, PS = ByteArray.mk (kwL.getD k [] ++ numT L).toArray := ⟨_, rfl⟩
    rw [← hNS, ← hPS] at hadd
    rw [← hNS] at HNm
    have HE : Hid (strV E = .string PS) := by show _ = _; rw [HR.out, hPS]; rfl
    clear hb1 hNS hPS hnl hL1 HEq
    go_wp2_with fail
    refine HNm.out.mono ?_
    rintro e wn ⟨rfl, hb1⟩
    have HBn := Hd (HBd.out.trans (hb1.mono HBd.out.size))
    clear hb1
    go_wp2
    go_ret
    exact ⟨by rw [HE.out]; rfl, HB0.out.trans (HBn.out.mono HB0.out.size)⟩
  · skip
    have HB_0 := Hd (Below.refl W0.heap.size W0)
    have HO_0 := Hd (OI.nil_ W0 W0.heap.size)
    refine (HU0.out _).mono ?_
    rintro e w1 ⟨rfl, hb1⟩
    have HB_1 := Hd (HB_0.out.trans (hb1.mono HB_0.out.size))
    have HO_1 := Hd (HO_0.out.below hb1)
    clear hb1 x0 x1 x2 x3 x4 x5
    obtain ⟨x0, x1, x2, x3, x4, x5⟩ := HK.out w1 HB_1.out
    go_wp2_with fail
    refine (HU1.out _).mono ?_
    rintro e w2 ⟨rfl, hb1⟩
    have HB_2 := Hd (HB_1.out.trans (hb1.mono HB_1.out.size))
    have HO_2 := Hd (HO_1.out.below hb1)
    clear hb1 x0 x1 x2 x3 x4 x5
    obtain ⟨x0, x1, x2, x3, x4, x5⟩ := HK.out w2 HB_2.out
    have HOv_2 : Hid (OV w2 W0.heap.size 3 (.slice none 0 0) (([]).map (.int .i64))) := HO_2.out
    have HRv_2 : Hid (RV w2 (.slice Aa a.length ca) (a.map (.int .i64))) := HA.out _ HB_2.out
    have hsz2 := HB_2.out.size
    go_wp2_with (at_builtin; first
      | (refine wpList_appendM rfl _ _ _ _ rfl 3 i0 _ 8 Tryz.underlying37 Tryz.underlying38 hi hz0 hz1 hz2 rfl W0.heap.size _ _ rfl HOv_2.out _ _ rfl HRv_2.out HXa.out (by first | omega | (simp; done) | (simp; omega)) (by first | omega | (simp; done) | (simp; omega)) (by first | omega | (simp; done) | (simp; omega)) ?_; intro v3 w3 hown hg hat; have HO_3 : Hid (OI w3 W0.heap.size v3 ([] ++ a)) := (by show OV _ _ _ _ _; rw [List.map_append]; exact hown); have HB_3 := Hd (below_own HB_2.out HB_2.out.size HO_2.out hg); have hsz3 := HB_3.out.size; obtain ⟨y0, y1, y2, y3, y4, y5⟩ := HK.out w3 HB_3.out; have HOv_3 : Hid (OV w3 W0.heap.size 3 v3 (([] ++ a).map (.int .i64))) := HO_3.out; have HRv_3 : Hid (RV w3 (.slice Ab b.length cb) (b.map (.int .i64))) := HD.out _ HB_3.out; clear hown hg hat)
      | (refine wpList_appendM rfl _ _ _ _ rfl 3 i0 _ 8 Tryz.underlying37 Tryz.underlying38 hi hz0 hz1 hz2 rfl W0.heap.size _ _ rfl HOv_3.out _ _ rfl HRv_3.out HXb.out (by first | omega | (simp; done) | (simp; omega)) (by first | omega | (simp; done) | (simp; omega)) (by first | omega | (simp; done) | (simp; omega)) ?_; intro v4 w4 hown hg hat; have HO_4 : Hid (OI w4 W0.heap.size v4 ([] ++ a ++ b)) := (by show OV _ _ _ _ _; rw [List.map_append]; exact hown); have HB_4 := Hd (below_own HB_3.out HB_3.out.size HO_3.out hg); have hsz4 := HB_4.out.size; obtain ⟨y0, y1, y2, y3, y4, y5⟩ := HK.out w4 HB_4.out; skip; clear hown hg hat))
    refine (HU4.out _).mono ?_
    rintro e w5 ⟨rfl, hb1⟩
    have HB_5 := Hd (HB_4.out.trans (hb1.mono HB_4.out.size))
    have HO_5 := Hd (HO_4.out.below hb1)
    clear hb1 x0 x1 x2 x3 x4 x5
    obtain ⟨x0, x1, x2, x3, x4, x5⟩ := HK.out w5 HB_5.out
    obtain ⟨hov, hrv, hfin⟩ := OI.snoc HO_5.out (f.length : Int) HB_5.out
    have HOv_5 := Hd hov
    have HRv_5 := Hd hrv
    have HFin_5 := Hd hfin
    clear hov hrv hfin
    have hsz5 := HB_5.out.size
    go_wp2_with (at_builtin; first
      | (refine wpList_appendV _ rfl _ _ _ rfl 3 i0 _ 8 Tryz.underlying37 hi hz0 hz1 hz2 rfl W0.heap.size _ _ rfl HOv_5.out _ _ rfl HRv_5.out (one_ones rfl) (by first | omega | (simp; done) | (simp; omega)) (by first | omega | (simp; done) | (simp; omega)) (by first | omega | (simp; done) | (simp; omega)) ?_; intro v6 w6 hown hg hat; obtain ⟨hf1, hf2⟩ := HFin_5.out v6 w6 hown hg; have HO_6 : Hid (OI w6 W0.heap.size v6 ([] ++ a ++ b ++ [(f.length : Int)])) := hf1; have HB_6 := Hd hf2; clear hf1 hf2; have hsz6 := HB_6.out.size; obtain ⟨y0, y1, y2, y3, y4, y5⟩ := HK.out w6 HB_6.out; have HOv_6 : Hid (OV w6 W0.heap.size 3 v6 (([] ++ a ++ b ++ [(f.length : Int)]).map (.int .i64))) := HO_6.out; have HRv_6 : Hid (RV w6 (.slice Af f.length cf) (f.map (.int .i64))) := HF.out _ HB_6.out; clear hown hg hat)
      | (refine wpList_appendV _ rfl _ _ _ rfl 3 i0 _ 8 Tryz.underlying37 hi hz0 hz1 hz2 rfl W0.heap.size _ _ rfl HOv_6.out _ _ rfl HRv_6.out HXf.out (by first | omega | (simp; done) | (simp; omega)) (by first | omega | (simp; done) | (simp; omega)) (by first | omega | (simp; done) | (simp; omega)) ?_; intro v7 w7 hown hg hat; have HO_7 : Hid (OI w7 W0.heap.size v7 ([] ++ a ++ b ++ [(f.length : Int)] ++ f)) := (by show OV _ _ _ _ _; rw [List.map_append]; exact hown); have HB_7 := Hd (below_own HB_6.out HB_6.out.size HO_6.out hg); have hsz7 := HB_7.out.size; obtain ⟨y0, y1, y2, y3, y4, y5⟩ := HK.out w7 HB_7.out; skip; clear hown hg hat))
    have HEq : Hid ([] ++ a ++ b ++ [(f.length : Int)] ++ f = L) := by show _ = _; rw [HTx.out]; simp
    refine (HWd.out _).mono ?_
    rintro e wd ⟨rfl, hb1⟩
    have HBd := Hd (HB_7.out.trans (hb1.mono HB_7.out.size))
    have HOd := Hd (HO_7.out.below hb1)
    have hL1 : L.length ≤ 3003 := by rw [HTx.out]; simp; omega
    have HLd : Hid (RI wd v7 L) := by show RI _ _ _; rw [← HEq.out]; exact HOd.out.ri
    have hnl := numT_len L (fun z hz => by have := HRn.out z hz; omega)
    have HNm := Hd (rNumbersT_any v7 L wd HLd.out (by omega) HRn.out)
    have hadd := fun W => run_string_add_lists (P := Tryz.prog) W (kwL.getD k []) (numT L) (by omega) (by omega)
    rw [← HS.out] at hadd
    obtain ⟨NS, hNS⟩ : ∃ NS, NS = ByteArray.mk (numT L).toArray := ⟨_, rfl⟩
    obtain ⟨PS, hPS⟩ : ∃ PS, PS = ByteArray.mk (kwL.getD k [] ++ numT L).toArray := ⟨_, rfl⟩
    rw [← hNS, ← hPS] at hadd
    rw [← hNS] at HNm
    have HE : Hid (strV E = .string PS) := by show _ = _; rw [HR.out, hPS]; rfl
    clear hb1 hNS hPS hnl hL1 HEq
    go_wp2_with fail
    refine HNm.out.mono ?_
    rintro e wn ⟨rfl, hb1⟩
    have HBn := Hd (HBd.out.trans (hb1.mono HBd.out.size))
    clear hb1
    go_wp2
    go_ret
    exact ⟨by rw [HE.out]; rfl, HB0.out.trans (HBn.out.mono HB0.out.size)⟩
theorem rForm_bad (g va vb vf : Value) (n : Int) (kk Q N : Int) (es : List Tri) (w : World) (hk : kk < 0 ∨ 8 < kk) (hg : GV w g n es) :
    Calls Tryz.prog 37 #[g, .agg #[.int .i64 kk, .int .i64 Q, .int .i64 N, va, vb, vf]] w fun e w' => e = .returned (.int .i64 1) ∧ Below w.heap.size w w' := by
  obtain ⟨Ag, cg, rfl, -⟩ := hg.open_
  obtain ⟨W0, hW0⟩ : ∃ W0, W0 = (w.alloc (.cells #[.int .i64 n, .slice Ag es.length cg] 25)).alloc (.cells #[.int .i64 kk, .int .i64 Q, .int .i64 N, va, vb, vf] 47) := ⟨_, rfl⟩
  have hb0 : Below w.heap.size w W0 := by rw [hW0]; exact (below_alloc w _).alloc (by simp) _
  have hxg : BL W0 w.heap.size 25 [.int .i64 n, .slice Ag es.length cg] := by rw [hW0]; exact (BL.new' w _ _).alloc _
  have hxc : BL W0 (w.heap.size + 1) 47 [.int .i64 kk, .int .i64 Q, .int .i64 N, va, vb, vf] := by
    rw [hW0]
    have := BL.new' (w.alloc (.cells #[.int .i64 n, .slice Ag es.length cg] 25)) #[.int .i64 kk, .int .i64 Q, .int .i64 N, va, vb, vf] 47
    rwa [World.size_alloc] at this
  have HXg := Hd hxg
  have HXc := Hd hxc
  have HG0 := Hd (hg.below hb0)
  have HB0 := Hd hb0
  have HW0 := Hd hW0
  clear hg hxg hxc hW0 hb0
  have c0 := HXc.out.cell 0
  rw [HW0.out] at c0
  have hkk : kk < 0 ∨ ¬ kk < 0 ∧ (8 : Int) < kk := by omega
  clear hk HXc HXg HG0
  rcases hkk with h1 | ⟨h1, h2⟩
  · go_enter Tryz.func37, Tryz.ntmps37
    go_wp2
    go_ret
    exact ⟨rfl, by rw [← HW0.out]; exact HB0.out⟩
  · go_enter Tryz.func37, Tryz.ntmps37
    go_wp2
    go_ret
    exact ⟨rfl, by rw [← HW0.out]; exact HB0.out⟩
theorem rFormA_any (g va vb vf : Value) (m : Nat) (kk Q N : Int) (es : List Tri) (a b f : List Int) (w : World) (hg : GV w g m es) (ha : RI w va a) (hb : RI w vb b) (hf : RI w vf f) (hm : m ≤ 12) :
    Calls Tryz.prog 37 #[g, .agg #[.int .i64 kk, .int .i64 Q, .int .i64 N, va, vb, vf]] w fun e w' => e = .returned (.int .i64 (formA m kk Q N a b f)) ∧ Below w.heap.size w w' := by
  by_cases h : kk < 0 ∨ 8 < kk
  · rw [show formA m kk Q N a b f = 1 by unfold formA; rw [if_pos h]]
    exact rForm_bad g va vb vf m kk Q N es w h hg
  · obtain ⟨k, rfl⟩ : ∃ k : Nat, kk = k := ⟨kk.toNat, by omega⟩
    rw [show formA m k Q N a b f = formG m k Q N a b f by unfold formA; rw [if_neg h, Int.toNat_natCast]]
    exact rFormG_any g va vb vf m k Q N es a b f w (by omega) hg ha hb hf hm
theorem rCheck57_any (g va vb vf : Value) (n : Int) (kk Q N : Int) (es : List Tri) (a b f : List Int) (w : World) (hg : GV w g n es) (ha : RI w va a) (hb : RI w vb b) (hf : RI w vf f) :
    Calls Tryz.prog 17 #[g, .agg #[.int .i64 kk, .int .i64 Q, .int .i64 N, va, vb, vf]] w fun e w' => e = .returned (.int .i64 (chkC n es kk Q N a b f)) ∧ Below w.heap.size w w' := by
  have HA := Hd ha
  have HD := Hd hb
  have HF := Hd hf
  have HR : Hid (chkC n es kk Q N a b f = if eGiven n es [] ≠ 0 then eGiven n es [] else formA n.toNat kk Q N a b f) := rfl
  have HOk : Hid (eGiven n es [] = 0 → ∃ m : Nat, n = m ∧ 1 ≤ m ∧ m ≤ 12) := fun h => by obtain ⟨m, h1, h2, h3, -⟩ := eGivenP_ok h; exact ⟨m, h1, h2, h3⟩
  generalize chkC n es kk Q N a b f = E at *
  clear ha hb hf
  obtain ⟨Ag, cg, rfl, -⟩ := hg.open_
  obtain ⟨W0, hW0⟩ : ∃ W0, W0 = (w.alloc (.cells #[.int .i64 n, .slice Ag es.length cg] 25)).alloc (.cells #[.int .i64 kk, .int .i64 Q, .int .i64 N, va, vb, vf] 47) := ⟨_, rfl⟩
  have hb0 : Below w.heap.size w W0 := by rw [hW0]; exact (below_alloc w _).alloc (by simp) _
  have hxg : BL W0 w.heap.size 25 [.int .i64 n, .slice Ag es.length cg] := by rw [hW0]; exact (BL.new' w _ _).alloc _
  have hxc : BL W0 (w.heap.size + 1) 47 [.int .i64 kk, .int .i64 Q, .int .i64 N, va, vb, vf] := by
    rw [hW0]
    have := BL.new' (w.alloc (.cells #[.int .i64 n, .slice Ag es.length cg] 25)) #[.int .i64 kk, .int .i64 Q, .int .i64 N, va, vb, vf] 47
    rwa [World.size_alloc] at this
  have HXg := Hd hxg
  have HXc := Hd hxc
  have HG0 := Hd (hg.below hb0)
  have HB0 := Hd hb0
  have HW0 := Hd hW0
  clear hg hxg hxc hW0 hb0
  have HC := Hd (rJoined_any _ n es W0 HG0.out)
  generalize eGiven n es [] = eg at *
  have g0 := HXg.out.cell 0
  have g1 := HXg.out.cell 1
  rw [HW0.out] at g0 g1
  go_enter Tryz.func17, Tryz.ntmps17
  go_wp2_with fail
  rw [← HW0.out]
  refine HC.out.mono ?_
  rintro e w2 ⟨rfl, hb2⟩
  clear g0 g1
  by_cases h0 : eg = 0
  · obtain ⟨m, rfl, hm1, hm⟩ := HOk.out h0
    have hR : Hid (E = formA m kk Q N a b f) := by show _ = _; rw [HR.out, if_neg (by simpa using h0), Int.toNat_natCast]
    subst h0
    have HFo := Hd (rFormA_any _ va vb vf m kk Q N es a b f w2 (HG0.out.below hb2) (RI.below HA.out (HB0.out.trans (hb2.mono HB0.out.size))) (RI.below HD.out (HB0.out.trans (hb2.mono HB0.out.size))) (RI.below HF.out (HB0.out.trans (hb2.mono HB0.out.size))) hm)
    have g0 := (HXg.out.bel hb2).cell 0
    have g1 := (HXg.out.bel hb2).cell 1
    have c0 := (HXc.out.bel hb2).cell 0
    have c1 := (HXc.out.bel hb2).cell 1
    have c2 := (HXc.out.bel hb2).cell 2
    have c3 := (HXc.out.bel hb2).cell 3
    have c4 := (HXc.out.bel hb2).cell 4
    have c5 := (HXc.out.bel hb2).cell 5
    have HB2 := Hd (HB0.out.trans (hb2.mono HB0.out.size))
    clear hb2
    clear HR HOk HC
    generalize formA m kk Q N a b f = E' at *
    go_wp2_with fail
    refine HFo.out.mono ?_
    rintro e w3 ⟨rfl, hb3⟩
    have HB3 := Hd (HB2.out.trans (hb3.mono HB2.out.size))
    clear hb3
    go_wp2
    go_ret
    exact ⟨ret_i hR.out.symm, HB3.out⟩
  · have hR : Hid (E = eg) := by show _ = _; rw [HR.out, if_pos h0]
    have t1 : (eg != 0) = true := by simpa using h0
    have HB2 := Hd (HB0.out.trans (hb2.mono HB0.out.size))
    clear hb2
    clear HR HOk HC h0
    go_wp2
    go_ret
    exact ⟨ret_i hR.out.symm, HB2.out⟩
theorem rClaimed_any (g va vb vf : Value) (n : Int) (kk Q N : Int) (es : List Tri) (a b f : List Int) (w : World) (hg : GV w g n es) (ha : RI w va a) (hb : RI w vb b) (hf : RI w vf f) :
    Calls Tryz.prog 15 #[g, .agg #[.int .i64 kk, .int .i64 Q, .int .i64 N, va, vb, vf]] w fun e w' => e = .returned (.tuple #[strV (if chkC n es kk Q N a b f = 0 then txtS kk.toNat Q N a b f else []), .int .i64 (chkC n es kk Q N a b f)]) ∧ Below w.heap.size w w' := by
  have HA := Hd ha
  have HD := Hd hb
  have HF := Hd hf
  have HOk : Hid (chkC n es kk Q N a b f = 0 → ∃ k : Nat, kk = k ∧ k < 9 ∧ (∀ z ∈ txtL k Q N a b f, -1048576 ≤ z ∧ z ≤ 1048576) ∧ a.length ≤ 12 ∧ b.length ≤ 12 ∧ f.length ≤ 12 ∧ (kf k = false → f = [])) := fun h => by
    unfold chkC at h
    by_cases h1 : eGiven n es [] ≠ 0
    · rw [if_pos h1] at h; exact absurd h h1
    · rw [if_neg h1] at h
      obtain ⟨m, rfl, -, hm, -⟩ := eGivenP_ok (Decidable.not_not.1 h1)
      unfold formA at h
      by_cases h2 : kk < 0 ∨ 8 < kk
      · rw [if_pos h2] at h; cases h
      · rw [if_neg h2, Int.toNat_natCast] at h
        exact ⟨kk.toNat, by omega, by omega, ((formG_ok h).txt hm).1, ((formG_ok h).txt hm).2.1, ((formG_ok h).txt hm).2.2.1, ((formG_ok h).txt hm).2.2.2, (formG_ok h).f0⟩
  clear ha hb hf
  obtain ⟨Ag, cg, rfl, -⟩ := hg.open_
  obtain ⟨W0, hW0⟩ : ∃ W0, W0 = (w.alloc (.cells #[.int .i64 n, .slice Ag es.length cg] 25)).alloc (.cells #[.int .i64 kk, .int .i64 Q, .int .i64 N, va, vb, vf] 47) := ⟨_, rfl⟩
  have hb0 : Below w.heap.size w W0 := by rw [hW0]; exact (below_alloc w _).alloc (by simp) _
  have hxg : BL W0 w.heap.size 25 [.int .i64 n, .slice Ag es.length cg] := by rw [hW0]; exact (BL.new' w _ _).alloc _
  have hxc : BL W0 (w.heap.size + 1) 47 [.int .i64 kk, .int .i64 Q, .int .i64 N, va, vb, vf] := by
    rw [hW0]
    have := BL.new' (w.alloc (.cells #[.int .i64 n, .slice Ag es.length cg] 25)) #[.int .i64 kk, .int .i64 Q, .int .i64 N, va, vb, vf] 47
    rwa [World.size_alloc] at this
  have HXg := Hd hxg
  have HXc := Hd hxc
  have HG0 := Hd (hg.below hb0)
  have HB0 := Hd hb0
  have HW0 := Hd hW0
  clear hg hxg hxc hW0 hb0
  have HC := Hd (rCheck57_any _ va vb vf n kk Q N es a b f W0 HG0.out (RI.below HA.out HB0.out) (RI.below HD.out HB0.out) (RI.below HF.out HB0.out))
  generalize chkC n es kk Q N a b f = eg at *
  have g0 := HXg.out.cell 0
  have g1 := HXg.out.cell 1
  have c0 := HXc.out.cell 0
  have c1 := HXc.out.cell 1
  have c2 := HXc.out.cell 2
  have c3 := HXc.out.cell 3
  have c4 := HXc.out.cell 4
  have c5 := HXc.out.cell 5
  rw [HW0.out] at g0 g1 c0 c1 c2 c3 c4 c5
  obtain ⟨tv, htv⟩ : ∃ v, v = strV (if eg = 0 then txtS kk.toNat Q N a b f else []) := ⟨_, rfl⟩
  rw [← htv]
  have HTv := Hd htv
  clear htv
  go_enter Tryz.func15, Tryz.ntmps15
  go_wp2_with fail
  rw [← HW0.out]
  refine HC.out.mono ?_
  rintro e w2 ⟨rfl, hb2⟩
  clear g0 g1 c0 c1 c2 c3 c4 c5 HC
  by_cases h0 : eg = 0
  · obtain ⟨k, rfl, hk, hr, hal, hbl, hfl, hf0⟩ := HOk.out h0
    subst h0
    have HTx := Hd (rWritten_any va vb vf k Q N a b f w2 hk (RI.below HA.out (HB0.out.trans (hb2.mono HB0.out.size))) (RI.below HD.out (HB0.out.trans (hb2.mono HB0.out.size))) (RI.below HF.out (HB0.out.trans (hb2.mono HB0.out.size))) (by omega) (by omega) (by omega) hr hf0)
    have HTv2 : Hid (tv = strV (txtS k Q N a b f)) := by show _ = _; rw [HTv.out, if_pos rfl, Int.toNat_natCast]
    have c0 := (HXc.out.bel hb2).cell 0
    have c1 := (HXc.out.bel hb2).cell 1
    have c2 := (HXc.out.bel hb2).cell 2
    have c3 := (HXc.out.bel hb2).cell 3
    have c4 := (HXc.out.bel hb2).cell 4
    have c5 := (HXc.out.bel hb2).cell 5
    have HB2 := Hd (HB0.out.trans (hb2.mono HB0.out.size))
    clear hb2
    clear HOk hr HTv hf0
    generalize strV (txtS k Q N a b f) = sv at *
    go_wp2_with fail
    refine HTx.out.mono ?_
    rintro e w3 ⟨rfl, hb3⟩
    have HB3 := Hd (HB2.out.trans (hb3.mono HB2.out.size))
    clear hb3
    go_wp2
    go_ret2
    exact ⟨by rw [HTv2.out]; rfl, HB3.out⟩
  · have HTv2 : Hid (tv = .string ⟨#[]⟩) := by show _ = _; rw [HTv.out, if_neg h0]; rfl
    have t1 : (eg != 0) = true := by simpa using h0
    have HB2 := Hd (HB0.out.trans (hb2.mono HB0.out.size))
    clear hb2
    clear HOk h0 HTv
    go_wp2
    go_ret2
    exact ⟨by rw [HTv2.out]; rfl, HB2.out⟩
end Go.Proofs.YteamhbohgoclgaaGreatDoor

