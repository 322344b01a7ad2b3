/- The rule of Cramer, as the reference uses it: what its tables' determinants tell. No program in sight.
   Contracts of the references' Total and Solve.
   Contract of the reference's Equivalent of layer 35, and that it answers as the function does.
   The law EquivalenceDecides: what the function answers. -/
import Derived.Test.YtefggpdobjboeaaGreatG31
import Derived.Test.YtefggpdobjboeaaGreatG28
namespace Go.Proofs.YtefggpdobjboeaaGreat

theorem map_getD {α : Type} (f : Nat → α) (m : Nat) (z : α) {i : Nat} (hi : i < m) : ((List.range m).map f).getD i z = f i := by
  simp [List.getD_eq_getElem?_getD, hi]
theorem tab_tbl {m : Nat} {es : List Tri} {q : Nat} (hq : q < m + 1) (col : Int) (d : List Int) {i j : Nat} (hi : i < m) (hj : j < m) :
    tab (tblL (m + 1) es q col d (m + 1)) i j = if (skip q j : Int) = col then d.getD (skip q i) 0 else redT (m + 1) (wgt es) q i j := by
  unfold tab tblL tblR
  rw [offQ_skip hq, List.map_map, map_getD _ m _ hi]
  show ((List.map _ (List.map (skip q) (List.range m))).getD j 0) = _
  rw [List.map_map, map_getD _ m _ hj]
  show (if (skip q j : Int) = col then d.getD (skip q i) 0 else entE (m + 1) es (skip q i) (skip q j)) = _
  rw [entE_lap]; rfl
theorem tbl_len {m : Nat} (es : List Tri) {q : Nat} (hq : q < m + 1) (col : Int) (d : List Int) : (tblL (m + 1) es q col d (m + 1)).length = m ∧ ∀ x ∈ tblL (m + 1) es q col d (m + 1), x.length = m := by
  refine ⟨?_, fun x hx => ?_⟩
  · unfold tblL; rw [offQ_skip hq]; simp
  · unfold tblL at hx
    obtain ⟨i, -, rfl⟩ := List.mem_map.1 hx
    unfold tblR; rw [offQ_skip hq]; simp
theorem tbl_bd {n : Nat} {es : List Tri} (hE : Edges n es) (hn : n ≤ 12) (q : Nat) (col : Int) {d : List Int} (hd : Bd 1000 d) : ∀ x ∈ tblL n es q col d n, ∀ z ∈ x, z.natAbs ≤ 1000 := by
  intro x hx z hz
  unfold tblL at hx
  obtain ⟨i, -, rfl⟩ := List.mem_map.1 hx
  unfold tblR at hz
  obtain ⟨j, -, rfl⟩ := List.mem_map.1 hz
  split
  · have := hd i; omega
  · have := entE_le hE hn i j; omega
/-- The determinant of the table, and with a column replaced. -/
def dt0 (m : Nat) (es : List Tri) (q : Nat) : Int := detN m (redT (m + 1) (wgt es) q)
def dtX (m : Nat) (es : List Tri) (q : Nat) (d : List Int) (v : Nat) : Int := detN m (tab (tblL (m + 1) es q (v : Int) d (m + 1)))
theorem dt0_eq {m : Nat} {es : List Tri} {q : Nat} (hq : q < m + 1) (d : List Int) : detN m (tab (tblL (m + 1) es q (-1) d (m + 1))) = dt0 m es q :=
  detN_congr fun i j hi hj => by rw [tab_tbl hq _ _ hi hj, if_neg (by omega)]
theorem dtX_eq {m : Nat} {es : List Tri} {q : Nat} (hq : q < m + 1) (d : List Int) {j : Nat} (_hj : j < m) : dtX m es q d (skip q j) = detN m (setCol (redT (m + 1) (wgt es) q) j fun i => d.getD (skip q i) 0) :=
  detN_congr fun i k hi hk => by
    rw [tab_tbl hq _ _ hi hk]
    unfold setCol
    by_cases e : k = j
    · rw [if_pos (by rw [e]), if_pos e]
    · rw [if_neg (fun h => e (skip_inj (by exact_mod_cast h))), if_neg e]
/-- What Solve answers. -/
def SolP (n : Nat) (es : List Tri) (q : Nat) (d out : List Int) (ok : Bool) : Prop :=
  (ok = true ∧ out.length = n ∧ out.getD q 0 = 0 ∧ ∀ v, v < n → lap n (wgt es) (fun u => out.getD u 0) v = d.getD v 0) ∨
    (ok = false ∧ out = [] ∧ ∀ t : Nat → Int, ¬ ∀ v, v < n → lap n (wgt es) t v = d.getD v 0)
theorem sumd_len (d : List Int) {n : Nat} (h : d.length = n) : (sumN n fun v => d.getD v 0) = d.sum := by subst h; exact sumN_list d
theorem sol_no_sum {m : Nat} {es : List Tri} {q : Nat} {d : List Int} (hdl : d.length = m + 1) (h : d.sum ≠ 0) : SolP (m + 1) es q d [] false := by
  refine .inr ⟨rfl, rfl, fun t ht => h ?_⟩
  rw [← sumd_len d hdl, ← sumN_congr ht]
  exact lap_sum (wgt_sym es) t
theorem sol_shift {m : Nat} {es : List Tri} {q : Nat} {d : List Int} {t : Nat → Int} (ht : ∀ v, v < m + 1 → lap (m + 1) (wgt es) t v = d.getD v 0) : ∃ t' : Nat → Int, t' q = 0 ∧ ∀ v, v < m + 1 → lap (m + 1) (wgt es) t' v = d.getD v 0 :=
  ⟨fun v => t v - t q, by simp, fun v hv => by
    rw [← ht v hv]
    unfold lap
    exact sumN_congr fun u _ => by
      show wgt es v u * ((t v - t q) - (t u - t q)) = wgt es v u * (t v - t u)
      congr 1; omega⟩
theorem sol_no {m : Nat} {es : List Tri} {q : Nat} (hq : q < m + 1) {d : List Int} {v : Nat} (hv : v < m + 1) (hvq : v ≠ q) (h : (dtX m es q d v).tmod (dt0 m es q) ≠ 0) : SolP (m + 1) es q d [] false := by
  refine .inr ⟨rfl, rfl, fun t ht => h ?_⟩
  obtain ⟨t', h0, ht'⟩ := sol_shift (q := q) ht
  have hs := skip_place (k := q) (c := v) (fun e => hvq e.symm)
  have hj : place q v < m := by unfold place; split <;> omega
  have e := solve_of hq h0 (d := fun v => d.getD v 0) ht' hj
  rw [← dtX_eq hq d hj, hs] at e
  rw [e]
  exact Int.mul_tmod_left _ _
theorem sol_yes {m : Nat} {es : List Tri} {q : Nat} (hp : ∀ v u, 0 ≤ wgt es v u) (hc : Conn (m + 1) (wgt es)) (hq : q < m + 1) {d s : List Int} (hdl : d.length = m + 1) (hsum : d.sum = 0) (hsl : s.length = m + 1) (h0 : s.getD q 0 = 0)
    (hs : ∀ v, v < m + 1 → v ≠ q → s.getD v 0 = (dtX m es q d v).tdiv (dt0 m es q)) (hm : ∀ v, v < m + 1 → v ≠ q → (dtX m es q d v).tmod (dt0 m es q) = 0) : SolP (m + 1) es q d s true := by
  refine .inl ⟨rfl, hsl, h0, ?_⟩
  refine of_solve hp (wgt_sym es) hc hq (s := fun u => s.getD u 0) (d := fun v => d.getD v 0) (by rw [sumd_len d hdl]; exact hsum) h0 fun j hj => ?_
  rw [← dtX_eq hq d hj, hs _ (skip_lt hj) (skip_ne q j)]
  have := Int.tdiv_mul_add_tmod (dtX m es q d (skip q j)) (dt0 m es q)
  rw [hm _ (skip_lt hj) (skip_ne q j)] at this
  show _ = _ * dt0 m es q
  omega
theorem dt0_ne {m : Nat} {es : List Tri} {q : Nat} (hp : ∀ v u, 0 ≤ wgt es v u) (hc : Conn (m + 1) (wgt es)) (hq : q < m + 1) : dt0 m es q ≠ 0 := red_ne hp (wgt_sym es) hc hq
theorem dtX_bd {m : Nat} {es : List Tri} (hE : Edges (m + 1) es) (hm : m ≤ 5) (q : Nat) {d : List Int} (hd : Bd 1000 d) (v : Nat) : (dtX m es q d v).natAbs ≤ 120000000000000000 := by
  refine Nat.le_trans (detN_bd (B := 1000) fun i j _ _ => tab_le (tbl_bd hE (by omega) q v hd) i j) ?_
  match m, hm with
  | 0, _ => decide
  | 1, _ => decide
  | 2, _ => decide
  | 3, _ => decide
  | 4, _ => decide
  | 5, _ => decide
end Go.Proofs.YtefggpdobjboeaaGreat

namespace Go.Proofs.YtefggpdobjboeaaGreat
open Go.RowKit Go.Shelf

theorem sum_take_bd {zs : List Int} {B : Int} (hB : 0 ≤ B) (hb : Bd B zs) (k : Nat) : -(B * k) ≤ (zs.take k).sum ∧ (zs.take k).sum ≤ B * k := by
  induction k with
  | zero => simp
  | succ k ih =>
    rw [List.take_add_one, List.sum_append]
    have h := hb k
    rw [List.getD_eq_getElem?_getD] at h
    have : B * ((k + 1 : Nat) : Int) = B * k + B := by push_cast; rw [Int.mul_add, Int.mul_one]
    rw [this]
    cases e : zs[k]? with
    | none => simp; omega
    | some z => rw [e] at h; simp only [Option.getD_some] at h; simp; omega
set_option maxRecDepth 100000 in
set_option maxHeartbeats 2000000 in
theorem rTot_any (v : Value) (zs : List Int) (w : World) (hv : RI w v zs) (h100 : zs.length ≤ 100) (hb : Bd 1000000 zs) :
    Calls Tryz.prog 83 #[v] w fun e w' => e = .returned (.int .i64 zs.sum) ∧ w = w' := by
  obtain ⟨A, c, rfl, hlc, hc, hcell⟩ := hv.open_
  have HC := Lib.hid hcell
  have HBd := Lib.hid hb
  clear hcell hv hb
  go_enter Tryz.func83, Tryz.ntmps83
  go_wp2
  go_loop [3, 4] (fun s i => ∃ k : Nat, k ≤ zs.length ∧ s = .int .i64 (zs.take k).sum ∧ i = .int .i64 (k : Int)) (fun _ i => zs.length - (intOf i).toNat)
  case atStart => exact ⟨0, Nat.zero_le _, rfl, rfl⟩
  case round =>
    obtain ⟨k, hk, rfl, rfl⟩ := hrel
    by_cases hlt : k < zs.length
    · obtain ⟨ad, z, rfl, _, hz, hcl⟩ := HC.out k hlt
      have h1 := sum_take_bd (by decide) HBd.out k
      have h2 := HBd.out k
      rw [List.getD_eq_getElem?_getD, hz.out] at h2
      simp only [Option.getD_some] at h2
      have HS : Hid ((zs.take (k + 1)).sum = (zs.take k).sum + z) := by show _ = _; rw [List.take_add_one, hz.out, List.sum_append]; simp
      clear HC hz
      generalize (zs.take k).sum = x at *
      go_wp2
      go_round
      case rel => exact ⟨k + 1, by omega, by rw [HS.out], by go_num⟩
      case measure => simp [intOf]; omega
    · have HS : Hid ((zs.take k).sum = zs.sum) := by show _ = _; rw [List.take_of_length_le (by omega)]
      go_wp2
      go_ret
      exact ⟨ret_i HS.out, rfl⟩
/-- A part of the script that Solve makes. -/
def solK (m : Nat) (es : List Tri) (q : Nat) (d : List Int) (k : Nat) : List Int := (List.range k).map fun v => if v = q then 0 else (dtX m es q d v).tdiv (dt0 m es q)
theorem solK_succ (m : Nat) (es : List Tri) (q : Nat) (d : List Int) (k : Nat) : solK m es q d (k + 1) = solK m es q d k ++ [if k = q then 0 else (dtX m es q d k).tdiv (dt0 m es q)] := by
  unfold solK; rw [List.range_succ, List.map_append]; rfl
theorem solK_len (m : Nat) (es : List Tri) (q : Nat) (d : List Int) (k : Nat) : (solK m es q d k).length = k := by simp [solK]
theorem solK_get (m : Nat) (es : List Tri) (q : Nat) (d : List Int) (k : Nat) {v : Nat} (hv : v < k) : (solK m es q d k).getD v 0 = if v = q then 0 else (dtX m es q d v).tdiv (dt0 m es q) := map_getD _ k 0 hv
theorem bd_nil (B : Int) (h : 0 ≤ B) : Bd B [] := fun j => by simp; omega
theorem solK_bd {m q : Nat} {es : List Tri} {d : List Int} (h : ∀ v, (dtX m es q d v).natAbs ≤ 120000000000000000) (k : Nat) : Bd 1000000000000000000 (solK m es q d k) := fun v => by
  by_cases hv : v < k
  · rw [solK_get m es q d k hv]
    split
    · omega
    · have := h v; have := Int.natAbs_tdiv_le_natAbs (dtX m es q d v) (dt0 m es q); omega
  · rw [List.getD_eq_getElem?_getD, List.getElem?_eq_none (by rw [solK_len]; omega)]
    simp
set_option maxRecDepth 100000 in
set_option maxHeartbeats 8000000 in
theorem rSolve_any (g vd : Value) (m q : Nat) (es : List Tri) (d : List Int) (w : World) (hg : GV w g ((m + 1 : Nat) : Int) es) (hd : RI w vd d) (hE : Edges (m + 1) es) (hm : m ≤ 5) (hc : Conn (m + 1) (wgt es)) (hp : ∀ v u, 0 ≤ wgt es v u) (hq : q < m + 1) (hdl : d.length = m + 1) (hb : Bd 1000 d) :
    Calls Tryz.prog 44 #[g, .int .i64 (q : Int), vd] w fun e w' => ∃ v out ok, e = .returned (.tuple #[v, .bool ok]) ∧ OI w' w.heap.size v out ∧ Below w.heap.size w w' ∧ SolP (m + 1) es q d out ok ∧ Bd 1000000000000000000 out := by
  obtain ⟨n, hn⟩ : ∃ n, n = m + 1 := ⟨_, rfl⟩
  rw [← hn] at hg hdl
  obtain ⟨A2, c2, rfl, -⟩ := hd.open_
  obtain ⟨i0, hi, hz0, hz1, hz2⟩ := info_parts int_info
  obtain ⟨A, c, rfl, -⟩ := hg.open_
  obtain ⟨W0, hW0⟩ : ∃ W0, W0 = w.alloc (.cells #[.int .i64 (n:Int), .slice A es.length c] 24) := ⟨_, rfl⟩
  have hb0 : Below w.heap.size w W0 := by rw [hW0]; exact below_alloc w _
  have hx0 : BL W0 w.heap.size 24 [.int .i64 (n:Int), .slice A es.length c] := by rw [hW0]; exact BL.new' w _ _
  have c0 := hx0.cell 0
  have c1 := hx0.cell 1
  have HX0 := Lib.hid hx0
  have HG0 := Lib.hid (hg.below hb0)
  have HB0 := Lib.hid hb0
  have HW0 := Lib.hid hW0
  rw [hW0] at c0 c1
  clear hg hx0 hW0
  have hz0' : W0.heap.size = w.heap.size + 1 := by rw [HW0.out]; simp
  have HV0 := Lib.hid (RI.below hd hb0)
  have HTo := Lib.hid (rTot_any _ d W0 HV0.out (by omega) (hb.mono (by decide)))
  have HZ0 := Lib.hid hz0'
  have HNe := Lib.hid (dt0_ne hp hc hq)
  have HTb : Hid (∀ (col : Int) (W : World), Below W0.heap.size W0 W → Calls Tryz.prog 85 #[.agg #[.int .i64 (n : Int), .slice A es.length c], .int .i64 (q : Int), .int .i64 col, .slice A2 d.length c2] W fun e w' => ∃ v, e = .returned v ∧ OL W.heap.size w' v (tblL (m + 1) es q col d (m + 1)) ∧ Below W.heap.size W w') := fun col W h => by
    have := rTbl_any (.agg #[.int .i64 (n : Int), .slice A es.length c]) (.slice A2 d.length c2) n q col es d W (HG0.out.below h) (RI.below HV0.out h) (by rw [hn]; exact hE) (by omega) hdl
    rw [hn] at this
    rw [hn]
    exact this
  have HDt : Hid (∀ (col : Int) (v : Value) (W : World), RR W v (tblL (m + 1) es q col d (m + 1)) → Calls Tryz.prog 84 #[v] W fun e w' => e = .returned (.int .i64 (detN m (tab (tblL (m + 1) es q col d (m + 1))))) ∧ Below W.heap.size W w') := fun col v W h =>
    rDet_any m hm _ v W h (tbl_len es hq col d).1 (tbl_len es hq col d).2 (tbl_bd hE (by omega) q col hb)
  have HXb : Hid (∀ v, (dtX m es q d v).natAbs ≤ 120000000000000000) := dtX_bd hE hm q hb
  have HYes : Hid (d.sum = 0 → ∀ s : List Int, s.length = m + 1 → s.getD q 0 = 0 → (∀ v, v < m + 1 → v ≠ q → s.getD v 0 = (dtX m es q d v).tdiv (dt0 m es q)) → (∀ v, v < m + 1 → v ≠ q → (dtX m es q d v).tmod (dt0 m es q) = 0) → SolP (m + 1) es q d s true) :=
    fun hs s h1 h2 h3 h4 => sol_yes hp hc hq (by rw [hdl, hn]) hs h1 h2 h3 h4
  have HNo : Hid (∀ v, v < m + 1 → v ≠ q → (dtX m es q d v).tmod (dt0 m es q) ≠ 0 → SolP (m + 1) es q d [] false) := fun v h1 h2 h3 => sol_no hq h1 h2 h3
  have HQ := Lib.hid hq
  have HN := Lib.hid hn
  have HN0 : Hid (d.sum ≠ 0 → SolP (m + 1) es q d [] false) := fun h => sol_no_sum (by rw [hdl, hn]) h
  have HEq := Lib.hid (dt0_eq (es := es) hq d)
  clear hd hE hc hp hq hdl hb hb0 hz0' hn
  by_cases hsum : d.sum = 0
  · rw [hsum] at HTo
    have HSum := Lib.hid hsum
    clear hsum
    go_enter Tryz.func44, Tryz.ntmps44
    go_wp2_with fail
    rw [← HW0.out]
    refine HTo.out.mono ?_
    rintro e w1 ⟨rfl, rfl⟩
    have HT1 := Lib.hid (HTb.out (-1) W0 (Below.refl _ _))
    have e0 := HX0.out.cell 0
    have e1 := HX0.out.cell 1
    go_wp2_with fail
    refine HT1.out.mono ?_
    rintro e w2 ⟨vt, rfl, hol, hb2⟩
    have HD2 := Lib.hid (HDt.out (-1) vt w2 hol.rr)
    rw [HEq.out] at HD2
    have HB2 := Lib.hid hb2
    clear hol hb2 c0 c1 e0 e1
    go_wp2_with fail
    refine HD2.out.mono ?_
    rintro e w3 ⟨rfl, hb3⟩
    have HB3 := Lib.hid (HB2.out.trans (hb3.mono HB2.out.size))
    clear hb3
    go_wp2_with fail
    go_loopw [9, 10] (fun o i wr => ∃ (k : Nat) (vo : Value), vo = o ∧ k ≤ n ∧ i = .int .i64 (k : Int) ∧ Hid (OI wr W0.heap.size o (solK m es q d k)) ∧ Hid (∀ v, v < k → v ≠ q → (dtX m es q d v).tmod (dt0 m es q) = 0) ∧ Hid (Below W0.heap.size W0 wr)) (fun _ i _ => n - (intOf i).toNat)
    case atStart => exact ⟨0, _, rfl, Nat.zero_le _, rfl, by rw [show solK m es q d 0 = [] from rfl]; exact OI.nil_ _ _, fun v hv => by omega, HB3.out⟩
    case round =>
      obtain ⟨k, vo, rfl, hk, rfl, ho, hmod, hb⟩ := hrel
      have d0 := (HX0.out.bel hb.out).cell 0
      have d1 := (HX0.out.bel hb.out).cell 1
      have hst := solK_succ m es q d k
      have hsl := solK_len m es q d k
      have hn7 : n ≤ 6 := by have := HN.out; omega
      by_cases hlt : k < n
      · by_cases hkq : k = q
        · have t1 : ((k : Int) == (q : Int)) = true := by simp; omega
          rw [if_pos hkq] at hst
          have HSt := Lib.hid hst
          have HM2 : Hid (∀ v, v < k + 1 → v ≠ q → (dtX m es q d v).tmod (dt0 m es q) = 0) := fun v h1 h2 => hmod.out v (by omega) h2
          have hsz := hb.out.size
          have h1 := Lib.hid (RV.ones wr (.int .i64 0) 3)
          have ho1 := Lib.hid (ho.out.below (below_alloc wr (.cells #[.int .i64 0] 3)))
          clear hst hkq hmod ho
          generalize solK m es q d k = os at *
          go_wp2_with (at_builtin; refine wpList_appendV _ rfl _ _ _ rfl 3 i0 _ 8 Tryz.underlying25 hi hz0 hz1 hz2 rfl W0.heap.size _ _ rfl ho1.out _ _ rfl h1.out (one_ones rfl) (by simp; omega) (by simp; omega) (by simp; omega) ?_; intro v1 w1 hown1 hg1 hat1)
          have HO := Lib.hid hown1
          clear hown1
          go_wp2
          go_roundw
          case rel => exact ⟨k + 1, _, rfl, by omega, by go_num, by rw [HSt.out]; show OI _ _ _ _; simpa [OI] using HO.out, HM2.out, below_own (hb.out.trans ((below_alloc wr _).mono hb.out.size)) (by simp; omega) ho1.out hg1⟩
          case measure => simp [intOf]; omega
        · have t1 : ((k : Int) == (q : Int)) = false := by simp; omega
          rw [if_neg hkq] at hst
          have HT1 := Lib.hid (HTb.out (k : Int) wr hb.out)
          have HXk := HXb.out k
          have HNk := HNo.out k (by have := HN.out; omega) hkq
          have HNE := HNe.out
          have hwq : IntKind.i64.wrap ((dtX m es q d k).tdiv (dt0 m es q)) = (dtX m es q d k).tdiv (dt0 m es q) := IntWalk.i64_in _ (by
            have := Int.natAbs_tdiv_le_natAbs (dtX m es q d k) (dt0 m es q)
            omega)
          have hdx : detN m (tab (tblL (m + 1) es q (k : Int) d (m + 1))) = dtX m es q d k := rfl
          have HSt := Lib.hid hst
          have HM2 : Hid ((dtX m es q d k).tmod (dt0 m es q) = 0 → ∀ v, v < k + 1 → v ≠ q → (dtX m es q d v).tmod (dt0 m es q) = 0) := fun h v h1 h2 => by
            by_cases e : v = k
            · rw [e]; exact h
            · exact hmod.out v (by omega) h2
          have HD0 : Hid (∀ v W, RR W v (tblL (m + 1) es q (k : Int) d (m + 1)) → Calls Tryz.prog 84 #[v] W fun e w' => e = .returned (.int .i64 (dtX m es q d k)) ∧ Below W.heap.size W w') := fun v W h => HDt.out (k : Int) v W h
          have HNk := Lib.hid HNk
          clear hst hkq hmod hdx
          generalize dtX m es q d k = X at *
          generalize dt0 m es q = D at *
          generalize solK m es q d k = os at *
          go_wp2_with fail
          refine HT1.out.mono ?_
          rintro e w5 ⟨vt, rfl, hol5, hb5⟩
          have HD5 := Lib.hid (HD0.out vt w5 hol5.rr)
          have HB5 := Lib.hid (hb.out.trans (hb5.mono hb.out.size))
          have ho5 := Lib.hid (OI.below ho.out hb5)
          clear hol5 hb5 d0 d1 ho
          go_wp2_with fail
          refine HD5.out.mono ?_
          rintro e w6 ⟨rfl, hb6⟩
          have HB6 := Lib.hid (HB5.out.trans (hb6.mono HB5.out.size))
          have ho6 := Lib.hid (OI.below ho5.out hb6)
          clear hb6 ho5
          by_cases hmz : X.tmod D = 0
          · have t2 : (X.tmod D != 0) = false := by simpa using hmz
            have HM3 := Lib.hid (HM2.out hmz)
            have hsz := HB6.out.size
            have h1 := Lib.hid (RV.ones w6 (.int .i64 (X.tdiv D)) 3)
            have ho1 := Lib.hid (ho6.out.below (below_alloc w6 (.cells #[.int .i64 (X.tdiv D)] 3)))
            clear ho6 HM2
            go_wp2_with (at_builtin; refine wpList_appendV _ rfl _ _ _ rfl 3 i0 _ 8 Tryz.underlying25 hi hz0 hz1 hz2 rfl W0.heap.size _ _ rfl ho1.out _ _ rfl h1.out (one_ones rfl) (by simp; omega) (by simp; omega) (by simp; omega) ?_; intro v1 w1 hown1 hg1 hat1)
            have HO := Lib.hid hown1
            clear hown1
            go_wp2
            go_roundw
            case rel => exact ⟨k + 1, _, rfl, by omega, by go_num, by rw [HSt.out]; show OI _ _ _ _; simpa [OI] using HO.out, HM3.out, below_own (HB6.out.trans ((below_alloc w6 _).mono HB6.out.size)) (by simp; omega) ho1.out hg1⟩
            case measure => simp [intOf]; omega
          · have t2 : (X.tmod D != 0) = true := by simpa using hmz
            have HP := Lib.hid (HNk.out hmz)
            have HPb := Lib.hid (bd_nil 1000000000000000000 (by decide))
            clear HM2
            go_wp2
            refine bodyPost_ret (results_tmp2 rfl _ _ _) rfl ?_
            exact ⟨_, _, _, rfl, OI.nil_ _ _, HB0.out.trans (HB6.out.mono HB0.out.size), HP.out, HPb.out⟩
      · obtain rfl : k = n := by omega
        have hP := HYes.out HSum.out (solK m es q d k) (by rw [solK_len, HN.out]) (by rw [solK_get m es q d k (by have := HN.out; have := HQ.out; omega), if_pos rfl]) (fun v h1 h2 => by rw [solK_get m es q d k (by have := HN.out; omega), if_neg h2]) (fun v h1 h2 => hmod.out v (by have := HN.out; omega) h2)
        have HP := Lib.hid hP
        have HPb := Lib.hid (solK_bd HXb.out k (q := q))
        clear hP hmod hst hsl
        go_wp2
        refine bodyPost_ret (results_tmp2 rfl _ _ _) rfl ?_
        exact ⟨_, _, _, rfl, OV.mono ho.out (by have := HZ0.out; omega), HB0.out.trans (hb.out.mono HB0.out.size), HP.out, HPb.out⟩
  · obtain ⟨r, hr⟩ : ∃ r, r = d.sum := ⟨_, rfl⟩
    have HP := Lib.hid (HN0.out hsum)
    have HPb := Lib.hid (bd_nil 1000000000000000000 (by decide))
    rw [← hr] at hsum HTo
    have t1 : (r != 0) = true := by simpa using hsum
    clear hr hsum
    go_enter Tryz.func44, Tryz.ntmps44
    go_wp2_with fail
    rw [← HW0.out]
    refine HTo.out.mono ?_
    rintro e w1 ⟨rfl, rfl⟩
    clear c0 c1
    go_wp2
    refine bodyPost_ret (results_tmp2 rfl _ _ _) rfl ?_
    exact ⟨_, _, _, rfl, OI.nil_ _ _, HB0.out, HP.out, HPb.out⟩
end Go.Proofs.YtefggpdobjboeaaGreat

namespace Go.Proofs.YtefggpdobjboeaaGreat
open Go.RowKit Go.Shelf

theorem plusL_len {a b : List Int} {n : Nat} (k : Int) (ha : a.length = n) (hb : b.length = n) : (plusL a b k).length = n := by simp [plusL, ha, hb]
theorem minus_get {a b : List Int} {n : Nat} (ha : a.length = n) (hb : b.length = n) {v : Nat} (hv : v < n) : (plusL a b (-1)).getD v 0 = a.getD v 0 - b.getD v 0 := by
  unfold plusL
  rw [List.getD_eq_getElem?_getD, List.getElem?_zipWith, List.getD_eq_getElem?_getD, List.getD_eq_getElem?_getD, List.getElem?_eq_getElem (by omega : v < a.length), List.getElem?_eq_getElem (by omega : v < b.length)]
  simp only [Option.getD_some]
  omega
theorem minus_bd {a b : List Int} {n : Nat} {A B C : Int} (ha : a.length = n) (hb : b.length = n) (h1 : Bd A a) (h2 : Bd B b) (hC : A + B ≤ C) (h0 : 0 ≤ C) : Bd C (plusL a b (-1)) := fun v => by
  by_cases hv : v < n
  · rw [minus_get ha hb hv]; have := h1 v; have := h2 v; omega
  · rw [List.getD_eq_getElem?_getD, List.getElem?_eq_none (by rw [plusL_len _ ha hb]; omega)]; simp; omega
/-- What the reference's Equivalent answers. -/
def REqvP (n : Int) (es : List Tri) (a b : List Int) (bb : Bool) (u : List Int) (er : Int) : Prop :=
  (eGiven n es [a, b] ≠ 0 ∧ bb = false ∧ u = [] ∧ er = eGiven n es [a, b]) ∨
    (eGiven n es [a, b] = 0 ∧ er = 0 ∧ ∃ (m : Nat) (s : List Int), n = m ∧ SolP m es 0 (plusL a b (-1)) s bb ∧ u = leastL s)
theorem eqv_same {n : Int} {es : List Tri} {a b : List Int} {bb bb' : Bool} {u u' : List Int} {er er' : Int} (h : EqvP n es a b bb u er) (h' : REqvP n es a b bb' u' er') : bb = bb' ∧ u = u' ∧ er = er' := by
  rcases h' with ⟨h0, rfl, rfl, rfl⟩ | ⟨h0, rfl, m, s, rfl, hs, rfl⟩
  · rcases h with ⟨_, rfl, rfl, rfl⟩ | ⟨h1, _⟩
    · exact ⟨rfl, rfl, rfl⟩
    · exact absurd h1 h0
  · obtain ⟨-, -, hck⟩ := eGiven_ok h0
    obtain ⟨_, _, hal, _⟩ := checkE_ok (hck a (by simp))
    obtain ⟨_, _, hbl, _⟩ := checkE_ok (hck b (by simp))
    obtain ⟨rfl, m', hm, hrt, hcase⟩ := h.ok h0
    obtain rfl : m' = m := by omega
    rcases hs with ⟨rfl, hsl, -, hsv⟩ | ⟨rfl, rfl, hno⟩
    · have hw : Way m' es a b (fun u => s.getD u 0) := fun v hv => by
        rw [hsv v hv, minus_get (by omega) (by omega) hv]
      rcases hcase with ⟨rfl, -, hl⟩ | ⟨_, hn, _⟩
      · have h1 := hl _ hw
        have h2 := leastL_of (s := s) (by have := hrt.n1; omega)
        rw [hsl] at h2
        exact ⟨rfl, h1.uniq h2 (c := 0) (fun v _ => by omega), rfl⟩
      · exact absurd ⟨_, hw⟩ hn
    · rcases hcase with ⟨_, ⟨t, ht⟩, _⟩ | ⟨rfl, _, rfl⟩
      · exact absurd (fun v hv => by rw [minus_get (by omega) (by omega) hv]; exact (ht v hv).symm) (hno t)
      · exact ⟨rfl, rfl, rfl⟩
set_option maxRecDepth 100000 in
set_option maxHeartbeats 8000000 in
theorem rEqv_any (g va vb : Value) (n : Int) (es : List Tri) (a b : List Int) (w : World) (hg : GV w g n es) (ha : RI w va a) (hb : RI w vb b) (hs : Sm n es) (hla : Lw n a) (hlb : Lw n b) :
    Calls Tryz.prog 12 #[g, va, vb] w fun e w' => ∃ bb v u er, e = .returned (.tuple #[.bool bb, v, .int .i64 er]) ∧ OI w' w.heap.size v u ∧ Below w.heap.size w w' ∧ REqvP n es a b bb u er := by
  obtain ⟨A2, c2, rfl, -⟩ := ha.open_
  obtain ⟨A3, c3, rfl, -⟩ := hb.open_
  obtain ⟨A, c, rfl, -⟩ := hg.open_
  obtain ⟨W0, hW0⟩ : ∃ W0, W0 = w.alloc (.cells #[.int .i64 n, .slice A es.length c] 24) := ⟨_, rfl⟩
  have hb0 : Below w.heap.size w W0 := by rw [hW0]; exact below_alloc w _
  have hx0 : BL W0 w.heap.size 24 [.int .i64 n, .slice A es.length c] := by rw [hW0]; exact BL.new' w _ _
  have c0 := hx0.cell 0
  have c1 := hx0.cell 1
  have HX0 := Lib.hid hx0
  have HG0 := Lib.hid (hg.below hb0)
  have HB0 := Lib.hid hb0
  have HW0 := Lib.hid hW0
  rw [hW0] at c0 c1
  clear hg hx0 hW0
  have hj := rBothE_any _ _ _ n es a b W0 HG0.out (RI.below ha hb0) (RI.below hb hb0)
  have HA0 := Lib.hid (RI.below ha hb0)
  have HV0 := Lib.hid (RI.below hb hb0)
  clear ha hb hb0
  by_cases h0 : eGiven n es [a, b] = 0
  · obtain ⟨hgc, hcb, h5⟩ := eGiven_ok h0
    obtain ⟨m, rfl, hrt⟩ := rt_of hs hgc hcb
    have hca := h5 a (by simp)
    have hcb' := h5 b (by simp)
    obtain ⟨_, _, hal, _⟩ := checkE_ok hca
    obtain ⟨_, _, hbl, _⟩ := checkE_ok hcb'
    have hba := hla hca
    have hbb := hlb hcb'
    obtain ⟨m1, hm1⟩ : ∃ m1, m = m1 + 1 := ⟨m - 1, by have := hrt.n1; omega⟩
    have hn6 := hrt.n6
    have hal' : a.length = m := by omega
    have hbl' : b.length = m := by omega
    have hdl := plusL_len (-1) hal' hbl'
    have hdb : Bd 1000 (plusL a b (-1)) := minus_bd hal' hbl' hba hbb (by decide) (by decide)
    have HH0 := Lib.hid h0
    rw [h0] at hj
    have HJ := Lib.hid hj
    have HPa : Hid (∀ W, Below W0.heap.size W0 W → Calls Tryz.prog 45 #[.slice A2 a.length c2, .slice A3 b.length c3, .int .i64 (-1)] W fun e w' => ∃ v, e = .returned v ∧ OI w' W.heap.size v (plusL a b (-1)) ∧ Below W.heap.size W w') := fun W h =>
      rPlus_any _ _ a b (-1) W (RI.below HA0.out h) (RI.below HV0.out h) (by omega) (by omega) (fun j hj => by
        have := hba j; have := hbb j; omega)
    have HSo : Hid (∀ (W : World) (v : Value), Below W0.heap.size W0 W → RI W v (plusL a b (-1)) → Calls Tryz.prog 44 #[.agg #[.int .i64 (m : Int), .slice A es.length c], .int .i64 0, v] W fun e w' => ∃ v out ok, e = .returned (.tuple #[v, .bool ok]) ∧ OI w' W.heap.size v out ∧ Below W.heap.size W w' ∧ SolP m es 0 (plusL a b (-1)) out ok ∧ Bd 1000000000000000000 out) := fun W v h1 h2 => by
      subst hm1
      exact rSolve_any _ v m1 0 es _ W (HG0.out.below h1) h2 hrt.ed (by omega) hrt.cn hrt.nn (by omega) hdl hdb
    have HLen : Hid (∀ out ok, SolP m es 0 (plusL a b (-1)) out ok → out.length ≤ 100) := fun out ok h => by
      rcases h with ⟨_, h, _⟩ | ⟨_, rfl, _⟩
      · omega
      · simp
    clear hj h0 hgc hcb h5 hrt hca hcb' hal hbl hba hbb hm1 hal' hbl' hdl hdb
    generalize hdd : plusL a b (-1) = d at *
    have HDd := Lib.hid hdd
    clear hdd
    go_enter Tryz.func12, Tryz.ntmps12
    go_wp2_with fail
    rw [← HW0.out]
    refine HJ.out.mono ?_
    rintro e w1 ⟨rfl, hb1⟩
    have HK : Hid (∀ W, Below w1.heap.size w1 W → W.cell? ⟨w.heap.size, 0, none⟩ = some (.int .i64 (m : Int)) ∧ W.cell? ⟨w.heap.size, 1, none⟩ = some (.slice A es.length c) ∧ Below W0.heap.size W0 W) := fun W h => by
      have hbw := hb1.trans (h.mono hb1.size)
      have x1 := HX0.out.bel hbw
      exact ⟨x1.cell 0, x1.cell 1, hbw⟩
    have HS0 := Lib.hid (HK.out w1.drew (Below.refl _ _).drew)
    have HPl := Lib.hid (HPa.out w1.drew HS0.out.2.2)
    clear hb1 c0 c1
    go_wp2_with fail
    go_region_held3 (fun W' : World => W'.cell? ⟨w.heap.size, 0, none⟩ = some (.int .i64 (m : Int)) ∧ W'.cell? ⟨w.heap.size, 1, none⟩ = some (.slice A es.length c) ∧ Below W0.heap.size W0 W')
      (first | exact HS0.out | exact HSa.out | exact HSb.out)
      (first
        | (go_at_call 45; refine HPl.out.mono ?_; rintro e w6 ⟨v6, rfl, ho6, hb6⟩; have HSa := Lib.hid (HK.out w6 ((Below.refl _ _).drew.trans (hb6.mono (Nat.le_refl _)))); have HSv := Lib.hid (HSo.out w6 v6 HSa.out.2.2 ho6.rv); clear ho6 hb6)
        | (go_at_call 44; refine HSv.out.mono ?_; rintro e w7 ⟨v7, out, ok, rfl, ho7, hb7, hp7, hbd7⟩; have HSz := Lib.hid HSa.out.2.2.size; have HSb := Lib.hid (show w7.cell? ⟨w.heap.size, 0, none⟩ = some (.int .i64 (m : Int)) ∧ w7.cell? ⟨w.heap.size, 1, none⟩ = some (.slice A es.length c) ∧ Below W0.heap.size W0 w7 from ⟨(HX0.out.bel (HSa.out.2.2.trans (hb7.mono HSa.out.2.2.size))).cell 0, (HX0.out.bel (HSa.out.2.2.trans (hb7.mono HSa.out.2.2.size))).cell 1, HSa.out.2.2.trans (hb7.mono HSa.out.2.2.size)⟩); have HLw := Lib.hid (rLowest_any v7 out w7 ho7.rv (HLen.out out ok hp7) hbd7); have HP7 := Lib.hid hp7; clear ho7 hb7 hp7 hbd7))
    all_goals
      go_wp2_with fail
      refine HLw.out.mono ?_
      rintro e w8 ⟨v8, rfl, ho8, hb8⟩
      have HO8 := Lib.hid ho8
      have HB8 := Lib.hid hb8
      clear ho8 hb8
      go_wp2
      refine bodyPost_ret (results_tmp3 rfl _ _ _) rfl ?_
      exact ⟨_, _, _, _, rfl, OV.mono HO8.out (by have := HSb.out.2.2.size; have := HB0.out.size; omega), (HB0.out.trans (HSb.out.2.2.mono HB0.out.size)).trans (HB8.out.mono (by have := HSb.out.2.2.size; have := HB0.out.size; omega)), .inr ⟨HH0.out, rfl, m, _, rfl, by rw [HDd.out]; exact HP7.out, rfl⟩⟩
  · obtain ⟨r, hr⟩ : ∃ r, r = eGiven n es [a, b] := ⟨_, rfl⟩
    have HR := Lib.hid hr
    have HN0 := Lib.hid h0
    rw [← hr] at hj h0
    have HJ := Lib.hid hj
    have t : (r != 0) = true := by simpa using h0
    clear hr hj h0
    go_enter Tryz.func12, Tryz.ntmps12
    go_wp2_with fail
    rw [← HW0.out]
    refine HJ.out.mono ?_
    rintro e w1 ⟨rfl, hb1⟩
    have HB1 := Lib.hid (HB0.out.trans (hb1.mono HB0.out.size))
    clear hb1
    clear c0 c1
    go_wp2
    refine bodyPost_ret (results_tmp3 rfl _ _ _) rfl ?_
    exact ⟨_, _, _, _, rfl, OI.nil_ _ _, HB1.out, .inl ⟨HN0.out, rfl, rfl, HR.out⟩⟩
end Go.Proofs.YtefggpdobjboeaaGreat

namespace Go.Proofs.YtefggpdobjboeaaGreat
open Go.RowKit Go.Shelf

theorem lowP_iff {n : Int} {es : List Tri} {L : List (List Int)} (h : lowP n es L = true) : Sm n es ∧ ∀ zs ∈ L, Lw n zs := by
  unfold lowP at h
  simp only [Bool.and_eq_true, Bool.not_eq_true', List.any_eq_false] at h
  refine ⟨fewB_sm h.1, fun zs hz => lowB_lw ?_⟩
  have := h.2 zs hz
  simpa using this
set_option maxRecDepth 100000 in
set_option maxHeartbeats 8000000 in
theorem decides_any (g va vb : Value) (n : Int) (es : List Tri) (a b : List Int) (w : World) (hg : GV w g n es) (ha : RI w va a) (hb : RI w vb b) :
    Calls Tryz.prog 3 #[g, va, vb] w fun e w' => e = .returned (.bool true) ∧ Below w.heap.size w w' := by
  obtain ⟨A, c, rfl, -⟩ := hg.open_
  obtain ⟨A2, c2, rfl, -⟩ := RI.open_ ha
  obtain ⟨A3, c3, rfl, -⟩ := RI.open_ hb
  obtain ⟨W0, hW0⟩ : ∃ W0, W0 = w.alloc (.cells #[.int .i64 n, .slice A es.length c] 24) := ⟨_, rfl⟩
  have hb0 : Below w.heap.size w W0 := by rw [hW0]; exact below_alloc w _
  have hz0 : W0.heap.size = w.heap.size + 1 := by rw [hW0]; simp
  have hx0 : BL W0 w.heap.size 24 [.int .i64 n, .slice A es.length c] := by rw [hW0]; exact BL.new' w _ _
  have hc0 : GC w (.agg #[.int .i64 n, .slice A es.length c]) [.int .i64 n, .slice A es.length c] n es [(.slice A2 a.length c2, a), (.slice A3 b.length c3, b)] W0 := by
    refine ⟨hg.below hb0, hx0, hb0, fun p hp => ?_⟩
    simp only [List.mem_cons, List.not_mem_nil, or_false] at hp
    rcases hp with rfl | rfl
    · exact RI.below ha hb0
    · exact RI.below hb hb0
  obtain ⟨W1, hW1⟩ : ∃ W1, W1 = W0.alloc (.cells #[.slice A2 a.length c2, .slice A3 b.length c3] 26) := ⟨_, rfl⟩
  have hb1 : Below W0.heap.size W0 W1 := by rw [hW1]; exact below_alloc W0 _
  have hr1 : RR W1 (.slice (some ⟨w.heap.size + 1, 0, none⟩) 2 2) [a, b] := by rw [hW1, ← hz0]; exact RR.lit2 26 (RI.below ha hb0) (RI.below hb hb0)
  have hc1 := hc0.next hb1
  have hlo := low_any _ _ n es [a, b] W1 hc1.g hr1
  have q0 := hc0.x.cell 0
  have q1 := hc0.x.cell 1
  have HC1 := Lib.hid hc1
  have HW0 := Lib.hid hW0
  have HW1 := Lib.hid hW1
  rw [hW0] at q0 q1
  have AW : Hid (∀ W, Calls Tryz.prog 10 #[] W fun e w' => e = .returned (.bool true) ∧ Below W.heap.size W w') := awake_any
  clear hg ha hb hb0 hz0 hx0 hc0 hb1 hr1 hc1 hW0 hW1
  go_enter Tryz.func3, Tryz.ntmps3
  go_wp2_with fail
  rw [← HW0.out, ← HW1.out]
  by_cases hl : lowP n es [a, b] = false
  · rw [hl] at hlo
    refine hlo.mono ?_
    rintro e w2 ⟨rfl, hb2⟩
    have HC2 := Lib.hid (HC1.out.next hb2)
    clear hlo hb2 hl q0 q1
    go_wp2_with fail
    refine (AW.out _).mono ?_
    rintro e w3 ⟨rfl, hb3⟩
    have HC3 := Lib.hid (HC2.out.next hb3)
    clear hb3
    go_wp2
    go_ret
    exact ⟨rfl, HC3.out.b⟩
  have hl : lowP n es [a, b] = true := by simpa using hl
  obtain ⟨hsm, hall⟩ := lowP_iff hl
  have hla := hall a (by simp)
  have hlb := hall b (by simp)
  have HSm := Lib.hid hsm
  have HLa := Lib.hid hla
  have HLb := Lib.hid hlb
  rw [hl] at hlo
  refine hlo.mono ?_
  rintro e w2 ⟨rfl, hb2⟩
  have HC2 := Lib.hid (HC1.out.next hb2)
  have d0 := HC2.out.x.cell 0
  have d1 := HC2.out.x.cell 1
  have HEq := Lib.hid (Equivalent_any _ _ _ n es a b w2 HC2.out.g (HC2.out.r (.slice A2 a.length c2, a) (by simp)) (HC2.out.r (.slice A3 b.length c3, b) (by simp)) HSm.out HLa.out HLb.out)
  clear hlo hb2 hl q0 q1 hsm hall hla hlb
  go_wp2_with fail
  refine HEq.out.mono ?_
  rintro e w3 ⟨bb, v3, u, er, rfl, ho3, hb3, hp3⟩
  have HC3 := Lib.hid ((HC2.out.next hb3).add ho3.rv)
  have HP3 := Lib.hid hp3
  have e0 := HC3.out.x.cell 0
  have e1 := HC3.out.x.cell 1
  have HRq := Lib.hid (rEqv_any _ _ _ n es a b w3 HC3.out.g (HC3.out.r (.slice A2 a.length c2, a) (by simp)) (HC3.out.r (.slice A3 b.length c3, b) (by simp)) HSm.out HLa.out HLb.out)
  clear ho3 hb3 hp3 d0 d1
  go_wp2_with fail
  refine HRq.out.mono ?_
  rintro e w4 ⟨bb', v4, u', er', rfl, ho4, hb4, hp4⟩
  obtain ⟨rfl, rfl, rfl⟩ := eqv_same HP3.out hp4
  have HC4 := Lib.hid ((HC3.out.next hb4).add ho4.rv)
  have hq := EqualS_any v3 v4 u u w4 (HC4.out.r (v3, u) (by simp)) (HC4.out.r (v4, u) (by simp))
  rw [(eqL_iff _ _).2 rfl] at hq
  have HQ := Lib.hid hq
  clear ho4 hb4 hp4 e0 e1 hq
  go_wp2_with fail
  refine HQ.out.mono ?_
  rintro e w5 ⟨rfl, j, rfl⟩
  have HC5 := Lib.hid (HC4.out.next (below_drewN (Below.refl _ _) j))
  go_wp2_with fail
  refine (AW.out _).mono ?_
  rintro e w6 ⟨rfl, hb6⟩
  have HC6 := Lib.hid (HC5.out.next hb6)
  clear hb6
  go_wp2
  go_ret
  exact ⟨rfl, HC6.out.b⟩
end Go.Proofs.YtefggpdobjboeaaGreat
