/- Contracts of the references' Parts, Connected, Joined.
   Contracts of the references' Connected, Joined, Low.
   Contracts of the references' Valence, entry, Moved.
   Contract of the reference's Moved: the image of a script.
   Contracts of the references' Plus, Applied, Leads. -/
import Derived.Test.YtgcnijmmjlfabaaGreatDoorK03
set_option maxRecDepth 100000
set_option maxHeartbeats 16000000
namespace Go.Proofs.YtgcnijmmjlfabaaGreatDoor
open Go.RowKit Go.Shelf

/-- What is known when the vertices ahead of v have been looked at. -/
def PtI (n : Nat) (es : List Tri) (v : Nat) (k : Nat) (sn : List Bool) : Prop :=
  sn.length = n ∧ k ≤ v ∧ ((v = 0 ∧ k = 0 ∧ ∀ u, bAt sn u = false) ∨ (1 ≤ v ∧ ∃ bs0, Rch n es 0 n bs0 ∧ ((k = 1 ∧ (∀ u, u < n → bAt sn u = bAt bs0 u) ∧ ∀ u, u < v → bAt bs0 u = true) ∨ (2 ≤ k ∧ ∃ u, u < n ∧ bAt bs0 u = false))))
theorem PtI.seen {n : Nat} {es : List Tri} {v k : Nat} {sn : List Bool} (h : PtI n es v k sn) (hv : v < n) (hs : bAt sn v = true) : PtI n es (v + 1) k sn := by
  obtain ⟨h1, h2, h3⟩ := h
  refine ⟨h1, by omega, ?_⟩
  rcases h3 with ⟨_, _, h⟩ | ⟨h, bs0, hb, h3⟩
  · rw [h v] at hs; cases hs
  · refine .inr ⟨by omega, bs0, hb, ?_⟩
    rcases h3 with ⟨e, h4, h5⟩ | h3
    · refine .inl ⟨e, h4, fun u hu => ?_⟩
      by_cases euv : u = v
      · subst euv; rw [← h4 u hv]; exact hs
      · exact h5 u (by omega)
    · exact .inr h3
theorem PtI.new {n : Nat} {es : List Tri} {v k : Nat} {sn sn' rs : List Bool} (h : PtI n es v k sn) (hv : v < n) (hs : bAt sn v = false) (hr : Rch n es v n rs) (hl : sn'.length = n) (hu : ∀ u, u < n → bAt sn' u = (bAt sn u || bAt rs u)) : PtI n es (v + 1) (k + 1) sn' := by
  obtain ⟨h1, h2, h3⟩ := h
  refine ⟨hl, by omega, .inr ⟨by omega, ?_⟩⟩
  rcases h3 with ⟨rfl, rfl, h⟩ | ⟨h, bs0, hb, h3⟩
  · refine ⟨rs, hr, .inl ⟨rfl, fun u hun => by rw [hu u hun, h u]; rfl, fun u hu' => ?_⟩⟩
    obtain rfl : u = 0 := by omega
    exact hr.2.1.1
  · refine ⟨bs0, hb, .inr ?_⟩
    rcases h3 with ⟨e, h4, h5⟩ | ⟨e, h4⟩
    · exact ⟨by omega, v, hv, by rw [← h4 v hv]; exact hs⟩
    · exact ⟨by omega, h4⟩
theorem PtI.end_ {n : Nat} {es : List Tri} {k : Nat} {sn : List Bool} (h : PtI n es n k sn) (hn : 1 ≤ n) : k = 1 ↔ Conn n (wgt es) := by
  obtain ⟨h1, h2, ⟨e, _⟩ | ⟨_, bs0, hb, h3⟩⟩ := h
  · omega
  · rw [← rch_conn hb]
    rcases h3 with ⟨e, h4, h5⟩ | ⟨e, u, hu, h4⟩
    · exact ⟨fun _ => h5, fun _ => e⟩
    · exact ⟨fun e' => by omega, fun h => by rw [h u hu] at h4; cases h4⟩
theorem PtI.start (n : Nat) (es : List Tri) : PtI n es 0 0 (List.replicate n false) := ⟨by simp, Nat.le_refl _, .inl ⟨rfl, rfl, fun u => by
  unfold bAt
  rw [List.getD_eq_getElem?_getD, List.getElem?_replicate]; split <;> rfl⟩⟩
/-- Half way through marking. -/
def Orr (n : Nat) (sn rs : List Bool) (j : Nat) (s : List Bool) : Prop := s.length = n ∧ (∀ u, u < j → bAt s u = (bAt sn u || bAt rs u)) ∧ ∀ u, j ≤ u → bAt s u = bAt sn u
theorem bAt_setx (bs : List Bool) (b u : Nat) (x : Bool) (hb : b < bs.length) : bAt (bs.set b x) u = if u = b then x else bAt bs u := by
  unfold bAt
  rw [List.getD_eq_getElem?_getD, List.getElem?_set]
  by_cases h : b = u
  · subst h; simp [hb]
  · rw [if_neg h, if_neg (fun e => h e.symm), ← List.getD_eq_getElem?_getD]
theorem Orr.step {n : Nat} {sn rs s : List Bool} {j : Nat} (h : Orr n sn rs j s) (hj : j < n) : Orr n sn rs (j + 1) (s.set j (bAt sn j || bAt rs j)) := by
  obtain ⟨h1, h2, h3⟩ := h
  refine ⟨by simpa using h1, fun u hu => ?_, fun u hu => ?_⟩
  · rw [bAt_setx _ _ _ _ (by omega)]
    by_cases e : u = j
    · rw [if_pos e, e]
    · rw [if_neg e]; exact h2 u (by omega)
  · rw [bAt_setx _ _ _ _ (by omega), if_neg (by omega)]; exact h3 u (by omega)
theorem rParts_any (g : Value) (n : Nat) (es : List Tri) (w : World) (hg : GV w g n es) (hE : Edges n es) (hn : n ≤ 12) (hn1 : 1 ≤ n) :
    Calls Tryz.prog 58 #[g] w fun e w' => ∃ k : Nat, e = .returned (.int .i64 (k : Int)) ∧ (k = 1 ↔ Conn n (wgt es)) ∧ Below w.heap.size w w' := by
  obtain ⟨A, c, rfl, hlc, hc, hcell⟩ := hg.open_
  have hmk := run_make_row' (P := Tryz.prog) 139 4 (.bool false) 1 Tryz.underlying139 bool_info rfl .i64 .i64 n (by omega) (by omega)
  obtain ⟨W0, hW0⟩ : ∃ W0, W0 = w.alloc (.cells #[.int .i64 (n : Int), .slice A es.length c] 24) := ⟨_, rfl⟩
  have hb0 : Below w.heap.size w W0 := by rw [hW0]; exact below_alloc w _
  have hz0 : W0.heap.size = w.heap.size + 1 := by rw [hW0]; simp
  have hx0 : BL W0 w.heap.size 24 [.int .i64 (n : Int), .slice A es.length c] := by rw [hW0]; exact BL.new' w _ _
  obtain ⟨W1, hW1⟩ : ∃ W1, W1 = W0.alloc (.cells (madeCells #[Value.bool false] n) 4) := ⟨_, rfl⟩
  have hb1 : Below W0.heap.size W0 W1 := by rw [hW1]; exact below_alloc W0 _
  have hm1 : BL W1 (w.heap.size + 1) 4 ((List.replicate n false).map .bool) := by rw [hW1, ← hz0]; exact made_bool W0 n
  have c0 := hx0.cell 0
  rw [hW0] at c0
  have HX1 := Lib.hid (hx0.bel hb1)
  have HM1 := Lib.hid hm1
  have HB1 := Lib.hid (hb0.trans (hb1.mono hb0.size))
  have HG := Lib.hid hg
  have HE := Lib.hid hE
  have HW0 := Lib.hid hW0
  have HW1 := Lib.hid hW1
  clear hg hE hcell hb0 hz0 hx0 hb1 hm1 hW0 hW1
  go_enter Tryz.func58, Tryz.ntmps58
  go_wp2_with fail
  rw [← HW0.out, ← HW1.out]
  clear c0 hmk
  go_loopw [3, 5] (fun cnt i wr => ∃ (v k : Nat) (sn : List Bool), v ≤ n ∧ cnt = .int .i64 (k : Int) ∧ i = .int .i64 (v : Int) ∧ Hid (PtI n es v k sn) ∧ Hid (BL wr (w.heap.size + 1) 4 (sn.map .bool)) ∧ Hid (BL wr w.heap.size 24 [.int .i64 (n : Int), .slice A es.length c]) ∧ Hid (Below w.heap.size w wr)) (fun _ i _ => n - (intOf i).toNat)
  case atStart => exact ⟨0, 0, _, Nat.zero_le _, rfl, rfl, PtI.start n es, HM1.out, HX1.out, HB1.out⟩
  case round =>
    obtain ⟨v, k, sn, hv, rfl, rfl, hP, hm, hx, hb⟩ := hrel
    have y0 := hx.out.cell 0
    have y1 := hx.out.cell 1
    by_cases hvn : v < n
    · have hvn1 : (v : Int) < n := by omega
      have hl := hP.out.1
      have hkv := hP.out.2.1
      have z0 := bl_bool hm.out (a := v) (by omega)
      cases hsv : bAt sn v
      · rw [hsv] at z0
        have HRe := Lib.hid (reached_any _ n v es wr (HG.out.below hb.out) HE.out hn hvn)
        have HP := hP
        have HSv := Lib.hid hsv
        have hkb : (k : Int) ≤ 12 := by omega
        obtain ⟨WO, hWO⟩ : ∃ WO, WO = wr := ⟨_, rfl⟩
        rw [← hWO] at HRe
        have hsz := hb.out.size
        have hsm := hm.out.lt
        rw [← hWO] at hsz hsm
        have HWO := Lib.hid hWO
        clear hWO
        go_wp2_with fail
        rw [← HWO.out]
        refine HRe.out.mono ?_
        rintro e w1 ⟨rs, rfl, hbl, hrch, hb1⟩
        have hb1' : Below wr.heap.size wr w1 := by rw [← HWO.out]; exact hb1
        have HM2 := Lib.hid (hm.out.bel hb1')
        have HX2 := Lib.hid (hx.out.bel hb1')
        have HB2 := Lib.hid (hb.out.trans (hb1'.mono hb.out.size))
        have HBl := Lib.hid hbl
        have HRc := Lib.hid hrch
        have u0 := HX2.out.cell 0
        clear hb1 hb1' hbl hrch y0 y1 z0 hm hx hb
        go_wp2_with fail
        clear u0
        go_loopw [7] (fun i wr => ∃ (j : Nat) (s : List Bool), j ≤ n ∧ i = .int .i64 (j : Int) ∧ Hid (Orr n sn rs j s) ∧ Hid (BL wr (w.heap.size + 1) 4 (s.map .bool)) ∧ Hid (BL wr (WO.heap.size + 1) 4 (rs.map .bool)) ∧ Hid (BL wr w.heap.size 24 [.int .i64 (n : Int), .slice A es.length c]) ∧ Hid (Below w.heap.size w wr)) (fun i _ => n - (intOf i).toNat)
        case atStart => exact ⟨0, sn, Nat.zero_le _, rfl, ⟨hl, fun u h => by omega, fun _ _ => rfl⟩, HM2.out, HBl.out, HX2.out, HB2.out⟩
        case round =>
          clear HM2 HBl HX2 HB2 HWO
          obtain ⟨j, s, hj, rfl, hO, hm, hr, hx, hb⟩ := hrel
          have y0 := hx.out.cell 0
          by_cases hjn : j < n
          · have hjn1 : (j : Int) < n := by omega
            have hsl := hO.out.1
            have q0 := bl_bool hm.out (a := j) (by omega)
            have q1 := hm.out.frozen j
            have q2 := bl_bool hr.out (a := j) (by have := HRc.out.1; omega)
            rw [hO.out.2.2 j (Nat.le_refl _)] at q0
            have HO2 := Lib.hid (hO.out.step hjn)
            have hfin : Hid (∀ x, BL (wr.setCell ⟨w.heap.size + 1, j, none⟩ (.bool x)) (w.heap.size + 1) 4 ((s.set j x).map .bool) ∧ BL (wr.setCell ⟨w.heap.size + 1, j, none⟩ (.bool x)) (WO.heap.size + 1) 4 (rs.map .bool) ∧ BL (wr.setCell ⟨w.heap.size + 1, j, none⟩ (.bool x)) w.heap.size 24 [.int .i64 (n : Int), .slice A es.length c] ∧ Below w.heap.size w (wr.setCell ⟨w.heap.size + 1, j, none⟩ (.bool x))) :=
              fun x => ⟨bl_boolset hm.out j x, hr.out.set_other (by simp; omega) _, hx.out.set_other (by simp) _, hb.out.setCell (p := ⟨w.heap.size + 1, j, none⟩) (by simp) _⟩
            cases hA : bAt sn j
            · rw [hA] at q0 HO2
              cases hB : bAt rs j
              all_goals
                rw [hB] at q2 HO2
                simp only [Bool.false_or] at HO2
                clear hm hr hx hb hO hsl hA hB
                go_wp2
                go_roundw
                case rel => exact ⟨j + 1, _, by omega, by go_num, HO2.out, (hfin.out _).1, (hfin.out _).2.1, (hfin.out _).2.2.1, (hfin.out _).2.2.2⟩
                case measure => simp [intOf]; omega
            · rw [hA] at q0 HO2
              simp only [Bool.true_or] at HO2
              clear hm hr hx hb hO hsl hA
              go_wp2
              go_roundw
              case rel => exact ⟨j + 1, _, by omega, by go_num, HO2.out, (hfin.out _).1, (hfin.out _).2.1, (hfin.out _).2.2.1, (hfin.out _).2.2.2⟩
              case measure => simp [intOf]; omega
          · obtain rfl : j = n := by omega
            have HP2 := Lib.hid (HP.out.new hvn HSv.out HRc.out hO.out.1 fun u hu => hO.out.2.1 u hu)
            go_wp2
            go_roundw
            case rel => exact ⟨v + 1, k + 1, s, by omega, by go_num, by go_num, HP2.out, hm.out, hx.out, hb.out⟩
            case measure => simp [intOf]; omega
      · rw [hsv] at z0
        have HP2 := Lib.hid (hP.out.seen hvn hsv)
        clear hsv
        go_wp2
        go_roundw
        case rel => exact ⟨v + 1, k, sn, by omega, rfl, by go_num, HP2.out, hm.out, hx.out, hb.out⟩
        case measure => simp [intOf]; omega
    · obtain rfl : v = n := by omega
      go_wp2
      go_ret
      exact ⟨k, rfl, hP.out.end_ hn1, hb.out⟩
end Go.Proofs.YtgcnijmmjlfabaaGreatDoor

namespace Go.Proofs.YtgcnijmmjlfabaaGreatDoor
open Go.RowKit Go.Shelf

theorem rConn_any (g : Value) (n : Nat) (es : List Tri) (w : World) (hg : GV w g n es) (hE : Edges n es) (hn : n ≤ 12) (hn1 : 1 ≤ n) :
    Calls Tryz.prog 37 #[g] w fun e w' => e = .returned (.bool (connB n es)) ∧ Below w.heap.size w w' := by
  obtain ⟨A, c, rfl, -⟩ := hg.open_
  obtain ⟨W0, hW0⟩ : ∃ W0, W0 = w.alloc (.cells #[.int .i64 (n : Int), .slice A es.length c] 24) := ⟨_, rfl⟩
  have hb0 : Below w.heap.size w W0 := by rw [hW0]; exact below_alloc w _
  have hx0 : BL W0 w.heap.size 24 [.int .i64 (n : Int), .slice A es.length c] := by rw [hW0]; exact BL.new' w _ _
  have HC := Lib.hid (rParts_any _ n es W0 (hg.below hb0) hE hn hn1)
  have HI := Lib.hid (connB_iff hn1 hn hE)
  have c0 := hx0.cell 0
  have c1 := hx0.cell 1
  have HB0 := Lib.hid hb0
  have HW0 := Lib.hid hW0
  rw [hW0] at c0 c1
  clear hg hb0 hx0 hW0 hE
  go_enter Tryz.func37, Tryz.ntmps37
  go_wp2_with fail
  rw [← HW0.out]
  refine HC.out.mono ?_
  rintro e w1 ⟨k, rfl, hk, hb1⟩
  have HB1 := Lib.hid (HB0.out.trans (hb1.mono HB0.out.size))
  clear hb1 c0 c1
  by_cases h1 : k = 1
  · have hcb : connB n es = true := HI.out.2 (hk.1 h1)
    have t : ((k : Int) == 1) = true := by simp; omega
    clear hk h1
    go_wp2
    go_ret
    exact ⟨ret_b hcb.symm, HB1.out⟩
  · have hcb : connB n es = false := by
      cases e : connB n es
      · rfl
      · exact absurd (hk.2 (HI.out.1 e)) h1
    have t : ((k : Int) == 1) = false := by simp; omega
    clear hk h1
    go_wp2
    go_ret
    exact ⟨ret_b hcb.symm, HB1.out⟩
theorem rJoined_any (g : Value) (n : Int) (es : List Tri) (w : World) (hg : GV w g n es) :
    Calls Tryz.prog 20 #[g] w fun e w' => e = .returned (.int .i64 (eGiven n es [])) ∧ Below w.heap.size w w' := by
  obtain ⟨A, c, rfl, hlc, hc, -⟩ := hg.open_
  obtain ⟨W0, hW0⟩ : ∃ W0, W0 = w.alloc (.cells #[.int .i64 n, .slice A es.length c] 24) := ⟨_, rfl⟩
  have hb0 : Below w.heap.size w W0 := by rw [hW0]; exact below_alloc w _
  have hx0 : BL W0 w.heap.size 24 [.int .i64 n, .slice A es.length c] := by rw [hW0]; exact BL.new' w _ _
  have hgc := rgCheck_any _ n es W0 (hg.below hb0)
  have c0 := hx0.cell 0
  have c1 := hx0.cell 1
  have HX0 := Lib.hid hx0
  have HG0 := Lib.hid (hg.below hb0)
  have HB0 := Lib.hid hb0
  have HW0 := Lib.hid hW0
  rw [hW0] at c0 c1
  clear hg hb0 hx0 hW0
  by_cases h2 : gcheckE n es = 0
  · rw [h2] at hgc
    have HGc := Lib.hid hgc
    obtain ⟨m, rfl, h1, h12, hE⟩ := gcheckE_zero h2
    have HR : Hid (eGiven m es [] = if connB m es = false then 13 else 0) := by show _ = _; unfold eGiven; rw [if_neg (by simpa using h2)]; rfl
    have HE := Lib.hid hE
    have hh1 : Hid (1 ≤ m ∧ m ≤ 12) := ⟨by omega, by omega⟩
    clear h2 hE hgc h1 h12
    go_enter Tryz.func20, Tryz.ntmps20
    go_wp2_with fail
    rw [← HW0.out]
    refine HGc.out.mono ?_
    rintro e w1 ⟨rfl, hb1⟩
    have hx1 := HX0.out.bel hb1
    have d0 := hx1.cell 0
    have d1 := hx1.cell 1
    have hcn := rConn_any _ m es w1 (HG0.out.below hb1) HE.out hh1.out.2 hh1.out.1
    have HB1 := Lib.hid (HB0.out.trans (hb1.mono HB0.out.size))
    clear hb1 hx1 c0 c1
    cases hcb : connB m es
    · rw [hcb] at hcn
      have HCn := Lib.hid hcn
      have HR2 : Hid (eGiven m es [] = 13) := by show _ = _; rw [HR.out, hcb]; rfl
      clear hcn hcb
      go_wp2_with fail
      refine HCn.out.mono ?_
      rintro e w2 ⟨rfl, hb2⟩
      have HB2 := Lib.hid (HB1.out.trans (hb2.mono HB1.out.size))
      clear hb2
      go_wp2
      go_ret
      exact ⟨ret_i HR2.out.symm, HB2.out⟩
    · rw [hcb] at hcn
      have HCn := Lib.hid hcn
      have HR2 : Hid (eGiven m es [] = 0) := by show _ = _; rw [HR.out, hcb]; rfl
      clear hcn hcb
      go_wp2_with fail
      refine HCn.out.mono ?_
      rintro e w2 ⟨rfl, hb2⟩
      have HB2 := Lib.hid (HB1.out.trans (hb2.mono HB1.out.size))
      clear hb2
      go_wp2
      go_ret
      exact ⟨ret_i HR2.out.symm, HB2.out⟩
  · obtain ⟨r, hr⟩ : ∃ r, r = gcheckE n es := ⟨_, rfl⟩
    have HR : Hid (eGiven n es [] = r) := by show _ = _; unfold eGiven; rw [if_pos h2, hr]
    rw [← hr] at hgc h2
    have HGc := Lib.hid hgc
    have t : (r != 0) = true := by simpa using h2
    clear hgc hr h2
    go_enter Tryz.func20, Tryz.ntmps20
    go_wp2_with fail
    rw [← HW0.out]
    refine HGc.out.mono ?_
    rintro e w1 ⟨rfl, hb1⟩
    have HB1 := Lib.hid (HB0.out.trans (hb1.mono HB0.out.size))
    clear hb1 c0 c1
    go_wp2
    go_ret
    exact ⟨ret_i HR.out.symm, HB1.out⟩
end Go.Proofs.YtgcnijmmjlfabaaGreatDoor

namespace Go.Proofs.YtgcnijmmjlfabaaGreatDoor
open Go.RowKit Go.Shelf

/-- How many edges join v to the first k vertices but itself. -/
def valK (es : List Tri) (v k : Nat) : Int := sumN k fun u => if u = v then 0 else wgt es u v
/-- An entry of the Laplacian. -/
def entE (n : Nat) (es : List Tri) (i k : Nat) : Int := if i = k then valK es i n else - wgt es i k
theorem wgt_le {n : Nat} {es : List Tri} (hE : Edges n es) {u v : Nat} (h : u ≠ v) : 0 ≤ wgt es u v ∧ wgt es u v ≤ 50 := by
  rw [← btw_wgt hE h]; exact btw_le hE _ _
theorem valK_le {n : Nat} {es : List Tri} (hE : Edges n es) (v k : Nat) : 0 ≤ valK es v k ∧ valK es v k ≤ 50 * k := by
  unfold valK
  induction k with
  | zero => exact ⟨Int.le_refl 0, Int.le_refl 0⟩
  | succ k ih =>
    simp only [sumN]
    by_cases h : k = v
    · rw [if_pos h]; push_cast; omega
    · rw [if_neg h]; have := wgt_le hE h; push_cast; omega
theorem entE_le {n : Nat} {es : List Tri} (hE : Edges n es) (hn : n ≤ 12) (i k : Nat) : -600 ≤ entE n es i k ∧ entE n es i k ≤ 600 := by
  unfold entE
  by_cases h : i = k
  · rw [if_pos h]; have := valK_le hE i n; omega
  · rw [if_neg h]; have := wgt_le hE h; omega
/-- A part of a sum of the image of a script. -/
def movK (n : Nat) (es : List Tri) (s : List Int) (i k : Nat) : Int := sumN k fun j => entE n es i j * s.getD j 0
theorem movK_le {n : Nat} {es : List Tri} {s : List Int} (hE : Edges n es) (hn : n ≤ 12) (hs : Bd 1048576 s) (i k : Nat) : -(629145600 * k) ≤ movK n es s i k ∧ movK n es s i k ≤ 629145600 * k := by
  unfold movK
  induction k with
  | zero => exact ⟨Int.le_refl 0, Int.le_refl 0⟩
  | succ k ih =>
    simp only [sumN]
    have h1 := entE_le hE hn i k
    have h2 := hs k
    have := mul_abs (x := entE n es i k) (y := s.getD k 0) (X := 600) (Y := 1048576) (by omega) (by omega) (by omega) (by omega)
    push_cast; omega
def movL (n : Nat) (es : List Tri) (s : List Int) : List Int := (List.range n).map fun i => movK n es s i n
theorem movL_get {n : Nat} (es : List Tri) (s : List Int) {i : Nat} (h : i < n) : (movL n es s).getD i 0 = movK n es s i n := by
  simp [movL, List.getD_eq_getElem?_getD, h]

theorem rVal_any (g : Value) (n v : Nat) (es : List Tri) (w : World) (hg : GV w g n es) (hE : Edges n es) (hn : n ≤ 12) :
    Calls Tryz.prog 128 #[g, .int .i64 (v : Int)] w fun e w' => e = .returned (.int .i64 (valK es v n)) ∧ Below w.heap.size w w' := by
  obtain ⟨A, c, rfl, -⟩ := hg.open_
  obtain ⟨W0, hW0⟩ : ∃ W0, W0 = w.alloc (.cells #[.int .i64 (n:Int), .slice A es.length c] 24) := ⟨_, rfl⟩
  have hb0 : Below w.heap.size w W0 := by rw [hW0]; exact below_alloc w _
  have hx0 : BL W0 w.heap.size 24 [.int .i64 (n:Int), .slice A es.length c] := by rw [hW0]; exact BL.new' w _ _
  have c0 := hx0.cell 0
  have c1 := hx0.cell 1
  have HX0 := Lib.hid hx0
  have HG0 := Lib.hid (hg.below hb0)
  have HB0 := Lib.hid hb0
  have HW0 := Lib.hid hW0
  rw [hW0] at c0 c1
  clear hg hx0 hW0
  have HE := Lib.hid hE
  clear hE hb0
  go_enter Tryz.func128, Tryz.ntmps128
  go_wp2_with fail
  rw [← HW0.out]
  clear c0 c1
  go_loopw [5, 6] (fun s i wr => ∃ k : Nat, k ≤ n ∧ s = .int .i64 (valK es v k) ∧ i = .int .i64 (k : Int) ∧ Hid (Below W0.heap.size W0 wr)) (fun _ i _ => n - (intOf i).toNat)
  case atStart => exact ⟨0, Nat.zero_le _, rfl, rfl, Below.refl _ _⟩
  case round =>
    obtain ⟨k, hk, rfl, rfl, hb⟩ := hrel
    have d0 := (HX0.out.bel hb.out).cell 0
    have d1 := (HX0.out.bel hb.out).cell 1
    by_cases hlt : k < n
    · have hv := valK_le HE.out v k
      by_cases hkv : k = v
      · have hs : valK es v (k + 1) = valK es v k := by show sumN k _ + (if k = v then 0 else _) = _; rw [if_pos hkv]; exact Int.add_zero _
        have t1 : ((k : Int) != (v : Int)) = false := by simp; omega
        rw [← hs] at *
        clear hkv
        go_wp2
        go_roundw
        case rel => exact ⟨k + 1, by omega, rfl, by go_num, hb.out⟩
        case measure => simp [intOf]; omega
      · have hs : valK es v (k + 1) = valK es v k + wgt es k v := by show sumN k _ + (if k = v then 0 else _) = _; rw [if_neg hkv]; rfl
        have t1 : ((k : Int) != (v : Int)) = true := by simp; omega
        have hw := wgt_le HE.out hkv
        have hbt := between_any _ (n : Int) es (k : Int) (v : Int) wr (HG0.out.below hb.out)
        rw [btw_wgt HE.out hkv] at hbt
        have HBt := Lib.hid hbt
        have HS := Lib.hid hs
        clear hkv hbt hs
        generalize wgt es k v = m at *
        generalize valK es v k = x at *
        go_wp2_with fail
        refine HBt.out.mono ?_
        rintro e w1 ⟨rfl, hb1⟩
        have HB1 := Lib.hid (hb.out.trans (hb1.mono hb.out.size))
        clear hb1
        clear d0 d1
        go_wp2
        go_roundw
        case rel => exact ⟨k + 1, by omega, by rw [HS.out], by go_num, HB1.out⟩
        case measure => simp [intOf]; omega
    · obtain rfl : k = n := by omega
      go_wp2
      go_ret
      exact ⟨rfl, HB0.out.trans (hb.out.mono HB0.out.size)⟩
theorem rEnt_any (g : Value) (n i k : Nat) (es : List Tri) (w : World) (hg : GV w g n es) (hE : Edges n es) (hn : n ≤ 12) :
    Calls Tryz.prog 159 #[g, .int .i64 (i : Int), .int .i64 (k : Int)] w fun e w' => e = .returned (.int .i64 (entE n es i k)) ∧ Below w.heap.size w w' := by
  obtain ⟨A, c, rfl, -⟩ := hg.open_
  obtain ⟨W0, hW0⟩ : ∃ W0, W0 = w.alloc (.cells #[.int .i64 (n:Int), .slice A es.length c] 24) := ⟨_, rfl⟩
  have hb0 : Below w.heap.size w W0 := by rw [hW0]; exact below_alloc w _
  have hx0 : BL W0 w.heap.size 24 [.int .i64 (n:Int), .slice A es.length c] := by rw [hW0]; exact BL.new' w _ _
  have c0 := hx0.cell 0
  have c1 := hx0.cell 1
  have HX0 := Lib.hid hx0
  have HG0 := Lib.hid (hg.below hb0)
  have HB0 := Lib.hid hb0
  have HW0 := Lib.hid hW0
  rw [hW0] at c0 c1
  clear hg hx0 hW0
  by_cases h : i = k
  · subst h
    have HV := Lib.hid (rVal_any _ n i es W0 HG0.out hE hn)
    have HR : Hid (entE n es i i = valK es i n) := by show _ = _; unfold entE; rw [if_pos rfl]
    clear hE hb0
    go_enter Tryz.func159, Tryz.ntmps159
    go_wp2_with fail
    rw [← HW0.out]
    refine HV.out.mono ?_
    rintro e w1 ⟨rfl, hb1⟩
    have HB1 := Lib.hid (HB0.out.trans (hb1.mono HB0.out.size))
    clear hb1
    clear c0 c1
    go_wp2
    go_ret
    exact ⟨ret_i HR.out.symm, HB1.out⟩
  · have hbt := between_any _ (n : Int) es (i : Int) (k : Int) W0 HG0.out
    rw [btw_wgt hE h] at hbt
    have HBt := Lib.hid hbt
    have HR : Hid (entE n es i k = - wgt es i k) := by show _ = _; unfold entE; rw [if_neg h]
    have t1 : ((i : Int) == (k : Int)) = false := by simp; omega
    have hw := wgt_le hE h
    clear hE hb0 hbt h
    generalize wgt es i k = m at *
    go_enter Tryz.func159, Tryz.ntmps159
    go_wp2_with fail
    rw [← HW0.out]
    refine HBt.out.mono ?_
    rintro e w1 ⟨rfl, hb1⟩
    have HB1 := Lib.hid (HB0.out.trans (hb1.mono HB0.out.size))
    clear hb1
    clear c0 c1
    go_wp2
    go_ret
    exact ⟨ret_i HR.out.symm, HB1.out⟩
end Go.Proofs.YtgcnijmmjlfabaaGreatDoor

namespace Go.Proofs.YtgcnijmmjlfabaaGreatDoor
open Go.RowKit Go.Shelf

theorem entE_lap (n : Nat) (es : List Tri) (i k : Nat) : entE n es i k = lapT n (wgt es) i k := by
  unfold entE lapT valK
  by_cases h : i = k
  · rw [if_pos h]; subst h
    rw [if_pos rfl, wgt_self, Int.sub_zero]
    refine sumN_congr fun u _ => ?_
    by_cases e : u = i
    · rw [if_pos e, e, wgt_self]
    · rw [if_neg e]; exact wgt_sym es u i
  · rw [if_neg h, if_neg h]; omega
theorem movK_lap {n : Nat} (es : List Tri) (s : List Int) {i : Nat} (hi : i < n) : movK n es s i n = lap n (wgt es) (fun u => s.getD u 0) i := by
  rw [lap_table hi]
  exact sumN_congr fun u _ => by rw [entE_lap]
theorem movK_succ (n : Nat) (es : List Tri) (s : List Int) (i k : Nat) : movK n es s i (k + 1) = movK n es s i k + entE n es i k * s.getD k 0 := rfl

theorem rMoved_any (g vs : Value) (n : Nat) (es : List Tri) (s : List Int) (w : World) (hg : GV w g n es) (hs : RI w vs s) (hE : Edges n es) (hn : n ≤ 12) (hl : s.length = n) (hb : Bd 1048576 s) :
    Calls Tryz.prog 125 #[g, vs] w fun e w' => ∃ v, e = .returned v ∧ OI w' w.heap.size v (movL n es s) ∧ Below w.heap.size w w' := by
  obtain ⟨A2, c2, rfl, -⟩ := hs.open_
  obtain ⟨A, c, rfl, -⟩ := hg.open_
  obtain ⟨W0, hW0⟩ : ∃ W0, W0 = w.alloc (.cells #[.int .i64 (n:Int), .slice A es.length c] 24) := ⟨_, rfl⟩
  have hb0 : Below w.heap.size w W0 := by rw [hW0]; exact below_alloc w _
  have hx0 : BL W0 w.heap.size 24 [.int .i64 (n:Int), .slice A es.length c] := by rw [hW0]; exact BL.new' w _ _
  have c0 := hx0.cell 0
  have c1 := hx0.cell 1
  have HX0 := Lib.hid hx0
  have HG0 := Lib.hid (hg.below hb0)
  have HB0 := Lib.hid hb0
  have HW0 := Lib.hid hW0
  rw [hW0] at c0 c1
  clear hg hx0 hW0
  obtain ⟨A3, c3, he3, -, -, hcell⟩ := (RI.below hs hb0).open_
  simp only [Value.slice.injEq, true_and] at he3
  obtain ⟨rfl, rfl⟩ := he3
  have HC := Lib.hid hcell
  have HE := Lib.hid hE
  have HBd := Lib.hid hb
  have HL := Lib.hid hl
  have hmk := run_make_row' (P := Tryz.prog) 42 3 (.int .i64 0) 8 Tryz.underlying42 int_info rfl .i64 .i64 n (by omega) (by omega)
  have HO0 := Lib.hid (own_zeros W0 n (by omega))
  have HB1 := Lib.hid (below_alloc W0 (.cells (madeCells #[Value.int .i64 0] n) 3))
  obtain ⟨W1, hW1⟩ : ∃ W1, W1 = W0.alloc (.cells (madeCells #[Value.int .i64 0] n) 3) := ⟨_, rfl⟩
  have hz0 : W0.heap.size = w.heap.size + 1 := by rw [HW0.out]; simp
  rw [← hW1, hz0] at HO0
  rw [← hW1] at HB1
  have HZ := Lib.hid hz0
  clear hz0
  have HW1 := Lib.hid hW1
  clear hcell hs hE hb hl hb0 hW1
  go_enter Tryz.func125, Tryz.ntmps125
  go_wp2_with fail
  rw [← HW0.out]
  go_wp2_with fail
  rw [← HW1.out]
  clear c0 c1 hmk
  go_loopw [6] (fun i wr => ∃ (k : Nat) (os : List Int), k ≤ n ∧ i = .int .i64 (k : Int) ∧ Hid (os.length = n) ∧ Hid (∀ j, j < n → os.getD j 0 = if j < k then movK n es s j n else 0) ∧
    Hid (OI wr (w.heap.size + 1) (.slice (some ⟨w.heap.size + 1, 0, none⟩) n n) os) ∧ Hid (Below W0.heap.size W0 wr)) (fun i _ => n - (intOf i).toNat)
  case atStart => exact ⟨0, List.replicate n 0, Nat.zero_le _, rfl, by simp [Hid], (fun j hj => by rw [if_neg (by omega)]; simp [List.getD_eq_getElem?_getD, hj]), HO0.out, HB1.out⟩
  case round =>
    obtain ⟨i, os, hi, rfl, ho1, ho2, hown, hbel⟩ := hrel
    have d0 := (HX0.out.bel hbel.out).cell 0
    by_cases hlt : i < n
    · go_wp2_with fail
      clear d0
      obtain ⟨wo, rfl⟩ : ∃ wo, wo = wr := ⟨_, rfl⟩
      obtain ⟨os0, rfl⟩ : ∃ os0, os0 = os := ⟨_, rfl⟩
      go_loopw [7] (fun c wr => ∃ (k : Nat) (os : List Int), k ≤ n ∧ c = .int .i64 (k : Int) ∧ Hid (os.length = n) ∧ Hid (∀ j, j < n → os.getD j 0 = if j < i then movK n es s j n else if j = i then movK n es s j k else 0) ∧
        Hid (OI wr (w.heap.size + 1) (.slice (some ⟨w.heap.size + 1, 0, none⟩) n n) os) ∧ Hid (Below W0.heap.size W0 wr)) (fun c _ => n - (intOf c).toNat)
      case atStart => exact ⟨0, os0, Nat.zero_le _, rfl, ho1.out, (fun j hj => by
        rw [ho2.out j hj]
        by_cases a : j < i
        · rw [if_pos a, if_pos a]
        · rw [if_neg a, if_neg a]; split <;> rfl), hown.out, hbel.out⟩
      case round =>
        obtain ⟨k, os, hk, rfl, ho1, ho2, hown, hbel⟩ := hrel
        have d0 := (HX0.out.bel hbel.out).cell 0
        have d1 := (HX0.out.bel hbel.out).cell 1
        by_cases hkt : k < n
        · obtain ⟨ad, z, rfl, hadb, hz, hcl⟩ := HC.out k (by rw [HL.out]; exact hkt)
          have hkl : k < s.length := by rw [HL.out]; exact hkt
          have hcl1 : wr.cell? (ad.add k) = some (.int .i64 z) := (hbel.out.cell (by rw [block_of_add]; exact hadb)).trans hcl
          have hzz : s.getD k 0 = z := by rw [List.getD_eq_getElem?_getD, hz.out]; rfl
          obtain ⟨-, -, e1, f1, -⟩ := OI.at' hown.out (k := i) (by rw [ho1.out]; exact hlt)
          have hoi : os.getD i 0 = movK n es s i k := by rw [ho2.out i hlt, if_neg (Nat.lt_irrefl i), if_pos rfl]
          rw [hoi] at e1
          have hmb := movK_le HE.out hn HBd.out i k
          have heb := entE_le HE.out hn i k
          have hpb := mul_abs (x := entE n es i k) (y := z) (X := 600) (Y := 1048576) (by omega) (by omega) (by have := HBd.out k; omega) (by have := HBd.out k; omega)
          have HN : Hid (∀ w1, Below wr.drew.heap.size wr.drew w1 → w1.frozen? ⟨w.heap.size + 1, i, none⟩ = false ∧
              OI (w1.setCell ⟨w.heap.size + 1, i, none⟩ (.int .i64 (movK n es s i k + entE n es i k * z))) (w.heap.size + 1) (.slice (some ⟨w.heap.size + 1, 0, none⟩) n n) (os.set i (movK n es s i k + entE n es i k * z)) ∧
              Below W0.heap.size W0 (w1.setCell ⟨w.heap.size + 1, i, none⟩ (.int .i64 (movK n es s i k + entE n es i k * z)))) := fun w1 h => by
            obtain ⟨-, -, -, q1, q2⟩ := OI.at' ((hown.out.below (Below.refl _ _).drew).below h) (k := i) (by rw [ho1.out]; exact hlt)
            exact ⟨q1, (q2 _).1, (hbel.out.trans (((Below.refl _ _).drew.trans h).mono hbel.out.size)).setCell (p := ⟨w.heap.size + 1, i, none⟩) (by simp; have := HZ.out; omega) _⟩
          have HEn := Lib.hid (rEnt_any _ n i k es wr.drew (HG0.out.below hbel.out.drew) HE.out hn)
          have HG2 : Hid (∀ j, j < n → (os.set i (movK n es s i k + entE n es i k * z)).getD j 0 = if j < i then movK n es s j n else if j = i then movK n es s j (k + 1) else 0) := fun j hj => by
            rw [List.getD_eq_getElem?_getD, List.getElem?_set]
            by_cases a : i = j
            · subst a
              rw [if_pos rfl, if_pos (by rw [ho1.out]; exact hlt), if_neg (Nat.lt_irrefl _), if_pos rfl, movK_succ, hzz]; rfl
            · rw [if_neg a, ← List.getD_eq_getElem?_getD, ho2.out j hj]
              by_cases b : j < i
              · rw [if_pos b, if_pos b]
              · rw [if_neg b, if_neg b, if_neg (fun e => a e.symm), if_neg (fun e => a e.symm)]
          have HO1 : Hid ((os.set i (movK n es s i k + entE n es i k * z)).length = n) := by show _ = _; rw [List.length_set]; exact ho1.out
          have hbs := hbel.out.size
          clear hoi hzz hcl HC hown hbel ho1 ho2
          have HK0 : Hid (wr.drew.cell? ⟨w.heap.size, 0, none⟩ = some (.int .i64 (n : Int)) ∧ wr.drew.cell? ⟨w.heap.size, 1, none⟩ = some (.slice A es.length c) ∧ wr.drew.cell? ⟨w.heap.size + 1, i, none⟩ = some (.int .i64 (movK n es s i k)) ∧ wr.drew.cell? (ad.add k) = some (.int .i64 z)) := ⟨d0, d1, e1, hcl1⟩
          have HK1 : Hid (∀ w1 : World, Below wr.drew.heap.size wr.drew w1 → (w1.cell? ⟨w.heap.size, 0, none⟩ = some (.int .i64 (n : Int)) ∧ w1.cell? ⟨w.heap.size, 1, none⟩ = some (.slice A es.length c) ∧ w1.cell? ⟨w.heap.size + 1, i, none⟩ = some (.int .i64 (movK n es s i k)) ∧ w1.cell? (ad.add k) = some (.int .i64 z))) := fun w1 h => ⟨(h.cell (p := ⟨w.heap.size, 0, none⟩) (block_lt_of_cell d0)).trans d0, (h.cell (p := ⟨w.heap.size, 1, none⟩) (block_lt_of_cell d1)).trans d1, (h.cell (p := ⟨w.heap.size + 1, i, none⟩) (block_lt_of_cell e1)).trans e1, (h.cell (p := ad.add k) (block_lt_of_cell hcl1)).trans hcl1⟩
          generalize movK n es s i k = x at *
          generalize entE n es i k = en at *
          generalize hp : en * z = p at *
          go_wp2_with fail
          obtain ⟨k0, k1, k2, k3⟩ := HK0.out
          go_region_with (go_at_call 159; refine HEn.out.mono ?_; rintro e w1 ⟨rfl, hb⟩; obtain ⟨g0, g1, g2, g3⟩ := HK1.out w1 hb; have HNw := Lib.hid (HN.out w1 hb); have f2 := HNw.out.1; clear hb)
          all_goals
            go_wp2
            go_roundw
            case rel => exact ⟨k + 1, _, by omega, by go_num, HO1.out, HG2.out, HNw.out.2.1, HNw.out.2.2⟩
            case measure => simp [intOf]; omega
        · obtain rfl : k = n := by omega
          go_wp2
          go_roundw
          case rel => exact ⟨i + 1, os, by omega, by go_num, ho1.out, (fun j hj => by
            rw [ho2.out j hj]
            by_cases a : j < i
            · rw [if_pos a, if_pos (by omega)]
            · rw [if_neg a]
              by_cases b : j = i
              · rw [if_pos b, if_pos (by omega)]
              · rw [if_neg b, if_neg (by omega)]), hown.out, hbel.out⟩
          case measure => simp [intOf]; omega
    · obtain rfl : i = n := by omega
      have e : os = movL i es s := by
        refine List.ext_getElem? fun j => ?_
        by_cases hj : j < i
        · have h := ho2.out j hj
          rw [if_pos hj, ← movL_get es s hj, List.getD_eq_getElem?_getD, List.getD_eq_getElem?_getD] at h
          have l1 : j < os.length := by rw [ho1.out]; exact hj
          have l2 : j < (movL i es s).length := by simp [movL]; exact hj
          rw [List.getElem?_eq_getElem l1, List.getElem?_eq_getElem l2] at h ⊢
          exact congrArg some h
        · rw [List.getElem?_eq_none (by rw [ho1.out]; omega), List.getElem?_eq_none (by simp [movL]; omega)]
      subst e
      go_wp2
      go_ret
      exact ⟨_, rfl, OV.mono hown.out (by omega), HB0.out.trans (hbel.out.mono HB0.out.size)⟩
end Go.Proofs.YtgcnijmmjlfabaaGreatDoor

namespace Go.Proofs.YtgcnijmmjlfabaaGreatDoor
open Go.RowKit Go.Shelf

/-- What Plus makes. -/
def plusL (a b : List Int) (k : Int) : List Int := List.zipWith (fun x y => x + k * y) a b
theorem rPlus_any (va vb : Value) (xs ys : List Int) (kk : Int) (w : World) (ha : RI w va xs) (hb : RI w vb ys) (hl : xs.length = ys.length) (h100 : xs.length ≤ 100)
    (hD : ∀ j, j < xs.length → (-1000000000000 ≤ xs.getD j 0 ∧ xs.getD j 0 ≤ 1000000000000) ∧ (-1000000000000 ≤ kk * ys.getD j 0 ∧ kk * ys.getD j 0 ≤ 1000000000000)) :
    Calls Tryz.prog 93 #[va, vb, .int .i64 kk] w fun e w' => ∃ v, e = .returned v ∧ OI w' w.heap.size v (plusL xs ys kk) ∧ Below w.heap.size w w' := by
  obtain ⟨A, c, rfl, hlc, hc, hcell⟩ := ha.open_
  obtain ⟨A', c', rfl, hlc', hc', hcell'⟩ := hb.open_
  have hmk := run_make_row' (P := Tryz.prog) 42 3 (.int .i64 0) 8 Tryz.underlying42 int_info rfl .i64 .i64 xs.length (by omega) (by omega)
  have HA := Lib.hid hcell
  have HB := Lib.hid hcell'
  have HDD := Lib.hid hD
  have hown := own_zeros w xs.length (by omega)
  have hb1 : Below w.heap.size w (w.alloc (.cells (madeCells #[Value.int .i64 0] xs.length) 3)) := below_alloc w _
  have HO0 := Lib.hid hown
  have HB1 := Lib.hid hb1
  have HL := Lib.hid hl
  clear hcell hcell' ha hb hD hown hb1 hl
  go_enter Tryz.func93, Tryz.ntmps93
  go_wp2_with fail
  clear hmk
  go_loopw [8] (fun i wr => ∃ (k : Nat) (os : List Int), k ≤ xs.length ∧ i = .int .i64 (k : Int) ∧ Hid (os.length = xs.length) ∧ Hid (os.take k = (plusL xs ys kk).take k) ∧
    Hid (OI wr w.heap.size (.slice (some ⟨w.heap.size, 0, none⟩) xs.length xs.length) os) ∧ Hid (Below w.heap.size w wr)) (fun i _ => xs.length - (intOf i).toNat)
  case atStart => exact ⟨0, List.replicate xs.length 0, Nat.zero_le _, rfl, by simp [Hid], by simp [Hid], HO0.out, HB1.out⟩
  case round =>
    obtain ⟨k, os, hk, rfl, ho1, ho2, hown, hbel⟩ := hrel
    by_cases hlt : k < xs.length
    · obtain ⟨ad, z, rfl, hadb, hz, hcl⟩ := HA.out k hlt
      obtain ⟨ad', z', rfl, hadb', hz', hcl'⟩ := HB.out k (by have := HL.out; omega)
      have hc1 : wr.cell? (ad.add k) = some (.int .i64 z) := (hbel.out.cell (by rw [block_of_add]; exact hadb)).trans hcl
      have hc2 : wr.cell? (ad'.add k) = some (.int .i64 z') := (hbel.out.cell (by rw [block_of_add]; exact hadb')).trans hcl'
      have hlt' : k < ys.length := by have := HL.out; omega
      have hDz := HDD.out k hlt
      rw [List.getD_eq_getElem?_getD, List.getD_eq_getElem?_getD, hz.out, hz'.out] at hDz
      simp only [Option.getD_some] at hDz
      obtain ⟨⟨b1, b2⟩, b3, b4⟩ := hDz
      obtain ⟨-, -, e1, f1, est⟩ := OI.at' hown.out (k := k) (by have := ho1.out; omega)
      have hset := (est (z + kk * z')).1
      have HS := Lib.hid hset
      have hz1 : (plusL xs ys kk)[k]? = some (z + kk * z') := by unfold plusL; rw [List.getElem?_zipWith, hz.out, hz'.out]
      have HZ := Lib.hid hz1
      clear hset est hz1 hcl hcl'
      generalize os.getD k 0 = ok at *
      generalize hp : kk * z' = p at *
      go_wp2_with fail
      refine wp_region_still_tail 14 (by kernel_rfl) (by kernel_rfl) ?_
      change wpStill _ _ wr.drew _ _ _
      simp only [List.take_succ_cons, List.take_zero, List.drop_succ_cons, List.drop_zero]
      repeat still_step
      refine wpStill_nil ?_
      change wpList _ _ _ _ _ wr.drew
      go_wp2
      go_roundw
      case rel => exact ⟨k + 1, os.set k (z + p), by omega, by go_num, by simpa [Hid] using ho1.out, by
        show List.take (k + 1) (os.set k (z + p)) = _
        rw [List.take_add_one, List.take_add_one, List.take_set_of_le (Nat.le_refl _), ho2.out, HZ.out, List.getElem?_set_self (by have := ho1.out; omega)], HS.out.below (Below.refl _ _).drew, (hbel.out.setCell (p := ⟨w.heap.size, k, none⟩) (by simp) _).drew⟩
      case measure => simp [intOf]; omega
    · obtain rfl : k = xs.length := by omega
      go_wp2
      go_ret
      have e : os = plusL xs ys kk := by
        have h := ho2.out
        rwa [List.take_of_length_le (by have := ho1.out; omega), List.take_of_length_le (by have := HL.out; simp [plusL]; omega)] at h
      subst e
      exact ⟨_, rfl, hown.out, hbel.out⟩
/-- What Applied makes. -/
def appL (n : Nat) (es : List Tri) (d s : List Int) : List Int := plusL d (movL n es s) (-1)
theorem movL_len (n : Nat) (es : List Tri) (s : List Int) : (movL n es s).length = n := by simp [movL]
theorem appL_get {n : Nat} (es : List Tri) {d : List Int} (s : List Int) (hd : d.length = n) {v : Nat} (hv : v < n) : (appL n es d s).getD v 0 = d.getD v 0 - lap n (wgt es) (fun u => s.getD u 0) v := by
  have h := movL_get es s hv
  rw [movK_lap es s hv] at h
  unfold appL plusL
  rw [List.getD_eq_getElem?_getD] at h ⊢
  rw [List.getElem?_zipWith, List.getD_eq_getElem?_getD]
  have l1 : v < (movL n es s).length := by rw [movL_len]; exact hv
  rw [List.getElem?_eq_getElem l1] at h ⊢
  rw [List.getElem?_eq_getElem (by omega : v < d.length)]
  simp only [Option.getD_some] at h ⊢
  rw [h]; omega
theorem appL_len {n : Nat} (es : List Tri) {d : List Int} (s : List Int) (hd : d.length = n) : (appL n es d s).length = n := by simp [appL, plusL, movL_len, hd]
theorem rApp_any (g vd vs : Value) (n : Nat) (es : List Tri) (d s : List Int) (w : World) (hg : GV w g n es) (hd : RI w vd d) (hs : RI w vs s) (hE : Edges n es) (hn : n ≤ 12) (hdl : d.length = n) (hl : s.length = n) (hbd : Bd 1048576 d) (hb : Bd 1048576 s) :
    Calls Tryz.prog 87 #[g, vd, vs] w fun e w' => ∃ v, e = .returned v ∧ OI w' w.heap.size v (appL n es d s) ∧ Below w.heap.size w w' := by
  obtain ⟨A2, c2, rfl, -⟩ := hs.open_
  obtain ⟨A3, c3, rfl, -⟩ := hd.open_
  obtain ⟨A, c, rfl, -⟩ := hg.open_
  obtain ⟨W0, hW0⟩ : ∃ W0, W0 = w.alloc (.cells #[.int .i64 (n:Int), .slice A es.length c] 24) := ⟨_, rfl⟩
  have hb0 : Below w.heap.size w W0 := by rw [hW0]; exact below_alloc w _
  have hx0 : BL W0 w.heap.size 24 [.int .i64 (n:Int), .slice A es.length c] := by rw [hW0]; exact BL.new' w _ _
  have c0 := hx0.cell 0
  have c1 := hx0.cell 1
  have HX0 := Lib.hid hx0
  have HG0 := Lib.hid (hg.below hb0)
  have HB0 := Lib.hid hb0
  have HW0 := Lib.hid hW0
  rw [hW0] at c0 c1
  clear hg hx0 hW0
  have HM := Lib.hid (rMoved_any _ _ n es s W0 HG0.out (RI.below hs hb0) hE hn hl hb)
  have HD0 := Lib.hid (RI.below hd hb0)
  have HF : Hid (∀ (w1 : World) (v : Value), Below W0.heap.size W0 w1 → OI w1 W0.heap.size v (movL n es s) → Calls Tryz.prog 93 #[.slice A3 d.length c3, v, .int .i64 (-1)] w1 fun e w' => ∃ v, e = .returned v ∧ OI w' w1.heap.size v (appL n es d s) ∧ Below w1.heap.size w1 w') := fun w1 v h1 h2 =>
    rPlus_any _ _ d (movL n es s) (-1) w1 (RI.below HD0.out h1) h2.ri (by rw [movL_len]; exact hdl) (by omega) (fun j hj => by
      have q1 := hbd j
      have q2 := movK_le hE hn hb j n
      rw [movL_get es s (by omega)]
      omega)
  clear hs hd hE hdl hl hbd hb hb0
  go_enter Tryz.func87, Tryz.ntmps87
  go_wp2_with fail
  rw [← HW0.out]
  refine HM.out.mono ?_
  rintro e w1 ⟨v, rfl, ho, hb1⟩
  have HP := Lib.hid (HF.out w1 v hb1 ho)
  have HB1 := Lib.hid (HB0.out.trans (hb1.mono HB0.out.size))
  clear hb1
  clear ho c0 c1
  go_wp2_with fail
  refine HP.out.mono ?_
  rintro e w2 ⟨v2, rfl, ho2, hb2⟩
  have HO2 := Lib.hid ho2
  have HS1 := Lib.hid HB1.out.size
  have HB2 := Lib.hid (HB1.out.trans (hb2.mono HB1.out.size))
  clear hb2
  clear ho2
  go_wp2
  go_ret
  exact ⟨_, rfl, OV.mono HO2.out HS1.out, HB2.out⟩
theorem rLeads_any (g va vb vs : Value) (n : Nat) (es : List Tri) (a b s : List Int) (w : World) (hg : GV w g n es) (ha : RI w va a) (hbv : RI w vb b) (hs : RI w vs s) (hE : Edges n es) (hn : n ≤ 12) (hal : a.length = n) (hbl : b.length = n) (hl : s.length = n) (hba : Bd 1048576 a) (hb : Bd 1048576 s) :
    Calls Tryz.prog 85 #[g, va, vb, vs] w fun e w' => e = .returned (.bool (decide (appL n es a s = b))) ∧ Below w.heap.size w w' := by
  obtain ⟨A2, c2, rfl, -⟩ := hs.open_
  obtain ⟨A3, c3, rfl, -⟩ := ha.open_
  obtain ⟨A4, c4, rfl, -⟩ := hbv.open_
  obtain ⟨A, c, rfl, -⟩ := hg.open_
  obtain ⟨W0, hW0⟩ : ∃ W0, W0 = w.alloc (.cells #[.int .i64 (n:Int), .slice A es.length c] 24) := ⟨_, rfl⟩
  have hb0 : Below w.heap.size w W0 := by rw [hW0]; exact below_alloc w _
  have hx0 : BL W0 w.heap.size 24 [.int .i64 (n:Int), .slice A es.length c] := by rw [hW0]; exact BL.new' w _ _
  have c0 := hx0.cell 0
  have c1 := hx0.cell 1
  have HX0 := Lib.hid hx0
  have HG0 := Lib.hid (hg.below hb0)
  have HB0 := Lib.hid hb0
  have HW0 := Lib.hid hW0
  rw [hW0] at c0 c1
  clear hg hx0 hW0
  have HM := Lib.hid (rApp_any _ _ _ n es a s W0 HG0.out (RI.below ha hb0) (RI.below hs hb0) hE hn hal hl hba hb)
  have HBV := Lib.hid (RI.below hbv hb0)
  have HAL := Lib.hid (appL_len es s hal)
  have HBL := Lib.hid hbl
  clear hs ha hbv hE hal hbl hl hba hb hb0
  generalize appL n es a s = x at *
  go_enter Tryz.func85, Tryz.ntmps85
  go_wp2_with fail
  rw [← HW0.out]
  refine HM.out.mono ?_
  rintro e w1 ⟨v, rfl, ho, hb1⟩
  obtain ⟨A5, c5, rfl, -, -, hcx⟩ := ho.ri.open_
  obtain ⟨A6, c6, he6, -, -, hcb⟩ := (RI.below HBV.out hb1).open_
  simp only [Value.slice.injEq, true_and] at he6
  obtain ⟨rfl, rfl⟩ := he6
  have HCX := Lib.hid hcx
  have HCB := Lib.hid hcb
  have d0 := (HX0.out.bel hb1).cell 0
  have HX1 := Lib.hid (HX0.out.bel hb1)
  have HB1 := Lib.hid (HB0.out.trans (hb1.mono HB0.out.size))
  clear hb1
  clear c0 c1 hcx hcb ho
  go_wp2_with fail
  clear d0
  go_loopw [10] (fun i wr => ∃ k : Nat, k ≤ n ∧ i = .int .i64 (k : Int) ∧ Hid (x.take k = b.take k) ∧ Hid (Below w1.heap.size w1 wr)) (fun i _ => n - (intOf i).toNat)
  case atStart => exact ⟨0, Nat.zero_le _, rfl, rfl, Below.refl _ _⟩
  case round =>
    obtain ⟨k, hk, rfl, hE, hbw⟩ := hrel
    have d0 := (HX1.out.bel hbw.out).cell 0
    by_cases hlt : k < n
    · obtain ⟨ad, z, rfl, hadb, hz, hcl⟩ := HCX.out k (by rw [HAL.out]; exact hlt)
      obtain ⟨ad', z', rfl, hadb', hz', hcl'⟩ := HCB.out k (by rw [HBL.out]; exact hlt)
      have hc1 : wr.cell? (ad.add k) = some (.int .i64 z) := (hbw.out.cell (by rw [block_of_add]; exact hadb)).trans hcl
      have hc2 : wr.cell? (ad'.add k) = some (.int .i64 z') := (hbw.out.cell (by rw [block_of_add]; exact hadb')).trans hcl'
      have k1 : k < x.length := by rw [HAL.out]; exact hlt
      have k2 : k < b.length := by rw [HBL.out]; exact hlt
      clear hcl hcl'
      by_cases hzz : z = z'
      · have t1 : (z != z') = false := by simpa using hzz
        have HE2 : Hid (x.take (k + 1) = b.take (k + 1)) := by show _ = _; rw [List.take_add_one, List.take_add_one, hE.out, hz.out, hz'.out, hzz]
        clear hzz
        go_wp2_with fail
        go_quiet (fail)
        go_wp2
        go_roundw
        case rel => exact ⟨k + 1, by omega, by go_num, HE2.out, below_drewN hbw.out nq⟩
        case measure => simp [intOf]; omega
      · have t1 : (z != z') = true := by simpa using hzz
        have HR : Hid (decide (x = b) = false) := by
          show _ = _
          rw [decide_eq_false_iff_not]
          intro e
          subst e
          have := hz.out.symm.trans hz'.out
          exact hzz (Option.some.inj this)
        clear hzz
        go_wp2_with fail
        go_quiet (fail)
        go_wp2
        go_ret
        exact ⟨ret_b HR.out.symm, HB1.out.trans ((below_drewN hbw.out nq).mono HB1.out.size)⟩
    · obtain rfl : k = n := by omega
      have HR : Hid (decide (x = b) = true) := by
        show _ = _
        rw [decide_eq_true_iff]
        have := hE.out
        rwa [List.take_of_length_le (by rw [HAL.out]; exact Nat.le_refl _), List.take_of_length_le (by rw [HBL.out]; exact Nat.le_refl _)] at this
      go_wp2
      go_ret
      exact ⟨ret_b HR.out.symm, HB1.out.trans (hbw.out.mono HB1.out.size)⟩
end Go.Proofs.YtgcnijmmjlfabaaGreatDoor

